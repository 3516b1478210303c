/- slices. -/
import Derived.Laws.IdiomCopy
import Derived.Lib.SliceRun
import Derived.Maps.RangeWalk
import Derived.StringKeys
import Derived.Lib.Overlaps
import Derived.Laws.Externs
import Derived.Lib.AppendZeros
import Derived.Laws.CopyRow
import Derived.Test.YtjlmglgmcekmhaaGreatDoorShkC3
set_option linter.unusedVariables false
set_option linter.unusedSimpArgs false
set_option maxRecDepth 100000
set_option maxHeartbeats 8000000
namespace Go.Proofs.YtjlmglgmcekmhaaGreatDoor
section
open Go Go.RowKit Go.Maps
def Qa (L:List Nat):List Value:=L.map fun b:Nat=>Value.int .u8 (b:Int)
theorem Io (L:List Nat):(Qa L).length=L.length:=List.length_map _
theorem RB {L:List Nat}{i:Nat}(h:i<L.length):(Qa L)[i]? = some (.int .u8 ((L.getD i 0:Nat):Int)):=by
 unfold Qa
 rw[List.getElem?_map,List.getElem?_eq_getElem h,List.getD_eq_getElem?_getD,List.getElem?_eq_getElem h]
 rfl
theorem lH (L:List Nat)(i x:Nat):(Qa L).set i (.int .u8 (x:Int))=Qa (L.set i x):=by
 unfold Qa
 rw[List.map_set]
abbrev Fz (base:Nat)(w:World)(v:Value)(n:Nat)(L:List Nat):Prop:=w.ownsRow base 5 1 v n (Qa L)
theorem Fz.cell {base:Nat}{w:World}{g n c:Nat}{L:List Nat}(h:Fz base w (.slice (some ⟨g,0,none⟩) n c) n L){i:Nat}(hi:i<n):w.cell? ⟨g,i,none⟩=some (.int .u8 ((L.getD i 0:Nat):Int)):=by
 have hl:L.length=n:=by have:=h.1;rw[Io] at this;omega
 rw[h.cellAt i (by omega)]
 exact RB (by omega)
theorem Fz.put {base:Nat}{w:World}{g n c:Nat}{L:List Nat}(h:Fz base w (.slice (some ⟨g,0,none⟩) n c) n L)(i x:Nat):Fz base (w.setCell ⟨g,i,none⟩ (.int .u8 (x:Int))) (.slice (some ⟨g,0,none⟩) n c) n (L.set i x):=by
 have:=(h.stored i (.int .u8 (x:Int))).1
 rw[lH] at this
 exact this
theorem Yy (x:Nat)(w:World):Calls Tryz.prog 240 #[.int .u8 x] w fun e w' => e=.returned (.bool false)/\w' = w:=by
 go_enter Tryz.func240,Tryz.ntmps240
 go_wp2_with fail
 go_ret
 exact⟨by simp,rfl⟩
theorem aM (x y:Nat)(w:World):Calls Tryz.prog 210 #[.int .u8 x,.int .u8 y] w fun e w' => e=.returned (.bool (decide (x<y)))/\w' = w:=by
 go_enter Tryz.func210,Tryz.ntmps210
 go_wp2_with fail
 refine(Yy x _).mono ?_
 rintro e _ ⟨rfl,rfl⟩
 go_wp2_with fail
 go_ret
 exact⟨rfl,rfl⟩
theorem TJ (base g n c:Nat)(L:List Nat)(w:World)(h:Fz base w (.slice (some ⟨g,0,none⟩) n c) n L)(hn:1<=n)(hn2:n<=1000):
 Calls Tryz.prog 204 #[.slice (some ⟨g,0,none⟩) n c,.int .i64 0,.int .i64 n] w fun e w' => e=.returned (.tuple #[])/\∃ L',L'.length=n/\Fz base w' (.slice (some ⟨g,0,none⟩) n c) n L' /\ Own.Ord L' n/\(∀ x,x∈L' ↔ x∈L)/\Fr (fun k=>k=g) w w':=by
 have hl:L.length=n:=by have:=h.1;rw[Io] at this;omega
 have HW:=zh h;have HL:=zh hl;clear h hl
 go_enter Tryz.func204,Tryz.ntmps204
 go_wp2_with fail
 go_loopw [6] (fun i wr=>∃ (k:Nat) (L' : List Nat),1<=k/\k<=n/\i=.int .i64 k/\L'.length=n/\Fz base wr (.slice (some ⟨g,0,none⟩) n c) n L' /\ Own.Ord L' k/\(∀ x,x∈L' ↔ x∈L)/\Fr (fun k=>k=g) w wr) (fun i _=>n-(intOf i).toNat)
 case atStart=>exact⟨1,L,by omega,hn,rfl,HL.out,HW.out,fun p q hpq hq=>by omega,fun x=>Iff.rfl,Fr.refl _ _⟩
 case round=>
  obtain⟨k,L1,hk1,hk,rfl,hl1,hrow,ou,hmem,hfr⟩:=hrel
  have HR:=zh hrow;have HL1:=zh hl1;have HO:=zh ou;have HM:=zh hmem;have HF:=zh hfr
  clear hrow hl1 ou hmem hfr
  by_cases hlt:k<n
  case neg=>
   have hke:k=n:=by omega
   have dk:decide ((k:Int)<n)=false:=zf
   have HO2:=zh (show Own.Ord L1 n by rw[<- hke];exact HO.out)
   clear hke
   go_wp2_with fail
   go_end0
   exact⟨rfl,L1,HL1.out,HR.out,HO2.out,HM.out,HF.out⟩
  have dk:decide ((k:Int)<n)=true:=zt
  go_wp2_with fail
  obtain⟨w5,hw5⟩:∃ w5,w5=wr:=⟨_,rfl⟩
  subst hw5
  go_loopw [7] (fun j wr=>∃ (m:Nat) (L' : List Nat),m<=k/\j=.int .i64 m/\L'.length=n/\Fz base wr (.slice (some ⟨g,0,none⟩) n c) n L' /\ Own.aL L' k m/\(∀ x,x∈L' ↔ x∈L)/\Fr (fun k=>k=g) w wr) (fun j _=>(intOf j).toNat)
  case atStart=>exact⟨k,L1,Nat.le_refl _,rfl,HL1.out,HR.out,HO.out.start,HM.out,HF.out⟩
  case round=>
   obtain⟨m,L2,hm,rfl,hl2,hrow,hup,hmem,hfr⟩:=hrel
   have HR2:=zh hrow;have HL2:=zh hl2;have HU:=zh hup;have HM2:=zh hmem;have HF2:=zh hfr
   clear hrow hl2 hup hmem hfr
   cases m with
   | zero =>
     have d0:decide ((0:Int)<((0:Nat):Int))=false:=rfl
     have HO2:=zh (HU.out.done (.inl rfl));clear HU
     go_wp2_with fail
     refine Lex.zl ?_
     go_wp2_with fail
     refine Lex.ze ?_
     go_wp2_with fail
     exact⟨⟨k+1,L2,by omega,by omega,by go_num,HL2.out,Ae HR2.out (fun _ _=>rfl),HO2.out,HM2.out,HF2.out.drew⟩,by simp[intOf];omega⟩
   | succ q=>
   have c1:=HR2.out.cell (i:=q+1) (by omega);have c2:=HR2.out.cell (i:=q) (by omega)
   obtain⟨x,hx⟩:∃ x,x=L2.getD (q+1) 0:=⟨_,rfl⟩
   obtain⟨y,hy⟩:∃ y,y=L2.getD q 0:=⟨_,rfl⟩
   rw[<- hx] at c1
   rw[<- hy] at c2
   have HX:=zh hx;have HY:=zh hy;clear hx hy
   have d0:decide ((0:Int)<((q+1:Nat):Int))=true:=zt
   go_wp2_with fail
   refine Lex.zl ?_
   go_wp2_with fail
   refine(aM x y _).mono ?_
   rintro e _ ⟨rfl,rfl⟩
   by_cases hxy:x<y
   case neg=>
    have dxy:decide (x<y)=false:=decide_eq_false hxy
    rw[dxy]
    have HO2:=zh (HU.out.done (.inr (by show L2.getD q 0<=L2.getD (q+1) 0;rw[<- HX.out,<- HY.out];omega)));clear HU
    go_wp2_with fail
    refine Lex.ze ?_
    go_wp2_with fail
    exact⟨⟨k+1,L2,by omega,by omega,by go_num,HL2.out,Ae HR2.out (fun _ _=>rfl),HO2.out,HM2.out,HF2.out.drew⟩,by simp[intOf];omega⟩
   have dxy:decide (x<y)=true:=decide_eq_true hxy
   rw[dxy]
   go_wp2_with fail
   refine Lex.ze ?_
   have hup:=HU.out.swap (by omega) hm (by rw[HL2.out];omega) (by show L2.getD (q+1) 0<L2.getD q 0;rw[<- HX.out,<- HY.out];exact hxy)
   have hmm:∀ z,z∈Own.Nb L2 (q+1)↔z∈L:=fun z=>(Own.iL (by omega) (by rw[HL2.out];omega) z).trans (HM2.out z)
   have hrow:=(HR2.out.put (q+1) y).put q x
   have hsw:(L2.set (q+1) y).set q x=Own.Nb L2 (q+1):=by rw[HX.out,HY.out];rfl
   rw[hsw] at hrow
   have hfr:=((HF2.out.setCell (p:=⟨g,q+1,none⟩) (.inl rfl) (.int .u8 (y:Int))).setCell (p:=⟨g,q,none⟩) (.inl rfl) (.int .u8 (x:Int)))
   have HU3:=zh hup;have HM3:=zh hmm;have HR3:=zh hrow;have HF3:=zh hfr
   have f1:=HR2.out.frozenAt (q+1);have f2:=HR2.out.frozenAt q
   clear hup hmm hrow hfr hsw dxy
   go_wp2_with fail
   refine Lex.zl ?_
   go_wp2_with fail
   refine Lex.ze ?_
   go_wp2_with fail
   exact⟨⟨q,Own.Nb L2 (q+1),by omega,rfl,by rw[Own.UL];exact HL2.out,Ae HR3.out (fun _ _=>rfl),HU3.out,HM3.out,HF3.out.drew.drew⟩,by simp[intOf]⟩
theorem iN (base g n c:Nat)(lim:Int)(L:List Nat)(w:World)(h:Fz base w (.slice (some ⟨g,0,none⟩) n c) n L)(hn:1<=n)(hn2:n<=12):
 Calls Tryz.prog 177 #[.slice (some ⟨g,0,none⟩) n c,.int .i64 0,.int .i64 n,.int .i64 lim] w fun e w' => e=.returned (.tuple #[])/\∃ L',L'.length=n/\Fz base w' (.slice (some ⟨g,0,none⟩) n c) n L' /\ Own.Ord L' n/\(∀ x,x∈L' ↔ x∈L)/\Fr (fun k=>k=g) w w':=by
 have HW:=zh h;clear h
 go_enter Tryz.func177,Tryz.ntmps177
 have d1:decide ((n:Int)<=12)=true:=zt
 go_wp2_with fail
 go_loopw [1,2] (fun a b wr=>a=.int .i64 0/\b=.int .i64 n/\wr=w) (fun _ _ _=>0)
 case atStart=>exact⟨rfl,rfl,rfl⟩
 case round=>
  obtain⟨rfl,rfl,rfl⟩:=hrel
  go_wp2_with fail
  refine(TJ base g n c L _ HW.out hn (by omega)).mono ?_
  rintro e w2 ⟨rfl,hp⟩
  have HP:=zh hp;clear hp
  go_wp2_with fail
  refine bodyPost_ret (results_none rfl _ _ _) rfl ?_
  exact⟨rfl,HP.out⟩
theorem aN (base g n c:Nat)(L:List Nat)(w:World)(h:Fz base w (.slice (some ⟨g,0,none⟩) n c) n L)(hn:1<=n)(hn2:n<=12):
 Calls Tryz.prog 145 #[.slice (some ⟨g,0,none⟩) n c] w fun e w' => e=.returned (.tuple #[])/\∃ L',L'.length=n/\Fz base w' (.slice (some ⟨g,0,none⟩) n c) n L' /\ Own.Ord L' n/\(∀ x,x∈L' ↔ x∈L)/\Fr (fun k=>k=g) w w':=by
 have HW:=zh h;clear h
 go_enter Tryz.func145,Tryz.ntmps145
 go_wp2_with fail
 refine(Tryz.bits_Len (n:Int) _ (by omega) (by omega)).mono ?_
 rintro e _ ⟨rfl,rfl⟩
 go_wp2_with fail
 refine(iN base g n c _ L _ HW.out hn hn2).mono ?_
 rintro e w2 ⟨rfl,hp⟩
 have HP:=zh hp;clear hp
 go_wp2_with fail
 go_end0
 exact⟨rfl,HP.out⟩
theorem lJ (r:Option Nat):(Lex.W r).round=r:=rfl
attribute [local go_sem] Oper.semAt_some lJ
abbrev Dt (w:World)(v:Value)(L:List Nat):Prop:=Bc w v 1 L.length (Qa L)
theorem Dt.cell {w:World}{a:Option Addr}{n c:Nat}{L:List Nat}(h:Dt w (.slice a n c) L){i:Nat}(hi:i<L.length):∃ b o,a=some ⟨b,o,none⟩/\b<w.heap.size/\w.cell? ⟨b,o+i,none⟩=some (.int .u8 ((L.getD i 0:Nat):Int)):=by
 obtain⟨_,a',c',he,h0|⟨b,o,ha,hb,hc⟩⟩:=h
 ·omega
 ·cases he
  exact⟨b,o,ha,hb,hc i _ (RB hi)⟩
def aO (L:List Nat)(s:Nat)(x:Nat)(s' : Nat):Prop:=s<L.length/\x=L.getD s 0/\s' = s+1
def lK (L:List Nat)(s:Nat):Prop:=s=L.length
theorem Wp (bx:Nat)(v:Value)(L:List Nat)(n:Nat)(J:Nat->World->Prop)(hl:L.length<=1000)(hJ:∀ s W,J s W->W.cell? ⟨bx,0,none⟩=some v/\Dt W v L):
 Iter (Lex.W none) n Tryz.prog 146 (fun l=>#[]++(#[.func (.yield l) #[] #[]]++#[.pointer (some ⟨bx,0,none⟩)])) (fun x:Nat=>#[.int .u8 x]) J (aO L) (lK L) 0:=by
 intro l J' Jx' W hJJ hJb hY h0
 have hrr:(Lex.W none).round=none:=rfl
 refine callsIn_of_wp Tryz.func146 rfl trivial ?_ rfl
 simp only[Tryz.ntmps146,List.size_toArray,List.length_cons,List.length_nil,Nat.reduceAdd,Nat.reduceSub,Array.replicate_succ,Array.replicate_zero,List.push_toArray,List.append_toArray,List.nil_append,List.cons_append]
 obtain⟨hc,hk⟩:=hJ _ _ (hJJ _ _ h0)
 obtain⟨a,c,rfl⟩:=hk.len
 have H0:=zh h0;have HJJ:=zh hJJ;have HJ:=zh hJ;have HJb:=zh hJb;have HY:=zh hY
 clear h0 hJJ hJ hJb hY hk
 gi_wp2
 gi_loopw [7] (fun i wr=>∃ (k:Nat),k<=L.length/\i=.int .i64 k/\J' k wr) (fun i _=>L.length-(intOf i).toNat)
 case atStart=>exact⟨0,by omega,rfl,H0.out⟩
 case round=>
  obtain⟨k,hk,rfl,hs⟩:=hrel
  obtain⟨hc1,hk1⟩:=HJ.out _ _ (HJJ.out _ _ hs)
  have HS:=zh hs;clear hs hc1
  by_cases hlt:k<L.length
  ·have dk:decide ((k:Int)<L.length)=true:=zt
   obtain⟨b,o,ha,hb,hcell⟩:=hk1.cell hlt
   subst ha
   obtain⟨x,hx⟩:∃ x,x=L.getD k 0:=⟨_,rfl⟩
   rw[<- hx] at hcell
   have hst:aO L k x (k+1):=⟨hlt,hx,rfl⟩
   obtain⟨fn,tmps,assign,body,hy,hR⟩:=HY.out k x (k+1) wr wr HS.out (Below.refl _ _) hst
   clear hk1 hx hst hb
   gi_wp2
   refine⟨fun h=>(by cases h),hR.mono ?_⟩
   rintro e W3 (⟨rfl,hJ3,hk3⟩|⟨rfl,hJx3⟩)
   ·have HJ3:=zh hJ3;clear hJ3 hk3
    gi_wp2
    go_roundw
    case rel=>exact⟨k+1,by omega,by go_num,HJ3.out⟩
    case measure=>simp[intOf];omega
   ·gi_wp2
    refine bodyPost_ret (results_none rfl _ _ _) rfl ?_
    exact⟨⟨_,rfl⟩,.inr hJx3⟩
  ·have hk' : k=L.length:=by omega
   have dk:decide ((k:Int)<L.length)=false:=zf
   have HK:=zh hk';clear hk' hk1
   gi_wp2
   refine bodyPost_end (results_none rfl _ _ _) rfl ⟨⟨_,rfl⟩,.inl ⟨k,HK.out,HS.out⟩⟩
structure Wq (w:World) (b:Nat) (L:List Nat) (s:Nat) (W:World):Prop where
 box:∃ v,At W b 66 #[v]/\Fz (b+3) W v s (L.take s)
 bel:Below w.heap.size w W
 lt:b+2<W.heap.size\/s=0
 le:s<=L.length
theorem Wq.below {w W W' : World}{b s:Nat}{L:List Nat}(h:Wq w b L s W)(hq:Below W.heap.size W W'):Wq w b L s W':=by
 obtain⟨v,h1,h2⟩:=h.box
 exact⟨⟨v,h1.below hq h1.lt,Ae h2 (fun k hk=>by obtain⟨cur,hc⟩:=Db h2 hk;exact hq.block k hc.lt)⟩,h.bel.trans (hq.mono h.bel.size),h.lt.imp (fun h=>Nat.lt_of_lt_of_le h hq.size) id,h.le⟩
theorem Wq.fr {w W W' : World}{b s:Nat}{L:List Nat}(h:Wq w b L s W)(hb:b=w.heap.size)(hf:Fr (fun k=>k=b+2) W W'):Wq w b L s W':=by
 obtain⟨v,h1,h2⟩:=h.box
 exact⟨⟨v,hf.at h1 (by show b≠b+2;omega),Ae h2 (fun k hk=>hf.keep k (by obtain⟨cur,hc⟩:=Db h2 hk;exact hc.lt) (fun e=>by have:=Ak h2 k hk;have e2:k=b+2:=e;omega))⟩,h.bel.trans (hf.below h.bel.size (fun k hk=>by have e2:k=b+2:=hk;omega)),h.lt.imp (fun h=>Nat.lt_of_lt_of_le h hf.size) id,h.le⟩
theorem iO (w:World)(t:TypeId)(x:Value):(w.alloc (.cells #[x] t)).ownsRow w.heap.size t 1 (.slice (some ⟨w.heap.size,0,none⟩) 1 1) 1 [x]:=
 ⟨rfl,.inr ⟨w.heap.size,1,#[x],rfl,Nat.le_refl _,At.new w t #[x],Nat.le_refl _,by decide,rfl,rfl⟩⟩
theorem sN:Nonempty (Fu Tryz.prog 66 5 1 1):=Ec (z:=.int .u8 0) Tryz.underlying66 (by kernel_rfl) rfl (by omega)
theorem lM {L:List Nat}{s:Nat}(h:s<L.length):Qa (L.take s)++[.int .u8 ((L.getD s 0:Nat):Int)]=Qa (L.take (s+1)):=by
 unfold Qa
 rw[List.take_succ_eq_append_getElem h,List.map_append,List.getD_eq_getElem?_getD,List.getElem?_eq_getElem h]
 rfl
theorem Yz (bx:Nat)(v:Value)(L:List Nat)(w:World)(hc:w.cell? ⟨bx,0,none⟩=some v)(hk:Dt w v L)(hl:L.length<=1000):
 Calls Tryz.prog 176 #[.slice none 0 0,.func (.func 146) #[] #[.pointer (some ⟨bx,0,none⟩)]] w fun e w' => ∃ v',e=.returned v' /\ Fz w.heap.size w' v' L.length L/\Below w.heap.size w w':=by
 refine(callsIn_wide (n:=9)).1 ?_
 have hrr:Fence.wide.round=none:=rfl
 have HC:=zh hc;have HK:=zh hk;clear hc hk
 refine callsIn_of_wp_marks Tryz.func176 rfl trivial ?_ rfl
 simp only[Tryz.ntmps176,List.size_toArray,List.length_cons,List.length_nil,Nat.reduceAdd,Nat.reduceSub,Array.replicate_succ,Array.replicate_zero,List.push_toArray,List.append_toArray,List.nil_append,List.cons_append]
 gi_wp2
 obtain⟨b,hb⟩:∃ b,b=w.heap.size:=⟨_,rfl⟩
 have h7:Wq w b L 0 (w.alloc (.cells #[.slice none 0 0] 66)):=by
  rw[hb]
  exact⟨⟨_,At.new _ _ _,⟨rfl,.inl ⟨rfl,rfl⟩⟩⟩,zb,.inr rfl,Nat.zero_le _⟩
 have hs7:(w.alloc (.cells #[.slice none 0 0] 66)).heap.size=b+1:=by rw[World.size_alloc,hb]
 have H7:=zh h7;have HS7:=zh hs7;have HBB:=zh hb;clear h7 hs7
 rw[<- hb]
 clear hb
 generalize w.alloc (.cells #[.slice none 0 0] 66)=w7 at*
 have hs7:=HS7.out
 refine Kz (r:=none) rfl rfl (enters_of Tryz.func146 (by kernel_rfl) rfl) (fun x:Nat=>#[.int .u8 x]) (fun _=>rfl)
  (Wq w b L) (fun _ _=>False) (aO L) (lK L) 0 ?hJb ?hJl ?VT ?h0 ?hiter ?Lv ?hdone ?hstop
 case hJb=>exact fun s W W' h hq=>h.below hq
 case hJl=>
  intro s W W' h hf
  rw[hs7] at hf
  exact h.fr HBB.out hf
 case VT=>exact fun c W W' h _=>h
 case h0=>exact H7.out
 case hiter=>
  refine Wp bx v L _ _ hl ?_
  rintro s W h
  exact⟨(h.bel.cell (p:=⟨bx,0,none⟩) (block_lt HC.out)).trans HC.out,HK.out.below h.bel⟩
 case Lv=>
  rintro s x s' W0 W hsz hW hbw ⟨hq1,rfl,rfl⟩
  have HW0:=zh hW;have HB:=zh hbw;have HW:=zh (hW.below hbw);clear hW hbw
  obtain⟨x,hx⟩:∃ x,x=L.getD s 0:=⟨_,rfl⟩
  rw[<- hx]
  have HX:=zh hx;clear hx
  rw[hs7] at hsz
  gi_wp2
  refine⟨Ye.refl _ _ _,fun W2 hf=>?_⟩
  rw[hs7] at hf
  have hsz2:=hf.size
  have hszW:=HB.out.size
  have hW2:=HW.out.fr HBB.out hf
  obtain⟨v,hat,hown⟩:=hW2.box
  obtain⟨va,vm,vc,rfl⟩:=Ac hown
  have c0:=hat.c1
  have HW2:=zh hW2;have HAT:=zh hat;have HOWN:=zh hown;clear hat hown hW2
  have hrw:=Bc.own (iO W2 5 (.int .u8 (x:Int)))
  have HRW:=zh hrw;clear hrw
  gi_step
  refine wpIn_block ?_
  refine Lex.MB (by kernel_rfl) ?_
  go_wp2_with (at_builtin;go_must (refine Ah sN rfl _ _ rfl (b+3) s (.slice va vm vc) (Qa (L.take s)) rfl (own_below HOWN.out ((Below.refl _ _).alloc (Nat.le_refl _) (.cells #[.int .u8 (x:Int)] 5))) (.slice (some ⟨W2.heap.size,0,none⟩) 1 1) 1 [.int .u8 (x:Int)] rfl HRW.out ?c1 (by omega) (by omega) (by rw[World.size_alloc];omega) ?_))
  case c1=>intro u hu;simp at hu;subst hu;rfl
  intro v' w' how' hg hb'
  obtain⟨ua,um,uc,rfl⟩:=Ac how'
  have hne:some b≠(Value.slice va vm vc).ownBlock:=fun e=>by have:=Ak HOWN.out b e.symm;omega
  have hat' : At w' b 66 #[.slice va vm vc]:=(HAT.out.alloc (.cells #[.int .u8 (x:Int)] 5)).grown hg hne
  have q0:=hat'.free 0
  have k0:=hat'.c1
  have hb3:Below W2.heap.size W2 (W2.alloc (.cells #[.int .u8 (x:Int)] 5)):=zb
  have hown' : Fz (b+3) (w'.setCell ⟨b,0,none⟩ (.slice ua um uc)) (.slice ua um uc) (s+1) (L.take (s+1)):=by
   have h:=lM hq1
   rw[<- HX.out] at h
   rw[h] at how'
   exact Ae how' (fun k hk=>zo (by have:=Ak how' k hk;show k≠b;omega))
  have hbel:Below w.heap.size w (w'.setCell ⟨b,0,none⟩ (.slice ua um uc)):=by
   have h1:=HW2.out.bel.trans (hb3.mono HW2.out.bel.size)
   have h2:Below w.heap.size w w':=h1.grown hg h1.size (fun i hi=>by have:=Ak HOWN.out i hi;have:=HBB.out;omega)
   exact h2.setCell (p:=⟨b,0,none⟩) (by show w.heap.size<=b;have:=HBB.out;omega) _
  have rR:W2.heap.size<=(w'.setCell ⟨b,0,none⟩ (.slice ua um uc)).heap.size:=by
   have:=hg.size
   simp only[World.size_alloc] at this
   simp only[World.setCell,Array.size_modify]
   omega
  have hown0:∀ k,(Value.slice va vm vc).ownBlock=some k->k<W0.heap.size:=by
   obtain⟨v0,XU,hown0⟩:=HW0.out.box
   have e1:=(HB.out.block b (by omega))
   have e2:At W b 66 #[v0]:=XU.below HB.out XU.lt
   have e3:At W2 b 66 #[v0]:=hf.at e2 (by show b≠b+1+1;omega)
   have e4:=e3.symm.trans HAT.out
   have e5:v0=.slice va vm vc:=by
    have:=Option.some.inj e4
    injection this with h1
    have h2:=congrArg (fun a=>a[0]?) h1
    simpa using h2
   intro k hk
   rw[<- e5] at hk
   obtain⟨cur,hc⟩:=Db hown0 hk
   exact hc.lt
  have hkeep:∀ k,k=b+1\/k=b+1+1\/(W0.heap.size<=k/\k<W2.heap.size)->(w'.setCell ⟨b,0,none⟩ (.slice ua um uc)).heap[k]? = W2.heap[k]? :=by
   intro k hk
   rw[zo (by show k≠b;omega),hg.block k (by simp only[World.size_alloc];omega) (fun e=>by have h1:=Ak HOWN.out k e.symm;have h2:=hown0 k e.symm;omega),hb3.block k (by omega)]
  have HG:=zh (Wq.mk (w:=w) (b:=b) (L:=L) (s:=s+1) ⟨_,hat'.set 0 _,hown'⟩ hbel (.inl (by omega)) hq1)
  have HKP:=zh hkeep;have HS3:=zh rR
  clear hown' hbel rR hkeep hb3 how' hg hb' hat' hne hown0
  go_wp2_with fail
  refine Lex.Only.intro ?_
  gi_wp2
  rw[hs7]
  exact⟨⟨HS3.out,⟨HKP.out _ (.inl rfl),HKP.out _ (.inr (.inl rfl))⟩,fun k h1 h2=>HKP.out k (.inr (.inr ⟨h1,h2⟩))⟩,.inl ⟨rfl,HG.out⟩⟩
 case hdone=>
  rintro s W hD hJ hdf
  have hD:s=L.length:=hD
  subst hD
  obtain⟨v,hat,hown⟩:=hJ.box
  obtain⟨va,vm,vc,rfl⟩:=Ac hown
  have k0:=hat.c1
  have HJ:=zh hJ;have HDF:=zh hdf;have HOWN:=zh hown;clear hJ hdf hat hown
  gi_wp2
  simp only[hs7] at HDF ⊢
  refine⟨by simp,.inl ⟨_,_,rfl,run_takeDeferred HDF.out,?_⟩⟩
  refine⟨.slice va vm vc,(results_tmp (fn:=Tryz.f176) (t:=4) rfl _ _ _).trans rfl,?_⟩
  have ho:=HOWN.out
  rw[List.take_length] at ho
  exact⟨.slice va vm vc,rfl,Cw (Ae ho (fun k hk=>World.putObj_heap_other (by have:=Ak ho k hk;omega))) (by have:=HBB.out;omega),HJ.out.bel.trans ⟨rfl,rfl,rfl,by simp[World.putObj],fun k hk=>World.putObj_heap_other (by have:=HBB.out;omega)⟩⟩
 case hstop=>exact fun c W h=>h.elim
theorem Ws (bx:Nat)(v:Value)(L:List Nat)(w:World)(hc:w.cell? ⟨bx,0,none⟩=some v)(hk:Dt w v L)(hl:L.length<=1000):
 Calls Tryz.prog 144 #[.func (.func 146) #[] #[.pointer (some ⟨bx,0,none⟩)]] w fun e w' => ∃ v',e=.returned v' /\ Fz w.heap.size w' v' L.length L/\Below w.heap.size w w':=by
 have HC:=zh hc;have HK:=zh hk;clear hc hk
 go_enter Tryz.func144,Tryz.ntmps144
 go_wp2_with fail
 refine(Yz bx v L _ HC.out HK.out hl).mono ?_
 rintro e w2 ⟨v',rfl,h1,h2⟩
 have H1:=zh h1;have H2:=zh h2;clear h1 h2
 go_wp2_with fail
 go_ret
 exact⟨v',rfl,H1.out,H2.out⟩
theorem Pp (bx:Nat)(v:Value)(L:List Nat)(w:World)(hc:w.cell? ⟨bx,0,none⟩=some v)(hk:Dt w v L)(hn:1<=L.length)(hl:L.length<=12):
 Calls Tryz.prog 91 #[.func (.func 146) #[] #[.pointer (some ⟨bx,0,none⟩)]] w fun e w' => ∃ v' L',e=.returned v' /\ L'.length=L.length/\Fz w.heap.size w' v' L.length L' /\ Own.Ord L' L.length/\(∀ x,x∈L' ↔ x∈L)/\Below w.heap.size w w':=by
 have HC:=zh hc;have HK:=zh hk;clear hc hk
 go_enter Tryz.func91,Tryz.ntmps91
 go_wp2_with fail
 refine(Ws bx v L _ HC.out HK.out (by omega)).mono ?_
 rintro e w2 ⟨v',rfl,h1,h2⟩
 obtain⟨g,cap,rfl,_⟩:=Ct h1 (by omega)
 have hgu:=Ak h1 g rfl
 have H1:=zh h1;have H2:=zh h2;clear h1 h2
 go_wp2_with fail
 refine(aN _ g L.length cap L _ H1.out hn hl).mono ?_
 rintro e w3 ⟨rfl,L',hl',hr',ho',hm',hf'⟩
 have H3:=zh hl';have H4:=zh hr';have H5:=zh ho';have H6:=zh hm'
 have H7:=zh (H2.out.trans (hf'.below H2.out.size (fun k hk=>by rw[hk];exact hgu)))
 clear hl' hr' ho' hm' hf'
 go_wp2_with fail
 go_ret
 exact⟨_,L',rfl,H3.out,H4.out,H5.out,H6.out,H7.out⟩
end
section
open Go
namespace Own
def keysOf (l:List Nat):List Nat:=(List.range 256).filter fun b=>decide (b∈l)
theorem RF {l:List Nat}(h:∀ b∈l,b<256){b:Nat} : b∈keysOf l↔b∈l:=by
 unfold keysOf
 rw[List.mem_filter,List.mem_range,decide_eq_true_eq]
 exact⟨fun h=>h.2,fun hb=>⟨h b hb,hb⟩⟩
theorem lN (n:Nat):(List.range n).Pairwise (· < ·):=List.pairwise_lt_range
theorem JJ (l:List Nat):Hu (keysOf l):=by
 refine⟨fun b hb=>?_,(lN 256).filter _⟩
 unfold keysOf at hb
 exact List.mem_range.1 (List.mem_filter.1 hb).1
theorem Y3:∀ {a b:List Nat},a.Pairwise (· < ·)->b.Pairwise (· < ·)->(∀ x,x∈a↔x∈b)->a=b
 | [],[],_,_,_=>rfl
 | [],y::b,_,_,h=>by have:=(h y).2 List.mem_cons_self;cases this
 | x::a,[],_,_,h=>by have:=(h x).1 List.mem_cons_self;cases this
 | x :: a,y :: b,ha,hb,h => by
   obtain⟨a1,a2⟩:=List.pairwise_cons.1 ha
   obtain⟨b1,b2⟩:=List.pairwise_cons.1 hb
   have hxy:x=y:=by
    rcases List.mem_cons.1 ((h x).1 List.mem_cons_self) with e|e
    ·exact e
    ·rcases List.mem_cons.1 ((h y).2 List.mem_cons_self) with e2|e2
     ·exact e2.symm
     ·have h1:=b1 x e
      have h2:=a1 y e2
      omega
   subst hxy
   congr 1
   refine Y3 a2 b2 (fun z=>⟨fun hz=>?_,fun hz=>?_⟩)
   ·rcases List.mem_cons.1 ((h z).1 (List.mem_cons_of_mem _ hz)) with e|e
    ·have:=a1 z hz;omega
    ·exact e
   ·rcases List.mem_cons.1 ((h z).2 (List.mem_cons_of_mem _ hz)) with e|e
    ·have:=b1 z hz;omega
    ·exact e
theorem UM {l k:List Nat}(hl:∀ b∈l,b<256)(hk:k.Pairwise (· < ·))(hm:∀ b,b∈k↔b∈l):k=keysOf l:=
 Y3 hk (JJ l).srt (fun b=>(hm b).trans (RF hl).symm)
theorem UQ {l:List Nat}(h:Hu l):keysOf l=l:=(UM h.lt h.srt (fun _=>Iff.rfl)).symm
theorem Sqz.done {L0 L l:List Nat}{k:Nat}(h:Sqz L0 L L0.length k)(hl:∀ b∈l,b<256)(hm:∀ x,x∈L0↔x∈l):L.take k=keysOf l:=by
 have hkn:=h.kn
 have hlen:=h.len
 have htl:(L.take k).length=k:=by rw[List.length_take];omega
 refine UM hl (iM fun p q hpq hq=>?_) (fun b=>?_)
 ·rw[htl] at hq
  rw[getD_take (by omega),getD_take hq]
  exact h.incr p q hpq hq
 ·rw[<- hm b,Nc,Nc,htl]
  constructor
  ·rintro⟨p,hp,e⟩
   rw[getD_take hp] at e
   exact(h.mem b).1 ⟨p,hp,e⟩
  ·rintro h2
   obtain⟨p,hp,e⟩:=(h.mem b).2 h2
   exact⟨p,hp,by rw[getD_take hp];exact e⟩
end Own
end
section
open Go Go.RowKit Go.Maps
theorem Fr.setCells {F:Nat->Prop}{a:World}{b:Nat}(hb:F b):∀ (vs:List Value) (o:Nat) (w:World),Fr F a w->Fr F a (w.setCells b o vs)
 | [],_,_,h=>h
 | v::vs,o,w,h=>Fr.setCells hb vs (o+1) _ (h.setCell (p:=⟨b,o,none⟩) (.inl hb) v)
theorem JK (b:Nat):∀ (vs:List Value) (o:Nat) (w:World),(w.setCells b o vs).heap.size=w.heap.size
 | [],_,_=>rfl
 | v :: vs,o,w => by
   show((w.setCell ⟨b,o,none⟩ v).setCells b (o+1) vs).heap.size=_
   rw[JK b vs]
   simp[World.setCell]
theorem Dt.first {base:Nat}{w w' : World}{g n c m:Nat}{L K:List Nat}(h:Fz base w (.slice (some ⟨g,0,none⟩) n c) n L)(hm:m<=n)(hK:L.take m=K)(hs:w.heap.size<=w'.heap.size)(hc:∀ i,i<m->w'.cell? ⟨g,i,none⟩=w.cell? ⟨g,i,none⟩):Dt w' (.slice (some ⟨g,0,none⟩) m c) K:=by
 have hl:L.length=n:=by have:=h.1;rw[Io] at this;omega
 subst hK
 have hlm:(L.take m).length=m:=by rw[List.length_take];omega
 refine⟨by rw[Io];omega,_,c,by rw[hlm],?_⟩
 by_cases h0:m=0
 ·exact .inl (by rw[hlm];exact h0)
 refine .inr ⟨g,0,rfl,?_,fun j u hj=>?_⟩
 ·have:=cB (h.cell (i:=0) (by omega))
  omega
 ·have hjm : j < m :=by
   have:=(List.getElem?_eq_some_iff.1 hj).1
   rw[Io,hlm] at this
   exact this
  rw[RB (by omega)] at hj
  cases hj
  rw[Nat.zero_add,hc j hjm,h.cell (by omega),Own.getD_take hjm]
theorem iP {L:List Nat}{i:Nat}(h:i<L.length):L.set i (L.getD i 0)=L:=by
 rw[List.getD_eq_getElem?_getD,List.getElem?_eq_getElem h]
 simp
theorem sO (w:World):(zeroValue 5).run Tryz.prog w=.ok (.int .u8 0) w:=by kernel_rfl
theorem Nf (base g n c:Nat)(L l:List Nat)(w:World)(h:Fz base w (.slice (some ⟨g,0,none⟩) n c) n L)(hn:1<=n)(hn2:n<=1000)(hcap:n<=c)(ho:Own.Ord L n)(hl:∀ b∈l,b<256)(hm:∀ x,x∈L↔x∈l):
 Calls Tryz.prog 90 #[.slice (some ⟨g,0,none⟩) n c] w fun e w' => e=.returned (.slice (some ⟨g,0,none⟩) (Own.keysOf l).length c)/\Dt w' (.slice (some ⟨g,0,none⟩) (Own.keysOf l).length c) (Own.keysOf l)/\Fr (fun k=>k=g) w w':=by
 have hlen:L.length=n:=by have:=h.1;rw[Io] at this;omega
 obtain⟨K,hK⟩:∃ K,K=Own.keysOf l:=⟨_,rfl⟩
 rw[<- hK]
 have hfin:∀ L' m,Own.Sqz L L' n m->L'.take m=K/\K.length=m/\m<=n:=fun L' m hq=>by
  rw[<- hlen] at hq
  have e:=hq.done hl hm
  rw[<- hK] at e
  have h1:=hq.kn
  have h2:=hq.len
  exact⟨e,by rw[<- e,List.length_take];omega,by omega⟩
 have HW:=zh h;have HL:=zh hlen;have HO:=zh (show Own.Ord L L.length by rw[hlen];exact ho);have HF:=zh hfin
 clear h ho hm hK hfin hl
 go_enter Tryz.func90,Tryz.ntmps90
 by_cases h1:n<2
 ·have d1:decide ((n:Int)<2)=true:=zt
  obtain rfl:n=1:=by omega
  obtain⟨e1,e2,e3⟩:=HF.out L 1 (Own.Sqz.start (by rw[HL.out];omega))
  have E1:=zh e1;have E2:=zh e2
  clear e1 e2
  go_wp2_with fail
  go_ret
  rw[E2.out]
  exact⟨rfl,Dt.first HW.out (Nat.le_refl _) E1.out (Nat.le_refl _) (fun _ _=>rfl),Fr.refl _ _⟩
 have d1:decide ((n:Int)<2)=false:=zf
 go_wp2_with fail
 clear d1
 go_loopw [3] (fun i wr=>∃ (k:Nat),1<=k/\k<=n/\i=.int .i64 k/\Own.Sqz L L k k/\Fz base wr (.slice (some ⟨g,0,none⟩) n c) n L/\Fr (fun k=>k=g) w wr) (fun i _=>n-(intOf i).toNat)
 case atStart=>exact⟨1,by omega,by omega,rfl,Own.Sqz.start (by rw[HL.out];omega),HW.out,Fr.refl _ _⟩
 case round=>
  obtain⟨k,hk1,hk,rfl,hsq,hrow,hfr⟩:=hrel
  have HR:=zh hrow;have HS:=zh hsq;have HFR:=zh hfr
  clear hrow hsq hfr
  by_cases hlt:k<n
  case neg=>
   have hke:k=n:=by omega
   have dk:decide ((k:Int)<n)=false:=zf
   obtain⟨e1,e2,e3⟩:=HF.out L n (by rw[<- hke];rw[hke];have:=HS.out;rw[hke] at this;exact this)
   have E1:=zh e1;have E2:=zh e2
   clear e1 e2 hke
   go_wp2_with fail
   go_ret
   rw[E2.out]
   exact⟨rfl,Dt.first HR.out (Nat.le_refl _) E1.out (Nat.le_refl _) (fun _ _=>rfl),HFR.out⟩
  have dk:decide ((k:Int)<n)=true:=zt
  obtain⟨q,rfl⟩:∃ q,k=q+1:=⟨k-1,by omega⟩
  have c1:=HR.out.cell (i:=q+1) hlt;have c2:=HR.out.cell (i:=q) (by omega)
  obtain⟨x,hx⟩:∃ x,x=L.getD (q+1) 0:=⟨_,rfl⟩
  obtain⟨y,hy⟩:∃ y,y=L.getD q 0:=⟨_,rfl⟩
  rw[<- hx] at c1
  rw[<- hy] at c2
  have HX:=zh hx;have HY:=zh hy;clear hx hy
  by_cases hxy:x=y
  case neg=>
   have hsn:=HS.out.next HO.out (by rw[HL.out];exact hlt) (by show L.getD (q+1) 0≠L.getD q 0;rw[<- HX.out,<- HY.out];exact hxy)
   rw[iP (by rw[HL.out];exact hlt)] at hsn
   have HSN:=zh hsn
   have dxy:((x:Int)==(y:Int))=false:=by rw[beq_eq_false_iff_ne];omega
   clear hsn
   go_wp2_with fail
   refine Lex.zl ?_
   go_wp2_with fail
   refine Lex.ze ?_
   go_wp2_with fail
   exact⟨⟨q+1+1,by omega,by omega,by go_num,HSN.out,Ae HR.out (fun _ _=>rfl),HFR.out.drew⟩,by simp[intOf];omega⟩
  subst hxy
  go_wp2_with fail
  refine Lex.zl ?_
  go_wp2_with fail
  refine Lex.ze ?_
  go_wp2_with fail
  have hss:=HS.out.same (by rw[HL.out];exact hlt) (by show L.getD (q+1) 0=L.getD q 0;rw[<- HX.out,<- HY.out])
  have HSS:=zh hss;clear hss c1 c2 dk
  have HRd:=zh (show Fz base wr.drew (.slice (some ⟨g,0,none⟩) n c) n L from Ae HR.out (fun _ _=>rfl));have HFd:=zh (HFR.out.drew)
  generalize wr.drew=w5 at*
  generalize hr:n-(q+1)=r at*
  have HRR:=zh (show q+1+r=n by omega);clear hr
  generalize c-(q+1)=cr at*
  go_loopw [3,5] (fun i i2 wr=>∃ (m p:Nat) (L' : List Nat),m<=q+1+p/\p+1<=r/\i=.int .i64 m/\i2=.int .i64 ((p+1:Nat):Int)/\Own.Sqz L L' (q+1+(p+1)) m/\Fz base wr (.slice (some ⟨g,0,none⟩) n c) n L' /\ Fr (fun k=>k=g) w wr) (fun _ i2 _=>r-(intOf i2).toNat)
  case atStart=>exact⟨q+1,0,L,by omega,by have:=HRR.out;omega,by go_num,by go_num,HSS.out,HRd.out,HFd.out⟩
  case round=>
   obtain⟨m,p,L2,hmq,hp,rfl,rfl,hsq,hrow,hfr⟩:=hrel
   have hm0:=hsq.k0
   have HR2:=zh hrow;have HS2:=zh hsq;have HF2:=zh hfr
   clear hrow hsq hfr
   have hrn:=HRR.out
   by_cases hlt2:p+1<r
   case neg=>
    have hpe:p+1=r:=by omega
    have dk:decide (((p+1:Nat):Int)<(r:Int))=false:=zf
    obtain⟨e1,e2,e3⟩:=HF.out L2 m (by have:=HS2.out;rw[hpe,HRR.out] at this;exact this)
    have hcl:∀ ty,(Builtin.clear_ #[66] ty #[.slice (some ⟨g,m,none⟩) (n-m) (c-m)]).run Tryz.prog wr=.ok (.tuple #[]) (wr.setCells g m (List.replicate (n-m) (.int .u8 0))):=
     fun ty=>Lib.run_clear_slice wr 66 5 ty (.int .u8 0) Tryz.underlying66 sO rfl rfl g m (n-m) (c-m) (by omega) (fun j hj=>by rw[HR2.out.cell (i:=m+j) (by omega)];rfl) (fun j hj=>HR2.out.frozenAt (m+j))
    have E1:=zh e1;have E2:=zh e2
    clear e1 e2 hpe
    go_wp2_with fail
    go_ret
    rw[E2.out]
    refine⟨rfl,Dt.first HR2.out (by omega) E1.out (Nat.le_of_eq (JK g _ _ _).symm) (fun i hi=>World.cell?_setCells_out g _ _ _ _ (fun _ _=>.inl (by show i<m;exact hi))),Fr.setCells (F:=fun k=>k=g) rfl _ _ _ HF2.out⟩
   have dk:decide (((p+1:Nat):Int)<(r:Int))=true:=zt
   have c1:=HR2.out.cell (i:=q+1+(p+1)) (by omega);have c2:=HR2.out.cell (i:=q+1+p) (by omega)
   have r1:=HS2.out.rest (q+1+(p+1)) (by omega) (by omega);have r2:=HS2.out.rest (q+1+p) (by omega) (by omega)
   rw[r1] at c1
   rw[r2] at c2
   obtain⟨u,hu⟩:∃ u,u=L.getD (q+1+(p+1)) 0:=⟨_,rfl⟩
   obtain⟨v,hv⟩:∃ v,v=L.getD (q+1+p) 0:=⟨_,rfl⟩
   rw[<- hu] at c1
   rw[<- hv] at c2
   have HU:=zh hu;have HV:=zh hv;clear hu hv r1 r2
   by_cases huv:u=v
   case neg=>
    have hsn:=HS2.out.next HO.out (by rw[HL.out];omega) (by show L.getD (q+1+(p+1)) 0≠L.getD (q+1+p) 0;rw[<- HU.out,<- HV.out];exact huv)
    rw[<- HU.out] at hsn
    have HSN:=zh hsn
    have c3:=HR2.out.cell (i:=m) (by omega)
    have f3:=HR2.out.frozenAt m
    have HR3:=zh (HR2.out.put m u)
    have HF3:=zh (HF2.out.setCell (p:=⟨g,m,none⟩) (.inl rfl) (.int .u8 (u:Int)))
    clear hsn
    go_wp2_with fail
    refine Lex.zl ?_
    go_wp2_with fail
    refine Lex.ze ?_
    go_wp2_with fail
    exact⟨⟨m+1,p+1,L2.set m u,by omega,by omega,by go_num,by go_num,HSN.out,Ae HR3.out (fun _ _=>rfl),HF3.out.drew⟩,by simp[intOf];omega⟩
   have hsn:=HS2.out.same (by rw[HL.out];omega) (by show L.getD (q+1+(p+1)) 0=L.getD (q+1+p) 0;rw[<- HU.out,<- HV.out,huv])
   have HSN:=zh hsn
   clear hsn
   subst huv
   go_wp2_with fail
   refine Lex.zl ?_
   go_wp2_with fail
   refine Lex.ze ?_
   go_wp2_with fail
   exact⟨⟨m,p+1,L2,by omega,by omega,rfl,by go_num,HSN.out,Ae HR2.out (fun _ _=>rfl),HF2.out.drew⟩,by simp[intOf];omega⟩
theorem Pq (a:Option Addr)(n c:Nat)(w:World):Calls Tryz.prog 92 #[.slice a n c] w fun e w' => e=.returned (.func (.func 146) #[] #[.pointer (some ⟨w.heap.size,0,none⟩)])/\w' = w.alloc (.cells #[.slice a n c] 66):=by
 go_enter Tryz.func92,Tryz.ntmps92
 go_wp2_with fail
 go_ret
 exact⟨rfl,rfl⟩
abbrev Elem (α : Type):=(Nat->Prop)->World->List Value -> α -> Prop
class Dc {α : Type} (R:Elem α):Prop where
 keep:∀ {F:Nat->Prop} {w w' : World} {cs:List Value} {x : α},R F w cs x->w.heap.size<=w'.heap.size->(∀ k,F k->k<w.heap.size->w'.heap[k]? = w.heap[k]?)->R F w' cs x
 mono:∀ {F G:Nat->Prop} {w:World} {cs:List Value} {x : α},R F w cs x->(∀ k,F k->k<w.heap.size->G k)->R G w cs x
def Aq {α : Type}(size:Nat)(R:Elem α)(F:Nat->Prop)(w:World)(v:Value)(l:List α):Prop:=
 ∃ a c,v = .slice a l.length c ∧ (l.length = 0 ∨ ∃ b o,a = some ⟨b,o,none⟩ ∧ F b ∧ b < w.heap.size ∧
   ∀ (i:Nat) (h:i<l.length),∃ cs,cs.length=size/\(∀ (j:Nat) (u:Value),cs[j]? = some u->w.cell? ⟨b,o+i*size+j,none⟩=some u)/\R F w cs l[i])
section
variable {α : Type} {size:Nat} {R:Elem α} {F G:Nat->Prop} {w w' : World} {v:Value} {l:List α}
theorem Aq.len (h:Aq size R F w v l):∃ a c,v=.slice a l.length c:=by obtain⟨a,c,h,_⟩:=h;exact⟨a,c,h⟩
theorem Aq.nil (a:Option Addr)(c:Nat):Aq size R F w (.slice a 0 c) []:=⟨a,c,rfl,.inl rfl⟩
theorem Aq.keep [Dc R](h:Aq size R F w v l)(hs:w.heap.size<=w'.heap.size)(hk:∀ k,F k->k<w.heap.size->w'.heap[k]? = w.heap[k]?):Aq size R F w' v l:=by
 obtain⟨a,c,e,h0|⟨b,o,ha,hF,hb,hc⟩⟩:=h
 ·exact⟨a,c,e,.inl h0⟩
 ·refine⟨a,c,e,.inr ⟨b,o,ha,hF,Nat.lt_of_lt_of_le hb hs,fun i hi=>?_⟩⟩
  obtain⟨cs,h1,h2,h3⟩:=hc i hi
  exact⟨cs,h1,fun j u hj=>(Kl (hk b hF hb)).trans (h2 j u hj),Dc.keep h3 hs hk⟩
theorem Aq.below [Dc R](h:Aq size R F w v l)(hb:Below w.heap.size w w'):Aq size R F w' v l:=h.keep hb.size fun k _ hl=>hb.block k hl
theorem Aq.fr [Dc R]{H:Nat->Prop}(h:Aq size R F w v l)(hf:Fr H w w')(hd:∀ k,F k->¬ H k):Aq size R F w' v l:=h.keep hf.size fun k hF hl=>hf.keep k hl (hd k hF)
theorem Aq.mono [Dc R](h:Aq size R F w v l)(hF:∀ k,F k->k<w.heap.size->G k):Aq size R G w v l:=by
 obtain⟨a,c,e,h0|⟨b,o,ha,hb0,hb,hc⟩⟩:=h
 ·exact⟨a,c,e,.inl h0⟩
 ·refine⟨a,c,e,.inr ⟨b,o,ha,hF b hb0 hb,hb,fun i hi=>?_⟩⟩
  obtain⟨cs,h1,h2,h3⟩:=hc i hi
  exact⟨cs,h1,h2,Dc.mono h3 hF⟩
theorem Aq.at_ {a:Option Addr}{n c:Nat}(h:Aq size R F w (.slice a n c) l){i:Nat}(hi:i<l.length):∃ b o,a=some ⟨b,o,none⟩/\F b/\b<w.heap.size/\∃ cs,cs.length=size/\(∀ (j:Nat) (u:Value),cs[j]? = some u->w.cell? ⟨b,o+i*size+j,none⟩=some u)/\R F w cs l[i]:=by
 obtain⟨a',c',e,h0|⟨b,o,ha,hF,hb,hc⟩⟩:=h
 ·omega
 ·cases e
  exact⟨b,o,ha,hF,hb,hc i hi⟩
theorem Aq.cells (h:Aq size R F w v l):∃ css:List (List Value),css.length=l.length/\(∀ i (hi:i<l.length) (hi' : i<css.length),css[i].length=size/\R F w css[i] l[i])/\Bc w v size l.length css.flatten:=by
 obtain⟨a,c,e,h0|⟨b,o,ha,hF,hb,hc⟩⟩:=h
 ·have:l=[]:=List.eq_nil_of_length_eq_zero h0
  subst this
  exact⟨[],rfl,(fun i hi=>by cases hi),by rw[e];exact Bc.nil c a⟩
 ·have key : ∀ n,n ≤ l.length → ∃ css : List (List Value),css.length = n ∧ (∀ i (hi : i < l.length) (hi' : i < css.length),css[i].length = size ∧ R F w css[i] l[i]) ∧ css.flatten.length = n * size ∧ ∀ (j : Nat) (u : Value),css.flatten[j]? = some u → w.cell? ⟨b,o + j,none⟩ = some u :=by
   intro n
   induction n with
   | zero=>exact fun _=>⟨[],rfl,(fun i _ hi=>by cases hi),by simp,(fun j u hj=>by simp at hj)⟩
   | succ n ih =>
     intro hn
     obtain⟨css,h1,h2,h3,h4⟩:=ih (by omega)
     obtain⟨cs,q1,q2,q3⟩:=hc n (by omega)
     refine⟨css++[cs],by simp[h1],fun i hi hi' => ?_,by simp[h3,q1,Nat.succ_mul],fun j u hj=>?_⟩
     ·by_cases hin:i<css.length
      ·rw[List.getElem_append_left hin];exact h2 i hi hin
      ·have:i=n:=by simp at hi';omega
       subst this
       rw[List.getElem_append_right (by omega)]
       simp only[h1,Nat.sub_self,List.getElem_cons_zero]
       exact⟨q1,q3⟩
     ·rw[List.flatten_append,List.flatten_singleton] at hj
      by_cases hjl:j<css.flatten.length
      ·rw[List.getElem?_append_left hjl] at hj;exact h4 j u hj
      ·rw[List.getElem?_append_right (by omega),h3] at hj
       have:=q2 _ u hj
       rwa [show o+n*size+(j-n*size)=o+j by omega] at this
  obtain⟨css,h1,h2,h3,h4⟩:=key l.length (Nat.le_refl _)
  exact⟨css,h1,h2,h3,a,c,e,.inr ⟨b,o,ha,hb,h4⟩⟩
theorem Aq.Qk {n:Nat}{css:List (List Value)}(hr:Bc w v size n css.flatten)(hn:n=l.length)(hl:css.length=l.length)(hF:∀ k,v.ownBlock=some k->F k)(he:∀ i (hi:i<l.length) (hi' : i<css.length),css[i].length=size/\R F w css[i] l[i]):Aq size R F w v l:=by
 subst hn
 obtain⟨_,a,c,rfl,h0|⟨b,o,rfl,hb,hc⟩⟩:=hr
 ·exact⟨a,c,rfl,.inl h0⟩
 ·refine⟨_,c,rfl,.inr ⟨b,o,rfl,hF b rfl,hb,fun i hi=>⟨css[i],(he i hi (by omega)).1,fun j u hj=>?_,(he i hi (by omega)).2⟩⟩⟩
  rw[Nat.add_assoc]
  refine hc _ _ ?_
  have hlen:∀ m,m<=css.length->(css.take m).flatten.length=m*size:=by
   intro m
   induction m with
   | zero=>simp
   | succ m ih =>
     intro hm
     rw[List.take_succ_eq_append_getElem (by omega),List.flatten_append,List.length_append,ih (by omega),List.flatten_singleton,(he m (by omega) (by omega)).1,Nat.succ_mul]
  have hi2:i<css.length:=by omega
  have hsplit:css.flatten=(css.take i).flatten++(css[i]++(css.drop (i+1)).flatten):=by
   conv=>lhs;rw[<- List.take_append_drop i css]
   rw[List.flatten_append,List.drop_eq_getElem_cons hi2,List.flatten_cons]
  rw[hsplit,List.getElem?_append_right (by rw[hlen i (by omega)];omega),hlen i (by omega),Nat.add_sub_cancel_left]
  have:=(List.getElem?_eq_some_iff.1 hj).1
  rw[List.getElem?_append_left this]
  exact hj
end
end
section
open Go Go.RowKit Go.Maps
namespace Own
def aP:Nat->Prop:=fun _=>True
def DU:Elem Member:=fun _ _ cs m=>cs=[.string m.name,.string m.pub]
def aQ:Elem KeyUse:=fun _ _ cs k=>cs=[.string k.pub,.int .i64 k.next]
def qU:Elem wF:=fun _ _ cs v=>cs=[.string v.name,.string v.pub,.bool v.agrees]
def EI:Elem Space:=fun F w cs s=>∃ v,cs=[.string s.pre,v,.int .i64 s.threshold]/\Aq 2 DU F w v s.members
def wW:Elem lu:=fun F w cs p=>∃ v,cs=[.int .i64 p.id,.string p.path,.string p.digest,.int .i64 p.opened,.int .i64 p.expires,v]/\Aq 3 qU F w v p.wG
instance:Dc DU:=⟨fun h _ _=>h,fun h _=>h⟩
instance:Dc aQ:=⟨fun h _ _=>h,fun h _=>h⟩
instance:Dc qU:=⟨fun h _ _=>h,fun h _=>h⟩
instance:Dc EI:=⟨fun⟨v,h1,h2⟩ hs hk=>⟨v,h1,h2.keep hs hk⟩,fun⟨v,h1,h2⟩ hF=>⟨v,h1,h2.mono hF⟩⟩
instance:Dc wW:=⟨fun⟨v,h1,h2⟩ hs hk=>⟨v,h1,h2.keep hs hk⟩,fun⟨v,h1,h2⟩ hF=>⟨v,h1,h2.mono hF⟩⟩
abbrev Af (w:World)(v:Value)(l:List Member):Prop:=Aq 2 DU aP w v l
abbrev Du (w:World)(v:Value)(l:List KeyUse):Prop:=Aq 2 aQ aP w v l
abbrev BF (w:World)(v:Value)(l:List Space):Prop:=Aq 3 EI aP w v l
section
variable {w w' : World} {a:Option Addr} {n c:Nat}
theorem Af.cells {l:List Member}(h:Af w (.slice a n c) l){i:Nat}(hi:i<l.length):∃ b o,a=some ⟨b,o,none⟩/\b<w.heap.size/\w.cell? ⟨b,o+i*2,none⟩=some (.string l[i].name)/\w.cell? ⟨b,o+i*2+1,none⟩=some (.string l[i].pub):=by
 obtain⟨b,o,ha,_,hb,cs,h1,h2,h3⟩:=h.at_ hi
 have h3:cs=_:=h3
 subst h3
 exact⟨b,o,ha,hb,h2 0 _ rfl,h2 1 _ rfl⟩
theorem Du.cells {l:List KeyUse}(h:Du w (.slice a n c) l){i:Nat}(hi:i<l.length):∃ b o,a=some ⟨b,o,none⟩/\b<w.heap.size/\w.cell? ⟨b,o+i*2,none⟩=some (.string l[i].pub)/\w.cell? ⟨b,o+i*2+1,none⟩=some (.int .i64 l[i].next):=by
 obtain⟨b,o,ha,_,hb,cs,h1,h2,h3⟩:=h.at_ hi
 have h3:cs=_:=h3
 subst h3
 exact⟨b,o,ha,hb,h2 0 _ rfl,h2 1 _ rfl⟩
theorem BF.cells {l:List Space}(h:BF w (.slice a n c) l){i:Nat}(hi:i<l.length):∃ b o v,a=some ⟨b,o,none⟩/\b<w.heap.size/\w.cell? ⟨b,o+i*3,none⟩=some (.string l[i].pre)/\w.cell? ⟨b,o+i*3+1,none⟩=some v/\w.cell? ⟨b,o+i*3+2,none⟩=some (.int .i64 l[i].threshold)/\Af w v l[i].members:=by
 obtain⟨b,o,ha,_,hb,cs,h1,h2,v,h3,h4⟩:=h.at_ hi
 subst h3
 exact⟨b,o,v,ha,hb,h2 0 _ rfl,h2 1 _ rfl,h2 2 _ rfl,h4⟩
end
end Own
end
section
open Go Go.RowKit Go.Maps
def RV (v:Value):Option (DataW Value × List MemPlace):=some (.held v,[])
def LH (k:ByteArray):Lit:=.string k.data.toList
theorem Y4 (k:ByteArray):WideAt.IsKeyLit (LH k):=by unfold LH WideAt.IsKeyLit;trivial
theorem oN {k j:ByteArray}(h:k≠j):LH k≠LH j:=by
 intro e
 apply h
 unfold LH at e
 cases k;cases j
 simp at e
 simpa using e
theorem lQ:Keyed Tryz.prog 9:=string_keyed Tryz.underlying9
theorem keyOf_str {k:ByteArray}(h:k.size<=maxLen):keyOf Tryz.prog 9 (.string k)=some (LH k):=WideMaps.keyOf_string_mk Tryz.underlying9 h
def Reads (D:DataW Value)(f:ByteArray->Option Value):Prop:=IsMap D/\∀ k:ByteArray,match f k with
 | some v=>has D (LH k)=true/\∀ z,D.atKey (LH k) z=.held v
 | none=>has D (LH k)=false
def FD (w:World)(b n:Nat)(f:ByteArray->Option Value):Prop:=∃ D,w.ownsMap Tryz.prog 9 RV b n D/\Reads D f
def Y5 (f:ByteArray->Option Value)(k:ByteArray)(v:Value):ByteArray->Option Value:=fun j=>if k=j then some v else f j
theorem Reads.put {D:DataW Value}{f:ByteArray->Option Value}(h:Reads D f)(k:ByteArray)(v:Value):Reads (D.put (LH k) (.held v)) (Y5 f k v):=by
 refine⟨h.1.put _ _,fun j=>?_⟩
 unfold Y5
 by_cases e:k=j
 ·subst e
  rw[if_pos rfl]
  exact⟨has_put_same h.1 (Y4 k) _,fun z=>atKey_put_same h.1 (Y4 k) _ z⟩
 ·rw[if_neg e]
  have hn:LH j≠LH k:=oN (Ne.symm e)
  have:=h.2 j
  cases hf:f j with
  | none=>rw[hf] at this;simp only at this ⊢;rw[has_put_other hn];exact this
  | some x=>rw[hf] at this;simp only at this ⊢;rw[has_put_other hn];exact⟨this.1,fun z=>by rw[atKey_put_other hn];exact this.2 z⟩
theorem Reads.at {D:DataW Value}{f:ByteArray->Option Value}(h:Reads D f)(k:ByteArray)(z:Value):D.atKey (LH k) (.held z)=.held ((f k).getD z)/\has D (LH k)=(f k).isSome:=by
 have:=h.2 k
 cases hf:f k with
 | none=>rw[hf] at this;exact⟨atKey_of_not_has this _,this⟩
 | some x=>rw[hf] at this;exact⟨this.2 _,this.1⟩
section
variable {w w' : World} {b n:Nat} {f:ByteArray->Option Value}
theorem FD.made (w:World):FD (w.alloc (.map #[] 0)) w.heap.size 0 (fun _=>none):=
 ⟨_,World.ownsMap_made w _ _ _,isMap_empty,fun k=>by show has (.map []) (LH k)=false;rfl⟩
theorem FD.lt (h:FD w b n f):b<w.heap.size:=by obtain⟨D,h,_⟩:=h;exact h.lt
theorem FD.keep (h:FD w b n f)(hk:w'.heap[b]? = w.heap[b]?):FD w' b n f:=by
 obtain⟨D,⟨es,clock,hb,F,hs,hD⟩,hr⟩:=h
 exact⟨D,⟨es,clock,by rw[hk];exact hb,F,hs,hD⟩,hr⟩
theorem FD.below {B:Nat}(h:FD w b n f)(hb:Below B w w')(hB:b<B):FD w' b n f:=h.keep (hb.block b hB)
theorem FD.eD {g:Nat}{t:TypeId}{cs:Array Value}(h:FD w b n f)(ha:At w g t cs):g≠b:=by
 rintro rfl
 obtain⟨D,⟨es,clock,hb,_⟩,hr⟩:=h
 unfold At at ha
 rw[ha] at hb
 cases hb
variable {ops:Array Oper} {rest:List Oper} {o:Oper} {a:Act} {Q:Exit->Act->World->Prop}
theorem FD.Y7 {t e:TypeId}(ht:Tryz.prog.underlying t=some (.map 9 e))(z:Value)(hz:(zeroValue e).run Tryz.prog w=.ok z w)(h:FD w b n f)(k:ByteArray)(hk:k.size<=maxLen):
 (Instr.lookup t (.map (some b)) (.string k) false).run Tryz.prog w=.ok ((f k).getD z) w:=by
 obtain⟨D,hD,hr⟩:=h
 obtain⟨v,ps,hrun,hv⟩:=hD.lookup lQ ht hz (R:=RV) (zd:=.held z) (zp:=[]) rfl (keyOf_str hk)
 have:=hr.at k z
 rw[this.1] at hv
 unfold RV at hv
 simp only[Option.some.injEq,Prod.mk.injEq,DataW.held.injEq] at hv
 rw[hv.1] at hrun
 exact hrun
theorem Wt (hg:o.guard=none)(m x y:Operand)(t e:TypeId)(hop:o.op=Op.mapUpdate t m x y)(ht:Tryz.prog.underlying t=some (.map 9 e))(h:FD w b n f)(hn:n<maxLen)(hm:a.eval m=.map (some b))(k:ByteArray)(v:Value)(hx:a.eval x=.string k)(hy:a.eval y=v)(hk:k.size<=maxLen)
 (hK:∀ w',FD w' b (n+1) (Y5 f k v)->w.grownBy w' (some b)->wpList Tryz.prog ops Q rest (a.put o.dst undef) w'):wpList Tryz.prog ops Q (o::rest) a w:=by
 obtain⟨D,hD,hr⟩:=h
 exact wpList_mapUpdate_own w hg m x y t hop 9 e lQ ht RV b n D hm hD hn _ _ _ hx hy (keyOf_str hk) (.held v) [] rfl fun w' h1 h2=>hK w' ⟨_,h1,hr.put k v⟩ h2
end
section
variable {w w' : World} {b r n cnt:Nat} {f:ByteArray->Option Value} {done:List ByteArray}
variable {ops:Array Oper} {rest:List Oper} {o:Oper} {a:Act} {Q:Exit->Act->World->Prop}
end
end
section
open Go Go.RowKit Go.Maps
theorem aR (s:ByteArray):(Lib.splitB ⟨#[47]⟩ 0 (Lib.countB s ⟨#[47]⟩) s).any (fun x=>decide (x=⟨#[]⟩)) = !Own.dV s.data.toList:=by
 have h:=Lib.splitB_data ⟨#[47]⟩ 0 (Lib.countB s ⟨#[47]⟩) s
 have h2:Lib.splitK [47] 0 (Lib.countB s ⟨#[47]⟩) s.data.toList=Nam.cuts s.data.toList:=Nam.aK _ _ (Nat.le_refl _)
 unfold Own.dV
 rw[<- h2,List.not_all_eq_any_not]
 have h3:Lib.splitK [47] 0 (Lib.countB s ⟨#[47]⟩) s.data.toList=(Lib.splitB ⟨#[47]⟩ 0 (Lib.countB s ⟨#[47]⟩) s).map (·.data.toList):=h.symm
 rw[h3,List.any_map]
 congr 1
 funext x
 show decide (x=⟨#[]⟩) = !!x.data.toList.isEmpty
 rw[Bool.not_not,Bool.eq_iff_iff,decide_eq_true_eq,List.isEmpty_iff]
 constructor
 ·rintro rfl;rfl
 ·intro h;apply Sha.BG;rw[h]
theorem aS (v:Value)(xs:List ByteArray)(x:ByteArray)(w:World)(h:Al w v xs)(hl:xs.length<=140737488355328):
 Calls Tryz.prog 121 #[v,.string x] w fun e w' => e=.returned (.bool (xs.any fun y=>decide (y=x)))/\w' = w:=by
 obtain⟨a,c,rfl,h0|⟨b,o,rfl,hc⟩⟩:=h
 ·have:xs=[]:=List.eq_nil_of_length_eq_zero h0
  subst this
  exact Tryz.slices_Contains_string_empty a c x w
 ·refine(Tryz.slices_Contains_string b o xs.length c xs x w (Nat.le_refl _) (by omega) hc).mono ?_
  rintro e w' ⟨rfl,rfl⟩
  refine⟨?_,rfl⟩
  congr 2
  rw[List.take_of_length_le (Nat.le_refl _),Bool.eq_iff_iff,Lib.containsS_iff,List.any_eq_true]
  constructor
  ·exact fun h=>⟨x,h,decide_eq_true rfl⟩
  ·rintro⟨y,hy,he⟩
   rw[<- of_decide_eq_true he]
   exact hy
theorem LJ (s:ByteArray)(w:World)(hM:Il w):Calls Tryz.prog 68 #[.string s] w fun e w' => e=.returned (.bool (Own.BI s))/\Below w.heap.size w w':=by
 obtain⟨R,hR⟩:∃ R,R=Own.BI s:=⟨_,rfl⟩
 rw[<- hR]
 have HR:=zh hR;clear hR
 obtain⟨m,hm⟩:=hM
 have HM:=zh hm;clear hm
 go_enter Tryz.func68,Tryz.ntmps68
 by_cases h0:1<=s.size
 case neg=>
  have d0:decide (1<=(s.size:Int))=false:=zf
  have d0' : decide (1<=s.size)=false:=zf
  have e:R=false:=by rw[HR.out,Own.BI,d0'];rfl
  have HE:=zh e;clear e
  go_wp2_with fail
  go_ret
  exact⟨by rw[HE.out];rfl,Below.refl _ _⟩
 have d0:decide (1<=(s.size:Int))=true:=zt
 have d0' : decide (1<=s.size)=true:=zt
 by_cases h1:s.size<=64
 case neg=>
  have d1:decide ((s.size:Int)<=64)=false:=zf
  have d1' : decide (s.size<=64)=false:=zf
  have e:R=false:=by rw[HR.out,Own.BI,d0',d1'];rfl
  have HE:=zh e;clear e
  go_wp2_with fail
  go_ret
  exact⟨by rw[HE.out];rfl,Below.refl _ _⟩
 have d1:decide ((s.size:Int)<=64)=true:=zt
 have d1' : decide (s.size<=64)=true:=zt
 have e:R=Own.dV s.data.toList:=by rw[HR.out,Own.BI,d0',d1'];simp
 have HE:=zh e;clear e
 go_wp2_with fail
 refine(Tryz.strings_Split s ⟨#[47]⟩ m _ (by omega) HM.out (by decide)).mono ?_
 rintro e2 w2 ⟨rfl,rfl⟩
 have hsa:=aR s
 have hlen:=Lib.splitB_all ⟨#[47]⟩ (by decide) 0 _ s rfl
 have hcl:=Lib.count_le s.data.toList [47]
 have sP:Lib.countB s ⟨#[47]⟩<=s.data.toList.length+1:=hcl
 rw[Array.length_toList] at sP
 have zax:Lib.countB s ⟨#[47]⟩<=s.size+1:=sP
 obtain⟨xs,hxs⟩:∃ xs,xs=Lib.splitB ⟨#[47]⟩ 0 (Lib.countB s ⟨#[47]⟩) s:=⟨_,rfl⟩
 rw[<- hxs] at hsa hlen ⊢
 rw[<- hlen]
 have hst:Al (w.alloc (.cells (xs.map Value.string).toArray 9)) (.slice (some ⟨w.heap.size,0,none⟩) xs.length xs.length) xs:=Al.block (At.new _ _ _) rfl _
 have hb1:Below w.heap.size w (w.alloc (.cells (xs.map Value.string).toArray 9)):=zb
 have HST:=zh hst;have HB1:=zh hb1;have HSA:=zh hsa
 have hl2:xs.length<=140737488355328:=by omega
 clear hst hb1 hsa hxs hlen hcl sP zax
 generalize w.alloc (.cells (xs.map Value.string).toArray 9)=w1 at*
 go_wp2_with fail
 refine(aS _ xs ⟨#[]⟩ w1 HST.out hl2).mono ?_
 rintro e3 w3 ⟨rfl,rfl⟩
 rw[HSA.out,<- HE.out]
 go_wp2_with fail
 go_ret
 exact⟨by simp,HB1.out⟩
theorem TK (s p:ByteArray)(w:World)(hp:p.size<=1000):Calls Tryz.prog 123 #[.string s,.string p] w fun e w' => e=.returned (.bool (Own.belongs s p))/\w' = w:=by
 obtain⟨R,hR⟩:∃ R,R=Own.belongs s p:=⟨_,rfl⟩
 rw[<- hR]
 unfold Own.belongs at hR
 have HR:=zh hR;clear hR
 go_enter Tryz.func123,Tryz.ntmps123
 by_cases h:s=p
 ·have d:(s.toList==p.toList)=true:=by rw[bytes_beq];exact decide_eq_true h
  have e:R=true:=by rw[HR.out,decide_eq_true h];rfl
  have HE:=zh e;clear e
  go_wp2_with fail
  go_ret
  exact⟨by rw[HE.out];rfl,rfl⟩
 ·have d:(s.toList==p.toList)=false:=by rw[bytes_beq];exact decide_eq_false h
  have e:R=Lib.hasPrefix s.data.toList (p++⟨#[47]⟩).data.toList:=by
   rw[HR.out,decide_eq_false h,Sha.Bq]
   rfl
  have HE:=zh e;clear e
  go_wp2_with fail
  refine(Tryz.strings_HasPrefix s _ w).mono ?_
  rintro e w2 ⟨rfl,rfl⟩
  rw[<- HE.out]
  go_wp2_with fail
  go_ret
  exact⟨rfl,rfl⟩
theorem Bz (p:ByteArray)(w:World):Calls Tryz.prog 73 #[.string p] w fun e w' => e=.returned (.bool (Sig.Bn p))/\w' = w:=by
 obtain⟨R,hR⟩:∃ R,R=Sig.Bn p:=⟨_,rfl⟩
 rw[<- hR]
 unfold Sig.Bn at hR
 have HR:=zh hR;clear hR
 go_enter Tryz.func73,Tryz.ntmps73
 by_cases h33:p.size=33
 case neg=>
  have d1:((p.size:Int)==33)=false:=by rw[beq_eq_false_iff_ne];omega
  have hx:R=false:=by rw[HR.out,decide_eq_false h33];rfl
  have HX:=zh hx;clear hx
  go_wp2_with fail
  go_ret
  exact⟨by rw[HX.out];rfl,rfl⟩
 have d1:((p.size:Int)==33)=true:=by rw[beq_iff_eq];omega
 have h32:32<p.size:=by omega
 have hg:p.get! 32=p[32]:=getElem!_pos p.data 32 h32
 have hxl:p[32].toNat<256:=p[32].toNat_lt
 have hx:R=decide ((p[32].toNat:Int)<=6):=by
  rw[HR.out,decide_eq_true h33,hg,Bool.true_and,decide_eq_decide]
  omega
 have HX:=zh hx;clear hx
 go_wp2_with fail
 go_ret
 exact⟨by rw[HX.out];rfl,rfl⟩
theorem Dv (s:ByteArray)(w:World):Calls Tryz.prog 104 #[.string s] w fun e w' => e=.returned (.bool (Own.EG s))/\w' = w:=by
 obtain⟨R,hR⟩:∃ R,R=Own.EG s:=⟨_,rfl⟩
 rw[<- hR]
 unfold Own.EG at hR
 have HR:=zh hR;clear hR
 go_enter Tryz.func104,Tryz.ntmps104
 by_cases h0:1<=s.size
 case neg=>
  have d0:decide (1<=(s.size:Int))=false:=zf
  have e:R=false:=by rw[HR.out,decide_eq_false h0];rfl
  have HE:=zh e;clear e
  go_wp2_with fail
  go_ret
  exact⟨by rw[HE.out];rfl,rfl⟩
 have d0:decide (1<=(s.size:Int))=true:=zt
 have e:R=decide ((s.size:Int)<=32):=by
  rw[HR.out,decide_eq_true h0,Bool.true_and,decide_eq_decide]
  omega
 have HE:=zh e;clear e
 go_wp2_with fail
 go_ret
 exact⟨by rw[HE.out];rfl,rfl⟩
namespace Own
def El (l:List Member):ByteArray->Option Value:=fun p=>if l.any (fun x=>decide (x.pub=p)) then some (.bool true) else none
theorem Wu (l:List Member)(m:Member):El (l++[m])=Y5 (El l) m.pub (.bool true):=by
 funext p
 unfold El Y5
 rw[List.any_append]
 by_cases h:m.pub=p
 ·simp[h]
 ·simp[h]
theorem FE:∀ (pre a b:List Member),Am pre (a++b)=(Am pre a&&Am (pre++a) b)
 | pre,[],b=>by simp[Am]
 | pre,m :: a,b => by
   show(CX pre m&&Am (pre++[m]) (a++b))=((CX pre m&&Am (pre++[m]) a)&&_)
   rw[FE (pre++[m]) a b,List.append_assoc,Bool.and_assoc]
   rfl
theorem RG (l:List Member)(k:Nat)(hk:k<l.length):Am [] l=(Am [] (l.take k)&&(CX (l.take k) l[k]&&Am (l.take (k+1)) (l.drop (k+1)))):=by
 have e:l=l.take k++l[k]::l.drop (k+1):=by rw[<- List.drop_eq_getElem_cons hk,List.take_append_drop]
 conv=>lhs;rw[e]
 rw[FE,List.nil_append]
 show(_&&(CX _ _&&Am (l.take k++[l[k]]) _))=_
 rw[<- List.take_succ_eq_append_getElem hk]
theorem Oi (l:List Member)(k:Nat)(hk:k<l.length):Am [] (l.take (k+1))=(Am [] (l.take k)&&CX (l.take k) l[k]):=by
 rw[List.take_succ_eq_append_getElem hk,FE,List.nil_append]
 show(_&&(CX _ _&&true))=_
 rw[Bool.and_true]
theorem getLast_take {α : Type}(l:List α)(k:Nat)(hk:k<l.length):(l.take (k+1)).getLast? = some l[k]:=by
 rw[List.take_succ_eq_append_getElem hk,List.getLast?_append]
 rfl
end Own
theorem UU (w:World):(zeroValue 4).run Tryz.prog w=.ok (.bool false) w:=by
 have h:(Tryz.prog.info? 4).map (·.zero)=some (some (.bool false)):=by kernel_rfl
 cases hq:Tryz.prog.info? 4 with
 | none=>rw[hq] at h;simp at h
 | some i => rw [hq] at h;have h : i.zero = some (.bool false) :=by simpa using h
             simp[zeroValue,typeInfo,hq,h]
theorem KR (v:Value)(l:List Own.Member)(w:World)(h:Own.Af w v l)(hl:l.length<=140737488355328):
 Calls Tryz.prog 103 #[v] w fun e w' => e=.returned (.bool (Own.Co l))/\Below w.heap.size w w':=by
 obtain⟨R,hR⟩:∃ R,R=Own.Co l:=⟨_,rfl⟩
 rw[<- hR]
 unfold Own.Co at hR
 obtain⟨a,c,rfl⟩:=h.len
 have HR:=zh hR;have HL:=zh h;clear hR h
 go_enter Tryz.func103,Tryz.ntmps103
 by_cases h1:1<=l.length
 case neg=>
  have d1:decide ((l.length:Int)<1)=true:=zt
  have e:R=false:=by rw[HR.out,decide_eq_false h1];rfl
  have HE:=zh e;clear e
  go_wp2_with fail
  go_ret
  exact⟨by rw[HE.out];rfl,Below.refl _ _⟩
 have d1:decide ((l.length:Int)<1)=false:=zf
 by_cases h2:l.length<=8
 case neg=>
  have d2:decide ((8:Int)<l.length)=true:=zt
  have e:R=false:=by rw[HR.out,decide_eq_false h2];simp
  have HE:=zh e;clear e
  go_wp2_with fail
  go_ret
  exact⟨by rw[HE.out];rfl,Below.refl _ _⟩
 have d2:decide ((8:Int)<l.length)=false:=zf
 have hr:R=Own.Am [] l:=by rw[HR.out,decide_eq_true h1,decide_eq_true h2];simp
 have HR2:=zh hr;clear hr HR
 have hm0:=FD.made w
 have hb0:Below w.heap.size w (w.alloc (.map #[] 0)):=zb
 have HM0:=zh hm0;have HB0:=zh hb0;clear hm0 hb0
 have hmm :=@run_makeMap Tryz.prog
 go_wp2_with fail
 clear hmm
 go_loopw [17] (fun i wr=>∃ k:Nat,k<=l.length/\i=.int .i64 k/\Own.Am [] (l.take k)=true/\FD wr w.heap.size k (Own.El (l.take k))/\Below w.heap.size w wr) (fun i _=>l.length-(intOf i).toNat)
 case atStart=>exact⟨0,by omega,rfl,rfl,HM0.out,HB0.out⟩
 case round=>
  obtain⟨k,hk,rfl,hok,hsm,hb⟩:=hrel
  have HOK:=zh hok;have HSM:=zh hsm;have HB:=zh hb
  by_cases hlt:k<l.length
  case neg=>
   have hke:k=l.length:=by omega
   have dk:decide ((k:Int)<l.length)=false:=zf
   have e:R=true:=by rw[HR2.out,<- hok,hke,List.take_length]
   have HE:=zh e;clear e hok hsm hb
   go_wp2_with fail
   go_ret
   exact⟨by rw[HE.out];rfl,HB.out⟩
  have dk:decide ((k:Int)<l.length)=true:=zt
  have hra:R=(Own.CX (l.take k) l[k]&&Own.Am (l.take (k+1)) (l.drop (k+1))):=by rw[HR2.out,Own.RG l k hlt,hok,Bool.true_and]
  have htk:Own.Am [] (l.take (k+1))=Own.CX (l.take k) l[k]:=by rw[Own.Oi l k hlt,hok,Bool.true_and]
  have hmap:Own.El (l.take (k+1))=Y5 (Own.El (l.take k)) l[k].pub (.bool true):=by rw[List.take_succ_eq_append_getElem hlt,Own.Wu]
  have hlk:=HL.out.below hb
  obtain⟨b,o,ha,hbl,c0,c1⟩:=Own.Af.cells hlk hlt
  have JL:∀ j,k=j+1->∃ x:Own.Member,wr.cell? ⟨b,o+j*2,none⟩=some (.string x.name)/\(l.take k).getLast? = some x:=by
   intro j hj
   obtain⟨b',o',ha',_,e0,_⟩:=Own.Af.cells hlk (i:=j) (by omega)
   rw[ha] at ha'
   cases ha'
   have hg:=Own.getLast_take l j (by omega)
   rw[<- hj] at hg
   exact⟨_,e0,hg⟩
  subst ha
  have hmo:Own.CX (l.take k) l[k]=(Own.EG l[k].name&&Sig.Bn l[k].pub && !((l.take k).any fun x=>decide (x.pub=l[k].pub))&&(match (l.take k).getLast? with|none=>true|some x=>Own.Aj x.name l[k].name)):=rfl
  rw[hmo] at hra htk
  clear hmo
  obtain⟨nm,hnm⟩:∃ x,x=l[k].name:=⟨_,rfl⟩
  obtain⟨pb,hpb⟩:∃ x,x=l[k].pub:=⟨_,rfl⟩
  rw[<- hnm,<- hpb] at hra htk
  rw[<- hpb] at hmap
  rw[<- hnm] at c0
  rw[<- hpb] at c1
  obtain⟨rest,hrest⟩:∃ x,x=Own.Am (l.take (k+1)) (l.drop (k+1)):=⟨_,rfl⟩
  rw[<- hrest] at hra
  have HRA:=zh hra;have HTK:=zh htk;have xg:=zh hmap;have RH:=zh JL
  have hb5:Below w.heap.size w (wr.alloc (.cells #[.string nm,.string pb] 76)).drew:=(hb.alloc hb.size _).drew
  have Wi:FD (wr.alloc (.cells #[.string nm,.string pb] 76)).drew w.heap.size k (Own.El (l.take k)):=hsm.below ((Below.refl wr.heap.size wr).alloc (Nat.le_refl _) _).drew hsm.lt
  have HB5:=zh hb5;have oO:=zh Wi
  have hbs:=hb.size
  clear hok hsm hb hlk hra htk hmap JL hb5 Wi hrest hnm hpb
  cases hn:Own.EG nm with
  | false =>
    have e:R=false:=by rw[HRA.out,hn];rfl
    have HE:=zh e;clear e
    go_wp2_with fail
    refine Lex.zl ?_
    go_wp2_with fail
    refine(Dv nm _).mono ?_
    rintro e2 w2 ⟨rfl,rfl⟩
    rw[hn]
    go_wp2_with fail
    refine Lex.ze ?_
    go_wp2_with fail
    go_ret
    exact⟨by rw[HE.out];rfl,HB5.out⟩
  | true=>
  have Oj:=HRA.out
  have LK:=HTK.out
  rw[hn,Bool.true_and] at Oj LK
  clear HRA HTK
  cases hp:Sig.Bn pb with
  | false =>
    have e:R=false:=by rw[Oj,hp];rfl
    have HE:=zh e;clear e Oj LK
    go_wp2_with fail
    refine Lex.zl ?_
    go_wp2_with fail
    refine(Dv nm _).mono ?_
    rintro e2 w2 ⟨rfl,rfl⟩
    rw[hn]
    go_wp2_with fail
    refine(Bz pb _).mono ?_
    rintro e2 w2 ⟨rfl,rfl⟩
    rw[hp]
    go_wp2_with fail
    refine Lex.ze ?_
    go_wp2_with fail
    go_ret
    exact⟨by rw[HE.out];rfl,HB5.out⟩
  | true=>
  rw[hp,Bool.true_and] at Oj LK
  have hps:pb.size<=maxLen:=by
   have:pb.size=33:=of_decide_eq_true (Bool.and_eq_true_iff.1 hp).1
   unfold maxLen;omega
  have Ng:=oO.out.Y7 (t:=172) (e:=4) Tryz.underlying172 (.bool false) (UU _) pb hps
  cases hin:(l.take k).any fun x=>decide (x.pub=pb) with
  | true =>
    have e:R=false:=by rw[Oj,hin];rfl
    have hv:(Own.El (l.take k) pb).getD (.bool false)=.bool true:=by unfold Own.El;rw[hin];rfl
    rw[hv] at Ng
    have HE:=zh e;clear e Oj LK hv hin
    go_wp2_with fail
    refine Lex.zl ?_
    go_wp2_with fail
    refine(Dv nm _).mono ?_
    rintro e2 w2 ⟨rfl,rfl⟩
    rw[hn]
    go_wp2_with fail
    refine(Bz pb _).mono ?_
    rintro e2 w2 ⟨rfl,rfl⟩
    rw[hp]
    go_wp2_with fail
    refine Lex.ze ?_
    go_wp2_with fail
    go_ret
    exact⟨by rw[HE.out];rfl,HB5.out⟩
  | false=>
  rw[hin,Bool.not_false,Bool.true_and] at Oj LK
  have hv:(Own.El (l.take k) pb).getD (.bool false)=.bool false:=by unfold Own.El;rw[hin];rfl
  rw[hv] at Ng
  clear hv hin
  rcases Nat.eq_zero_or_pos k with hk0|hkp
  ·have hl0:(l.take k).getLast? = none:=by rw[hk0];rfl
   rw[hl0] at Oj LK
   have HT:=zh LK
   have dz:decide ((0:Int)<(k:Int))=false:=zf
   have dz' : decide (0<k)=false:=zf
   have HK0:=zh hk0
   clear hl0 Oj LK hk0
   go_wp2_with fail
   refine Lex.zl ?_
   go_wp2_with fail
   refine(Dv nm _).mono ?_
   rintro e2 w2 ⟨rfl,rfl⟩
   rw[hn]
   go_wp2_with fail
   refine(Bz pb _).mono ?_
   rintro e2 w2 ⟨rfl,rfl⟩
   rw[hp]
   go_wp2_with fail
   refine Lex.ze ?_
   clear Ng
   go_wp2_with (at_mapUpdate;go_must (refine Wt rfl _ _ _ 172 4 rfl Tryz.underlying172 oO.out (by unfold maxLen;omega) rfl pb (.bool true) rfl rfl hps ?_);intro w7 hm7 hg7;have HM7:=zh hm7;have HB7:=zh (HB5.out.grown hg7 HB5.out.size (fun k hk=>by cases hk;exact Nat.le_refl _));clear hm7 hg7)
   go_round
   case measure=>simp[intOf];omega
   case rel=>exact⟨k+1,by omega,by go_num,HT.out,by rw[xg.out];exact HM7.out,HB7.out⟩
  ·obtain⟨j,hj⟩:∃ j,k=j+1:=⟨k-1,by omega⟩
   obtain⟨x,e0,hx⟩:=RH.out j hj
   rw[hx] at Oj LK
   have Ol:R=(Own.Aj x.name nm&&rest):=Oj
   have Nh:Own.Am [] (l.take (k+1))=Own.Aj x.name nm:=LK
   unfold Own.Aj at Ol Nh
   have dz:decide ((0:Int)<(k:Int))=true:=zt
   have dz' : decide (0<k)=true:=zt
   have ek:(k:Int)-1=(j:Int):=by omega
   have hjl:j<l.length:=by omega
   have e1:(wr.alloc (.cells #[.string nm,.string pb] 76)).cell? ⟨b,o+j*2,none⟩=some (.string x.name):=(((Below.refl wr.heap.size wr).alloc (Nat.le_refl _) _).cell (p:=⟨b,o+j*2,none⟩) hbl).trans e0
   cases hlb:Op.bytesLess x.name.toList nm.toList with
   | false =>
     have e:R=false:=by rw[Ol,hlb];rfl
     have HE:=zh e;clear e Oj LK Ol Nh hx e0 hj
     go_wp2_with fail
     refine Lex.zl ?_
     go_wp2_with fail
     refine(Dv nm _).mono ?_
     rintro e2 w2 ⟨rfl,rfl⟩
     rw[hn]
     go_wp2_with fail
     refine(Bz pb _).mono ?_
     rintro e2 w2 ⟨rfl,rfl⟩
     rw[hp]
     go_wp2_with fail
     refine Lex.ze ?_
     clear Ng
     go_wp2_with (at_mapUpdate;go_must (refine Wt rfl _ _ _ 172 4 rfl Tryz.underlying172 oO.out (by unfold maxLen;omega) rfl pb (.bool true) rfl rfl hps ?_);intro w7 hm7 hg7;have HM7:=zh hm7;have HB7:=zh (HB5.out.grown hg7 HB5.out.size (fun k hk=>by cases hk;exact Nat.le_refl _));clear hm7 hg7)
     go_ret
     exact⟨by rw[HE.out];rfl,HB5.out⟩
   | true =>
     rw[hlb] at Nh
     have HT:=zh Nh
     clear Oj LK Ol Nh hx e0 hj
     go_wp2_with fail
     refine Lex.zl ?_
     go_wp2_with fail
     refine(Dv nm _).mono ?_
     rintro e2 w2 ⟨rfl,rfl⟩
     rw[hn]
     go_wp2_with fail
     refine(Bz pb _).mono ?_
     rintro e2 w2 ⟨rfl,rfl⟩
     rw[hp]
     go_wp2_with fail
     refine Lex.ze ?_
     clear Ng
     go_wp2_with (at_mapUpdate;go_must (refine Wt rfl _ _ _ 172 4 rfl Tryz.underlying172 oO.out (by unfold maxLen;omega) rfl pb (.bool true) rfl rfl hps ?_);intro w7 hm7 hg7;have HM7:=zh hm7;have HB7:=zh (HB5.out.grown hg7 HB5.out.size (fun k hk=>by cases hk;exact Nat.le_refl _));clear hm7 hg7)
     go_round
     case measure=>simp[intOf];omega
     case rel=>exact⟨k+1,by omega,by go_num,HT.out,by rw[xg.out];exact HM7.out,HB7.out⟩
theorem Wv (v:Value)(s:Own.Space)(w:World)(hM:Il w)(h:Own.Af w v s.members)(hl:s.members.length<=140737488355328):
 Calls Tryz.prog 72 #[.agg #[.string s.pre,v,.int .i64 s.threshold]] w fun e w' => e=.returned (.bool (Own.AX s))/\Below w.heap.size w w':=by
 obtain⟨R,hR⟩:∃ R,R=Own.AX s:=⟨_,rfl⟩
 rw[<- hR]
 unfold Own.AX at hR
 obtain⟨a,c,rfl⟩:=h.len
 have ha:=At.new w 39 #[.string s.pre,.slice a s.members.length c,.int .i64 s.threshold]
 have hb1:Below w.heap.size w (w.alloc (.cells #[.string s.pre,.slice a s.members.length c,.int .i64 s.threshold] 39)):=zb
 have HR:=zh hR;have HL:=zh (h.below hb1);have HM:=zh (hM.below hb1);have HB:=zh hb1;have HA:=zh ha
 have c0:=ha.cell 0;have c1:=ha.cell 1;have c2:=ha.cell 2
 simp only[zg] at c0 c1 c2
 clear hR h hM ha hb1
 go_enter Tryz.func72,Tryz.ntmps72
 go_wp2_with fail
 generalize w.alloc (.cells #[.string s.pre,.slice a s.members.length c,.int .i64 s.threshold] 39)=w1 at*
 refine(LJ s.pre w1 HM.out).mono ?_
 rintro e w2 ⟨rfl,hb2⟩
 have HB2:=zh (HB.out.trans (hb2.mono HB.out.size));have HL2:=zh (HL.out.below hb2)
 have ha2:=HA.out.below hb2 HA.out.lt
 obtain⟨q0,q1,q2⟩:=ha2.c3
 have HA2:=zh ha2
 clear hb2 ha2 c0 c1 c2
 cases hp:Own.BI s.pre with
 | false =>
   have e:R=false:=by rw[HR.out,hp];rfl
   have HE:=zh e;clear e
   go_wp2_with fail
   go_ret
   exact⟨by rw[HE.out];rfl,HB2.out⟩
 | true=>
 go_wp2_with fail
 refine(KR _ s.members w2 HL2.out hl).mono ?_
 rintro e w3 ⟨rfl,hb3⟩
 have HB3:=zh (HB2.out.trans (hb3.mono HB2.out.size))
 have ha3:=HA2.out.below hb3 HA2.out.lt
 obtain⟨p0,p1,p2⟩:=ha3.c3
 clear hb3 ha3 q0 q1 q2
 cases hm:Own.Co s.members with
 | false =>
   have e:R=false:=by rw[HR.out,hm];simp
   have HE:=zh e;clear e
   go_wp2_with fail
   go_ret
   exact⟨by rw[HE.out];rfl,HB3.out⟩
 | true=>
 have e:R=(decide (1<=s.threshold)&&decide (s.threshold<=s.members.length)):=by rw[HR.out,hp,hm];simp
 have HE:=zh e;clear e
 by_cases h1:1<=s.threshold
 ·have d1:decide (1<=s.threshold)=true:=decide_eq_true h1
  have e:R=decide (s.threshold<=s.members.length):=by rw[HE.out,d1];rfl
  have HE2:=zh e;clear e
  go_wp2_with fail
  go_ret
  exact⟨by rw[HE2.out];rfl,HB3.out⟩
 ·have d1:decide (1<=s.threshold)=false:=decide_eq_false h1
  have e:R=false:=by rw[HE.out,d1];rfl
  have HE2:=zh e;clear e
  go_wp2_with fail
  go_ret
  exact⟨by rw[HE2.out];rfl,HB3.out⟩
namespace Own
theorem JM {α : Type}(ok : α -> Bool)(lt : α -> α -> Bool):∀ (p:Option α) (a b:List α),Ar ok lt p (a++b)=(Ar ok lt p a&&Ar ok lt (match a.getLast? with|none=>p|some x=>some x) b)
 | p,[],b=>by simp[Ar]
 | p,x :: a,b => by
   have ih:=JM ok lt (some x) a b
   show(ok x&&(match p with|none=>true|some y=>lt y x)&&Ar ok lt (some x) (a++b))=((ok x&&(match p with|none=>true|some y=>lt y x)&&Ar ok lt (some x) a)&&_)
   rw[ih,Bool.and_assoc,Bool.and_assoc,Bool.and_assoc]
   congr 3
   cases a with
   | nil=>rfl
   | cons y a => rw [List.getLast?_cons_cons];cases h : (y :: a).getLast? with
     | none=>simp at h
     | some z=>rfl
def ahead {α : Type}(lt : α -> α -> Bool)(p:Option α)(x : α):Bool:=match p with
 | none=>true
 | some y=>lt y x
theorem RI {α : Type}(ok : α -> Bool)(lt : α -> α -> Bool)(l:List α)(k:Nat)(hk:k<l.length):
 Ar ok lt none l=(Ar ok lt none (l.take k)&&((ok l[k]&&ahead lt (l.take k).getLast? l[k])&&Ar ok lt (some l[k]) (l.drop (k+1)))):=by
 have e:l=l.take k++l[k]::l.drop (k+1):=by rw[<- List.drop_eq_getElem_cons hk,List.take_append_drop]
 conv=>lhs;rw[e]
 rw[JM]
 congr 1
 cases (l.take k).getLast? <;> rfl
theorem Ni {α : Type}(ok : α -> Bool)(lt : α -> α -> Bool)(l:List α)(k:Nat)(hk:k<l.length):
 Ar ok lt none (l.take (k+1))=(Ar ok lt none (l.take k)&&(ok l[k]&&ahead lt (l.take k).getLast? l[k])):=by
 rw[List.take_succ_eq_append_getElem hk,JM]
 congr 1
 cases (l.take k).getLast? <;> simp[Ar,ahead]
end Own
theorem JN (o:Own.Ao)(sv kv:Value)(w:World)(hM:Il w)(hS:Own.BF w sv o.spaces)(hK:Own.Du w kv o.keys)(hls:o.spaces.length<=140737488355328)(hlk:o.keys.length<=140737488355328)(hlm:∀ s∈o.spaces,s.members.length<=140737488355328):
 Calls Tryz.prog 20 #[.agg #[.int .i64 o.count,sv,kv]] w fun e w' => e=.returned (.bool (Own.Bv o))/\Below w.heap.size w w':=by
 obtain⟨R,hR⟩:∃ R,R=Own.Bv o:=⟨_,rfl⟩
 rw[<- hR]
 unfold Own.Bv Own.late at hR
 obtain⟨sa,sc,rfl⟩:=hS.len
 obtain⟨ka,kc,rfl⟩:=hK.len
 obtain⟨cnt,S,K⟩:=o
 dsimp only at*
 have ha:=At.new w 25 #[.int .i64 cnt,.slice sa S.length sc,.slice ka K.length kc]
 have hb1:Below w.heap.size w (w.alloc (.cells #[.int .i64 cnt,.slice sa S.length sc,.slice ka K.length kc] 25)):=zb
 have HR:=zh hR;have HS:=zh (hS.below hb1);have HK:=zh (hK.below hb1);have HM:=zh (hM.below hb1);have HB:=zh hb1;have HA:=zh ha;have HLM:=zh hlm
 have c0:=ha.cell 0;have c1:=ha.cell 1;have c2:=ha.cell 2
 simp only[zg] at c0 c1 c2
 clear hR hS hK hM ha hb1 hlm
 go_enter Tryz.func20,Tryz.ntmps20
 by_cases h1:0<=cnt
 case neg=>
  have d1:decide (cnt<0)=true:=zt
  have e:R=false:=by rw[HR.out,decide_eq_false h1];rfl
  have HE:=zh e;clear e
  go_wp2_with fail
  go_ret
  exact⟨by rw[HE.out];rfl,HB.out⟩
 have d1:decide (cnt<0)=false:=zf
 by_cases h2:cnt<=1099511627776
 case neg=>
  have d2:decide (1099511627776<cnt)=true:=zt
  have e:R=false:=by rw[HR.out,decide_eq_false h2];simp
  have HE:=zh e;clear e
  go_wp2_with fail
  go_ret
  exact⟨by rw[HE.out];rfl,HB.out⟩
 have d2:decide (1099511627776<cnt)=false:=zf
 by_cases h3:S.length<=64
 case neg=>
  have d3:decide ((64:Int)<S.length)=true:=zt
  have e:R=false:=by rw[HR.out,decide_eq_false h3];simp
  have HE:=zh e;clear e
  go_wp2_with fail
  go_ret
  exact⟨by rw[HE.out];rfl,HB.out⟩
 have d3:decide ((64:Int)<S.length)=false:=zf
 have e:R=(Own.Ar Own.AX (fun x y=>Own.Aj x.pre y.pre) none S&&Own.Ar Own.Df (fun x y=>Own.Aj x.pub y.pub) none K):=by
  rw[HR.out,decide_eq_true h1,decide_eq_true h2,decide_eq_true h3];simp
 have HR2:=zh e;clear e HR
 go_wp2_with fail
 generalize w.alloc (.cells #[.int .i64 cnt,.slice sa S.length sc,.slice ka K.length kc] 25)=w1 at*
 clear d1 d2 d3 h1 h2
 go_loopw [24] (fun i wr=>∃ k:Nat,k<=S.length/\i=.int .i64 k/\Own.Ar Own.AX (fun x y=>Own.Aj x.pre y.pre) none (S.take k)=true/\Below w1.heap.size w1 wr) (fun i _=>S.length-(intOf i).toNat)
 case atStart=>exact⟨0,by omega,rfl,rfl,Below.refl _ _⟩
 case round=>
  obtain⟨k,hk,rfl,hok,hb⟩:=hrel
  have HOK:=zh hok;have HBW:=zh hb
  have hz1:=HA.out.lt
  have hbs:=hb.size
  have ha2:=HA.out.below hb hz1
  obtain⟨c0,c1,c2⟩:=ha2.c3
  clear ha2
  by_cases hlt:k<S.length
  case neg=>
   have hke:k=S.length:=by omega
   have dk:decide ((k:Int)<S.length)=false:=zf
   have e:R=Own.Ar Own.Df (fun x y=>Own.Aj x.pub y.pub) none K:=by
    rw[HR2.out]
    rw[hke,List.take_length] at hok
    rw[hok,Bool.true_and]
   have HR3:=zh e
   have HKW:=zh (HK.out.below hb)
   have HB2:=zh (HB.out.trans (hb.mono HB.out.size))
   have HA2:=zh (HA.out.below hb hz1)
   clear e hok hke hb HR2 HK HB HA HOK HBW HS HM
   go_wp2_with fail
   have hzw:w.heap.size<wr.heap.size:=by omega
   clear dk
   obtain⟨w5,hw5⟩:∃ w5,w5=wr:=⟨_,rfl⟩
   subst hw5
   go_loopw [52] (fun i wr=>∃ j:Nat,j<=K.length/\i=.int .i64 j/\Own.Ar Own.Df (fun x y=>Own.Aj x.pub y.pub) none (K.take j)=true/\Below w5.heap.size w5 wr) (fun i _=>K.length-(intOf i).toNat)
   case atStart=>exact⟨0,by omega,rfl,rfl,Below.refl _ _⟩
   case round=>
    obtain⟨j,hj,rfl,hok,hb⟩:=hrel
    have HBX:=zh hb
    have ha2:=HA2.out.below hb hzw
    obtain⟨c0,c1,c2⟩:=ha2.c3
    clear ha2
    by_cases hlt:j<K.length
    case neg=>
     have hje:j=K.length:=by omega
     have dk:decide ((j:Int)<K.length)=false:=zf
     have e:R=true:=by rw[HR3.out,<- hok,hje,List.take_length]
     have HE:=zh e;clear e hok hb hje
     go_wp2_with fail
     go_ret
     exact⟨by rw[HE.out];rfl,HB2.out.trans (HBX.out.mono HB2.out.size)⟩
    have dk:decide ((j:Int)<K.length)=true:=zt
    have hra:R=((Own.Df K[j]&&Own.ahead (fun x y=>Own.Aj x.pub y.pub) (K.take j).getLast? K[j])&&Own.Ar Own.Df (fun x y=>Own.Aj x.pub y.pub) (some K[j]) (K.drop (j+1))):=by rw[HR3.out,Own.RI _ _ K j hlt,hok,Bool.true_and]
    have htk:Own.Ar Own.Df (fun x y=>Own.Aj x.pub y.pub) none (K.take (j+1))=(Own.Df K[j]&&Own.ahead (fun x y=>Own.Aj x.pub y.pub) (K.take j).getLast? K[j]):=by rw[Own.Ni _ _ K j hlt,hok,Bool.true_and]
    have hlk:=HKW.out.below hb
    obtain⟨b,o,ha,hbl,e0,e1⟩:=Own.Du.cells hlk hlt
    have JL:∀ i,j=i+1->∃ x:Own.KeyUse,wr.cell? ⟨b,o+i*2,none⟩=some (.string x.pub)/\(K.take j).getLast? = some x:=by
     intro i hi
     obtain⟨b',o',ha',_,e0,_⟩:=Own.Du.cells hlk (i:=i) (by omega)
     rw[ha] at ha'
     cases ha'
     have hg:=Own.getLast_take K i (by omega)
     rw[<- hi] at hg
     exact⟨_,e0,hg⟩
    subst ha
    obtain⟨ku,hku⟩:∃ x,x=K[j]:=⟨_,rfl⟩
    rw[<- hku] at hra htk e0 e1
    obtain⟨rest,hrest⟩:∃ x,x=Own.Ar Own.Df (fun x y=>Own.Aj x.pub y.pub) (some ku) (K.drop (j+1)):=⟨_,rfl⟩
    rw[<- hrest] at hra
    obtain⟨pb,nx⟩:=ku
    have hkk:Own.Df ⟨pb,nx⟩=(Sig.Bn pb&&decide (0<=nx)&&decide (nx<=2^(pb.get! 32).toNat)):=rfl
    rw[hkk] at hra htk
    dsimp only at hra htk e0 e1
    have hb5:Below w5.heap.size w5 (wr.alloc (.cells #[.string pb,.int .i64 nx] 59)).drew:=(hb.alloc hb.size _).drew
    have ha5:=((HA2.out.below hb hzw).alloc (.cells #[.string pb,.int .i64 nx] 59)).drew
    have b2:=ha5.cell 2
    simp only[zg] at b2
    have RH:=zh JL;have HB5:=zh hb5
    clear hok hb hlk JL hb5 ha5 hrest hku hkk HKW
    cases hp:Sig.Bn pb with
    | false =>
      have e:R=false:=by rw[hra,hp];rfl
      have HE:=zh e;clear e hra htk
      go_wp2_with fail
      refine Lex.zl ?_
      go_wp2_with fail
      refine(Bz pb _).mono ?_
      rintro e2 w2 ⟨rfl,rfl⟩
      rw[hp]
      go_wp2_with fail
      refine Lex.ze ?_
      go_wp2_with fail
      go_ret
      exact⟨by rw[HE.out];rfl,HB2.out.trans (HB5.out.mono HB2.out.size)⟩
    | true=>
    rw[hp,Bool.true_and] at hra htk
    have h33:pb.size=33:=of_decide_eq_true (Bool.and_eq_true_iff.1 hp).1
    have h6:(pb.get! 32).toNat<=6:=of_decide_eq_true (Bool.and_eq_true_iff.1 hp).2
    have h32:32<pb.size:=by omega
    have hg:pb.get! 32=pb[32]:=getElem!_pos pb.data 32 h32
    rw[hg] at h6 hra htk
    obtain⟨N,hN⟩:∃ N:Nat,N=2^pb[32].toNat:=⟨_,rfl⟩
    have zah:N<=64:=by
     rw[hN]
     exact Nat.le_trans (Nat.pow_le_pow_right (by omega) h6) (by decide)
    have hNN:((2:Int)^pb[32].toNat)=(N:Int):=by rw[hN];exact(Int.natCast_pow 2 _).symm
    have hsh:wrap64 ((2:Int)^pb[32].toNat)=(N:Int):=by
     rw[hNN]
     unfold wrap64
     omega
    rw[hNN] at hra htk
    have H33:=zh h33;have HHP:=zh hp;have HSH:=zh hsh
    clear hN hNN hg h33 hp hsh
    have dsz:((pb.size:Int)==33)=true:=by rw[beq_iff_eq];have:=H33.out;omega
    by_cases n1:0<=nx
    case neg=>
     have dn1:decide (nx<0)=true:=zt
     have e:R=false:=by rw[hra,decide_eq_false n1];rfl
     have HE:=zh e;clear e hra htk
     go_wp2_with fail
     refine Lex.zl ?_
     go_wp2_with fail
     refine(Bz pb _).mono ?_
     rintro e2 w2 ⟨rfl,rfl⟩
     rw[HHP.out]
     go_wp2_with (rw[HSH.out])
     refine Lex.ze ?_
     go_wp2_with fail
     go_ret
     exact⟨by rw[HE.out];rfl,HB2.out.trans (HB5.out.mono HB2.out.size)⟩
    have dn1:decide (nx<0)=false:=zf
    rw[decide_eq_true n1,Bool.true_and] at hra htk
    by_cases n2:nx<=(N:Int)
    case neg=>
     have dn2:decide ((N:Int)<nx)=true:=zt
     have e:R=false:=by rw[hra,decide_eq_false n2];rfl
     have HE:=zh e;clear e hra htk n1 n2
     go_wp2_with fail
     refine Lex.zl ?_
     go_wp2_with fail
     refine(Bz pb _).mono ?_
     rintro e2 w2 ⟨rfl,rfl⟩
     rw[HHP.out]
     go_wp2_with (rw[HSH.out])
     refine Lex.ze ?_
     go_wp2_with fail
     go_ret
     exact⟨by rw[HE.out];rfl,HB2.out.trans (HB5.out.mono HB2.out.size)⟩
    have dn2:decide ((N:Int)<nx)=false:=zf
    rw[decide_eq_true n2,Bool.true_and] at hra htk
    rcases Nat.eq_zero_or_pos j with hj0|hjp
    ·have hl0:(K.take j).getLast? = none:=by rw[hj0];rfl
     rw[hl0] at htk
     have HT:=zh htk
     have HJ0:=zh hj0
     have dz:decide ((0:Int)<(j:Int))=false:=zf
     have dz' : decide (0<j)=false:=zf
     clear hl0 hra htk hj0
     go_wp2_with fail
     refine Lex.zl ?_
     go_wp2_with fail
     refine(Bz pb _).mono ?_
     rintro e2 w2 ⟨rfl,rfl⟩
     rw[HHP.out]
     go_wp2_with (rw[HSH.out])
     refine Lex.ze ?_
     go_wp2_with fail
     go_round
     case measure=>simp[intOf];omega
     case rel=>exact⟨j+1,by omega,by go_num,HT.out,HB5.out⟩
    ·obtain⟨i,hi⟩:∃ i,j=i+1:=⟨j-1,by omega⟩
     obtain⟨x,f0,hx⟩:=RH.out i hi
     rw[hx] at hra htk
     have Ol:R=(Own.Aj x.pub pb&&rest):=hra
     have Nh:Own.Ar Own.Df (fun x y=>Own.Aj x.pub y.pub) none (K.take (j+1))=Own.Aj x.pub pb:=htk
     unfold Own.Aj at Ol
     have dz:decide ((0:Int)<(j:Int))=true:=zt
     have dz' : decide (0<j)=true:=zt
     have ek:(j:Int)-1=(i:Int):=by omega
     have hjl:i<K.length:=by omega
     have f1:(wr.alloc (.cells #[.string pb,.int .i64 nx] 59)).cell? ⟨b,o+i*2,none⟩=some (.string x.pub):=(((Below.refl wr.heap.size wr).alloc (Nat.le_refl _) _).cell (p:=⟨b,o+i*2,none⟩) hbl).trans f0
     cases hlb:Op.bytesLess x.pub.toList pb.toList with
     | false =>
       have e:R=false:=by rw[Ol,hlb];rfl
       have HE:=zh e;clear e hra htk Ol Nh hx f0 hi
       go_wp2_with fail
       refine Lex.zl ?_
       go_wp2_with fail
       refine(Bz pb _).mono ?_
       rintro e2 w2 ⟨rfl,rfl⟩
       rw[HHP.out]
       go_wp2_with (rw[HSH.out])
       refine Lex.ze ?_
       go_wp2_with fail
       go_ret
       exact⟨by rw[HE.out];rfl,HB2.out.trans (HB5.out.mono HB2.out.size)⟩
     | true =>
       have xu:Own.Ar Own.Df (fun x y=>Own.Aj x.pub y.pub) none (K.take (j+1))=true:=by rw[Nh];exact hlb
       have HT:=zh xu
       clear hra htk Ol Nh xu hx f0 hi
       go_wp2_with fail
       refine Lex.zl ?_
       go_wp2_with fail
       refine(Bz pb _).mono ?_
       rintro e2 w2 ⟨rfl,rfl⟩
       rw[HHP.out]
       go_wp2_with (rw[HSH.out])
       refine Lex.ze ?_
       go_wp2_with fail
       go_round
       case measure=>simp[intOf];omega
       case rel=>exact⟨j+1,by omega,by go_num,HT.out,HB5.out⟩
  have dk:decide ((k:Int)<S.length)=true:=zt
  have hra:R=(((Own.AX S[k]&&Own.ahead (fun x y=>Own.Aj x.pre y.pre) (S.take k).getLast? S[k])&&Own.Ar Own.AX (fun x y=>Own.Aj x.pre y.pre) (some S[k]) (S.drop (k+1)))&&Own.Ar Own.Df (fun x y=>Own.Aj x.pub y.pub) none K):=by rw[HR2.out,Own.RI _ _ S k hlt,hok,Bool.true_and]
  have htk:Own.Ar Own.AX (fun x y=>Own.Aj x.pre y.pre) none (S.take (k+1))=(Own.AX S[k]&&Own.ahead (fun x y=>Own.Aj x.pre y.pre) (S.take k).getLast? S[k]):=by rw[Own.Ni _ _ S k hlt,hok,Bool.true_and]
  have hlk:=HS.out.below hb
  obtain⟨b,o,mv,ha,hbl,e0,e1,e2,hmv⟩:=Own.BF.cells hlk hlt
  have JL:∀ i,k=i+1->∃ x:Own.Space,wr.cell? ⟨b,o+i*3,none⟩=some (.string x.pre)/\(S.take k).getLast? = some x:=by
   intro i hi
   obtain⟨b',o',_,ha',_,e0,_⟩:=Own.BF.cells hlk (i:=i) (by omega)
   rw[ha] at ha'
   cases ha'
   have hg:=Own.getLast_take S i (by omega)
   rw[<- hi] at hg
   exact⟨_,e0,hg⟩
  subst ha
  have hml:=HLM.out S[k] (List.getElem_mem hlt)
  obtain⟨sp,hsp⟩:∃ x,x=S[k]:=⟨_,rfl⟩
  rw[<- hsp] at hra htk e0 e2 hmv hml
  obtain⟨rest,hrest⟩:∃ x,x=(Own.Ar Own.AX (fun x y=>Own.Aj x.pre y.pre) (some sp) (S.drop (k+1))&&Own.Ar Own.Df (fun x y=>Own.Aj x.pub y.pub) none K):=⟨_,rfl⟩
  rw[Bool.and_assoc,<- hrest] at hra
  obtain⟨ma,mc,rfl⟩:=hmv.len
  have hb5:Below w1.heap.size w1 (wr.alloc (.cells #[.string sp.pre,.slice ma sp.members.length mc,.int .i64 sp.threshold] 39)).drew:=(hb.alloc hb.size _).drew
  have RJ:Below wr.heap.size wr (wr.alloc (.cells #[.string sp.pre,.slice ma sp.members.length mc,.int .i64 sp.threshold] 39)).drew:=zb.drew
  have hn5:=(At.new wr 39 #[.string sp.pre,.slice ma sp.members.length mc,.int .i64 sp.threshold]).drew
  have hz5:(wr.alloc (.cells #[.string sp.pre,.slice ma sp.members.length mc,.int .i64 sp.threshold] 39)).drew.heap.size=wr.heap.size+1:=World.size_alloc _ _
  have iQ:=Wv (.slice ma sp.members.length mc) sp _ ((HM.out.below hb).below RJ) (hmv.below RJ) hml
  have oP:=zh iQ;have RH:=zh JL;have HB5:=zh hb5;have iR:=zh RJ;have HN5:=zh hn5;have HZ5:=zh hz5
  clear hok hb hlk JL hb5 RJ hn5 iQ hrest hsp hmv hz5
  cases hs:Own.AX sp with
  | false =>
    have e:R=false:=by rw[hra,hs];rfl
    have HE:=zh e;clear e hra htk
    go_wp2_with fail
    refine Lex.zl ?_
    go_wp2_with fail
    refine oP.out.mono ?_
    rintro e2 w7 ⟨rfl,hb7⟩
    rw[hs]
    have HB7:=zh (HB.out.trans ((HB5.out.trans (hb7.mono HB5.out.size)).mono HB.out.size));clear hb7
    go_wp2_with fail
    refine Lex.ze ?_
    go_wp2_with fail
    go_ret
    exact⟨by rw[HE.out];rfl,HB7.out⟩
  | true=>
  rw[hs,Bool.true_and] at hra htk
  have HHS:=zh hs;clear hs
  rcases Nat.eq_zero_or_pos k with hk0|hkp
  ·have hl0:(S.take k).getLast? = none:=by rw[hk0];rfl
   rw[hl0] at htk
   have x9 : Own.Ar Own.AX (fun x y=>Own.Aj x.pre y.pre) none (S.take (k+1))=true:=htk
   have HT:=zh x9
   have HK0:=zh hk0
   have dz:decide ((0:Int)<(k:Int))=false:=zf
   have dz' : decide (0<k)=false:=zf
   clear hl0 hra htk x9 hk0
   go_wp2_with fail
   refine Lex.zl ?_
   go_wp2_with fail
   refine oP.out.mono ?_
   rintro e3 w7 ⟨rfl,hb7⟩
   rw[HHS.out]
   have RN:=HB5.out.trans (hb7.mono HB5.out.size)
   have g1:=((HA.out.below RN hz1)).cell 1
   have g0:=(HN5.out.below hb7 HN5.out.lt).cell 0
   simp only[zg] at g0 g1
   try have f1:=((iR.out.trans (hb7.mono iR.out.size)).cell (p:=⟨b,o+i*3,none⟩) hbl).trans F0.out
   have HB7:=zh RN;clear hb7 RN
   go_wp2_with fail
   refine Lex.ze ?_
   go_wp2_with fail
   go_round
   case measure=>simp[intOf];omega
   case rel=>exact⟨k+1,by omega,by go_num,HT.out,HB7.out⟩
  ·obtain⟨i,hi⟩:∃ i,k=i+1:=⟨k-1,by omega⟩
   obtain⟨x,f0,hx⟩:=RH.out i hi
   rw[hx] at hra htk
   have Ol:R=(Own.Aj x.pre sp.pre&&rest):=hra
   have Nh:Own.Ar Own.AX (fun x y=>Own.Aj x.pre y.pre) none (S.take (k+1))=Own.Aj x.pre sp.pre:=htk
   have dz:decide ((0:Int)<(k:Int))=true:=zt
   have dz' : decide (0<k)=true:=zt
   have ek:(k:Int)-1=(i:Int):=by omega
   have hjl:i<S.length:=by omega
   have F0:=zh f0
   cases hlb:Own.Aj x.pre sp.pre with
   | false =>
     have e:R=false:=by rw[Ol,hlb];rfl
     have HE:=zh e
     have zay : Op.bytesLess x.pre.toList sp.pre.toList=false:=hlb
     clear e hra htk Ol Nh hx f0 hi hlb
     go_wp2_with fail
     refine Lex.zl ?_
     go_wp2_with fail
     refine oP.out.mono ?_
     rintro e3 w7 ⟨rfl,hb7⟩
     rw[HHS.out]
     have RN:=HB5.out.trans (hb7.mono HB5.out.size)
     have g1:=((HA.out.below RN hz1)).cell 1
     have g0:=(HN5.out.below hb7 HN5.out.lt).cell 0
     simp only[zg] at g0 g1
     try have f1:=((iR.out.trans (hb7.mono iR.out.size)).cell (p:=⟨b,o+i*3,none⟩) hbl).trans F0.out
     have HB7:=zh RN;clear hb7 RN
     go_wp2_with fail
     refine Lex.ze ?_
     go_wp2_with fail
     go_ret
     exact⟨by rw[HE.out];rfl,HB.out.trans (HB7.out.mono HB.out.size)⟩
   | true =>
     rw[hlb] at Nh
     have HT:=zh Nh
     have zay : Op.bytesLess x.pre.toList sp.pre.toList=true:=hlb
     clear hra htk Ol Nh hx f0 hi hlb
     go_wp2_with fail
     refine Lex.zl ?_
     go_wp2_with fail
     refine oP.out.mono ?_
     rintro e3 w7 ⟨rfl,hb7⟩
     rw[HHS.out]
     have RN:=HB5.out.trans (hb7.mono HB5.out.size)
     have g1:=((HA.out.below RN hz1)).cell 1
     have g0:=(HN5.out.below hb7 HN5.out.lt).cell 0
     simp only[zg] at g0 g1
     try have f1:=((iR.out.trans (hb7.mono iR.out.size)).cell (p:=⟨b,o+i*3,none⟩) hbl).trans F0.out
     have HB7:=zh RN;clear hb7 RN
     go_wp2_with fail
     refine Lex.ze ?_
     go_wp2_with fail
     go_round
     case measure=>simp[intOf];omega
     case rel=>exact⟨k+1,by omega,by go_num,HT.out,HB7.out⟩
namespace Own
def Cy (m:Member):List Value:=[.string m.name,.string m.pub]
def Dw (k:KeyUse):List Value:=[.string k.pub,.int .i64 k.next]
end Own
theorem Nj {α : Type}{enc : α -> List Value} : ∀ {css:List (List Value)} {l:List α},css.length=l.length->(∀ i (hi:i<l.length) (hi' : i<css.length),css[i]=enc l[i])->css.flatten=l.flatMap enc
 | [],[],_,_=>rfl
 | c :: css,x :: l,hl,h => by
   have h0:c=enc x:=h 0 (by simp) (by simp)
   rw[List.flatten_cons,List.flatMap_cons,h0,Nj (by simpa using hl) (fun i hi hi' => h (i+1) (by simp;omega) (by simp;omega))]
 | [],_::_,hl,_=>by simp at hl
 | _::_,[],hl,_=>by simp at hl
section
variable {w w' : World} {v:Value} {F:Nat->Prop}
theorem UW {α : Type}{size:Nat}{R:Elem α}{enc : α -> List Value}(hR:∀ cs x,R F w cs x->cs=enc x){l:List α}(h:Aq size R F w v l):Bc w v size l.length (l.flatMap enc):=by
 obtain⟨css,h1,h2,h3⟩:=h.cells
 have:css.flatten=l.flatMap enc:=Nj h1 (fun i hi hi' => hR _ _ (h2 i hi hi').2)
 rw[<- this]
 exact h3
theorem Cq {α : Type}{size n:Nat}{R:Elem α}{enc : α -> List Value}(hR:∀ x,R F w (enc x) x)(hs:∀ x,(enc x).length=size){l:List α}(h:Bc w v size n (l.flatMap enc))(hn:n=l.length)(hF:∀ k,v.ownBlock=some k->F k):Aq size R F w v l:=by
 refine Aq.Qk (css:=l.map enc) (by rw[<- List.flatMap_def];exact h) hn (by simp) hF (fun i hi hi' => ?_)
 rw[List.getElem_map]
 exact⟨hs _,hR _⟩
end
namespace Own
theorem Af.rows {w:World}{v:Value}{l:List Member}(h:Af w v l):Bc w v 2 l.length (l.flatMap Cy):=UW (fun _ _ h=>h) h
theorem Du.rows {w:World}{v:Value}{l:List KeyUse}(h:Du w v l):Bc w v 2 l.length (l.flatMap Dw):=UW (fun _ _ h=>h) h
theorem Af.of {w:World}{v:Value}{n:Nat}{l:List Member}(h:Bc w v 2 n (l.flatMap Cy))(hn:n=l.length):Af w v l:=Cq (enc:=Cy) (fun _=>rfl) (fun _=>rfl) h hn (fun _ _=>trivial)
theorem Du.of {w:World}{v:Value}{n:Nat}{l:List KeyUse}(h:Bc w v 2 n (l.flatMap Dw))(hn:n=l.length):Du w v l:=Cq (enc:=Dw) (fun _=>rfl) (fun _=>rfl) h hn (fun _ _=>trivial)
theorem xA (l:List Member):∀ u∈l.flatMap Cy,u.oneCell' = true:=by
 intro u hu
 obtain⟨x,_,hx⟩:=List.mem_flatMap.1 hu
 unfold Cy at hx
 simp at hx
 rcases hx with rfl|rfl<;>rfl
theorem qV (l:List KeyUse):∀ u∈l.flatMap Dw,u.oneCell' = true:=by
 intro u hu
 obtain⟨x,_,hx⟩:=List.mem_flatMap.1 hu
 unfold Dw at hx
 simp at hx
 rcases hx with rfl|rfl<;>rfl
end Own
theorem JO:Nonempty (Fu Tryz.prog 26 76 2 32):=Ec (z:=.agg #[.string ⟨#[]⟩,.string ⟨#[]⟩]) Tryz.underlying26 (by kernel_rfl) rfl (by omega)
theorem JQ:Nonempty (Fu Tryz.prog 23 59 2 24):=Ec (z:=.agg #[.string ⟨#[]⟩,.int .i64 0]) Tryz.underlying23 (by kernel_rfl) rfl (by omega)
theorem DW:Nonempty (Fu Tryz.prog 22 39 3 48):=Ec (z:=.agg #[.string ⟨#[]⟩,.slice none 0 0,.int .i64 0]) Tryz.underlying22 (by kernel_rfl) rfl (by omega)
theorem TL (v:Value)(n:Nat)(xs:List Value)(w:World)(h:Bc w v 2 n xs)(h1:∀ u∈xs,u.oneCell' = true)(hn:n<=3000000):
 Calls Tryz.prog 124 #[v] w fun e w' => ∃ v',e=.returned v' /\ w'.ownsRow w.heap.size 76 2 v' n xs/\Below w.heap.size w w':=by
 obtain⟨a,c,rfl⟩:=h.len
 have H:=zh h;have H1:=zh h1;clear h h1
 have q22:∀ (w:World) (a:Option Addr) (n c n' c' : Nat),(binOp .eql 26 (.slice a n c) (.slice none n' c')).run Tryz.prog w=.ok (.bool a.isNone) w:=fun w a n c n' c' => Lib.run_eql_slice_nil w _ _ a n c n' c' Tryz.underlying26
 go_enter Tryz.func124,Tryz.ntmps124
 cases a with
 | none =>
   have h0:n=0/\xs=[]:=by
    obtain⟨hl,a',c',he,h0|⟨b,o,hb,_⟩⟩:=H.out
    ·subst h0
     exact⟨rfl,List.eq_nil_of_length_eq_zero (by simpa using hl)⟩
    ·cases he;cases hb
   obtain⟨rfl,rfl⟩:=h0
   go_wp2_with fail
   go_ret
   exact⟨_,rfl,⟨rfl,.inl ⟨rfl,rfl⟩⟩,Below.refl _ _⟩
 | some p =>
   have hb1:Below w.heap.size w (w.alloc (.cells #[] 76)):=zb
   have HO:=zh (Mr w 76 2 w.heap.size (Nat.le_refl _));have H2:=zh (H.out.below hb1);have HB1:=zh hb1
   clear hb1
   go_wp2_with (at_builtin;go_must (refine Ah JO rfl _ _ rfl w.heap.size 0 _ [] rfl HO.out (.slice (some p) n c) n xs rfl H2.out H1.out (by omega) (by omega) HB1.out.size ?_);intro v5 w5 ho5 hg5 _;obtain⟨va,vm,vc,rfl⟩:=Ac ho5;have HB5:=zh (Bh HB1.out HB1.out.size HO.out hg5);rw[Nat.zero_add,List.nil_append] at ho5;have HO5:=zh ho5;clear ho5 hg5)
   go_ret
   exact⟨_,rfl,HO5.out,HB5.out⟩
theorem aT (v:Value)(n:Nat)(xs:List Value)(w:World)(h:Bc w v 2 n xs)(h1:∀ u∈xs,u.oneCell' = true)(hn:n<=3000000):
 Calls Tryz.prog 106 #[v] w fun e w' => ∃ v',e=.returned v' /\ w'.ownsRow w.heap.size 59 2 v' n xs/\Below w.heap.size w w':=by
 obtain⟨a,c,rfl⟩:=h.len
 have H:=zh h;have H1:=zh h1;clear h h1
 have q22:∀ (w:World) (a:Option Addr) (n c n' c' : Nat),(binOp .eql 23 (.slice a n c) (.slice none n' c')).run Tryz.prog w=.ok (.bool a.isNone) w:=fun w a n c n' c' => Lib.run_eql_slice_nil w _ _ a n c n' c' Tryz.underlying23
 go_enter Tryz.func106,Tryz.ntmps106
 cases a with
 | none =>
   have h0:n=0/\xs=[]:=by
    obtain⟨hl,a',c',he,h0|⟨b,o,hb,_⟩⟩:=H.out
    ·subst h0
     exact⟨rfl,List.eq_nil_of_length_eq_zero (by simpa using hl)⟩
    ·cases he;cases hb
   obtain⟨rfl,rfl⟩:=h0
   go_wp2_with fail
   go_ret
   exact⟨_,rfl,⟨rfl,.inl ⟨rfl,rfl⟩⟩,Below.refl _ _⟩
 | some p =>
   have hb1:Below w.heap.size w (w.alloc (.cells #[] 59)):=zb
   have HO:=zh (Mr w 59 2 w.heap.size (Nat.le_refl _));have H2:=zh (H.out.below hb1);have HB1:=zh hb1
   clear hb1
   go_wp2_with (at_builtin;go_must (refine Ah JQ rfl _ _ rfl w.heap.size 0 _ [] rfl HO.out (.slice (some p) n c) n xs rfl H2.out H1.out (by omega) (by omega) HB1.out.size ?_);intro v5 w5 ho5 hg5 _;obtain⟨va,vm,vc,rfl⟩:=Ac ho5;have HB5:=zh (Bh HB1.out HB1.out.size HO.out hg5);rw[Nat.zero_add,List.nil_append] at ho5;have HO5:=zh ho5;clear ho5 hg5)
   go_ret
   exact⟨_,rfl,HO5.out,HB5.out⟩
theorem Ww (v:Value)(n:Nat)(xs:List Value)(w:World)(h:Bc w v 3 n xs)(h1:∀ u∈xs,u.oneCell' = true)(hn:n<=3000000):
 Calls Tryz.prog 105 #[v] w fun e w' => ∃ v',e=.returned v' /\ w'.ownsRow w.heap.size 39 3 v' n xs/\Below w.heap.size w w':=by
 obtain⟨a,c,rfl⟩:=h.len
 have H:=zh h;have H1:=zh h1;clear h h1
 have q22:∀ (w:World) (a:Option Addr) (n c n' c' : Nat),(binOp .eql 22 (.slice a n c) (.slice none n' c')).run Tryz.prog w=.ok (.bool a.isNone) w:=fun w a n c n' c' => Lib.run_eql_slice_nil w _ _ a n c n' c' Tryz.underlying22
 go_enter Tryz.func105,Tryz.ntmps105
 cases a with
 | none =>
   have h0:n=0/\xs=[]:=by
    obtain⟨hl,a',c',he,h0|⟨b,o,hb,_⟩⟩:=H.out
    ·subst h0
     exact⟨rfl,List.eq_nil_of_length_eq_zero (by simpa using hl)⟩
    ·cases he;cases hb
   obtain⟨rfl,rfl⟩:=h0
   go_wp2_with fail
   go_ret
   exact⟨_,rfl,⟨rfl,.inl ⟨rfl,rfl⟩⟩,Below.refl _ _⟩
 | some p =>
   have hb1:Below w.heap.size w (w.alloc (.cells #[] 39)):=zb
   have HO:=zh (Mr w 39 3 w.heap.size (Nat.le_refl _));have H2:=zh (H.out.below hb1);have HB1:=zh hb1
   clear hb1
   go_wp2_with (at_builtin;go_must (refine Ah DW rfl _ _ rfl w.heap.size 0 _ [] rfl HO.out (.slice (some p) n c) n xs rfl H2.out H1.out (by omega) (by omega) HB1.out.size ?_);intro v5 w5 ho5 hg5 _;obtain⟨va,vm,vc,rfl⟩:=Ac ho5;have HB5:=zh (Bh HB1.out HB1.out.size HO.out hg5);rw[Nat.zero_add,List.nil_append] at ho5;have HO5:=zh ho5;clear ho5 hg5)
   go_ret
   exact⟨_,rfl,HO5.out,HB5.out⟩
end
section
open Go Go.RowKit Go.Maps
namespace Own
def longer (b:Option Space)(x:Space):Bool:=match b with
 | none=>true
 | some y=>decide (y.pre.size<x.pre.size)
def RU (s:ByteArray)(b:Option Space)(x:Space):Option Space:=if belongs s x.pre&&longer b x then some x else b
theorem LQ (s:ByteArray)(b:Option Space)(x:Space)(l:List Space):CB s b (x::l)=CB s (RU s b x) l:=by
 cases b<;>rfl
theorem RX (s:ByteArray)(x:Space):∀ (l:List Space) (b:Option Space),CB s b (l++[x])=RU s (CB s b l) x
 | [],b=>by rw[List.nil_append,LQ];rfl
 | y::l,b=>by rw[List.cons_append,LQ,RX s x l,LQ]
theorem aU (s:ByteArray)(l:List Space)(k:Nat)(hk:k<l.length):CB s none (l.take (k+1))=RU s (CB s none (l.take k)) l[k]:=by
 rw[List.take_succ_eq_append_getElem hk,RX]
def lS (l:List Space)(b:Option Space)(i:Int):Prop:=(i = -1/\b=none)\/∃ j:Nat,i=(j:Int)/\∃ h:j<l.length,b=some l[j]
end Own
theorem FH (o:Own.Ao)(s:ByteArray)(sv kv:Value)(w:World)(hS:Own.BF w sv o.spaces)(hls:o.spaces.length<=64)(hp:∀ x∈o.spaces,x.pre.size<=64):
 Calls Tryz.prog 69 #[.agg #[.int .i64 o.count,sv,kv],.string s] w fun e w' => (∃ i,e=.returned (.int .i64 i)/\Own.lS o.spaces (Own.CB s none o.spaces) i)/\Below w.heap.size w w':=by
 obtain⟨sa,sc,rfl⟩:=hS.len
 obtain⟨cnt,S,K⟩:=o
 dsimp only at*
 have ha:=At.new w 25 #[.int .i64 cnt,.slice sa S.length sc,kv]
 have hb1:Below w.heap.size w (w.alloc (.cells #[.int .i64 cnt,.slice sa S.length sc,kv] 25)):=zb
 have HS:=zh (hS.below hb1);have HB:=zh hb1;have HA:=zh ha;have HP:=zh hp
 have c0:=ha.cell 0;have c1:=ha.cell 1;have c2:=ha.cell 2
 simp only[zg] at c0 c1 c2
 obtain⟨B,hB⟩:∃ B:List Own.Space->Option Own.Space,B=Own.CB s none:=⟨_,rfl⟩
 have hB0:B []=none:=by rw[hB];rfl
 have hBs:∀ k (hk:k<S.length),B (S.take (k+1))=Own.RU s (B (S.take k)) S[k]:=fun k hk=>by rw[hB];exact Own.aU s S k hk
 rw[<- hB]
 have HBS:=zh hBs
 clear hS ha hb1 hp hB hBs
 go_enter Tryz.func69,Tryz.ntmps69
 go_wp2_with fail
 generalize w.alloc (.cells #[.int .i64 cnt,.slice sa S.length sc,kv] 25)=w1 at*
 go_loopw [5,11] (fun r i wr=>∃ k:Nat,k<=S.length/\i=.int .i64 k/\(∃ b,r=.int .i64 b/\Own.lS S (B (S.take k)) b)/\Below w1.heap.size w1 wr) (fun _ i _=>S.length-(intOf i).toNat)
 case atStart=>exact⟨0,by omega,rfl,⟨-1,rfl,.inl ⟨rfl,hB0⟩⟩,Below.refl _ _⟩
 case round=>
  obtain⟨k,hk,rfl,⟨bi,rfl,hbi⟩,hb⟩:=hrel
  have HBW:=zh hb
  have hz1:=HA.out.lt
  have hbs:=hb.size
  have ha2:=HA.out.below hb hz1
  have d1:=ha2.cell 1
  simp only[zg] at d1
  clear ha2
  by_cases hlt:k<S.length
  case neg=>
   have hke:k=S.length:=by omega
   have dk:decide ((k:Int)<S.length)=false:=zf
   rw[hke,List.take_length] at hbi
   have HBI:=zh hbi
   clear hbi hb hke
   go_wp2_with fail
   go_ret
   exact⟨⟨_,rfl,HBI.out⟩,HB.out.trans (HBW.out.mono HB.out.size)⟩
  have dk:decide ((k:Int)<S.length)=true:=zt
  have hlk:=HS.out.below hb
  obtain⟨b,o,mv,ha,hbl,e0,e1,e2,hmv⟩:=Own.BF.cells hlk hlt
  have hpk:=HP.out S[k] (List.getElem_mem hlt)
  have hst:=HBS.out k hlt
  have JL:∀ j (hj:j<S.length),wr.cell? ⟨b,o+j*3,none⟩=some (.string S[j].pre):=by
   intro j hj
   obtain⟨b',o',_,ha',_,e0,_⟩:=Own.BF.cells hlk hj
   rw[ha] at ha'
   cases ha'
   exact e0
  subst ha
  obtain⟨ma,mc,rfl⟩:=hmv.len
  obtain⟨pre,hpre⟩:∃ x,x=S[k].pre:=⟨_,rfl⟩
  obtain⟨mm,hmm⟩:∃ x,x=S[k].members:=⟨_,rfl⟩
  obtain⟨th,hth⟩:∃ x,x=S[k].threshold:=⟨_,rfl⟩
  rw[<- hpre] at e0 hpk
  rw[<- hmm] at e1
  rw[<- hth] at e2
  have hb5:Below w1.heap.size w1 (wr.alloc (.cells #[.string pre,.slice ma mm.length mc,.int .i64 th] 39)).drew:=(hb.alloc hb.size _).drew
  have RJ:Below wr.heap.size wr (wr.alloc (.cells #[.string pre,.slice ma mm.length mc,.int .i64 th] 39)):=zb
  have f1:=(HA.out.below (hb5) hz1).cell 1
  simp only[zg] at f1
  have TM:=zh hpre;have HST:=zh hst;have HBI:=zh hbi;have HB5:=zh hb5;have RH:=zh JL
  have hbel:=fun W=>TK s pre W (by omega)
  have oQ:=zh hbel
  clear hb hlk JL hmv hb5 hbel hpre hmm hth hst hbi
  cases hbg:Own.belongs s pre with
  | false =>
    have hn:B (S.take (k+1))=B (S.take k):=by rw[HST.out];unfold Own.RU;rw[<- TM.out,hbg];rfl
    have HN:=zh hn
    clear hn
    go_wp2_with fail
    refine Lex.zl ?_
    go_wp2_with fail
    refine(oQ.out _).mono ?_
    rintro e3 w7 ⟨rfl,rfl⟩
    rw[hbg]
    go_wp2_with fail
    refine Lex.ze ?_
    go_wp2_with fail
    go_round
    case measure=>simp[intOf];omega
    case rel=>exact⟨k+1,by omega,by go_num,⟨bi,rfl,by rw[HN.out];exact HBI.out⟩,HB5.out⟩
  | true=>
  rcases HBI.out with ⟨h1,h2⟩|⟨j,h1,hj,h2⟩
  ·have hn:B (S.take (k+1))=some S[k]:=by rw[HST.out,h2];unfold Own.RU;rw[<- TM.out,hbg];rfl
   have HN:=zh hn
   subst h1
   clear hn h2
   go_wp2_with fail
   refine Lex.zl ?_
   go_wp2_with fail
   refine(oQ.out _).mono ?_
   rintro e3 w7 ⟨rfl,rfl⟩
   rw[hbg]
   go_wp2_with fail
   refine Lex.ze ?_
   go_wp2_with fail
   go_round
   case measure=>simp[intOf];omega
   case rel=>exact⟨k+1,by omega,by go_num,⟨k,rfl,.inr ⟨k,rfl,hlt,HN.out⟩⟩,HB5.out⟩
  ·have g0:=RH.out j hj
   obtain⟨pn,hpn⟩:∃ x,x=S[j].pre:=⟨_,rfl⟩
   rw[<- hpn] at g0
   have g1:(wr.alloc (.cells #[.string pre,.slice ma mm.length mc,.int .i64 th] 39)).cell? ⟨b,o+j*3,none⟩=some (.string pn):=(RJ.cell (p:=⟨b,o+j*3,none⟩) hbl).trans g0
   have hn:B (S.take (k+1))=if decide (pn.size<pre.size) then some S[k] else some S[j]:=by
    rw[HST.out,h2,hpn,TM.out];unfold Own.RU;rw[<- TM.out,hbg,TM.out];rfl
   have HN:=zh hn
   subst h1
   have dj:decide ((j:Int)<0)=false:=zf
   clear hn h2 g0 hpn
   by_cases hlg:pn.size<pre.size
   ·have dl:decide ((pn.size:Int)<(pre.size:Int))=true:=zt
    have dl' : decide (pn.size<pre.size)=true:=decide_eq_true hlg
    go_wp2_with fail
    refine Lex.zl ?_
    go_wp2_with fail
    refine(oQ.out _).mono ?_
    rintro e3 w7 ⟨rfl,rfl⟩
    rw[hbg]
    go_wp2_with fail
    refine Lex.ze ?_
    go_wp2_with fail
    go_round
    case measure=>simp[intOf];omega
    case rel=>exact⟨k+1,by omega,by go_num,⟨k,rfl,.inr ⟨k,rfl,hlt,by rw[HN.out,dl'];rfl⟩⟩,HB5.out⟩
   ·have dl:decide ((pn.size:Int)<(pre.size:Int))=false:=zf
    have dl' : decide (pn.size<pre.size)=false:=decide_eq_false hlg
    go_wp2_with fail
    refine Lex.zl ?_
    go_wp2_with fail
    refine(oQ.out _).mono ?_
    rintro e3 w7 ⟨rfl,rfl⟩
    rw[hbg]
    go_wp2_with fail
    refine Lex.ze ?_
    go_wp2_with fail
    go_round
    case measure=>simp[intOf];omega
    case rel=>exact⟨k+1,by omega,by go_num,⟨j,rfl,.inr ⟨j,rfl,hj,by rw[HN.out,dl'];rfl⟩⟩,HB5.out⟩
theorem EK:(Tryz.prog.info? 39).map (·.size)=some 3:=by kernel_rfl
theorem Bt:(Tryz.prog.info? 25).map (·.size)=some 3:=by kernel_rfl
theorem Pt:(Tryz.prog.info? 76).map (·.size)=some 2:=by kernel_rfl
theorem Em (pre:ByteArray)(th:Int)(v:Value)(l:List Own.Member)(w:World)(h:Own.Af w v l)(hl:l.length<=3000000):
 Calls Tryz.prog 70 #[.agg #[.string pre,v,.int .i64 th]] w fun e w' => ∃ v',e=.returned (.agg #[.string pre,v',.int .i64 th])/\w'.ownsRow w.heap.size 76 2 v' l.length (l.flatMap Own.Cy)/\Below w.heap.size w w':=by
 have ha1:=(At.new w 39 #[.string pre,v,.int .i64 th]).alloc (.cells #[.string ⟨#[]⟩,.slice none 0 0,.int .i64 0] 39)
 have ha2:=At.new1 w (.cells #[.string pre,v,.int .i64 th] 39) 39 #[.string ⟨#[]⟩,.slice none 0 0,.int .i64 0]
 have hb1:Below w.heap.size w ((w.alloc (.cells #[.string pre,v,.int .i64 th] 39)).alloc (.cells #[.string ⟨#[]⟩,.slice none 0 0,.int .i64 0] 39)):=zb.alloc (by simp) _
 obtain⟨a,c,rfl⟩:=h.len
 have H:=zh (h.below hb1);have HA1:=zh ha1;have HA2:=zh ha2;have HB1:=zh hb1
 have c1:=ha1.cell 1
 simp only[zg] at c1
 clear h ha1 ha2 hb1
 go_enter Tryz.func70,Tryz.ntmps70
 go_wp2_with fail
 have hz:((w.alloc (.cells #[.string pre,.slice a l.length c,.int .i64 th] 39)).alloc (.cells #[.string ⟨#[]⟩,.slice none 0 0,.int .i64 0] 39)).heap.size=w.heap.size+2:=by simp
 generalize (w.alloc (.cells #[.string pre,.slice a l.length c,.int .i64 th] 39)).alloc (.cells #[.string ⟨#[]⟩,.slice none 0 0,.int .i64 0] 39)=w1 at*
 refine(TL _ l.length _ w1 (Own.Af.rows H.out) (Own.xA l) hl).mono ?_
 rintro e w2 ⟨v',rfl,ho,hb⟩
 have ha1:=HA1.out.below hb (by omega)
 have ha2:=HA2.out.below hb (by omega)
 have hne1:=ha1.own_ne ho (by decide)
 have hne2:=ha2.own_ne ho (by decide)
 have hb2:=HB1.out.trans (hb.mono HB1.out.size)
 have z1:=ha1.free 1;have y0:=ha1.cell 0;have y1:=ha1.cell 1;have y2:=ha1.cell 2
 have x0:=ha2.cell 0;have x1:=ha2.cell 1;have x2:=ha2.cell 2;have x3:=ha2.free 0;have x4:=ha2.free 1;have x5:=ha2.free 2
 simp only[zg] at y0 y1 y2 x0 x1 x2
 obtain⟨va,vm,vc,rfl⟩:=Ac ho
 have HO:=zh ho;have G1:=zh ha1;have G2:=zh ha2;have HB2:=zh hb2
 clear ho hb ha1 ha2 hb2 c1
 go_wp2_with fail
 have F2:=(((G2.out.far (p:=⟨w.heap.size,1,none⟩) (by simp) (.slice va vm vc)).set 0 (.string pre)).set 1 (.slice va vm vc)).set 2 (.int .i64 th)
 refine Ob rfl rfl (AJ F2 Tryz.underlying39 rfl EK) ⟨_,rfl,?_,?_⟩
 ·refine Cw (Ae HO.out (fun k hk=>?_)) (by omega)
  have k1:k≠w.heap.size:=by rintro rfl;exact hne1 hk
  have k2:k≠w.heap.size+1:=by rintro rfl;exact hne2 hk
  rw[zo k2,zo k2,zo k2,zo k1]
 ·exact(((HB2.out.setCell (p:=⟨w.heap.size,1,none⟩) (Nat.le_refl _) _).setCell (p:=⟨w.heap.size+1,0,none⟩) (by simp) _).setCell (p:=⟨w.heap.size+1,1,none⟩) (by simp) _).setCell (p:=⟨w.heap.size+1,2,none⟩) (by simp) _
namespace Own
theorem JR {α : Type}{ok : α -> Bool}{lt : α -> α -> Bool} : ∀ {l:List α} {p:Option α},Ar ok lt p l=true->∀ x∈l,ok x=true
 | [],_,_,x,hx=>by cases hx
 | y :: l,p,h,x,hx => by
   have h' : ((ok y&&(match p with|none=>true|some z=>lt z y))&&Ar ok lt (some y) l)=true:=by cases p<;>exact h
   obtain⟨h1,h2⟩:=Bool.and_eq_true_iff.1 h'
   rcases List.mem_cons.1 hx with rfl|hx
   ·exact(Bool.and_eq_true_iff.1 h1).1
   ·exact JR h2 x hx
structure OK (o:Ao):Prop where
 c0:0<=o.count
 c1:o.count<=1099511627776
 ls:o.spaces.length<=64
 sp:∀ s∈o.spaces,AX s=true
 ks:∀ k∈o.keys,Df k=true
theorem OK.of {o:Ao}(h:Bv o=true):OK o:=by
 unfold Bv late at h
 simp only[Bool.and_eq_true,decide_eq_true_eq] at h
 obtain⟨⟨⟨⟨h1,h2⟩,h3⟩,h4⟩,h5⟩:=h
 exact⟨h1,h2,h3,JR h4,JR h5⟩
structure oU (s:Space):Prop where
 path:BI s.pre=true
 pre:s.pre.size<=64
 zbn:1<=s.members.length
 len:s.members.length<=8
 mem:Am [] s.members=true
 t0:1<=s.threshold
 t1:s.threshold<=s.members.length
theorem oU.of {s:Space}(h:AX s=true):oU s:=by
 unfold AX Co at h
 simp only[Bool.and_eq_true,decide_eq_true_eq] at h
 obtain⟨⟨⟨h1,⟨h2,h3⟩,h4⟩,h5⟩,h6⟩:=h
 refine⟨h1,?_,h2,h3,h4,h5,h6⟩
 unfold BI at h1
 simp only[Bool.and_eq_true,decide_eq_true_eq] at h1
 exact h1.1.2
end Own
def YA (w:World)(r:Option Own.Space)(e:Ending)(w' : World):Prop:=
 (match r with
   | none=>e=.returned (.tuple #[.agg #[.string ⟨#[]⟩,.slice none 0 0,.int .i64 0],.bool false])
   | some sp=>∃ v',e=.returned (.tuple #[.agg #[.string sp.pre,v',.int .i64 sp.threshold],.bool true])/\w'.ownsRow w.heap.size 76 2 v' sp.members.length (sp.members.flatMap Own.Cy))/\Below w.heap.size w w'
theorem Om (o:Own.Ao)(s:ByteArray)(sv kv:Value)(w:World)(hM:Il w)(hS:Own.BF w sv o.spaces)(hK:Own.Du w kv o.keys)(hls:o.spaces.length<=140737488355328)(hlk:o.keys.length<=140737488355328)(hlm:∀ s∈o.spaces,s.members.length<=140737488355328):
 Calls Tryz.prog 18 #[.agg #[.int .i64 o.count,sv,kv],.string s] w (YA w (Own.authority o s)):=by
 obtain⟨R,hR⟩:∃ R,R=YA w (Own.authority o s):=⟨_,rfl⟩
 rw[<- hR]
 have HR:=zh hR;clear hR
 obtain⟨sa,sc,rfl⟩:=hS.len
 obtain⟨ka,kc,rfl⟩:=hK.len
 have ha1:=(At.new w 25 #[.int .i64 o.count,.slice sa o.spaces.length sc,.slice ka o.keys.length kc]).alloc (.cells #[.string ⟨#[]⟩,.slice none 0 0,.int .i64 0] 39)
 have ha2:=At.new1 w (.cells #[.int .i64 o.count,.slice sa o.spaces.length sc,.slice ka o.keys.length kc] 25) 39 #[.string ⟨#[]⟩,.slice none 0 0,.int .i64 0]
 have hb1:Below w.heap.size w ((w.alloc (.cells #[.int .i64 o.count,.slice sa o.spaces.length sc,.slice ka o.keys.length kc] 25)).alloc (.cells #[.string ⟨#[]⟩,.slice none 0 0,.int .i64 0] 39)):=zb.alloc (by simp) _
 have hs1:=hS.below hb1;have hk1:=hK.below hb1;have hm1:=hM.below hb1
 have hz1:((w.alloc (.cells #[.int .i64 o.count,.slice sa o.spaces.length sc,.slice ka o.keys.length kc] 25)).alloc (.cells #[.string ⟨#[]⟩,.slice none 0 0,.int .i64 0] 39)).heap.size=w.heap.size+2:=by simp
 obtain⟨c0,c1,c2⟩:=ha1.c3
 have HS:=zh hs1;have HK:=zh hk1;have HM:=zh hm1;have HA1:=zh ha1;have HA2:=zh ha2;have HB1:=zh hb1;have HLM:=zh hlm
 clear hS hK hM hs1 hk1 hm1 ha1 ha2 hb1 hlm
 go_enter Tryz.func18,Tryz.ntmps18
 go_wp2_with fail
 generalize (w.alloc (.cells #[.int .i64 o.count,.slice sa o.spaces.length sc,.slice ka o.keys.length kc] 25)).alloc (.cells #[.string ⟨#[]⟩,.slice none 0 0,.int .i64 0] 39)=w1 at*
 refine(JN o _ _ w1 HM.out HS.out HK.out hls hlk HLM.out).mono ?_
 rintro e w2 ⟨rfl,hb2⟩
 have HM2:=zh (HM.out.below hb2);have HS2:=zh (HS.out.below hb2);have HK2:=zh (HK.out.below hb2);have A1:=zh (HA1.out.below hb2 (by omega));have A2:=zh (HA2.out.below hb2 (by omega));have B2:=zh (HB1.out.trans (hb2.mono HB1.out.size))
 have hz2:=hb2.size
 clear hb2 HM HS HK HA1 HA2 HB1 c0 c1 c2
 cases hv:Own.Bv o with
 | false =>
   have e:Own.authority o s=none:=by unfold Own.authority;rw[hv];rfl
   have T2:=A2;have TB:=B2
   have x0:=A2.out.cell 0;have x1:=A2.out.cell 1;have x2:=A2.out.cell 2;have x3:=A2.out.free 0;have x4:=A2.out.free 1;have x5:=A2.out.free 2
   simp only[zg] at x0 x1 x2
   have HE:=zh e
   clear e
   go_wp2_with fail
   have F2:=((T2.out.set 0 (.string ⟨#[]⟩)).set 1 (.slice none 0 0)).set 2 (.int .i64 0)
   rw[HR.out,HE.out]
   refine BJ rfl rfl rfl (AJ F2 Tryz.underlying39 rfl EK) ⟨rfl,((TB.out.setCell (p:=⟨w.heap.size+1,0,none⟩) (by simp) _).setCell (p:=⟨w.heap.size+1,1,none⟩) (by simp) _).setCell (p:=⟨w.heap.size+1,2,none⟩) (by simp) _⟩
 | true=>
 have hok:=Own.OK.of hv
 go_wp2_with fail
 refine(LJ s w2 HM2.out).mono ?_
 rintro e w3 ⟨rfl,hb3⟩
 have HS3:=zh (HS2.out.below hb3);have A13:=zh (A1.out.below hb3 (by omega));have A23:=zh (A2.out.below hb3 (by omega));have B3:=zh (B2.out.trans (hb3.mono B2.out.size))
 have hz3:=hb3.size
 clear hb3 HM2 HS2 HK2 A1 A2 B2
 cases hp:Own.BI s with
 | false =>
   have e:Own.authority o s=none:=by unfold Own.authority;rw[hv,hp];rfl
   have T2:=A23;have TB:=B3
   have x0:=A23.out.cell 0;have x1:=A23.out.cell 1;have x2:=A23.out.cell 2;have x3:=A23.out.free 0;have x4:=A23.out.free 1;have x5:=A23.out.free 2
   simp only[zg] at x0 x1 x2
   have HE:=zh e
   clear e
   go_wp2_with fail
   have F2:=((T2.out.set 0 (.string ⟨#[]⟩)).set 1 (.slice none 0 0)).set 2 (.int .i64 0)
   rw[HR.out,HE.out]
   refine BJ rfl rfl rfl (AJ F2 Tryz.underlying39 rfl EK) ⟨rfl,((TB.out.setCell (p:=⟨w.heap.size+1,0,none⟩) (by simp) _).setCell (p:=⟨w.heap.size+1,1,none⟩) (by simp) _).setCell (p:=⟨w.heap.size+1,2,none⟩) (by simp) _⟩
 | true=>
 have hau:Own.authority o s=Own.CB s none o.spaces:=by unfold Own.authority;rw[hv,hp];rfl
 have hpre:∀ x∈o.spaces,x.pre.size<=64:=fun x hx=>(Own.oU.of (hok.sp x hx)).pre
 obtain⟨y0,y1,y2⟩:=A13.out.c3
 have HAU:=zh hau;have HOK:=zh hok;have TM:=zh hpre
 clear hau hok hpre hv hp
 go_wp2_with fail
 refine(FH o s _ _ w3 HS3.out HOK.out.ls TM.out).mono ?_
 rintro e w4 ⟨⟨i,rfl,hbi⟩,hb4⟩
 have HS4:=zh (HS3.out.below hb4);have A14:=zh (A13.out.below hb4 (by omega));have A24:=zh (A23.out.below hb4 (by omega));have B4:=zh (B3.out.trans (hb4.mono B3.out.size))
 have hz4:=hb4.size
 clear hb4 HS3 A13 A23 B3 y0 y1 y2
 rcases hbi with ⟨rfl,hnone⟩|⟨j,rfl,hj,hsome⟩
 ·have e:Own.authority o s=none:=by rw[HAU.out,hnone]
  have T2:=A24;have TB:=B4
  have x0:=A24.out.cell 0;have x1:=A24.out.cell 1;have x2:=A24.out.cell 2;have x3:=A24.out.free 0;have x4:=A24.out.free 1;have x5:=A24.out.free 2
  simp only[zg] at x0 x1 x2
  clear hnone
  have HE:=zh e
  clear e
  go_wp2_with fail
  have F2:=((T2.out.set 0 (.string ⟨#[]⟩)).set 1 (.slice none 0 0)).set 2 (.int .i64 0)
  rw[HR.out,HE.out]
  refine BJ rfl rfl rfl (AJ F2 Tryz.underlying39 rfl EK) ⟨rfl,((TB.out.setCell (p:=⟨w.heap.size+1,0,none⟩) (by simp) _).setCell (p:=⟨w.heap.size+1,1,none⟩) (by simp) _).setCell (p:=⟨w.heap.size+1,2,none⟩) (by simp) _⟩
 ·have aV:Own.authority o s=some o.spaces[j]:=by rw[HAU.out,hsome]
  obtain⟨y0,y1,y2⟩:=A14.out.c3
  obtain⟨b,q,mv,ha,hbl,e0,e1,e2,hmv⟩:=Own.BF.cells HS4.out hj
  subst ha
  have lT:=Own.oU.of (HOK.out.sp _ (List.getElem_mem hj))
  obtain⟨sp,hsp⟩:∃ x,x=o.spaces[j]:=⟨_,rfl⟩
  rw[<- hsp] at aV e0 e2 hmv lT
  have hcp:=Em sp.pre sp.threshold mv sp.members w4 hmv (by have:=lT.len;omega)
  have HCP:=zh hcp;have zaz:=zh aV
  obtain⟨ma,mc,rfl⟩:=hmv.len
  have dj:decide ((j:Int)<0)=false:=zf
  have hjl:j<o.spaces.length:=hj
  clear hcp aV hsp lT hmv hsome
  go_wp2_with fail
  refine HCP.out.mono ?_
  rintro e w5 ⟨v',rfl,ho,hb5⟩
  have A25:=zh (A24.out.below hb5 (by omega));have B5:=zh (B4.out.trans (hb5.mono B4.out.size))
  have x0:=A25.out.cell 0;have x1:=A25.out.cell 1;have x2:=A25.out.cell 2;have x3:=A25.out.free 0;have x4:=A25.out.free 1;have x5:=A25.out.free 2
  simp only[zg] at x0 x1 x2
  obtain⟨va,vm,vc,rfl⟩:=Ac ho
  have HO:=zh ho
  clear ho hb5 e0 e1 e2 y0 y1 y2
  go_wp2_with fail
  have F2:=((A25.out.set 0 (.string sp.pre)).set 1 (.slice va vm vc)).set 2 (.int .i64 sp.threshold)
  rw[HR.out,zaz.out]
  refine BJ rfl rfl rfl (AJ F2 Tryz.underlying39 rfl EK) ⟨⟨_,rfl,?_⟩,((B5.out.setCell (p:=⟨w.heap.size+1,0,none⟩) (by simp) _).setCell (p:=⟨w.heap.size+1,1,none⟩) (by simp) _).setCell (p:=⟨w.heap.size+1,2,none⟩) (by simp) _⟩
  refine Cw (Ae HO.out (fun k hk=>?_)) (by omega)
  have k2:k≠w.heap.size+1:=by have:=Ak HO.out k hk;omega
  rw[zo k2,zo k2,zo k2]
namespace Own
def Idx {α : Type}(p : α -> Bool)(l:List α)(i:Int):Prop:=(i = -1/\l.find? p=none/\∀ x∈l,p x=false)\/∃ j:Nat,∃ h:j<l.length,i=(j:Int)/\l.find? p=some l[j]/\p l[j]=true/\∀ k (hk:k<j),p l[k]=false
theorem Idx.hit {α : Type}{p : α -> Bool}{l:List α}{k:Nat}(hk:k<l.length)(h:p l[k]=true)(hn:∀ j (hj:j<k),p l[j]=false):Idx p l (k:Int):=by
 refine .inr ⟨k,hk,rfl,?_,h,hn⟩
 rw[List.find?_eq_some_iff_getElem]
 exact⟨h,k,hk,rfl,fun j hj=>by rw[hn j hj];rfl⟩
theorem Idx.miss {α : Type}{p : α -> Bool}{l:List α}(hn:∀ j (hj:j<l.length),p l[j]=false):Idx p l (-1):=by
 have:∀ x∈l,p x=false:=fun x hx=>by
  obtain⟨j,hj,rfl⟩:=List.getElem_of_mem hx
  exact hn j hj
 exact .inl ⟨rfl,List.find?_eq_none.2 fun x hx=>by rw[this x hx];simp,this⟩
theorem Idx.any {α : Type}{p : α -> Bool}{l:List α}{i:Int}(h:Idx p l i):decide (0<=i)=l.any p:=by
 rcases h with ⟨rfl,_,h⟩|⟨j,hj,rfl,_,h,_⟩
 ·rw[Bool.eq_iff_iff,List.any_eq_true]
  constructor
  ·intro h;simp at h
  ·rintro⟨x,hx,hp⟩;rw[h x hx] at hp;cases hp
 ·rw[Bool.eq_iff_iff,List.any_eq_true]
  exact⟨fun _=>⟨_,List.getElem_mem hj,h⟩,fun _=>zt⟩
end Own
theorem KV (g:Nat)(lb:Array Value)(eg:∀ args w,(callFunc g args).run Tryz.prog w=.ok (.enter g args) w)(p:Own.Member->Bool)(v:Value)(l:List Own.Member)(w:World)(h:Own.Af w v l)(hl:l.length<=140737488355328)
 (hp:∀ (W:World) (x:Own.Member),Below w.heap.size w W->Calls Tryz.prog g (#[.agg #[.string x.name,.string x.pub]]++lb) W fun e w' => e=.returned (.bool (p x))/\Below W.heap.size W w'):
 Calls Tryz.prog 100 #[v,.func (.func g) #[] lb] w fun e w' => (∃ i,e=.returned (.int .i64 i)/\Own.Idx p l i)/\Below w.heap.size w w':=by
 obtain⟨a,c,rfl⟩:=h.len
 have HL:=zh h;have HP:=zh hp;clear h hp
 go_enter Tryz.func100,Tryz.ntmps100
 go_wp2_with fail
 go_loopw [8] (fun i wr=>∃ k:Nat,∃ hk:k<=l.length,i=.int .i64 k/\(∀ j (hj:j<k),p (l[j]'(by omega))=false)/\Below w.heap.size w wr) (fun i _=>l.length-(intOf i).toNat)
 case atStart=>exact⟨0,by omega,rfl,(fun j hj=>absurd hj (by omega)),Below.refl _ _⟩
 case round=>
  obtain⟨k,hk,rfl,hn,hb⟩:=hrel
  have HBW:=zh hb;have HN:=zh hn
  by_cases hlt:k<l.length
  case neg=>
   have hke:k=l.length:=by omega
   have dk:decide ((k:Int)<l.length)=false:=zf
   have hix:=Own.Idx.miss (p:=p) (l:=l) (fun j hj=>hn j (by omega))
   have HIX:=zh hix
   clear hix hke hb hn
   go_wp2_with fail
   go_ret
   exact⟨⟨_,rfl,HIX.out⟩,HBW.out⟩
  have dk:decide ((k:Int)<l.length)=true:=zt
  obtain⟨b,o,ha,hbl,e0,e1⟩:=Own.Af.cells (HL.out.below hb) hlt
  subst ha
  have hcall:=HP.out wr l[k] hb
  obtain⟨nm,hnm⟩:∃ x,x=l[k].name:=⟨_,rfl⟩
  obtain⟨pb,hpb⟩:∃ x,x=l[k].pub:=⟨_,rfl⟩
  rw[<- hnm] at e0 hcall
  rw[<- hpb] at e1 hcall
  clear hb hn hnm hpb
  cases hq:p l[k] with
  | true =>
    rw[hq] at hcall
    have hix:=Own.Idx.hit hlt hq (HN.out)
    have HIX:=zh hix
    clear hix hq
    go_wp2_with (go_at_fn g;refine hcall.mono ?_;rintro e w' ⟨rfl,hb'⟩)
    go_ret
    exact⟨⟨_,rfl,HIX.out⟩,HBW.out.trans (hb'.mono HBW.out.size)⟩
  | false =>
    rw[hq] at hcall
    have hn2:∀ j (hj:j<k+1),p (l[j]'(by omega))=false:=fun j hj=>by
     by_cases e:j=k
     ·subst e;exact hq
     ·exact HN.out j (by omega)
    have HN2:=zh hn2
    clear hn2 hq
    go_wp2_with (go_at_fn g;refine hcall.mono ?_;rintro e w' ⟨rfl,hb'⟩)
    go_round
    case measure=>simp[intOf];omega
    case rel=>exact⟨k+1,by omega,by go_num,HN2.out,HBW.out.trans (hb'.mono HBW.out.size)⟩
section
variable {P:Program} (w:World)
theorem run_append_grow_zeros (t tn ty e:TypeId)(i:TypeInfo)(z:Value)(kn:IntKind)(ht:P.underlying t=some (.slice e))(htn:P.underlying tn=some (.int kn))(hi:P.info? e=some i)(hz:i.zero=some z)
 (b:Addr) (sLen sCap:Nat) (olds:List Value) (hlo:olds.length=sLen*i.size) (holds:∀ j v,olds[j]? = some v->w.cell? (b.add j)=some v)
 (n:Nat) (k:IntKind) (h0:0<n) (hsz:0<i.size) (hg:sCap<sLen+n) (h63:((sLen+n:Nat):Int)<=9223372036854775807) (zbo:n*i.bytes<=281474976710656) (hfit:Builtin.nextslicecap (sLen+n) sCap*i.bytes<=281474976710656):
 (Builtin.append_ #[t,tn] ty #[.slice (some b) sLen sCap,.int k n]).run P w =
   .ok (.slice (some ⟨w.heap.size,0,none⟩) (sLen+n) (grownCap w (sLen+n) sCap e))
    (w.drew.alloc (.cells (olds.toArray++Builtin.zeroCells z.cells n++Builtin.zeroCells z.cells (grownCap w (sLen+n) sCap e-(sLen+n))) e)):=by
 have hn:¬ (sLen+n<=sCap):=by omega
 have hn0:n≠0:=by omega
 have hw:IntKind.i64.wrap (n:Int)=n:=by rw[IntKind.wrap_i64];omega
 have h63' : ¬ (9223372036854775807<((sLen:Int)+(n:Int))):=by omega
 have h48' : ¬ (281474976710656<Builtin.nextslicecap (sLen+n) sCap*i.bytes):=by omega
 have h48i:¬ (281474976710656<(n:Int)*(i.bytes:Int)):=by
  rw[<- Int.natCast_mul]
  omega
 have hneg:¬ ((n:Int)<0):=by omega
 have hns:¬ (n*i.size=0):=Nat.mul_ne_zero hn0 (by omega)
 have hfo:=run_firstCells_some (P:=P) w.drew i.size sLen b sLen sCap olds hlo (by simpa using holds)
 simp[Builtin.append_,run_underlying ht,run_underlying htn,sizeOf,typeInfo,zeroValue,hi,hz,asInt,asIntOf,hw,hn,hn0,hneg,hns,h63',h48',h48i,Question.forced,hfo,newRow,grownCap]
theorem TQ (dT sT ty elem:TypeId)(size g o dLen dCap:Nat)(a:Addr)(sLen sCap:Nat)(cur:Array Value)(t:TypeId)(cs:List Value)
 (hu:P.underlying dT=some (.slice elem)) (hs:(P.info? elem).map (·.size)=some size)
 (hg:w.heap[g]? = some (.cells cur t (0,0))) (hn:cs.length=Nat.min sLen dLen*size)
 (hsrc:∀ j v,cs[j]? = some v->w.cell? (a.add j)=some v) (hfit:o+cs.length<=cur.size) (h1:∀ v∈cs,v.oneCell' = true):
 (Builtin.copy_ #[dT,sT] ty #[.slice (some ⟨g,o,none⟩) dLen dCap,.slice (some a) sLen sCap]).run P w =
   .ok (goInt (Nat.min sLen dLen)) (w.setRow g (cur.toList.take o++cs++cur.toList.drop (o+cs.length)).toArray):=by
 have hl:=run_loadCells_list (P:=P) w a cs hsrc
 have hst:=run_storeCells_at P g o t cs 0 cur w hg (by simpa using hfit) h1
 cases hq:P.info? elem with
 | none=>simp[hq] at hs
 | some i =>
   have hi:i.size=size:=by simpa [hq] using hs
   simp[Builtin.copy_,run_underlying hu,Builtin.lenOf,Builtin.firstCells,sizeOf,typeInfo,hq,hi,<- hn,hl,hst]
end
section
variable {P:Program} {w:World} {ops:Array Oper} {rest:List Oper} {o:Oper} {a:Act} {Q:Exit->Act->World->Prop}
theorem JU {t tn e:TypeId}{size bytes:Nat}{kn:IntKind}(T:Nonempty (Fu P t e size bytes))(htn:P.underlying tn=some (.int kn))(hgd:o.guard=none)(s x:Operand)(ho:o.op=.call { callee:=.builtin .append,args:=#[s,x],argTypes:=#[t,tn] })
 (g i m cap:Nat) (k:IntKind) (xs:List Value) (hs:a.eval s=.slice (some ⟨g,0,none⟩) i cap) (mi:Int) (hmi:mi=(m:Int)) (hx:a.eval x=.int k mi) (hl:xs.length=i*size) (hxs:∀ (j:Nat) (v:Value),xs[j]? = some v->w.cell? ⟨g,j,none⟩=some v)
 (h0:0<m) (hcap:cap<i+m) (hn:i+m<=4000000) (hbs:bytes<=1000)
 (h:∀ (nc:Nat) (w' : World) (zs:List Value),i+m<=nc->nc<=maxLen->At w' w.heap.size e (xs++zs).toArray->(xs++zs).length=nc*size->Below w.heap.size w w' -> wpList P ops Q rest (a.put o.dst (.slice (some ⟨w.heap.size,0,none⟩) (i+m) nc)) w'):
 wpList P ops Q (o::rest) a w:=by
 obtain⟨T⟩:=T
 subst hmi
 have hmul:(i+m)*bytes<=4000000000:=Nat.mul_le_mul hn hbs
 have hmm:m*bytes<=4000000000:=Nat.le_trans (Nat.mul_le_mul_right _ (by omega)) hmul
 have hr:=run_append_grow_zeros (P:=P) w t tn o.type e T.i T.z kn T.under htn T.info T.zero ⟨g,0,none⟩ i cap xs (by rw[T.Rk];exact hl) (fun j v hj=>by
  have hadd:(⟨g,0,none⟩:Addr).add j=⟨g,j,none⟩:=by unfold Addr.add;split<;>simp_all
  rw[hadd];exact hxs j v hj) m k h0 (by rw[T.Rk];exact T.pos) hcap (by omega) (by rw[T.bytes_];omega)
  (growslice_fits (by omega) (by rw[T.bytes_];omega))
 have hge:=grownCap_ge w (i+m) cap e
 have hle:=grownCap_le_maxLen w (i+m) cap e (by unfold maxLen;omega)
 refine Lib.wpList_append_run w hgd s x t tn ho _ _ hs hx _ _ hr ?_
 refine h _ _ ((Builtin.zeroCells T.z.cells m++Builtin.zeroCells T.z.cells (grownCap w (i+m) cap e-(i+m))).toList) hge hle ?_ ?_ ?_
 ·have:=At.new w.drew e (xs.toArray++Builtin.zeroCells T.z.cells m++Builtin.zeroCells T.z.cells (grownCap w (i+m) cap e-(i+m)))
  have e2:(xs++(Builtin.zeroCells T.z.cells m++Builtin.zeroCells T.z.cells (grownCap w (i+m) cap e-(i+m))).toList).toArray=xs.toArray++Builtin.zeroCells T.z.cells m++Builtin.zeroCells T.z.cells (grownCap w (i+m) cap e-(i+m)):=by
   apply Array.ext'
   simp[List.append_assoc]
  rw[e2]
  exact this
 ·simp only[List.length_append,Array.toList_append,Array.length_toList,size_zeroCells,T.qJ,hl,<- Nat.add_mul]
  congr 1
  omega
 ·exact(Below.refl w.heap.size w).drew.alloc (Nat.le_refl _) _
theorem Ed {dT sT elem:TypeId}{size:Nat}(hgd:o.guard=none)(d s:Operand)(ho:o.op=.call { callee:=.builtin .copy,args:=#[d,s],argTypes:=#[dT,sT] })
 (hu:P.underlying dT=some (.slice elem)) (hsz:(P.info? elem).map (·.size)=some size)
 (g off dLen dCap:Nat) (sb so sLen sCap:Nat) (hd:a.eval d=.slice (some ⟨g,off,none⟩) dLen dCap) (hs:a.eval s=.slice (some ⟨sb,so,none⟩) sLen sCap)
 (cur:List Value) (t:TypeId) (hg:At w g t cur.toArray) (cs:List Value) (hn:cs.length=Nat.min sLen dLen*size)
 (hsrc:∀ (j:Nat) (v:Value),cs[j]? = some v->w.cell? ⟨sb,so+j,none⟩=some v) (hfit:off+cs.length<=cur.length) (h1:∀ v∈cs,v.oneCell' = true)
 (h:∀ w',At w' g t (cur.take off++(cs++cur.drop (off+cs.length))).toArray->w.grownBy w' (some g)->w'.heap.size=w.heap.size->wpList P ops Q rest (a.put o.dst (goInt (Nat.min sLen dLen))) w'):wpList P ops Q (o::rest) a w:=by
 have hrun:=TQ (P:=P) w dT sT o.type elem size g off dLen dCap ⟨sb,so,none⟩ sLen sCap cur.toArray t cs hu hsz hg hn (fun j v hj=>by
  have hadd:(⟨sb,so,none⟩:Addr).add j=⟨sb,so+j,none⟩:=by unfold Addr.add;split<;>simp_all
  rw[hadd];exact hsrc j v hj) (by simpa using hfit) h1
 refine wpList_plain hgd fun K hK=>?_
 unfold Oper.wp
 simp[execOp,ho,resolve,invoke,builtin,hd,hs,hrun,Result.andThen]
 refine hK _ _ (h _ ?_ ⟨rfl,rfl,rfl,by simp[World.setRow],fun k _ hne=>setRow_other w g k _ (fun e=>hne (by rw[e]))⟩ (by simp[World.setRow]))
 have:=At.setRow hg (cur.take off++(cs++cur.drop (off+cs.length))).toArray
 simpa [List.append_assoc] using this
end
end
section
open Go Go.RowKit Go.Maps
theorem TR (x:Own.Member)(g:Nat)(nm:ByteArray)(w:World)(hc:w.cell? ⟨g,0,none⟩=some (.string nm)):
 Calls Tryz.prog 163 (#[.agg #[.string x.name,.string x.pub]]++#[.pointer (some ⟨g,0,none⟩)]) w fun e w' => e=.returned (.bool (decide (x.name=nm)))/\Below w.heap.size w w':=by
 obtain⟨R,hR⟩:∃ R,R=decide (x.name=nm):=⟨_,rfl⟩
 rw[<- hR]
 rw[<- bytes_beq] at hR
 have hb1:Below w.heap.size w (w.alloc (.cells #[.string x.name,.string x.pub] 76)):=zb
 have q:=(hb1.cell (p:=⟨g,0,none⟩) (block_lt hc)).trans hc
 have HB:=zh hb1;have HR:=zh hR
 clear hb1 hc hR
 show Calls Tryz.prog 163 #[.agg #[.string x.name,.string x.pub],.pointer (some ⟨g,0,none⟩)] w _
 go_enter Tryz.func163,Tryz.ntmps163
 go_wp2_with fail
 go_ret
 exact⟨by rw[HR.out];rfl,HB.out⟩
def eF (w:World)(r:Option Own.Member)(e:Ending)(w' : World):Prop:=
 (match r with
   | none=>e=.returned (.tuple #[.agg #[.string ⟨#[]⟩,.string ⟨#[]⟩],.bool false])
   | some m=>e=.returned (.tuple #[.agg #[.string m.name,.string m.pub],.bool true]))/\Below w.heap.size w w'
theorem Nk (pre:ByteArray)(th:Int)(v:Value)(l:List Own.Member)(nm:ByteArray)(w:World)(h:Own.Af w v l)(hl:l.length<=140737488355328):
 Calls Tryz.prog 111 #[.agg #[.string pre,v,.int .i64 th],.string nm] w (eF w (Own.find l nm)):=by
 obtain⟨R,hR⟩:∃ R,R=eF w (Own.find l nm):=⟨_,rfl⟩
 rw[<- hR]
 have HR:=zh hR;clear hR
 obtain⟨a,c,rfl⟩:=h.len
 have ha0:=((At.new w 39 #[.string pre,.slice a l.length c,.int .i64 th]).alloc (.cells #[.string nm] 9)).alloc (.cells #[.string ⟨#[]⟩,.string ⟨#[]⟩] 76)
 have ha1:=(At.new1 w (.cells #[.string pre,.slice a l.length c,.int .i64 th] 39) 9 #[.string nm]).alloc (.cells #[.string ⟨#[]⟩,.string ⟨#[]⟩] 76)
 have ha2:=At.new ((w.alloc (.cells #[.string pre,.slice a l.length c,.int .i64 th] 39)).alloc (.cells #[.string nm] 9)) 76 #[.string ⟨#[]⟩,.string ⟨#[]⟩]
 rw[World.size_alloc,World.size_alloc] at ha2
 have hb1:Below w.heap.size w (((w.alloc (.cells #[.string pre,.slice a l.length c,.int .i64 th] 39)).alloc (.cells #[.string nm] 9)).alloc (.cells #[.string ⟨#[]⟩,.string ⟨#[]⟩] 76)):=(zb.alloc (by simp) _).alloc (by simp;omega) _
 have hz1:(((w.alloc (.cells #[.string pre,.slice a l.length c,.int .i64 th] 39)).alloc (.cells #[.string nm] 9)).alloc (.cells #[.string ⟨#[]⟩,.string ⟨#[]⟩] 76)).heap.size=w.heap.size+3:=by simp
 have hl1:=h.below hb1
 have c1:=ha0.cell 1
 simp only[zg] at c1
 have HL:=zh hl1;have A0:=zh ha0;have A1:=zh ha1;have A2:=zh ha2;have B1:=zh hb1
 clear h hl1 ha0 ha1 ha2 hb1
 go_enter Tryz.func111,Tryz.ntmps111
 go_wp2_with fail
 generalize ((w.alloc (.cells #[.string pre,.slice a l.length c,.int .i64 th] 39)).alloc (.cells #[.string nm] 9)).alloc (.cells #[.string ⟨#[]⟩,.string ⟨#[]⟩] 76)=w1 at*
 refine(KV 163 #[.pointer (some ⟨w.heap.size+1,0,none⟩)] Tryz.call163 (fun m=>decide (m.name=nm)) _ l w1 HL.out hl (fun W x hW=>TR x _ nm W ((hW.cell (p:=⟨w.heap.size+1,0,none⟩) (by show w.heap.size+1<w1.heap.size;omega)).trans (A1.out.cell 0)))).mono ?_
 rintro e w2 ⟨⟨i,rfl,hi⟩,hb2⟩
 have A02:=zh (A0.out.below hb2 (by omega));have A22:=zh (A2.out.below hb2 (by omega));have B2:=zh (B1.out.trans (hb2.mono B1.out.size));have HL2:=zh (HL.out.below hb2)
 have y1:=A02.out.cell 1
 have x0:=A22.out.cell 0;have x1:=A22.out.cell 1;have x3:=A22.out.free 0;have x4:=A22.out.free 1
 simp only[zg] at y1 x0 x1
 clear hb2 c1 HL A0 A1 A2 B1
 rcases hi with ⟨rfl,hnone,_⟩|⟨j,hj,rfl,hsome,_,_⟩
 ·have e:Own.find l nm=none:=hnone
  have HE:=zh e
  clear e hnone
  go_wp2_with fail
  have F2:=(A22.out.set 0 (.string ⟨#[]⟩)).set 1 (.string ⟨#[]⟩)
  rw[HR.out,HE.out]
  exact BJ rfl rfl rfl (AJ F2 Tryz.underlying76 rfl Pt) ⟨rfl,(B2.out.setCell (p:=⟨w.heap.size+1+1,0,none⟩) (by show w.heap.size<=w.heap.size+1+1;omega) _).setCell (p:=⟨w.heap.size+1+1,1,none⟩) (by show w.heap.size<=w.heap.size+1+1;omega) _⟩
 ·have e:Own.find l nm=some l[j]:=hsome
  obtain⟨b,o,ha,hbl,e0,e1⟩:=Own.Af.cells HL2.out hj
  subst ha
  obtain⟨m,hm⟩:∃ x,x=l[j]:=⟨_,rfl⟩
  rw[<- hm] at e e0 e1
  have HE:=zh e
  have dj:decide ((j:Int)<0)=false:=zf
  have hjl:j<l.length:=hj
  clear e hsome hm
  go_wp2_with fail
  have F2:=(A22.out.set 0 (.string m.name)).set 1 (.string m.pub)
  rw[HR.out,HE.out]
  exact BJ rfl rfl rfl (AJ F2 Tryz.underlying76 rfl Pt) ⟨rfl,(B2.out.setCell (p:=⟨w.heap.size+1+1,0,none⟩) (by show w.heap.size<=w.heap.size+1+1;omega) _).setCell (p:=⟨w.heap.size+1+1,1,none⟩) (by show w.heap.size<=w.heap.size+1+1;omega) _⟩
def JV (a b:ByteArray):Int:=if Own.Aj a b then -1 else if a=b then 0 else 1
theorem UY (a:ByteArray)(w:World):Calls Tryz.prog 195 #[.string a] w fun e w' => e=.returned (.bool false)/\w' = w:=by
 go_enter Tryz.func195,Tryz.ntmps195
 go_wp2_with fail
 go_ret
 exact⟨by simp,rfl⟩
theorem RY (a b:ByteArray)(w:World):Calls Tryz.prog 161 #[.string a,.string b] w fun e w' => e=.returned (.int .i64 (JV a b))/\w' = w:=by
 obtain⟨R,hR⟩:∃ R,R=JV a b:=⟨_,rfl⟩
 rw[<- hR]
 unfold JV Own.Aj at hR
 have HR:=zh hR;clear hR
 go_enter Tryz.func161,Tryz.ntmps161
 go_wp2_with fail
 refine(UY a w).mono ?_
 rintro e w1 ⟨rfl,rfl⟩
 go_wp2_with fail
 refine(UY b w1).mono ?_
 rintro e w1 ⟨rfl,rfl⟩
 cases h1:Op.bytesLess a.toList b.toList with
 | true =>
   have e:R = -1:=by rw[HR.out,h1];rfl
   have HE:=zh e;clear e
   go_wp2_with fail
   go_ret
   exact⟨by rw[HE.out];rfl,rfl⟩
 | false=>
 by_cases h2:a=b
 ·have d:(a.toList==b.toList)=true:=by rw[bytes_beq];exact decide_eq_true h2
  have e:R=0:=by rw[HR.out,h1,if_pos h2];rfl
  have HE:=zh e;clear e
  have H2:=zh h2;clear h2
  go_wp2_with fail
  go_ret
  exact⟨by rw[HE.out];rfl,rfl⟩
 ·have d:(a.toList==b.toList)=false:=by rw[bytes_beq];exact decide_eq_false h2
  have e:R=1:=by rw[HR.out,h1,if_neg h2];rfl
  have HE:=zh e;clear e
  go_wp2_with fail
  go_ret
  exact⟨by rw[HE.out];rfl,rfl⟩
theorem RZ (k:Own.KeyUse)(t:ByteArray)(w:World):Calls Tryz.prog 184 #[.agg #[.string k.pub,.int .i64 k.next],.string t] w fun e w' => e=.returned (.int .i64 (JV k.pub t))/\Below w.heap.size w w':=by
 have HB:=zh ((Below.refl w.heap.size w).alloc (Nat.le_refl _) (.cells #[.string k.pub,.int .i64 k.next] 59))
 go_enter Tryz.func184,Tryz.ntmps184
 go_wp2_with fail
 refine(RY k.pub t _).mono ?_
 rintro e w2 ⟨rfl,rfl⟩
 go_wp2_with fail
 go_ret
 exact⟨rfl,HB.out⟩
theorem aW (v:Value)(l:List Own.KeyUse)(t:ByteArray)(w:World)(h:Own.Du w v l)(hs:Own.Srt Own.KeyUse.pub l)(hl:l.length<=1000000):
 Calls Tryz.prog 183 #[v,.string t,.func (.func 184) #[] #[]] w fun e w' => e=.returned (.tuple #[.int .i64 (Own.posB Own.KeyUse.pub t l:Nat),.bool (Own.Dl Own.KeyUse.pub t l)])/\Below w.heap.size w w':=by
 obtain⟨a,c,rfl⟩:=h.len
 have HL:=zh h;have HS:=zh hs;clear h hs
 go_enter Tryz.func183,Tryz.ntmps183
 go_wp2_with fail
 go_loopw [9,10] (fun i j wr=>∃ p q:Nat,p<=q/\∃ hq:q<=l.length,i=.int .i64 p/\j=.int .i64 q/\(∀ k (h:k<l.length),k<p->Own.Aj l[k].pub t=true)/\(∀ k (h:k<l.length),q<=k->Own.Aj l[k].pub t=false)/\Below w.heap.size w wr) (fun i j _=>(intOf j).toNat-(intOf i).toNat)
 case atStart=>exact⟨0,l.length,by omega,Nat.le_refl _,rfl,rfl,fun _ _ h=>by omega,fun _ _ h=>by omega,Below.refl _ _⟩
 case round=>
  obtain⟨p,q,hpq,hq,rfl,rfl,h1,h2,hb⟩:=hrel
  have HB:=zh hb;have H1:=zh h1;have H2:=zh h2
  by_cases hlt:p<q
  ·have dk:decide ((p:Int)<(q:Int))=true:=zt
   obtain⟨m,hm⟩:∃ m,m=(p+q)/2:=⟨_,rfl⟩
   have em:((p:Int)+(q:Int))/2=(m:Int):=by omega
   have m1:p<=m:=by omega
   have m2:m<q:=by omega
   have hml:m<l.length:=by omega
   obtain⟨b,o,ha,hbl,e0,e1⟩:=Own.Du.cells (HL.out.below hb) hml
   subst ha
   have hlow:Own.Aj l[m].pub t=true->∀ k (h:k<l.length),k<m+1->Own.Aj l[k].pub t=true:=fun hx k hk hkm=>by
    by_cases e:k=m
    ·subst e;exact hx
    ·exact Own.Dr ((List.pairwise_iff_getElem.1 HS.out) k m hk hml (by omega)) hx
   have hhigh:Own.Aj l[m].pub t=false->∀ k (h:k<l.length),m<=k->Own.Aj l[k].pub t=false:=fun hx k hk hkm=>by
    by_cases e:k=m
    ·subst e;exact hx
    ·cases hc:Own.Aj l[k].pub t with
     | false=>rfl
     | true =>
       have:=Own.Dr ((List.pairwise_iff_getElem.1 HS.out) m k hml hk (by omega)) hc
       rw[hx] at this
       cases this
   obtain⟨ku,hku⟩:∃ x,x=l[m]:=⟨_,rfl⟩
   rw[<- hku] at hlow hhigh e0 e1
   have hcall:=RZ ku t wr
   have sQ:=zh hlow;have lU:=zh hhigh
   clear hb h1 h2 hm hlow hhigh hku
   cases hc:Own.Aj ku.pub t with
   | true =>
     have ec:JV ku.pub t = -1:=by unfold JV;rw[hc];rfl
     rw[ec] at hcall
     clear ec
     go_wp2_with fail
     refine hcall.mono ?_
     rintro e w' ⟨rfl,hb'⟩
     go_wp2_with fail
     exact⟨⟨m+1,q,by omega,by omega,by go_num,rfl,sQ.out hc,H2.out,HB.out.trans (hb'.mono HB.out.size)⟩,by simp[intOf];omega⟩
   | false =>
     obtain⟨r,hr⟩:∃ r,r=JV ku.pub t:=⟨_,rfl⟩
     have er:0<=r:=by rw[hr];unfold JV;rw[hc];simp;split<;>decide
     rw[<- hr] at hcall
     have dr:decide (r<0)=false:=zf
     clear hr
     go_wp2_with fail
     refine hcall.mono ?_
     rintro e w' ⟨rfl,hb'⟩
     go_wp2_with fail
     exact⟨⟨p,m,by omega,by omega,rfl,rfl,H1.out,lU.out hc,HB.out.trans (hb'.mono HB.out.size)⟩,by simp[intOf];omega⟩
  ·obtain rfl:p=q:=by omega
   have dk:decide ((p:Int)<(p:Int))=false:=zf
   have hpos:=Own.Pm (f:=Own.KeyUse.pub) t hq (fun k h=>h1 k h) (fun k h=>h2 k h)
   have lV:=zh hpos
   by_cases hpl:p<l.length
   ·have dp:decide ((p:Int)<(l.length:Int))=true:=zt
    obtain⟨b,o,ha,hbl,e0,e1⟩:=Own.Du.cells (HL.out.below hb) hpl
    subst ha
    have hge:=h2 p hpl (Nat.le_refl _)
    have hhit:Own.Dl Own.KeyUse.pub t l=decide (l[p].pub=t):=by unfold Own.Dl;rw[<- hpos,List.getElem?_eq_getElem hpl]
    obtain⟨ku,hku⟩:∃ x,x=l[p]:=⟨_,rfl⟩
    rw[<- hku] at hhit hge e0 e1
    have hcall:=RZ ku t wr
    obtain⟨r,hr⟩:∃ r,r=JV ku.pub t:=⟨_,rfl⟩
    have er:(r==0)=Own.Dl Own.KeyUse.pub t l:=by
     rw[hhit,hr];unfold JV;rw[hge]
     by_cases h:ku.pub=t
     ·simp[h]
     ·simp[h]
    rw[<- hr] at hcall
    have ER:=zh er
    clear hb h1 h2 hhit hge hku hr hpos er
    go_wp2_with fail
    refine hcall.mono ?_
    rintro e w' ⟨rfl,hb'⟩
    go_wp2_with fail
    go_ret2
    exact⟨by rw[<- ER.out,<- lV.out];rfl,HB.out.trans (hb'.mono HB.out.size)⟩
   ·have dp:decide ((p:Int)<(l.length:Int))=false:=zf
    have hhit:Own.Dl Own.KeyUse.pub t l=false:=by unfold Own.Dl;rw[<- hpos,List.getElem?_eq_none (by omega)]
    have sS:=zh hhit
    clear hb h1 h2 hhit hpos
    go_wp2_with fail
    go_ret2
    exact⟨by rw[sS.out,<- lV.out];rfl,HB.out⟩
theorem lW {fn:Nat}{tS e:TypeId}{size:Nat}(w:World)
 (hf:∀ args,(callFunc fn args).run Tryz.prog w=((Extern.SlicesOverlaps.overlaps #[tS,tS] #[4] args).run Tryz.prog w).andThen fun v w' => .ok (.value v) w')
 (ht:Tryz.prog.underlying tS=some (.slice e)) (hz:∀ w,(Go.sizeOf e).run Tryz.prog w=.ok size w) (vb b o la ca lb cb:Nat) (hne:vb≠b) (cv cb' : Array Value) (hv:At w vb e cv) (hb:At w b e cb') (h0:cb'.size≠0):
 (callFunc fn #[.slice (some ⟨vb,0,none⟩) la ca,.slice (some ⟨b,o,none⟩) lb cb]).run Tryz.prog w=.ok (.value (.bool false)) w:=by
 rw[hf,Lib.run_overlaps_apart w tS 4 e ht size hz ⟨vb,0,none⟩ ⟨b,o,none⟩ la ca lb cb hne e e cv.size cb'.size ?_ ?_ h0 (hv.free 0) (hv.free _)]
 ·rfl
 ·unfold At at hv;simp[World.shape?,hv]
 ·unfold At at hb;simp[World.shape?,hb]
theorem UZ {P:Program}{e:TypeId}{k:Nat}(h:(P.info? e).map (·.size)=some k)(w:World):(Go.sizeOf e).run P w=.ok k w:=by
 cases hq:P.info? e with
 | none=>rw[hq] at h;cases h
 | some i =>
   have hi:i.size=k:=by simpa [hq] using h
   simp[Go.sizeOf,typeInfo,hq,hi]
theorem D8 {w:World}{base g n cap size:Nat}{e:TypeId}{cur xs:List Value}(hg:At w g e cur.toArray)(hb:base<=g)(hn:n<=cap)(hc:cap<=maxLen)(hs:cur.length=cap*size)(ht:cur.take (n*size)=xs):w.ownsRow base e size (.slice (some ⟨g,0,none⟩) n cap) n xs:=by
 refine⟨?_,.inr ⟨g,cap,cur.toArray,rfl,hb,hg,hn,hc,by simpa using hs,by simpa using ht⟩⟩
 rw[<- ht,List.length_take,hs]
 exact Nat.min_eq_left (Nat.mul_le_mul_right _ hn)
theorem Gf {w:World}{base g n cap size:Nat}{e:TypeId}{xs:List Value}(h:w.ownsRow base e size (.slice (some ⟨g,0,none⟩) n cap) n xs):∃ ys:List Value,At w g e (xs++ys).toArray/\base<=g/\n<=cap/\cap<=maxLen/\(xs++ys).length=cap*size/\xs.length=n*size:=by
 obtain⟨hl,⟨h0,_⟩|⟨g',cap',cur,hv,hb,hg,h1,h2,h3,h4⟩⟩:=h
 ·cases h0
 ·cases hv
  have e1:xs++cur.toList.drop (n*size)=cur.toList:=by rw[<- h4,List.take_append_drop]
  refine⟨cur.toList.drop (n*size),by rw[e1];exact hg,hb,h1,h2,by rw[e1];simpa using h3,hl⟩
theorem DL:(Tryz.prog.info? 39).map (·.size)=some 3:=by kernel_rfl
theorem TS (base n i vb:Nat)(v:Value)(xs nw:List Value)(w:World)(ho:w.ownsRow base 39 3 v n xs)(h1:∀ u∈xs,u.oneCell' = true)(hi:i<=n)(hn:n<=3000000)(hnw:nw.length=3)(hnv:At w vb 39 nw.toArray)(h2:∀ u∈nw,u.oneCell' = true)(hvb:v.ownBlock≠some vb)(hbs:base<=w.heap.size):
 Calls Tryz.prog 162 #[v,.int .i64 i,.slice (some ⟨vb,0,none⟩) 1 1] w fun e w' => ∃ v',e=.returned v' /\ w'.ownsRow base 39 3 v' (n+1) (xs.take (i*3)++(nw++xs.drop (i*3)))/\w.grownBy w' v.ownBlock/\(v'.ownBlock=v.ownBlock\/v'.ownBlock=some w.heap.size):=by
 have hrows:Bc w (.slice (some ⟨vb,0,none⟩) 1 1) 3 1 nw:=by
  refine⟨by rw[hnw],_,_,rfl,.inr ⟨vb,0,rfl,hnv.lt,fun j u hj=>?_⟩⟩
  rw[Nat.zero_add,hnv.cell]
  simpa using hj
 have HO:=zh ho;have H1:=zh h1;have H2:=zh h2;have HNV:=zh hnv;have HR:=zh hrows;have HVB:=zh hvb
 clear h1 h2 hnv hrows hvb
 go_enter Tryz.func162,Tryz.ntmps162
 obtain⟨a,m,c,rfl⟩:=Ac ho
 obtain rfl:=Ba ho
 by_cases hie:i=m
 ·subst hie
  have hsl:i<=c:=by
   rcases ho.2 with ⟨h0,_⟩|⟨g,cap,cur,h0,_,_,h3,_⟩
   ·cases h0;exact Nat.le_refl _
   ·cases h0;exact h3
  have hcz:(a=none/\c=0/\i=0)\/∃ g,a=some ⟨g,0,none⟩:=by
   rcases ho.2 with ⟨h0,h5⟩|⟨g,cap,cur,h0,_⟩
   ·cases h0;exact .inl ⟨rfl,rfl,h5⟩
   ·cases h0;exact .inr ⟨g,rfl⟩
  have hxl:xs.take (i*3)=xs/\xs.drop (i*3)=[]:=by
   have:=ho.1
   exact⟨List.take_of_length_le (by omega),List.drop_eq_nil_of_le (by omega)⟩
  have HXL:=zh hxl
  clear ho hxl
  rcases hcz with ⟨rfl,rfl,rfl⟩|⟨g,rfl⟩
  ·go_wp2_with (at_builtin;go_must (refine Ah DW rfl _ _ rfl base 0 _ xs rfl HO.out (.slice (some ⟨vb,0,none⟩) 1 1) 1 nw rfl HR.out H2.out (by omega) (by omega) hbs ?_);intro v5 w5 ho5 hg5 hx5;obtain⟨va,vm,vc,rfl⟩:=Ac ho5;have HO5:=zh ho5;have HG5:=zh hg5;have HX5:=zh hx5;clear ho5 hg5 hx5)
   go_ret
   exact⟨_,rfl,by rw[HXL.out.1,HXL.out.2,List.append_nil];exact HO5.out,HG5.out,HX5.out⟩
  ·by_cases hci:c=i
   ·subst hci
    go_wp2_with (at_builtin;go_must (refine Ah DW rfl _ _ rfl base c _ xs rfl HO.out (.slice (some ⟨vb,0,none⟩) 1 1) 1 nw rfl HR.out H2.out (by omega) (by omega) hbs ?_);intro v5 w5 ho5 hg5 hx5;obtain⟨va,vm,vc,rfl⟩:=Ac ho5;have HO5:=zh ho5;have HG5:=zh hg5;have HX5:=zh hx5;clear ho5 hg5 hx5)
    go_ret
    exact⟨_,rfl,by rw[HXL.out.1,HXL.out.2,List.append_nil];exact HO5.out,HG5.out,HX5.out⟩
   ·go_wp2_with (at_builtin;go_must (refine Ah DW rfl _ _ rfl base i _ xs rfl HO.out (.slice (some ⟨vb,0,none⟩) 1 1) 1 nw rfl HR.out H2.out (by omega) (by omega) hbs ?_);intro v5 w5 ho5 hg5 hx5;obtain⟨va,vm,vc,rfl⟩:=Ac ho5;have HO5:=zh ho5;have HG5:=zh hg5;have HX5:=zh hx5;clear ho5 hg5 hx5)
    go_ret
    exact⟨_,rfl,by rw[HXL.out.1,HXL.out.2,List.append_nil];exact HO5.out,HG5.out,HX5.out⟩
 ·have him:i<m:=by omega
  obtain⟨g,rfl⟩:∃ g,a=some ⟨g,0,none⟩:=by
   rcases ho.2 with ⟨h0,h5⟩|⟨g,cap,cur,h0,_⟩
   ·omega
   ·cases h0;exact⟨g,rfl⟩
  obtain⟨ys,hat,hbg,hmc,hcm,hcl,hxl⟩:=Gf ho
  have hne:vb≠g:=fun e=>HVB.out (by rw[e];rfl)
  have HAT:=zh hat
  have de:((i:Int)==(m:Int))=false:=by rw[beq_eq_false_iff_ne];omega
  have ci:¬ c=i:=by omega
  clear ho hat
  by_cases hroom:m+1<=c
  ·have dr:decide ((c:Int)<(m:Int)+1)=false:=zf
   have hov:∀ o lb cb,(callFunc 196 #[.slice (some ⟨vb,0,none⟩) 1 1,.slice (some ⟨g,o,none⟩) lb cb]).run Tryz.prog w=.ok (.value (.bool false)) w:=fun o lb cb=>
    lW w (run_callFunc_extern Tryz.func196 (by kernel_rfl) (by kernel_rfl) (by kernel_rfl) (e:=Extern.SlicesOverlaps.overlaps #[22,22] #[4]) (by kernel_rfl) · w) Tryz.underlying22 (UZ DL) vb g o 1 1 lb cb hne _ _ HNV.out HAT.out (by rw[List.size_toArray];omega)
   go_wp2_with (simp only[hov])
   refine Lex.zl ?_
   clear hov
   have mn1:Nat.min (m+1-i) (m-i)=m-i:=by simp only[Nat.min_def];split<;>omega
   have hcs:(xs.drop (i*3)).length=(m-i)*3:=by rw[List.length_drop,hxl,Nat.sub_mul]
   have Nl:At w.drew g 39 (xs++ys).toArray:=HAT.out
   have hsrc:∀ (j:Nat) (u:Value),(xs.drop (i*3))[j]? = some u->w.drew.cell? ⟨g,i*3+j,none⟩=some u:=fun j u hj=>by
    show w.cell? ⟨g,i*3+j,none⟩=some u
    rw[HAT.out.cell]
    rw[List.getElem?_drop] at hj
    simp[List.getElem?_append_left (List.getElem?_eq_some_iff.1 hj).1,hj]
   have TU:=zh Nl;have HCS:=zh hcs;have MN1:=zh mn1;have Sb:=zh hsrc
   clear Nl hcs mn1 hsrc
   go_wp2_with (refine Ed rfl _ _ rfl Tryz.underlying22 DL g ((i+1)*3) (m-i) (c-(i+1)) g (i*3) (m+1-i) (c-i) (by rfl) (by rfl) (xs++ys) 39 TU.out (xs.drop (i*3)) (by rw[HCS.out,MN1.out]) Sb.out (by rw[HCS.out,hcl];omega) (fun u hu=>H1.out u (List.mem_of_mem_drop hu)) ?_;intro w5 En hg5 hz5;have GD:=zh En;have HG5:=zh hg5;clear En hg5)
   refine Lex.ze ?_
   have Sc:At w5 vb 39 nw.toArray:=(HG5.out.block vb HNV.out.lt (fun e=>hne (Option.some.inj e))).trans HNV.out
   have aX:=zh Sc
   have mn2:Nat.min 1 (m+1-i)=1:=by simp only[Nat.min_def];split<;>omega
   have lX:((xs++ys).take ((i+1)*3)++(xs.drop (i*3)++(xs++ys).drop ((i+1)*3+(xs.drop (i*3)).length))).length=c*3:=by
    simp only[List.length_append,List.length_take,List.length_drop] at hcl ⊢
    omega
   have Wx:=zh lX;have MN2:=zh mn2
   clear Sc mn2 lX
   obtain⟨C5,hC5⟩:∃ C5,C5=(xs++ys).take ((i+1)*3)++(xs.drop (i*3)++(xs++ys).drop ((i+1)*3+(xs.drop (i*3)).length)):=⟨_,rfl⟩
   rw[<- hC5] at GD Wx
   have JW:∀ (j:Nat) (u:Value),nw[j]? = some u->w5.cell? ⟨vb,0+j,none⟩=some u:=fun j u hj=>by
    rw[Nat.zero_add,aX.out.cell]
    simpa using hj
   have HC5:=zh hC5;have Sd:=zh JW
   clear hC5 JW
   go_wp2_with (refine Ed rfl _ _ rfl Tryz.underlying22 DL g (i*3) (m+1-i) (c-i) vb 0 1 1 (by rfl) (by rfl) C5 39 GD.out nw (by rw[hnw,MN2.out]) Sd.out (by rw[hnw,Wx.out];omega) H2.out ?_;intro w6 Di hg6 hz6;have Eu:=zh Di;have HG6:=zh hg6;clear Di hg6)
   go_wp2_with fail
   go_ret
   refine⟨_,rfl,D8 Eu.out hbg (by omega) hcm ?_ ?_,?_,.inl rfl⟩
   ·have:=Wx.out
    simp only[List.length_append,List.length_take,List.length_drop,hnw] at this ⊢
    omega
   ·have hl:=Wx.out
    have e1:C5.take (i*3)=xs.take (i*3):=by
     rw[HC5.out,List.take_append_of_le_length (by rw[List.length_take,hcl];omega),List.take_take,Nat.min_eq_left (by omega),List.take_append_of_le_length (by omega)]
    have e2:(C5.drop (i*3+nw.length)).take ((m-i)*3)=xs.drop (i*3):=by
     have e3:i*3+nw.length=((xs++ys).take ((i+1)*3)).length:=by rw[List.length_take,hcl,hnw];omega
     rw[HC5.out,e3,List.drop_left,List.take_append_of_le_length (by rw[HCS.out];omega),List.take_of_length_le (by rw[HCS.out];omega)]
    have e4:(m+1)*3=(C5.take (i*3)).length+(nw.length+(m-i)*3):=by rw[List.length_take,hl,hnw];omega
    rw[e4,List.take_length_add_append,List.take_length_add_append,e1,e2]
   ·exact⟨HG6.out.os.trans HG5.out.os,HG6.out.tape.trans HG5.out.tape,HG6.out.output.trans HG5.out.output,Nat.le_trans HG5.out.size HG6.out.size,fun k hk hk2=>(HG6.out.block k (Nat.lt_of_lt_of_le hk HG5.out.size) hk2).trans (HG5.out.block k hk hk2)⟩
  ·have dr:decide ((c:Int)<(m:Int)+1)=true:=zt
   have hxi:(xs.take (i*3)).length=i*3:=by rw[List.length_take,hxl];exact Nat.min_eq_left (Nat.mul_le_mul_right _ hi)
   have HXI:=zh hxi;clear hxi
   have hxs:∀ (j:Nat) (u:Value),(xs.take (i*3))[j]? = some u->w.cell? ⟨g,j,none⟩=some u:=fun j u hj=>by
    rw[HAT.out.cell]
    rw[List.getElem?_take] at hj
    split at hj
    ·simp[List.getElem?_append_left (List.getElem?_eq_some_iff.1 hj).1,hj]
    ·cases hj
   have HXS:=zh hxs;clear hxs
   go_upto_region 10 with (at_builtin;go_must (refine JU DW Tryz.underlying3 rfl _ _ rfl g i (m+1-i) c .i64 (xs.take (i*3)) rfl _ (show _=((m+1-i:Nat):Int) by omega) rfl HXI.out HXS.out (by omega) (by omega) (by omega) (by omega) ?_);intro nc w5 zs lY sU En hl5 hb5;rw[show i+(m+1-i)=m+1 by omega] at lY ⊢;have HL5:=zh hl5;have GD:=zh En;have HB5:=zh hb5;have cnc:¬ nc=i:=(by omega);have za0:¬ nc=i+1:=(by omega);(obtain⟨G,hG⟩:∃ G,G=w.heap.size:=⟨_,rfl⟩);rw[<- hG] at GD ⊢;have HGG:=zh hG;clear hl5 En hb5 hG)
   have hgl:g<w.heap.size:=HAT.out.lt
   have hgG:g≠G:=by have:=HGG.out;omega
   have hvl:vb<w.heap.size:=HNV.out.lt
   have Sc:At w5 vb 39 nw.toArray:=HNV.out.below HB5.out hvl
   have lZ:At w5 g 39 (xs++ys).toArray:=HAT.out.below HB5.out hgl
   have aX:=zh Sc;have sV:=zh lZ
   have mn2:Nat.min 1 (m+1-i)=1:=by simp only[Nat.min_def];split<;>omega
   have MN2:=zh mn2
   clear Sc lZ mn2
   obtain⟨C5,hC5⟩:∃ C5,C5=xs.take (i*3)++zs:=⟨_,rfl⟩
   have hl5:=HL5.out
   rw[<- hC5] at GD hl5
   have HC5:=zh hC5;clear hC5 HL5
   have HL5:=zh hl5;clear hl5
   have JW:∀ (j:Nat) (u:Value),nw[j]? = some u->w5.cell? ⟨vb,0+j,none⟩=some u:=fun j u hj=>by
    rw[Nat.zero_add,aX.out.cell]
    simpa using hj
   have Sd:=zh JW
   clear JW
   go_wp2_with (refine Ed rfl _ _ rfl Tryz.underlying22 DL G (i*3) (m+1-i) (nc-i) vb 0 1 1 (by rfl) (by rfl) C5 39 GD.out nw (by rw[hnw,MN2.out]) Sd.out (by rw[hnw,HL5.out];omega) H2.out ?_;intro w6 Di hg6 hz6;have Eu:=zh Di;have HG6:=zh hg6;clear Di hg6)
   have mg:At w6 g 39 (xs++ys).toArray:=(HG6.out.block g (Nat.lt_of_lt_of_le hgl HB5.out.size) (fun e=>hgG (Option.some.inj e))).trans sV.out
   have sW:=zh mg
   have hl6:(C5.take (i*3)++(nw++C5.drop (i*3+nw.length))).length=nc*3:=by
    simp only[List.length_append,List.length_take,List.length_drop,hnw,HL5.out]
    omega
   obtain⟨C6,hC6⟩:∃ C6,C6=C5.take (i*3)++(nw++C5.drop (i*3+nw.length)):=⟨_,rfl⟩
   rw[<- hC6] at Eu hl6
   have HC6:=zh hC6;have HL6:=zh hl6
   clear mg hC6 hl6
   go_wp2_with fail
   refine Lex.zl ?_
   have mn1:Nat.min (m-i) (m-i)=m-i:=Nat.min_self _
   have hcs:(xs.drop (i*3)).length=(m-i)*3:=by rw[List.length_drop,hxl,Nat.sub_mul]
   have Nl:At w6.drew G 39 C6.toArray:=Eu.out
   have hsrc:∀ (j:Nat) (u:Value),(xs.drop (i*3))[j]? = some u->w6.drew.cell? ⟨g,i*3+j,none⟩=some u:=fun j u hj=>by
    show w6.cell? ⟨g,i*3+j,none⟩=some u
    rw[sW.out.cell]
    rw[List.getElem?_drop] at hj
    simp[List.getElem?_append_left (List.getElem?_eq_some_iff.1 hj).1,hj]
   have TU:=zh Nl;have HCS:=zh hcs;have MN1:=zh mn1;have Sb:=zh hsrc
   clear Nl hcs mn1 hsrc
   go_wp2_with (refine Ed rfl _ _ rfl Tryz.underlying22 DL G ((i+1)*3) (m-i) (nc-(i+1)) g (i*3) (m-i) (c-i) (by rfl) (by rfl) C6 39 TU.out (xs.drop (i*3)) (by rw[HCS.out,MN1.out]) Sb.out (by rw[HCS.out,HL6.out];omega) (fun u hu=>H1.out u (List.mem_of_mem_drop hu)) ?_;intro w7 Jo hg7 hz7;have Oc:=zh Jo;have HG7:=zh hg7;clear Jo hg7)
   refine Lex.ze ?_
   go_wp2_with fail
   go_ret
   refine⟨_,rfl,D8 Oc.out (by have:=HGG.out;omega) lY sU ?_ ?_,?_,.inr (by rw[HGG.out];rfl)⟩
   ·simp only[List.length_append,List.length_take,List.length_drop,HCS.out,HL6.out]
    omega
   ·have e1 : C6.take ((i + 1) * 3) = xs.take (i * 3) ++ nw :=by
     have e2:C5.take (i*3)=xs.take (i*3):=by rw[HC5.out,List.take_append_of_le_length (by rw[HXI.out];omega),List.take_of_length_le (by rw[HXI.out];omega)]
     have e3:(i+1)*3=(xs.take (i*3)).length+(nw.length+0):=by rw[HXI.out,hnw];omega
     rw[HC6.out,e2,e3,List.take_length_add_append,List.take_length_add_append,List.take_zero,List.append_nil]
    have e4:(m+1)*3=(xs.take (i*3)).length+(nw.length+((xs.drop (i*3)).length+0)):=by rw[HXI.out,hnw,HCS.out];omega
    rw[e1,List.append_assoc,e4,List.take_length_add_append,List.take_length_add_append,List.take_length_add_append,List.take_zero,List.append_nil]
   ·refine⟨?_,?_,?_,?_,fun k hk hk2=>?_⟩
    ·exact(HG7.out.os.trans HG6.out.os).trans HB5.out.os
    ·exact(HG7.out.tape.trans HG6.out.tape).trans HB5.out.tape
    ·exact(HG7.out.output.trans HG6.out.output).trans HB5.out.output
    ·exact Nat.le_trans HB5.out.size (Nat.le_trans HG6.out.size HG7.out.size)
    ·have hkG:some k≠some G:=fun e=>by have:=Option.some.inj e;have:=HGG.out;omega
     have k5:=HB5.out.block k hk
     have s5:=HB5.out.size
     exact((HG7.out.block k (by show k<w6.heap.size;have:=HG6.out.size;omega) hkG).trans (HG6.out.block k (by omega) hkG)).trans k5
theorem Fj:(Tryz.prog.info? 59).map (·.size)=some 2:=by kernel_rfl
theorem YC (base n i vb:Nat)(v:Value)(xs nw:List Value)(w:World)(ho:w.ownsRow base 59 2 v n xs)(h1:∀ u∈xs,u.oneCell' = true)(hi:i<=n)(hn:n<=3000000)(hnw:nw.length=2)(hnv:At w vb 59 nw.toArray)(h2:∀ u∈nw,u.oneCell' = true)(hvb:v.ownBlock≠some vb)(hbs:base<=w.heap.size):
 Calls Tryz.prog 150 #[v,.int .i64 i,.slice (some ⟨vb,0,none⟩) 1 1] w fun e w' => ∃ v',e=.returned v' /\ w'.ownsRow base 59 2 v' (n+1) (xs.take (i*2)++(nw++xs.drop (i*2)))/\w.grownBy w' v.ownBlock/\(v'.ownBlock=v.ownBlock\/v'.ownBlock=some w.heap.size):=by
 have hrows:Bc w (.slice (some ⟨vb,0,none⟩) 1 1) 2 1 nw:=by
  refine⟨by rw[hnw],_,_,rfl,.inr ⟨vb,0,rfl,hnv.lt,fun j u hj=>?_⟩⟩
  rw[Nat.zero_add,hnv.cell]
  simpa using hj
 have HO:=zh ho;have H1:=zh h1;have H2:=zh h2;have HNV:=zh hnv;have HR:=zh hrows;have HVB:=zh hvb
 clear h1 h2 hnv hrows hvb
 go_enter Tryz.func150,Tryz.ntmps150
 obtain⟨a,m,c,rfl⟩:=Ac ho
 obtain rfl:=Ba ho
 by_cases hie:i=m
 ·subst hie
  have hsl:i<=c:=by
   rcases ho.2 with ⟨h0,_⟩|⟨g,cap,cur,h0,_,_,h3,_⟩
   ·cases h0;exact Nat.le_refl _
   ·cases h0;exact h3
  have hcz:(a=none/\c=0/\i=0)\/∃ g,a=some ⟨g,0,none⟩:=by
   rcases ho.2 with ⟨h0,h5⟩|⟨g,cap,cur,h0,_⟩
   ·cases h0;exact .inl ⟨rfl,rfl,h5⟩
   ·cases h0;exact .inr ⟨g,rfl⟩
  have hxl:xs.take (i*2)=xs/\xs.drop (i*2)=[]:=by
   have:=ho.1
   exact⟨List.take_of_length_le (by omega),List.drop_eq_nil_of_le (by omega)⟩
  have HXL:=zh hxl
  clear ho hxl
  rcases hcz with ⟨rfl,rfl,rfl⟩|⟨g,rfl⟩
  ·go_wp2_with (at_builtin;go_must (refine Ah JQ rfl _ _ rfl base 0 _ xs rfl HO.out (.slice (some ⟨vb,0,none⟩) 1 1) 1 nw rfl HR.out H2.out (by omega) (by omega) hbs ?_);intro v5 w5 ho5 hg5 hx5;obtain⟨va,vm,vc,rfl⟩:=Ac ho5;have HO5:=zh ho5;have HG5:=zh hg5;have HX5:=zh hx5;clear ho5 hg5 hx5)
   go_ret
   exact⟨_,rfl,by rw[HXL.out.1,HXL.out.2,List.append_nil];exact HO5.out,HG5.out,HX5.out⟩
  ·by_cases hci:c=i
   ·subst hci
    go_wp2_with (at_builtin;go_must (refine Ah JQ rfl _ _ rfl base c _ xs rfl HO.out (.slice (some ⟨vb,0,none⟩) 1 1) 1 nw rfl HR.out H2.out (by omega) (by omega) hbs ?_);intro v5 w5 ho5 hg5 hx5;obtain⟨va,vm,vc,rfl⟩:=Ac ho5;have HO5:=zh ho5;have HG5:=zh hg5;have HX5:=zh hx5;clear ho5 hg5 hx5)
    go_ret
    exact⟨_,rfl,by rw[HXL.out.1,HXL.out.2,List.append_nil];exact HO5.out,HG5.out,HX5.out⟩
   ·go_wp2_with (at_builtin;go_must (refine Ah JQ rfl _ _ rfl base i _ xs rfl HO.out (.slice (some ⟨vb,0,none⟩) 1 1) 1 nw rfl HR.out H2.out (by omega) (by omega) hbs ?_);intro v5 w5 ho5 hg5 hx5;obtain⟨va,vm,vc,rfl⟩:=Ac ho5;have HO5:=zh ho5;have HG5:=zh hg5;have HX5:=zh hx5;clear ho5 hg5 hx5)
    go_ret
    exact⟨_,rfl,by rw[HXL.out.1,HXL.out.2,List.append_nil];exact HO5.out,HG5.out,HX5.out⟩
 ·have him:i<m:=by omega
  obtain⟨g,rfl⟩:∃ g,a=some ⟨g,0,none⟩:=by
   rcases ho.2 with ⟨h0,h5⟩|⟨g,cap,cur,h0,_⟩
   ·omega
   ·cases h0;exact⟨g,rfl⟩
  obtain⟨ys,hat,hbg,hmc,hcm,hcl,hxl⟩:=Gf ho
  have hne:vb≠g:=fun e=>HVB.out (by rw[e];rfl)
  have HAT:=zh hat
  have de:((i:Int)==(m:Int))=false:=by rw[beq_eq_false_iff_ne];omega
  have ci:¬ c=i:=by omega
  clear ho hat
  by_cases hroom:m+1<=c
  ·have dr:decide ((c:Int)<(m:Int)+1)=false:=zf
   have hov:∀ o lb cb,(callFunc 185 #[.slice (some ⟨vb,0,none⟩) 1 1,.slice (some ⟨g,o,none⟩) lb cb]).run Tryz.prog w=.ok (.value (.bool false)) w:=fun o lb cb=>
    lW w (run_callFunc_extern Tryz.func185 (by kernel_rfl) (by kernel_rfl) (by kernel_rfl) (e:=Extern.SlicesOverlaps.overlaps #[23,23] #[4]) (by kernel_rfl) · w) Tryz.underlying23 (UZ Fj) vb g o 1 1 lb cb hne _ _ HNV.out HAT.out (by rw[List.size_toArray];omega)
   go_wp2_with (simp only[hov])
   refine Lex.zl ?_
   clear hov
   have mn1:Nat.min (m+1-i) (m-i)=m-i:=by simp only[Nat.min_def];split<;>omega
   have hcs:(xs.drop (i*2)).length=(m-i)*2:=by rw[List.length_drop,hxl,Nat.sub_mul]
   have Nl:At w.drew g 59 (xs++ys).toArray:=HAT.out
   have hsrc:∀ (j:Nat) (u:Value),(xs.drop (i*2))[j]? = some u->w.drew.cell? ⟨g,i*2+j,none⟩=some u:=fun j u hj=>by
    show w.cell? ⟨g,i*2+j,none⟩=some u
    rw[HAT.out.cell]
    rw[List.getElem?_drop] at hj
    simp[List.getElem?_append_left (List.getElem?_eq_some_iff.1 hj).1,hj]
   have TU:=zh Nl;have HCS:=zh hcs;have MN1:=zh mn1;have Sb:=zh hsrc
   clear Nl hcs mn1 hsrc
   go_wp2_with (refine Ed rfl _ _ rfl Tryz.underlying23 Fj g ((i+1)*2) (m-i) (c-(i+1)) g (i*2) (m+1-i) (c-i) (by rfl) (by rfl) (xs++ys) 59 TU.out (xs.drop (i*2)) (by rw[HCS.out,MN1.out]) Sb.out (by rw[HCS.out,hcl];omega) (fun u hu=>H1.out u (List.mem_of_mem_drop hu)) ?_;intro w5 En hg5 hz5;have GD:=zh En;have HG5:=zh hg5;clear En hg5)
   refine Lex.ze ?_
   have Sc:At w5 vb 59 nw.toArray:=(HG5.out.block vb HNV.out.lt (fun e=>hne (Option.some.inj e))).trans HNV.out
   have aX:=zh Sc
   have mn2:Nat.min 1 (m+1-i)=1:=by simp only[Nat.min_def];split<;>omega
   have lX:((xs++ys).take ((i+1)*2)++(xs.drop (i*2)++(xs++ys).drop ((i+1)*2+(xs.drop (i*2)).length))).length=c*2:=by
    simp only[List.length_append,List.length_take,List.length_drop] at hcl ⊢
    omega
   have Wx:=zh lX;have MN2:=zh mn2
   clear Sc mn2 lX
   obtain⟨C5,hC5⟩:∃ C5,C5=(xs++ys).take ((i+1)*2)++(xs.drop (i*2)++(xs++ys).drop ((i+1)*2+(xs.drop (i*2)).length)):=⟨_,rfl⟩
   rw[<- hC5] at GD Wx
   have JW:∀ (j:Nat) (u:Value),nw[j]? = some u->w5.cell? ⟨vb,0+j,none⟩=some u:=fun j u hj=>by
    rw[Nat.zero_add,aX.out.cell]
    simpa using hj
   have HC5:=zh hC5;have Sd:=zh JW
   clear hC5 JW
   go_wp2_with (refine Ed rfl _ _ rfl Tryz.underlying23 Fj g (i*2) (m+1-i) (c-i) vb 0 1 1 (by rfl) (by rfl) C5 59 GD.out nw (by rw[hnw,MN2.out]) Sd.out (by rw[hnw,Wx.out];omega) H2.out ?_;intro w6 Di hg6 hz6;have Eu:=zh Di;have HG6:=zh hg6;clear Di hg6)
   go_wp2_with fail
   go_ret
   refine⟨_,rfl,D8 Eu.out hbg (by omega) hcm ?_ ?_,?_,.inl rfl⟩
   ·have:=Wx.out
    simp only[List.length_append,List.length_take,List.length_drop,hnw] at this ⊢
    omega
   ·have hl:=Wx.out
    have e1:C5.take (i*2)=xs.take (i*2):=by
     rw[HC5.out,List.take_append_of_le_length (by rw[List.length_take,hcl];omega),List.take_take,Nat.min_eq_left (by omega),List.take_append_of_le_length (by omega)]
    have e2:(C5.drop (i*2+nw.length)).take ((m-i)*2)=xs.drop (i*2):=by
     have e3:i*2+nw.length=((xs++ys).take ((i+1)*2)).length:=by rw[List.length_take,hcl,hnw];omega
     rw[HC5.out,e3,List.drop_left,List.take_append_of_le_length (by rw[HCS.out];omega),List.take_of_length_le (by rw[HCS.out];omega)]
    have e4:(m+1)*2=(C5.take (i*2)).length+(nw.length+(m-i)*2):=by rw[List.length_take,hl,hnw];omega
    rw[e4,List.take_length_add_append,List.take_length_add_append,e1,e2]
   ·exact⟨HG6.out.os.trans HG5.out.os,HG6.out.tape.trans HG5.out.tape,HG6.out.output.trans HG5.out.output,Nat.le_trans HG5.out.size HG6.out.size,fun k hk hk2=>(HG6.out.block k (Nat.lt_of_lt_of_le hk HG5.out.size) hk2).trans (HG5.out.block k hk hk2)⟩
  ·have dr:decide ((c:Int)<(m:Int)+1)=true:=zt
   have hxi:(xs.take (i*2)).length=i*2:=by rw[List.length_take,hxl];exact Nat.min_eq_left (Nat.mul_le_mul_right _ hi)
   have HXI:=zh hxi;clear hxi
   have hxs:∀ (j:Nat) (u:Value),(xs.take (i*2))[j]? = some u->w.cell? ⟨g,j,none⟩=some u:=fun j u hj=>by
    rw[HAT.out.cell]
    rw[List.getElem?_take] at hj
    split at hj
    ·simp[List.getElem?_append_left (List.getElem?_eq_some_iff.1 hj).1,hj]
    ·cases hj
   have HXS:=zh hxs;clear hxs
   go_upto_region 10 with (at_builtin;go_must (refine JU JQ Tryz.underlying3 rfl _ _ rfl g i (m+1-i) c .i64 (xs.take (i*2)) rfl _ (show _=((m+1-i:Nat):Int) by omega) rfl HXI.out HXS.out (by omega) (by omega) (by omega) (by omega) ?_);intro nc w5 zs lY sU En hl5 hb5;rw[show i+(m+1-i)=m+1 by omega] at lY ⊢;have HL5:=zh hl5;have GD:=zh En;have HB5:=zh hb5;have cnc:¬ nc=i:=(by omega);have za0:¬ nc=i+1:=(by omega);(obtain⟨G,hG⟩:∃ G,G=w.heap.size:=⟨_,rfl⟩);rw[<- hG] at GD ⊢;have HGG:=zh hG;clear hl5 En hb5 hG)
   have hgl:g<w.heap.size:=HAT.out.lt
   have hgG:g≠G:=by have:=HGG.out;omega
   have hvl:vb<w.heap.size:=HNV.out.lt
   have Sc:At w5 vb 59 nw.toArray:=HNV.out.below HB5.out hvl
   have lZ:At w5 g 59 (xs++ys).toArray:=HAT.out.below HB5.out hgl
   have aX:=zh Sc;have sV:=zh lZ
   have mn2:Nat.min 1 (m+1-i)=1:=by simp only[Nat.min_def];split<;>omega
   have MN2:=zh mn2
   clear Sc lZ mn2
   obtain⟨C5,hC5⟩:∃ C5,C5=xs.take (i*2)++zs:=⟨_,rfl⟩
   have hl5:=HL5.out
   rw[<- hC5] at GD hl5
   have HC5:=zh hC5;clear hC5 HL5
   have HL5:=zh hl5;clear hl5
   have JW:∀ (j:Nat) (u:Value),nw[j]? = some u->w5.cell? ⟨vb,0+j,none⟩=some u:=fun j u hj=>by
    rw[Nat.zero_add,aX.out.cell]
    simpa using hj
   have Sd:=zh JW
   clear JW
   go_wp2_with (refine Ed rfl _ _ rfl Tryz.underlying23 Fj G (i*2) (m+1-i) (nc-i) vb 0 1 1 (by rfl) (by rfl) C5 59 GD.out nw (by rw[hnw,MN2.out]) Sd.out (by rw[hnw,HL5.out];omega) H2.out ?_;intro w6 Di hg6 hz6;have Eu:=zh Di;have HG6:=zh hg6;clear Di hg6)
   have mg:At w6 g 59 (xs++ys).toArray:=(HG6.out.block g (Nat.lt_of_lt_of_le hgl HB5.out.size) (fun e=>hgG (Option.some.inj e))).trans sV.out
   have sW:=zh mg
   have hl6:(C5.take (i*2)++(nw++C5.drop (i*2+nw.length))).length=nc*2:=by
    simp only[List.length_append,List.length_take,List.length_drop,hnw,HL5.out]
    omega
   obtain⟨C6,hC6⟩:∃ C6,C6=C5.take (i*2)++(nw++C5.drop (i*2+nw.length)):=⟨_,rfl⟩
   rw[<- hC6] at Eu hl6
   have HC6:=zh hC6;have HL6:=zh hl6
   clear mg hC6 hl6
   go_wp2_with fail
   refine Lex.zl ?_
   have mn1:Nat.min (m-i) (m-i)=m-i:=Nat.min_self _
   have hcs:(xs.drop (i*2)).length=(m-i)*2:=by rw[List.length_drop,hxl,Nat.sub_mul]
   have Nl:At w6.drew G 59 C6.toArray:=Eu.out
   have hsrc:∀ (j:Nat) (u:Value),(xs.drop (i*2))[j]? = some u->w6.drew.cell? ⟨g,i*2+j,none⟩=some u:=fun j u hj=>by
    show w6.cell? ⟨g,i*2+j,none⟩=some u
    rw[sW.out.cell]
    rw[List.getElem?_drop] at hj
    simp[List.getElem?_append_left (List.getElem?_eq_some_iff.1 hj).1,hj]
   have TU:=zh Nl;have HCS:=zh hcs;have MN1:=zh mn1;have Sb:=zh hsrc
   clear Nl hcs mn1 hsrc
   go_wp2_with (refine Ed rfl _ _ rfl Tryz.underlying23 Fj G ((i+1)*2) (m-i) (nc-(i+1)) g (i*2) (m-i) (c-i) (by rfl) (by rfl) C6 59 TU.out (xs.drop (i*2)) (by rw[HCS.out,MN1.out]) Sb.out (by rw[HCS.out,HL6.out];omega) (fun u hu=>H1.out u (List.mem_of_mem_drop hu)) ?_;intro w7 Jo hg7 hz7;have Oc:=zh Jo;have HG7:=zh hg7;clear Jo hg7)
   refine Lex.ze ?_
   go_wp2_with fail
   go_ret
   refine⟨_,rfl,D8 Oc.out (by have:=HGG.out;omega) lY sU ?_ ?_,?_,.inr (by rw[HGG.out];rfl)⟩
   ·simp only[List.length_append,List.length_take,List.length_drop,HCS.out,HL6.out]
    omega
   ·have e1 : C6.take ((i + 1) * 2) = xs.take (i * 2) ++ nw :=by
     have e2:C5.take (i*2)=xs.take (i*2):=by rw[HC5.out,List.take_append_of_le_length (by rw[HXI.out];omega),List.take_of_length_le (by rw[HXI.out];omega)]
     have e3:(i+1)*2=(xs.take (i*2)).length+(nw.length+0):=by rw[HXI.out,hnw];omega
     rw[HC6.out,e2,e3,List.take_length_add_append,List.take_length_add_append,List.take_zero,List.append_nil]
    have e4:(m+1)*2=(xs.take (i*2)).length+(nw.length+((xs.drop (i*2)).length+0)):=by rw[HXI.out,hnw,HCS.out];omega
    rw[e1,List.append_assoc,e4,List.take_length_add_append,List.take_length_add_append,List.take_length_add_append,List.take_zero,List.append_nil]
   ·refine⟨?_,?_,?_,?_,fun k hk hk2=>?_⟩
    ·exact(HG7.out.os.trans HG6.out.os).trans HB5.out.os
    ·exact(HG7.out.tape.trans HG6.out.tape).trans HB5.out.tape
    ·exact(HG7.out.output.trans HG6.out.output).trans HB5.out.output
    ·exact Nat.le_trans HB5.out.size (Nat.le_trans HG6.out.size HG7.out.size)
    ·have hkG:some k≠some G:=fun e=>by have:=Option.some.inj e;have:=HGG.out;omega
     have k5:=HB5.out.block k hk
     have s5:=HB5.out.size
     exact((HG7.out.block k (by show k<w6.heap.size;have:=HG6.out.size;omega) hkG).trans (HG6.out.block k (by omega) hkG)).trans k5
theorem YD {css:List (List Value)}(h:∀ cs∈css,∀ u∈cs,u.oneCell' = true):∀ u∈css.flatten,u.oneCell' = true:=by
 intro u hu
 obtain⟨cs,h1,h2⟩:=List.mem_flatten.1 hu
 exact h cs h1 u h2
theorem iT {css:List (List Value)}{k:Nat}(h:∀ cs∈css,cs.length=k):∀ (i j:Nat) (hi:i<css.length),j<k->css.flatten[i*k+j]? = (css[i])[j]? :=by
 induction css with
 | nil=>intro i j hi;cases hi
 | cons c css ih =>
   intro i j hi hj
   have hc:c.length=k:=h c List.mem_cons_self
   rw[List.flatten_cons]
   cases i with
   | zero=>rw[Nat.zero_mul,Nat.zero_add,List.getElem?_append_left (by omega)];rfl
   | succ i =>
     have hi2:i<css.length:=by simpa using hi
     rw[Nat.succ_mul,List.getElem?_append_right (by omega),hc,show i*k+k+j-k=i*k+j by omega,ih (fun cs hcs=>h cs (List.mem_cons_of_mem _ hcs)) i j hi2 hj]
     rfl
namespace Own
end Own
namespace Own
def encS (s:Space)(v:Value):List Value:=[.string s.pre,v,.int .i64 s.threshold]
def Az (S:List Space)(us:List Value):List Value:=(List.zipWith encS S us).flatten
theorem ET {w:World}{base n size:Nat}{e:TypeId}{v:Value}{xs:List Value}(h:w.ownsRow base e size v n xs):∀ k,v.ownBlock=some k->k<w.heap.size:=fun k hk=>by
 obtain⟨cur,hc⟩:=Db h hk
 exact hc.lt
theorem GH {w:World}{base g n cap size:Nat}{e:TypeId}{xs:List Value}(h:w.ownsRow base e size (.slice (some ⟨g,0,none⟩) n cap) n xs)(i:Nat)(hi:i<xs.length)(u:Value):(w.setCell ⟨g,i,none⟩ u).ownsRow base e size (.slice (some ⟨g,0,none⟩) n cap) n (xs.set i u):=by
 obtain⟨ys,h1,h2,h3,h4,h5,h6⟩:=Gf h
 refine D8 (cur:=xs.set i u++ys) ?_ h2 h3 h4 (by simpa using h5) (by rw[List.take_append_of_le_length (by rw[List.length_set,h6];exact Nat.le_refl _),List.take_of_length_le (by rw[List.length_set,h6];exact Nat.le_refl _)])
 have:=h1.set i u
 rwa [List.setIfInBounds_toArray,List.set_append_left _ _ hi] at this
theorem IW:∀ (S:List Space) (us:List Value),us.length=S.length->(Az S us).length=S.length*3
 | [],_,_=>by simp[Az]
 | s::S,[],h=>by cases h
 | s :: S,u :: us,h => by
   have:=IW S us (by simpa using h)
   show(encS s u++Az S us).length=_
   rw[List.length_append,this]
   show 3+S.length*3=(S.length+1)*3
   omega
theorem IX:∀ (S:List Space) (us:List Value) (i:Nat) (hi:i<S.length) (hi' : i<us.length) (c:Nat) (_:c<3),(Az S us)[i*3+c]? = (encS S[i] us[i])[c]?
 | [],_,i,hi,_,_,_=>by cases hi
 | s::S,[],i,_,hi',_,_=>by cases hi'
 | s :: S,u :: us,0,_,_,c,hc => by
   show(encS s u++Az S us)[0*3+c]? = _
   rw[Nat.zero_mul,Nat.zero_add,List.getElem?_append_left (by show c<3;exact hc)]
   rfl
 | s :: S,u :: us,i + 1,hi,hi',c,hc => by
   have:=IX S us i (by simpa using hi) (by simpa using hi') c hc
   show(encS s u++Az S us)[(i+1)*3+c]? = _
   rw[List.getElem?_append_right (by show 3<=_;omega)]
   show(Az S us)[(i+1)*3+c-3]? = _
   rw[show(i+1)*3+c-3=i*3+c by omega,this]
   rfl
theorem LU:∀ (S:List Space) (us:List Value) (i:Nat) (_:i<S.length) (_:us.length=S.length) (x:Space) (u:Value),Az (S.set i x) (us.set i u)=(((Az S us).set (i*3) (.string x.pre)).set (i*3+1) u).set (i*3+2) (.int .i64 x.threshold)
 | [],_,i,hi,_,_,_=>by cases hi
 | s::S,[],_,_,h,_,_=>by cases h
 | s::S,v::us,0,_,_,x,u=>rfl
 | s :: S,v :: us,i + 1,hi,hl,x,u => by
   have ih:=LU S us i (by simpa using hi) (by simpa using hl) x u
   have hl3:(encS s v).length=3:=rfl
   show encS s v++Az (S.set i x) (us.set i u)=(((encS s v++Az S us).set ((i+1)*3) _).set ((i+1)*3+1) _).set ((i+1)*3+2) _
   rw[ih,List.set_append_right _ _ (by omega),List.set_append_right _ _ (by omega),List.set_append_right _ _ (by omega),hl3,show(i+1)*3-3=i*3 by omega,show(i+1)*3+1-3=i*3+1 by omega,show(i+1)*3+2-3=i*3+2 by omega]
structure Ca (B:Nat) (w:World) (v:Value) (S:List Space) (us:List Value):Prop where
 len:us.length=S.length
 row:w.ownsRow B 39 3 v S.length (Az S us)
 GJ:∀ i (h:i<S.length) (h' : i<us.length),w.ownsRow B 76 2 us[i] S[i].members.length (S[i].members.flatMap Cy)
 apart:us.Pairwise fun a b=>∀ k,a.ownBlock=some k->b.ownBlock≠some k
theorem Ca.below {B:Nat}{w w' : World}{v:Value}{S:List Space}{us:List Value}(h:Ca B w v S us)(hb:Below w.heap.size w w'):Ca B w' v S us:=
 ⟨h.len,own_below h.row hb,fun i h1 h2=>own_below (h.GJ i h1 h2) hb,h.apart⟩
def iU (C:Nat)(v:Value)(us:List Value):Prop:=(∀ k,v.ownBlock=some k->k<C)/\∀ u∈us,∀ k,u.ownBlock=some k->k<C
theorem Ca.isIn {B:Nat}{w:World}{v:Value}{S:List Space}{us:List Value}(h:Ca B w v S us):iU w.heap.size v us:=by
 refine⟨ET h.row,fun u hu=>?_⟩
 obtain⟨i,hi,rfl⟩:=List.getElem_of_mem hu
 exact ET (h.GJ i (by rw[<- h.len];exact hi) hi)
theorem iU.mono {C C' : Nat}{v:Value}{us:List Value}(h:iU C v us)(hC:C<=C'):iU C' v us:=⟨fun k hk=>Nat.lt_of_lt_of_le (h.1 k hk) hC,fun u hu k hk=>Nat.lt_of_lt_of_le (h.2 u hu k hk) hC⟩
theorem Ca.keep {B C:Nat}{w w' : World}{v:Value}{S:List Space}{us:List Value}(h:Ca B w v S us)(hc:iU C v us)(hk:∀ k,B<=k->k<C->w'.heap[k]? = w.heap[k]?):Ca B w' v S us:=
 ⟨h.len,Ae h.row (fun k e=>hk k (Ak h.row k e) (hc.1 k e)),fun i h1 h2=>Ae (h.GJ i h1 h2) (fun k e=>hk k (Ak (h.GJ i h1 h2) k e) (hc.2 _ (List.getElem_mem h2) k e)),h.apart⟩
theorem Ca.base {B B' : Nat}{w:World}{v:Value}{S:List Space}{us:List Value}(h:Ca B w v S us)(hb:B' <= B):Ca B' w v S us:=
 ⟨h.len,Cw h.row hb,fun i h1 h2=>Cw (h.GJ i h1 h2) hb,h.apart⟩
theorem Ca.slice {B:Nat}{w:World}{v:Value}{S:List Space}{us:List Value}(h:Ca B w v S us):∃ a c,v=.slice a S.length c:=by
 obtain⟨a,m,c,rfl⟩:=Ac h.row
 obtain rfl:=Ba h.row
 exact⟨a,c,rfl⟩
theorem Ca.list {B:Nat}{w:World}{v:Value}{S:List Space}{us:List Value}{F:Nat->Prop}(h:Ca B w v S us)(hF:∀ k,B<=k->F k):Aq 3 EI F w v S:=by
 refine Aq.Qk (css:=List.zipWith encS S us) (Bc.own h.row) rfl (by simp[h.len]) (fun k hk=>hF k (Ak h.row k hk)) (fun i hi hi' => ?_)
 have h2:i<us.length:=by rw[h.len];exact hi
 rw[List.getElem_zipWith]
 exact⟨rfl,us[i],rfl,Cq (enc:=Cy) (fun _=>rfl) (fun _=>rfl) (Bc.own (h.GJ i hi h2)) rfl (fun k hk=>hF k (Ak (h.GJ i hi h2) k hk))⟩
structure Pv (B L:Nat) (F:Nat->Prop) (k:Nat) (w:World) (v:Value) (S:List Space) (us:List Value):Prop where
 len:us.length=S.length
 row:w.ownsRow B 39 3 v S.length (Az S us)
 ZR:∀ j,v.ownBlock=some j->j<L
 new:∀ i (h:i<S.length) (h' : i<us.length),i<k->w.ownsRow L 76 2 us[i] S[i].members.length (S[i].members.flatMap Cy)
 old:∀ i (h:i<S.length) (h' : i<us.length),k<=i->Aq 2 DU F w us[i] S[i].members
 sep:∀ j,F j->v.ownBlock≠some j
 apart:∀ i j (hi:i<us.length) (hj:j<us.length),i<j->j<k->∀ q,us[i].ownBlock=some q->us[j].ownBlock≠some q
theorem Pv.done {B L k:Nat}{F:Nat->Prop}{w:World}{v:Value}{S:List Space}{us:List Value}(h:Pv B L F k w v S us)(hk:S.length<=k)(hB:B<=L):Ca B w v S us:=
 ⟨h.len,h.row,fun i h1 h2=>Cw (h.new i h1 h2 (by omega)) hB,List.pairwise_iff_getElem.2 fun i j hi hj hij=>h.apart i j hi hj hij (by have:=h.len;omega)⟩
theorem Pv.step {B L k g c:Nat}{F:Nat->Prop}{w w5:World}{S:List Space}{us:List Value}{u:Value}(h:Pv B L F k w (.slice (some ⟨g,0,none⟩) S.length c) S us)(hk:k<S.length)(hb:Below w.heap.size w w5)(hL:L<=w.heap.size)(hu:w5.ownsRow w.heap.size 76 2 u S[k].members.length (S[k].members.flatMap Cy)):
 Pv B L F (k+1) (((w5.setCell ⟨g,k*3,none⟩ (.string S[k].pre)).setCell ⟨g,k*3+1,none⟩ u).setCell ⟨g,k*3+2,none⟩ (.int .i64 S[k].threshold)) (.slice (some ⟨g,0,none⟩) S.length c) S (us.set k u):=by
 have hgL:g<L:=h.ZR g rfl
 have far:∀ j,j≠g->(((w5.setCell ⟨g,k*3,none⟩ (.string S[k].pre)).setCell ⟨g,k*3+1,none⟩ u).setCell ⟨g,k*3+2,none⟩ (.int .i64 S[k].threshold)).heap[j]? = w5.heap[j]? :=fun j hj=>by
  rw[zo hj,zo hj,zo hj]
 have hcl:=IW S us h.len
 have hrow:=own_below h.row hb
 have hset:Az S (us.set k u)=(((Az S us).set (k*3) (.string S[k].pre)).set (k*3+1) u).set (k*3+2) (.int .i64 S[k].threshold):=by
  have:=LU S us k hk h.len S[k] u
  rwa [List.set_getElem_self] at this
 refine⟨by simp[h.len],?_,h.ZR,fun i h1 h2 h3=>?_,fun i h1 h2 h3=>?_,h.sep,fun i j hi hj hij hjk q hq=>?_⟩
 ·rw[hset]
  exact GH (GH (GH hrow _ (by omega) _) _ (by rw[List.length_set];omega) _) _ (by rw[List.length_set,List.length_set];omega) _
 ·rw[List.length_set] at h2
  by_cases hik:k=i
  ·subst hik
   rw[List.getElem_set_self]
   exact Ae (Cw hu hL) (fun j hj=>far j (by have:w.heap.size<=j:=Ak hu j hj;omega))
  ·rw[List.getElem_set_ne hik]
   have hn:=own_below (h.new i h1 h2 (by omega)) hb
   exact Ae hn (fun j hj=>far j (by have:=Ak hn j hj;omega))
 ·rw[List.length_set] at h2
  rw[List.getElem_set_ne (by omega)]
  exact((h.old i h1 h2 (by omega)).below hb).keep (by simp[World.setCell]) (fun j hj _=>far j (fun e=>h.sep j hj (by rw[e];rfl)))
 ·rw[List.length_set] at hi hj
  rw[List.getElem_set_ne (by omega)] at hq
  by_cases xB:k=j
  ·subst xB
   rw[List.getElem_set_self]
   intro e
   have h1:=ET (h.new i (by rw[<- h.len];exact hi) hi (by omega)) q hq
   have h2:=Ak hu q e
   omega
  ·rw[List.getElem_set_ne xB]
   exact h.apart i j hi hj hij (by omega) q hq
theorem YE {F:Nat->Prop}{w:World} : ∀ {S:List Space} {css:List (List Value)},css.length=S.length->(∀ i (hi:i<S.length) (hi' : i<css.length),css[i].length=3/\EI F w css[i] S[i])->
 ∃ us:List Value,us.length=S.length/\css.flatten=Az S us/\∀ i (h:i<S.length) (h' : i<us.length),Aq 2 DU F w us[i] S[i].members
 | [],[],_,_=>⟨[],rfl,rfl,fun i h=>by cases h⟩
 | [],_::_,h,_=>by cases h
 | _::_,[],h,_=>by cases h
 | s :: S,cs :: css,h,hc => by
   obtain⟨us,h1,h2,h3⟩:=YE (S:=S) (css:=css) (by simpa using h) (fun i hi hi' => hc (i+1) (by simp;omega) (by simp;omega))
   obtain⟨_,v,hv,hm⟩:=hc 0 (by simp) (by simp)
   have hv:cs=encS s v:=hv
   refine⟨v::us,by simp[h1],?_,fun i hi hi' => ?_⟩
   ·rw[List.flatten_cons,h2,hv]
    rfl
   ·cases i with
    | zero=>exact hm
    | succ i=>exact h3 i (by simpa using hi) (by simpa using hi')
end Own
structure za1 (w:World) (o:Own.Ao) (sv kv:Value) (us:List Value) (B:Nat) (w' : World):Prop where
 lo:w.heap.size+2<=B
 hi:B<=w'.heap.size
 sp:Own.Ca (w.heap.size+2) w' sv o.spaces us
 inn:Own.iU B sv us
 ks:w'.ownsRow B 59 2 kv o.keys.length (o.keys.flatMap Own.Dw)
 bel:Below w.heap.size w w'
theorem KW (o:Own.Ao)(sv kv:Value)(w:World)(hS:Own.BF w sv o.spaces)(hK:Own.Du w kv o.keys)(hls:o.spaces.length<=3000000)(hlk:o.keys.length<=3000000)(hlm:∀ s∈o.spaces,s.members.length<=3000000):
 Calls Tryz.prog 50 #[.agg #[.int .i64 o.count,sv,kv]] w fun e w' => ∃ sv' kv' us B,e=.returned (.agg #[.int .i64 o.count,sv',kv'])/\za1 w o sv' kv' us B w':=by
 obtain⟨sa,sc,rfl⟩:=hS.len
 obtain⟨ka,kc,rfl⟩:=hK.len
 have ha1:=(At.new w 25 #[.int .i64 o.count,.slice sa o.spaces.length sc,.slice ka o.keys.length kc]).alloc (.cells #[.int .i64 0,.slice none 0 0,.slice none 0 0] 25)
 have ha2:=At.new1 w (.cells #[.int .i64 o.count,.slice sa o.spaces.length sc,.slice ka o.keys.length kc] 25) 25 #[.int .i64 0,.slice none 0 0,.slice none 0 0]
 have hb1:Below w.heap.size w ((w.alloc (.cells #[.int .i64 o.count,.slice sa o.spaces.length sc,.slice ka o.keys.length kc] 25)).alloc (.cells #[.int .i64 0,.slice none 0 0,.slice none 0 0] 25)):=zb.alloc (by simp) _
 have hz1:((w.alloc (.cells #[.int .i64 o.count,.slice sa o.spaces.length sc,.slice ka o.keys.length kc] 25)).alloc (.cells #[.int .i64 0,.slice none 0 0,.slice none 0 0] 25)).heap.size=w.heap.size+2:=by simp
 have hs1:=(hS.mono (G:=fun k=>k<w.heap.size) (fun k _ hk=>hk)).below hb1;have hk1:=(hK.mono (G:=fun k=>k<w.heap.size) (fun k _ hk=>hk)).below hb1
 have c1:=ha1.cell 1
 simp only[zg] at c1
 have HS:=zh hs1;have HK:=zh hk1;have HA1:=zh ha1;have HA2:=zh ha2;have HB1:=zh hb1;have HLM:=zh hlm
 clear hS hK hs1 hk1 ha1 ha2 hb1 hlm
 go_enter Tryz.func50,Tryz.ntmps50
 go_wp2_with fail
 generalize (w.alloc (.cells #[.int .i64 o.count,.slice sa o.spaces.length sc,.slice ka o.keys.length kc] 25)).alloc (.cells #[.int .i64 0,.slice none 0 0,.slice none 0 0] 25)=w1 at*
 obtain⟨css,q1,q2,q3⟩:=Aq.cells HS.out
 obtain⟨us0,u1,u2,u3⟩:=Own.YE q1 q2
 have hone:∀ u∈css.flatten,u.oneCell' = true:=YD fun cs hcs u hu=>by
  obtain⟨i,hi,rfl⟩:=List.getElem_of_mem hcs
  obtain⟨_,v,hv,hm⟩:=q2 i (by omega) hi
  rw[hv] at hu
  obtain⟨a,c,rfl⟩:=hm.len
  simp at hu
  rcases hu with rfl|rfl|rfl<;>rfl
 refine(Ww _ o.spaces.length css.flatten w1 q3 hone hls).mono ?_
 rintro e w2 ⟨v',rfl,ho,hb2⟩
 obtain⟨a,m,c,rfl⟩:=Ac ho
 obtain rfl:=Ba ho
 have hup:=Ak ho
 have hlt:=Own.ET ho
 have A1:=zh (HA1.out.below hb2 (by omega));have A2:=zh (HA2.out.below hb2 (by omega));have B2:=zh (HB1.out.trans (hb2.mono HB1.out.size));have HK2:=zh (HK.out.below hb2)
 have hz2:=hb2.size
 have hmx:Own.Pv (w.heap.size+2) w2.heap.size (fun k=>k<w.heap.size) 0 w2 (.slice a o.spaces.length c) o.spaces us0:=by
  refine⟨u1,by rw[<- u2,<- hz1];exact ho,hlt,fun i _ _ h=>by omega,fun i h1 h2 _=>(u3 i h1 h2).below hb2,fun k hk e=>by have:=hup k e;omega,fun i j _ _ _ h=>by omega⟩
 have HMX:=zh hmx;have HUP:=zh hup
 have z1:=A1.out.free 1;have y1:=A1.out.cell 1
 simp only[zg] at y1
 clear hb2 hmx HA1 HA2 HB1 HK HS c1 ho hup hlt q1 q2 q3 u1 u2 u3 hone
 go_upto_region 2 with fail
 have VO:=A1.out.set 1 (.slice a o.spaces.length c)
 have TI:At (w2.setCell ⟨w.heap.size,1,none⟩ (.slice a o.spaces.length c)) w.heap.size 25 #[.int .i64 o.count,.slice a o.spaces.length c,.slice ka o.keys.length kc]:=VO
 have xC:=A2.out.far (p:=⟨w.heap.size,1,none⟩) (by simp) (.slice a o.spaces.length c)
 have hb4:=B2.out.setCell (p:=⟨w.heap.size,1,none⟩) (Nat.le_refl _) (.slice a o.spaces.length c)
 have hz4:(w2.setCell ⟨w.heap.size,1,none⟩ (.slice a o.spaces.length c)).heap.size=w2.heap.size:=by simp[World.setCell]
 have hk4:=HK2.out.keep (w':=w2.setCell ⟨w.heap.size,1,none⟩ (.slice a o.spaces.length c)) (by simp[World.setCell]) (fun k hk _=>zo (by show k≠w.heap.size;omega))
 have hm4:Own.Pv (w.heap.size+2) w2.heap.size (fun k=>k<w.heap.size) 0 (w2.setCell ⟨w.heap.size,1,none⟩ (.slice a o.spaces.length c)) (.slice a o.spaces.length c) o.spaces us0:=
  ⟨HMX.out.len,Ae HMX.out.row (fun k hk => heap_setCell_other _ _ _ _ (by show k ≠ w.heap.size;have :=Ak HMX.out.row k hk;omega)),HMX.out.ZR,fun i _ _ h => by omega,
    fun i h1 h2 h3=>(HMX.out.old i h1 h2 h3).keep (by simp[World.setCell]) (fun k hk _=>zo (by show k≠w.heap.size;omega)),HMX.out.sep,fun i j _ _ _ h=>by omega⟩
 obtain⟨L,hL⟩:∃ L,L=w2.heap.size:=⟨_,rfl⟩
 rw[<- hL] at hm4 hz4
 have A4:=zh TI;have R4:=zh xC;have B4:=zh hb4;have HK4:=zh hk4;have HM4:=zh hm4;have HZ4:=zh hz4
 have hL2:w.heap.size+2<=L:=by omega
 have c1:=TI.cell 1
 simp only[zg] at c1
 clear VO TI xC hb4 hk4 hm4 hz4 hL HMX HUP HK2 A1 A2 B2 z1 y1 hz2
 generalize w2.setCell ⟨w.heap.size,1,none⟩ (.slice a o.spaces.length c)=w4 at*
 go_wp2_with fail
 go_loopw [11] (fun i wr=>∃ (k:Nat) (us:List Value),k<=o.spaces.length/\i=.int .i64 k/\Own.Pv (w.heap.size+2) L (fun k=>k<w.heap.size) k wr (.slice a o.spaces.length c) o.spaces us/\Fr (fun k=>w.heap.size+2<=k/\a=some ⟨k,0,none⟩) w4 wr) (fun i _=>o.spaces.length-(intOf i).toNat)
 case atStart=>exact⟨0,us0,by omega,rfl,HM4.out,Fr.refl _ _⟩
 case round=>
  obtain⟨k,us,hk,rfl,hrow,hfr⟩:=hrel
  have oV:=hfr.at A4.out (fun h=>by omega)
  have xD:=hfr.at R4.out (fun h=>by omega)
  have hfz:=hfr.size
  have hLr:L<=wr.heap.size:=by have:=HZ4.out;omega
  have kr:=zh hrow;have HFR:=zh hfr;have AR:=zh oV;have RR:=zh xD
  have c1:=oV.cell 1
  simp only[zg] at c1
  have hbl:=oV.lt
  clear oV xD hfr
  by_cases hlt:k<o.spaces.length
  ·have dk:decide ((k:Int)<o.spaces.length)=true:=zt
   obtain⟨g,cap,hv,hcell⟩:=Ct hrow.row (by omega)
   cases hv
   obtain⟨ys,q1,hbg,_,_,_,hxl⟩:=Gf hrow.row
   have hku:k<us.length:=by rw[hrow.len];exact hlt
   have hget:=Own.IX o.spaces us k hlt hku
   have f0:=hcell (k*3) _ (hget 0 (by omega));have f1:=hcell (k*3+1) _ (hget 1 (by omega));have f2:=hcell (k*3+2) _ (hget 2 (by omega))
   have z0:=q1.free (k*3);have z1:=q1.free (k*3+1);have z2:=q1.free (k*3+2)
   have e3:=hrow.old k hlt hku (Nat.le_refl _)
   have hlm:=HLM.out o.spaces[k] (List.getElem_mem hlt)
   obtain⟨ma,mc,hvk⟩:=e3.len
   rw[hvk] at e3 f1
   have Q1:=zh q1
   have hcp:=Em o.spaces[k].pre o.spaces[k].threshold _ o.spaces[k].members wr.drew ((e3.below ((Below.refl _ _).drew)).mono (fun _ _ _=>trivial)) hlm
   have HCP:=zh hcp
   obtain⟨pre,hpre⟩:∃ x,x=o.spaces[k].pre:=⟨_,rfl⟩
   obtain⟨th,hth⟩:∃ x,x=o.spaces[k].threshold:=⟨_,rfl⟩
   rw[<- hpre] at f0 HCP
   rw[<- hth] at f2 HCP
   have TM:=zh hpre;have HTH:=zh hth
   have hgl:g<wr.heap.size:=q1.lt
   clear hrow q1 e3 hvk hlm hcp hpre hth hcell hget hku hxl
   go_wp2_with fail
   refine Lex.zn (fun j=>j=w.heap.size) [1] 9 [9] ?_
   simp only[Lex.Bp,zd]
   go_wp2_with fail
   refine HCP.out.mono ?_
   rintro e w5 ⟨v',rfl,hov,hb5⟩
   have TF : Below wr.heap.size wr w5:=(Below.refl wr.heap.size wr).drew.trans hb5
   obtain⟨va,vm,vc,rfl⟩:=Ac hov
   have y0:=(TF.cell (p:=⟨g,k*3,none⟩) hgl).trans f0;have y1:=(TF.cell (p:=⟨g,k*3+1,none⟩) hgl).trans f1;have y2:=(TF.cell (p:=⟨g,k*3+2,none⟩) hgl).trans f2
   have q5:=Q1.out.below TF hgl
   have x0:=q5.free (k*3);have x1:=q5.free (k*3+1);have x2:=q5.free (k*3+2)
   have c5:=(TF.cell (p:=⟨w.heap.size,1,none⟩) hbl).trans c1
   have HB5:=zh TF;have HOV:=zh hov
   clear hb5 TF hov q5 f0 f1 f2 z0 z1 z2 Q1
   go_wp2_with fail
   refine Lex.Mid.intro (fun j hj _=>by rw[hj];exact HB5.out.block _ hbl) ?_
   go_wp2_with fail
   refine Lex.zk ⟨⟨rfl,zi c1⟩,trivial⟩ ?_
   go_wp2_with fail
   go_round
   case measure=>simp[intOf];omega
   case rel=>
    have hs5:=kr.out.step hlt HB5.out hLr HOV.out
    rw[<- TM.out,<- HTH.out] at hs5
    refine⟨k+1,us.set k (.slice va vm vc),by omega,by go_num,hs5,?_⟩
    have f5:Fr (fun k=>w.heap.size+2<=k/\(some ⟨g,0,none⟩:Option Addr)=some ⟨k,0,none⟩) w4 w5:=HFR.out.trans (Fr.of_below HB5.out) (fun _ h=>.inl h)
    exact((f5.setCell (p:=⟨g,k*3,none⟩) (.inl ⟨hbg,rfl⟩) _).setCell (p:=⟨g,k*3+1,none⟩) (.inl ⟨hbg,rfl⟩) _).setCell (p:=⟨g,k*3+2,none⟩) (.inl ⟨hbg,rfl⟩) _
  ·have dk:decide ((k:Int)<o.spaces.length)=false:=zf
   have hso:=hrow.done (by omega) hL2
   have hkr:=HK4.out.fr HFR.out (fun k hk h=>by omega)
   have hkm:=Own.Du.rows (hkr.mono (G:=Own.aP) (fun _ _ _=>trivial))
   have c2:=AR.out.cell 2
   simp only[zg] at c2
   have HSO:=zh hso;have HKM:=zh hkm
   clear hrow hso hkr hkm
   go_wp2_with fail
   refine(aT _ o.keys.length _ wr HKM.out (Own.qV _) hlk).mono ?_
   rintro e w5 ⟨v',rfl,hov,hb5⟩
   have hup:=Ak hov
   obtain⟨va,vm,vc,rfl⟩:=Ac hov
   have q5:=AR.out.below hb5 hbl
   have r5:=RR.out.below hb5 RR.out.lt
   have x0:=q5.cell 0;have x1:=q5.cell 1;have x2:=q5.cell 2;have x3:=q5.free 2
   have y0:=r5.cell 0;have y1:=r5.cell 1;have y2:=r5.cell 2;have y3:=r5.free 0;have y4:=r5.free 1;have y5:=r5.free 2
   simp only[zg] at x0 x1 x2 y0 y1 y2
   have HB5:=zh hb5;have HOV:=zh hov;have HUP:=zh hup;have R5:=zh r5
   clear hb5 hov hup q5 r5 c1 c2
   go_wp2_with fail
   have F2:=(((R5.out.far (p:=⟨w.heap.size,2,none⟩) (by simp) (.slice va vm vc)).set 0 (.int .i64 o.count)).set 1 (.slice a o.spaces.length c)).set 2 (.slice va vm vc)
   have far:∀ k,k≠w.heap.size->k≠w.heap.size+1->((((w5.setCell ⟨w.heap.size,2,none⟩ (.slice va vm vc)).setCell ⟨w.heap.size+1,0,none⟩ (.int .i64 o.count)).setCell ⟨w.heap.size+1,1,none⟩ (.slice a o.spaces.length c)).setCell ⟨w.heap.size+1,2,none⟩ (.slice va vm vc)).heap[k]? = w5.heap[k]? :=fun k h1 h2=>by
    rw[zo h2,zo h2,zo h2,zo h1]
   have hrz:w.heap.size+1<wr.heap.size:=RR.out.lt
   have xE:=HB5.out.size
   refine Ob rfl rfl (AJ F2 Tryz.underlying25 rfl Bt) ⟨_,_,us,wr.heap.size,rfl,by omega,by simpa [World.setCell] using xE,?_,HSO.out.isIn,?_,?_⟩
   ·exact(HSO.out.below HB5.out).keep (HSO.out.isIn.mono xE) (fun k hk _=>far k (by omega) (by omega))
   ·exact Ae HOV.out (fun k hk=>far k (by have:=HUP.out k hk;omega) (by have:=HUP.out k hk;omega))
   ·have za2:Below w.heap.size w w5:=(B4.out.trans (HFR.out.below (B:=w.heap.size) (by have:=HZ4.out;omega) (fun k hk=>by omega))).trans (HB5.out.mono (by omega))
    exact(((za2.setCell (p:=⟨w.heap.size,2,none⟩) (Nat.le_refl _) _).setCell (p:=⟨w.heap.size+1,0,none⟩) (by simp) _).setCell (p:=⟨w.heap.size+1,1,none⟩) (by simp) _).setCell (p:=⟨w.heap.size+1,2,none⟩) (by simp) _
end
end Go.Proofs.YtjlmglgmcekmhaaGreatDoor
