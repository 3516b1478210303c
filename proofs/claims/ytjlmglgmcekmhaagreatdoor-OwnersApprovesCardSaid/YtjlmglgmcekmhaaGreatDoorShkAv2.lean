/- Slices of strings as they are read. -/
import Derived.Test.YtjlmglgmcekmhaaGreatDoorProg
import Derived.WalkKit
import Derived.WalkSpells
import Derived.WalkLawsBesides
import Derived.Deep.Draws
import Derived.Deep.AppendLies
import Derived.Maps.AppendAt
import Derived.Lib.Hide
import Derived.Maps.OwnSet
import Derived.Lib.Bytes
import Derived.Laws.BytesArg
import Derived.Lib.SlBytesRow
import Derived.Test.YtjlmglgmcekmhaaGreatDoorChecked
import Derived.BigQuiet
import Derived.Deep.QuietTactic
import Derived.KernelRfl
import Derived.NoCompiler
import Derived.StillTail
import Derived.Deep.DeepCutAuto
import Derived.Lib.EndianBits
import Derived.Laws.ResultCell
import Derived.Deep.MidRow
import Derived.Deep.RegionHeld3
import Derived.Deep.DrawnRows
import Derived.Deep.Cut
import Derived.StillTailTactics
import Derived.Deep.RegionLaw
import Derived.Shelf.Strings.Builder1
import Derived.Shelf.Strings.Builder2
import Derived.Shelf.Strings.OnBuilder
import Derived.Shelf.Small.Utf8
import Derived.Shelf.Small.Bits
import Derived.Shelf.Small.Strs
import Derived.Shelf.Strings.BuilderF
import Derived.Shelf.Strings.BuilderK
import Derived.Shelf.Utf8.RuneCount
import Derived.Shelf.Strings.Builder2Cap
import Derived.Shelf.Strconv.Itoa0
import Derived.Shelf.LaysM
import Derived.Shelf.Strconv.Clone
import Derived.Shelf.Strings.Search1
import Derived.Shelf.Strings.Search2
import Derived.Shelf.Strings.Search3
import Derived.Shelf.Strings.Count
import Derived.Shelf.Strings.Shaped
import Derived.Shelf.Strings.Prefix
import Derived.Shelf.Strings.Split
import Derived.Shelf.Strings.SplitShaped
import Derived.Shelf.Unicode.Decode
import Derived.Shelf.Strings.Runes
import Derived.Shelf.Strings.RuneCount
import Derived.Shelf.Strings.Explode
import Derived.Shelf.Bits.Mul64
import Derived.Shelf.Strings.Repeat
import Derived.Shelf.Unicode.DecodeSlow
import Derived.Shelf.Unicode.DecodeAny
import Derived.Shelf.Strings.BuilderCap
import Derived.Shelf.Slices.Turned
import Derived.Ground.SlgnProg
import Derived.Shelf.SlicesE.Index
import Derived.Shelf.SlicesE.Clone
import Derived.Ground.SlgfProg
import Derived.Shelf.SlicesE.IndexFunc
import Derived.Shelf.SlicesQ.IndexFunc
import Derived.OwnWalk
import Derived.Laws.BitsLemmas
import Derived.Laws.AppendOwn
import Derived.Deep.AppendSrc
import Derived.Lib.ConvBytes
import Derived.Lib.OthersKept
import Derived.Deep.LoopGhost
import Derived.Lib.Split
import Derived.Lib.SplitLaws
import Derived.Laws.EntriesVeiled
import Derived.Maps.RangeWalk
import Derived.StringKeys
import Derived.OrdersIn
import Derived.RangeFuncCalls
import Derived.TacticsIn
import Derived.RangeFuncNested
import Derived.RangeFuncBound
import Derived.RangeFuncLeaves
import Derived.OwnWalkIn
import Derived.TacticsInMore
import Derived.LoopNIn
import Derived.LoopIn
import Derived.Lib.Builder
import Derived.Lib.FrozenHead
import Derived.Lib.AppendStr
import Derived.Lib.Overlaps
import Derived.Laws.Externs
import Derived.Lib.AppendZeros
import Derived.Laws.IdiomCopy
import Derived.Laws.CopyRow
import Derived.Test.YtjlmglgmcekmhaaGreatDoorShkC1
import Derived.Test.YtjlmglgmcekmhaaGreatDoorShkC2
import Derived.Test.YtjlmglgmcekmhaaGreatDoorShkC3
import Derived.Test.YtjlmglgmcekmhaaGreatDoorShkC4
import Derived.Test.YtjlmglgmcekmhaaGreatDoorShkC5
import Derived.Test.YtjlmglgmcekmhaaGreatDoorShkC6
import Derived.Test.YtjlmglgmcekmhaaGreatDoorShkC7
import Derived.Test.YtjlmglgmcekmhaaGreatDoorShkC8
set_option linter.unusedVariables false
set_option linter.unusedSimpArgs false
set_option maxRecDepth 100000
set_option maxHeartbeats 8000000
namespace Go.Proofs.YtjlmglgmcekmhaaGreatDoor
section
open Go Go.RowKit
theorem Au.zc8{u w:World}{l:List (TypeId×Array Value)}{t:TypeId}{a b c:Value}(h:Au u w l)(r:l[1]?=some (t,#[a,b,c])):w.cell? ⟨u.heap.size+1,0,none⟩=some a/\w.cell? ⟨u.heap.size+1,1,none⟩=some b/\w.cell? ⟨u.heap.size+1,2,none⟩=some c/\w.frozen? ⟨u.heap.size+1,0,none⟩=false/\w.frozen? ⟨u.heap.size+1,1,none⟩=false/\w.frozen? ⟨u.heap.size+1,2,none⟩=false:=⟨h.cell 1 0 r rfl,h.cell 1 1 r rfl,h.cell 1 2 r rfl,h.free 1 0 r,h.free 1 1 r,h.free 1 2 r⟩
theorem Au.zeb{u w:World}{l:List (TypeId×Array Value)}{t:TypeId}{a b c:Value}(h:Au u w l)(r:l[3]?=some (t,#[a,b,c])):w.cell? ⟨u.heap.size+1+1+1,0,none⟩=some a/\w.cell? ⟨u.heap.size+1+1+1,1,none⟩=some b/\w.cell? ⟨u.heap.size+1+1+1,2,none⟩=some c:=⟨h.cell 3 0 r rfl,h.cell 3 1 r rfl,h.cell 3 2 r rfl⟩
theorem Au.zdL{u w:World}{l:List (TypeId×Array Value)}{t:TypeId}{a b c:Value}(h:Au u w l)(r:l[3]?=some (t,#[a,b,c])):w.cell? ⟨u.heap.size+1+1+1,0,none⟩=some a/\w.cell? ⟨u.heap.size+1+1+1,1,none⟩=some b/\w.cell? ⟨u.heap.size+1+1+1,2,none⟩=some c/\w.frozen? ⟨u.heap.size+1+1+1,0,none⟩=false/\w.frozen? ⟨u.heap.size+1+1+1,1,none⟩=false/\w.frozen? ⟨u.heap.size+1+1+1,2,none⟩=false:=⟨h.cell 3 0 r rfl,h.cell 3 1 r rfl,h.cell 3 2 r rfl,h.free 3 0 r,h.free 3 1 r,h.free 3 2 r⟩
end
section
open Go Go.RowKit Go.Maps
theorem zbI {w:World}{ops:Array Oper}{rest:List Oper}{o:Oper}{a:Act}{Q:Exit->Act->World->Prop}(hgd:o.guard=none)(s x:Operand)(ho:o.op=.call { callee:=.builtin .append,args:=#[s,x],argTypes:=#[68,68] })
 (base n:Nat) (v:Value) (xs:List Value) (hs:a.eval s=v) (hown:w.ownsRow base 9 1 v n xs) (y:Value) (ys:List ByteArray) (hx:a.eval x=y) (hy:Al w y ys) (hn:n+ys.length<=4000000) (hb:base<=w.heap.size)
 (h:∀ v' w',w'.ownsRow base 9 1 v' (n+ys.length) (xs++ys.map Value.string)->w.grownBy w' v.ownBlock->wpList Tryz.prog ops Q rest (a.put o.dst v') w'):wpList Tryz.prog ops Q (o::rest) a w:=by
 obtain⟨i1,hi,hz0,hz1,hz2⟩:=info_parts XJ
 obtain⟨ya,yc,rfl,hc⟩:=hy
 cases ya with
 | none =>
   have h0:ys.length=0:=by
    rcases hc with h0|⟨b,o,e,_⟩
    ·exact h0
    ·cases e
   have hys:ys=[]:=List.eq_nil_of_length_eq_zero h0
   subst hys
   refine wpList_plain hgd fun K hK=>?_
   have hrun:=PG (P:=Tryz.prog) (w:=w) base 68 o.type 9 i1 1 Tryz.underlying68 hi v n yc xs hown
   unfold Oper.wp
   have hx' : a.eval x=.slice none 0 yc:=hx
   simp[execOp,ho,resolve,invoke,builtin,hs,hx',hrun,Result.andThen]
   exact hK _ _ (h v w (by simpa using hown) ⟨rfl,rfl,rfl,Nat.le_refl _,fun _ _ _=>rfl⟩)
 | some p =>
   refine wpList_append_own w hgd s x 68 ho base 9 i1 (.string ⟨#[]⟩) 1 16 Tryz.underlying68 hi hz0 hz1 hz2 rfl (by omega) v n xs hs hown p ys.length yc (ys.map Value.string) hx (by simp) (fun j u hj=>?_) (fun u hu=>by obtain⟨z,_,rfl⟩:=List.mem_map.1 hu;rfl) (by unfold maxLen;omega) (by omega) hb (fun v' w' h1 h2 _=>h v' w' h1 h2)
   have hjl:j<ys.length:=by
    have:=(List.getElem?_eq_some_iff.1 hj).1
    simpa using this
   rcases hc with h0|⟨b,o',e,hcell⟩
   ·omega
   ·cases e
    have hadd:(⟨b,o',none⟩:Addr).add j=⟨b,o' + j,none⟩:=by unfold Addr.add;split<;>simp_all
    rw[hadd,hcell j hjl]
    simp[List.getElem?_map,hjl] at hj
    rw[<- hj]
    simp[List.getD_eq_getElem?_getD,hjl]
def zbO (xs:List ByteArray):Nat:=(xs.map ByteArray.size).sum
def zcE (xs:List ByteArray):Bool:=decide (xs.length<=70)&&decide (zbO xs<=20000)
theorem zc2 (xs:List ByteArray)(k:Nat)(h:k<xs.length):zbO (xs.take (k+1))=zbO (xs.take k)+xs[k].size:=by
 unfold zbO
 rw[List.take_succ_eq_append_getElem h,List.map_append,List.sum_append]
 simp
theorem zct (v:Value)(xs:List ByteArray)(w:World)(h:Al w v xs)(hx:∀ x∈xs,x.size<=140737488355328)(hl:xs.length<=60000):
 Calls Tryz.prog 147 #[v] w fun e w' => e=.returned (.bool (zcE xs))/\w' = w:=by
 obtain⟨a,c,rfl⟩:=h.len
 have htk:∀ k,k<=xs.length->zbO (xs.take k)<=k*140737488355328:=by
  intro k
  induction k with
  | zero=>intro _;simp[zbO]
  | succ k ih =>
    intro hk
    rw[zc2 xs k (by omega)]
    have h1:=ih (by omega)
    have h2:=hx _ (List.getElem_mem (show k<xs.length by omega))
    omega
 obtain⟨R,hR⟩:∃ R,R=zcE xs:=⟨_,rfl⟩
 rw[<- hR]
 unfold zcE at hR
 have HR:=zh hR;have HV:=zh h;have HTK:=zh htk;have HX:=zh hx;clear hR h htk hx
 go_enter Tryz.func147,Tryz.ntmps147
 go_wp2_with fail
 go_loopw [3,4] (fun n i wr=>∃ k:Nat,k<=xs.length/\i=.int .i64 k/\n=.int .i64 ((zbO (xs.take k):Nat):Int)/\wr=w) (fun _ i _=>xs.length-(intOf i).toNat)
 case atStart=>exact⟨0,by omega,rfl,rfl,rfl⟩
 case round=>
  obtain⟨k,hk,rfl,rfl,rfl⟩:=hrel
  have hT:=HTK.out k hk
  have hT2:zbO (xs.take k)<=9223372036854775000:=by omega
  by_cases hlt:k<xs.length
  ·have dk:decide ((k:Int)<xs.length)=true:=by simp;omega
   obtain⟨b,o,rfl⟩:=HV.out.addrOf hlt
   have ce:=HV.out.cellAt hlt
   obtain⟨s,hs⟩:∃ s,s=xs.getD k ⟨#[]⟩:=⟨_,rfl⟩
   rw[<- hs] at ce
   have hsx:s=xs[k]:=by rw[hs];simp[List.getD_eq_getElem?_getD,hlt]
   have hstep:zbO (xs.take (k+1))=zbO (xs.take k)+s.size:=by rw[zc2 xs k hlt,hsx]
   have hss:s.size<=140737488355328:=HX.out s (by rw[hsx];exact List.getElem_mem hlt)
   have hn1:=HTK.out (k+1) hlt
   rw[hstep] at hn1
   generalize zbO (xs.take k)=T at*
   have HST:=zh hstep;clear hstep hs hsx
   go_wp2_with fail
   exact⟨⟨k+1,by omega,by go_num,by rw[HST.out];go_num,by first|rfl|trivial⟩,by simp[intOf];omega⟩
  ·have dk:decide ((k:Int)<xs.length)=false:=by simp;omega
   have hall:zbO (xs.take k)=zbO xs:=by rw[List.take_of_length_le (by omega)]
   rw[hall] at hT2 ⊢
   clear hall hT
   by_cases h1:xs.length<=70
   ·have e1:decide ((xs.length:Int)<=70)=true:=by simp;omega
    by_cases h2:zbO xs<=20000
    ·have e2:decide (((zbO xs:Nat):Int)<=20000)=true:=by simp;omega
     have hf:R=true:=by rw[HR.out,decide_eq_true h1,decide_eq_true h2]<;>rfl
     have HF:=zh hf;clear hf
     go_wp2_with fail
     go_ret
     exact⟨by rw[HF.out]<;>rfl,rfl⟩
    ·have e2:decide (((zbO xs:Nat):Int)<=20000)=false:=by simp;omega
     have hf:R=false:=by rw[HR.out,decide_eq_false h2];simp
     have HF:=zh hf;clear hf
     go_wp2_with fail
     go_ret
     exact⟨by rw[HF.out]<;>rfl,rfl⟩
   ·have e1:decide ((xs.length:Int)<=70)=false:=by simp;omega
    have hf:R=false:=by rw[HR.out,decide_eq_false h1];simp
    have HF:=zh hf;clear hf
    go_wp2_with fail
    go_ret
    exact⟨by rw[HF.out]<;>rfl,rfl⟩
theorem zcl:∀ (f:Nat) (x:ByteArray) (i n:Nat) (p:List ByteArray) (y:ByteArray),Sig.Cc f x i n p=some y->p.length<f
 | 0,_,_,_,_,_,h=>by cases h
 | f + 1,x,i,n,p,y,h => by
   by_cases hn:n=1
   ·subst hn
    rw[ZY] at h
    by_cases hp:p=[]
    ·subst hp;simp
    ·rw[if_neg hp] at h;cases h
   ·by_cases hp:p=[]
    ·subst hp;simp
    ·have e:p=p.dropLast++[p.getLast hp]:=(List.dropLast_concat_getLast hp).symm
     rw[e,XY _ _ _ _ _ _ hn] at h
     have key:∀ a b,(∃ r,Sig.Cc f x a b p.dropLast=some r)->p.length<f+1:=by
      rintro a b ⟨r,hr⟩
      have:=zcl f x a b p.dropLast r hr
      rw[List.length_dropLast] at this
      have:0<p.length:=List.length_pos_iff.2 hp
      omega
     split at h
     ·obtain⟨r,hr,_⟩:=Option.map_eq_some_iff.1 h
      exact key _ _ ⟨r,hr⟩
     ·obtain⟨r,hr,_⟩:=Option.map_eq_some_iff.1 h
      exact key _ _ ⟨r,hr⟩
theorem zcV (z:ByteArray):Sig.node ⟨#[]⟩ z=⟨#[]⟩:=by unfold Sig.node;rw[if_neg];exact fun h=>absurd h.1 (by decide)
theorem zcW (z:ByteArray):Sig.node z ⟨#[]⟩=⟨#[]⟩:=by unfold Sig.node;rw[if_neg];exact fun h=>absurd h.2 (by decide)
theorem zcF (o:Option ByteArray)(z:ByteArray):(o.map fun r=>Sig.node r z).getD ⟨#[]⟩=Sig.node (o.getD ⟨#[]⟩) z:=by cases o<;>simp[zcV]
theorem zcG (o:Option ByteArray)(z:ByteArray):(o.map fun r=>Sig.node z r).getD ⟨#[]⟩=Sig.node z (o.getD ⟨#[]⟩):=by cases o<;>simp[zcW]
theorem zbY (f:Nat)(x:ByteArray)(i:Nat)(v:Value)(p:List ByteArray)(w:World)(h:Al w v p):
 Calls Tryz.prog 199 #[.string x,.int .i64 i,.int .i64 1,v] w fun e w' => e=.returned (.string ((Sig.Cc (f+1) x i 1 p).getD ⟨#[]⟩))/\Below w.heap.size w w':=by
 rw[ZY]
 obtain⟨R,hR⟩:∃ R,R=(if p=[] then some x else none:Option ByteArray).getD ⟨#[]⟩:=⟨_,rfl⟩
 rw[<- hR]
 obtain⟨a,c,rfl⟩:=h.len
 have HR:=zh hR;clear h hR
 go_enter Tryz.func199,Tryz.ntmps199
 cases p with
 | nil =>
   have d0:decide ((0:Int)<(([]:List ByteArray).length:Int))=false:=rfl
   go_wp2_with fail
   go_ret
   rw[HR.out]
   exact⟨rfl,Below.refl _ _⟩
 | cons y p =>
   have d0:decide ((0:Int)<((y::p).length:Int))=true:=decide_eq_true (by rw[List.length_cons];omega)
   obtain⟨N,hN⟩:∃ N,N=(y::p).length:=⟨_,rfl⟩
   rw[<- hN] at d0 ⊢
   go_wp2_with fail
   go_ret
   rw[HR.out]
   exact⟨rfl,Below.refl _ _⟩
theorem zc9:∀ (f:Nat) (x:ByteArray) (i n:Nat) (v:Value) (p:List ByteArray) (w:World),1<=n->n<=f+1->i<n->n<=4096->p.length<=140737488355328->Al w v p->Eb v->
 Calls Tryz.prog 199 #[.string x,.int .i64 i,.int .i64 n,v] w fun e w' => e=.returned (.string ((Sig.Cc (f+1) x i n p).getD ⟨#[]⟩))/\Below w.heap.size w w':=by
 intro f
 induction f with
 | zero =>
   intro x i n v p w h1 hf hi hn hp h hcap
   obtain rfl:n=1:=by omega
   exact zbY 0 x i v p w h
 | succ f ih =>
   intro x i n v p w h1 hf hi hn hp h hcap
   by_cases hn1:n=1
   ·subst hn1
    exact zbY (f+1) x i v p w h
   ·obtain⟨R,hR⟩:∃ R,R=(Sig.Cc (f+2) x i n p).getD ⟨#[]⟩:=⟨_,rfl⟩
    rw[<- hR]
    have HR:=zh hR;have H:=zh h;have IH:=zh ih
    obtain⟨a,c,rfl⟩:=h.len
    obtain⟨_,_,_,he,hcl⟩:=hcap
    cases he
    clear hR h ih
    have d1:((n:Int)==1)=false:=by rw[beq_eq_false_iff_ne];omega
    go_enter Tryz.func199,Tryz.ntmps199
    by_cases h0:p=[]
    ·subst h0
     go_wp2_with fail
     go_ret
     rw[HR.out,aj _ _ _ _ hn1]
     exact⟨rfl,Below.refl _ _⟩
    ·obtain⟨q,z,rfl⟩:∃ q z,p=q++[z]:=⟨p.dropLast,p.getLast h0,(List.dropLast_concat_getLast h0).symm⟩
     clear h0
     have hql:(q++[z]).length=q.length+1:=by simp
     have hrr:=XY (f+1) x z i n q hn1
     have hst:=H.out.first (c':=c)
     obtain⟨b,o,ha⟩:=H.out.addrOf (k:=q.length) (by omega)
     subst ha
     have hcell:=H.out.cellAt (k:=q.length) (by omega)
     rw[List.getD_eq_getElem?_getD,List.getElem?_append_right (Nat.le_refl _),Nat.sub_self] at hcell
     simp only[List.getElem?_cons_zero,Option.getD_some] at hcell
     rw[hql] at hcl hp ⊢
     have d0:(((q.length+1:Nat):Int)==0)=false:=by rw[beq_eq_false_iff_ne];omega
     have HST:=zh hst;have HRR:=zh hrr
     clear hst hrr hql
     have hbl:=cB hcell
     go_wp2_with fail
     refine(Mv n _ (by omega) (by omega)).mono ?_
     rintro e w1 ⟨rfl,rfl⟩
     have hsp:=Sig.QK (n:=n) (by omega)
     have hs0:=Sig.NK n
     obtain⟨K,hK⟩:∃ K,K=Sig.split n:=⟨_,rfl⟩
     rw[<- hK] at hsp hs0 ⊢
     have HK:=zh hK;clear hK
     by_cases hik:i<K
     ·have dk:decide ((i:Int)<K)=true:=by simp;omega
      have hr2:R=Sig.node ((Sig.Cc (f+1) x i K q).getD ⟨#[]⟩) z:=by rw[HR.out,HRR.out,<- HK.out,if_pos hik,zcF]
      have HR2:=zh hr2;clear hr2
      go_wp2_with fail
      refine Lex.zn (fun k=>k=b) [10] 11 [7] ?_
      simp only[Lex.Bp,zd]
      go_wp2_with fail
      refine(IH.out x i K _ q _ (by omega) (by omega) hik (by omega) (by omega) (show Al w1.drew _ _ from HST.out) ⟨_,_,_,rfl,by omega⟩).mono ?_
      rintro e w2 ⟨rfl,hb⟩
      have hcb:∀ k,k=b->w2.heap[k]? = w1.drew.heap[k]? :=fun k hk=>by subst hk;exact hb.block k hbl
      have hcell2:w2.cell? ⟨b,o+q.length,none⟩=some (.string z):=by rw[Kl (a:=⟨b,o+q.length,none⟩) (hcb b rfl)];exact hcell
      have hb2:Below w1.heap.size w1 w2:=((Below.refl w1.heap.size w1).drew).trans hb
      have HB:=zh hb2;clear hb hb2
      go_wp2_with fail
      refine Lex.Mid.intro (fun k hk _=>(hcb k hk)) ?_
      go_wp2_with fail
      refine(Yc _ z w2).mono ?_
      rintro e w3 ⟨rfl,hb3⟩
      have HB3:=zh (HB.out.trans (hb3.mono HB.out.size));clear hb3
      go_wp2_with fail
      refine Lex.zk ⟨⟨rfl,by show(World.cell? _ ⟨b,o+q.length,none⟩).isSome=true;rw[show w1.drew.cell? ⟨b,o+q.length,none⟩=w1.cell? ⟨b,o+q.length,none⟩ from rfl,hcell];rfl⟩,trivial⟩ ?_
      go_wp2_with fail
      go_ret
      rw[HR2.out]
      exact⟨rfl,HB3.out⟩
     ·have dk:decide ((i:Int)<K)=false:=by simp;omega
      have hr2:R=Sig.node z ((Sig.Cc (f+1) x (i-K) (n-K) q).getD ⟨#[]⟩):=by rw[HR.out,HRR.out,<- HK.out,if_neg hik,zcG]
      have HR2:=zh hr2;clear hr2
      have e1:(i:Int)-K=((i-K:Nat):Int):=by omega
      have e2:(n:Int)-K=((n-K:Nat):Int):=by omega
      go_wp2_with fail
      refine Lex.zn (fun k=>k=b) [3] 15 [15] ?_
      simp only[Lex.Bp,zd]
      go_wp2_with fail
      clear e1 e2
      refine(IH.out x (i-K) (n-K) _ q _ (by omega) (by omega) (by omega) (by omega) (by omega) (show Al w1.drew _ _ from HST.out) ⟨_,_,_,rfl,by omega⟩).mono ?_
      rintro e w2 ⟨rfl,hb⟩
      have hcb:∀ k,k=b->w2.heap[k]? = w1.drew.heap[k]? :=fun k hk=>by subst hk;exact hb.block k hbl
      have hb2:Below w1.heap.size w1 w2:=((Below.refl w1.heap.size w1).drew).trans hb
      have HB:=zh hb2;clear hb hb2
      go_wp2_with fail
      refine Lex.Mid.intro (fun k hk _=>(hcb k hk)) ?_
      go_wp2_with fail
      refine(Yc z _ w2).mono ?_
      rintro e w3 ⟨rfl,hb3⟩
      have HB3:=zh (HB.out.trans (hb3.mono HB.out.size));clear hb3
      go_wp2_with fail
      refine Lex.zk ⟨⟨rfl,by show(World.cell? _ ⟨b,o+q.length,none⟩).isSome=true;rw[show w1.drew.cell? ⟨b,o+q.length,none⟩=w1.cell? ⟨b,o+q.length,none⟩ from rfl,hcell];rfl⟩,trivial⟩ ?_
      go_wp2_with fail
      go_ret
      rw[HR2.out]
      exact⟨rfl,HB3.out⟩
theorem zcp (x:ByteArray)(i n:Int)(v:Value)(p:List ByteArray)(r:ByteArray)(w:World)(h:Al w v p)(hcap:Eb v)(hl:p.length<=140737488355328):
 Calls Tryz.prog 165 #[.string x,.int .i64 i,.int .i64 n,v,.string r] w fun e w' => e=.returned (.bool (Sig.included x i n p r))/\Below w.heap.size w w':=by
 obtain⟨R,hR⟩:∃ R,R=Sig.included x i n p r:=⟨_,rfl⟩
 rw[<- hR]
 obtain⟨a,c,rfl⟩:=h.len
 unfold Sig.included at hR
 have HR:=zh hR;have H:=zh h;have HCAP:=zh hcap
 clear hR h hcap
 go_enter Tryz.func165,Tryz.ntmps165
 go_wp2_with fail
 refine(Fq x w).mono ?_
 rintro e w1 ⟨rfl,rfl⟩
 rw[show decide (x.size=32)=Sig.digest x from rfl]
 cases h1:Sig.digest x with
 | false =>
   have hx:R=false:=by rw[HR.out,h1];simp
   have HX:=zh hx;clear hx h1
   go_wp2_with fail
   go_ret
   exact⟨by rw[HX.out]<;>rfl,Below.refl _ _⟩
 | true=>
 go_wp2_with fail
 refine(Fq r w1).mono ?_
 rintro e w1 ⟨rfl,rfl⟩
 rw[show decide (r.size=32)=Sig.digest r from rfl]
 cases h2:Sig.digest r with
 | false =>
   have hx:R=false:=by rw[HR.out,h2];simp
   have HX:=zh hx;clear hx h1 h2
   go_wp2_with fail
   go_ret
   exact⟨by rw[HX.out]<;>rfl,Below.refl _ _⟩
 | true=>
 go_wp2_with fail
 refine(Ri (.slice a p.length c) p w1 H.out hl).mono ?_
 rintro e w2 ⟨rfl,rfl⟩
 rw[aG]
 cases h3:p.all Sig.digest with
 | false =>
   have hx:R=false:=by rw[HR.out,h3];simp
   have HX:=zh hx;clear hx h1 h2 h3
   go_wp2_with fail
   go_ret
   exact⟨by rw[HX.out]<;>rfl,Below.refl _ _⟩
 | true=>
 have hr2:R=(decide (1<=n)&&decide (n<=4096)&&decide (p.length<=4096)&&decide (0<=i)&&decide (i<n)&&decide (Sig.given x i.toNat n.toNat p=some r)):=by
  rw[HR.out,h1,h2,h3]
  simp
 have hrs:r.size=32:=of_decide_eq_true h2
 have HR2:=zh hr2;have HRS:=zh hrs
 clear hr2 h1 h2 h3 hrs
 by_cases c1:n<1
 ·have d1:decide (n<1)=true:=decide_eq_true c1
  go_wp2_with fail
  go_ret
  exact⟨by rw[HR2.out,zf]<;>rfl,Below.refl _ _⟩
 have d1:decide (n<1)=false:=decide_eq_false c1
 by_cases c2:4096<n
 ·have d2:decide (4096<n)=true:=decide_eq_true c2
  go_wp2_with fail
  go_ret
  exact⟨by rw[HR2.out,decide_eq_false (p:=n<=4096) (by omega)];simp,Below.refl _ _⟩
 have d2:decide (4096<n)=false:=decide_eq_false c2
 by_cases c3:i<0
 ·have d3:decide (i<0)=true:=decide_eq_true c3
  go_wp2_with fail
  go_ret
  exact⟨by rw[HR2.out,decide_eq_false (p:=0<=i) (by omega)];simp,Below.refl _ _⟩
 have d3:decide (i<0)=false:=decide_eq_false c3
 by_cases c4:n<=i
 ·have d4:decide (n<=i)=true:=decide_eq_true c4
  go_wp2_with fail
  go_ret
  exact⟨by rw[HR2.out,decide_eq_false (p:=i<n) (by omega)];simp,Below.refl _ _⟩
 have d4:decide (n<=i)=false:=decide_eq_false c4
 obtain⟨I,rfl⟩:∃ I:Nat,i=I:=⟨i.toNat,by omega⟩
 obtain⟨N,rfl⟩:∃ N:Nat,n=N+1:=⟨(n-1).toNat,by omega⟩
 have hgv:=zc9 N x I (N+1) (.slice a p.length c) p w2 (by omega) (Nat.le_refl _) (by omega) (by omega) hl H.out HCAP.out
 have hgn:Sig.given x (I:Int).toNat ((N:Int)+1).toNat p=Sig.Cc (N+1) x I (N+1) p:=by
  unfold Sig.given
  have e1:(I:Int).toNat=I:=Int.toNat_natCast I
  have e2:((N:Int)+1).toNat=N+1:=by omega
  rw[e1,e2]
 have hr3:R=decide ((Sig.Cc (N+1) x I (N+1) p).getD ⟨#[]⟩=r):=by
  rw[HR2.out,decide_eq_true (p:=1<=(N:Int)+1) (by omega),decide_eq_true (p:=(N:Int)+1<=4096) (by omega),decide_eq_true (p:=0<=(I:Int)) (by omega),decide_eq_true (p:=(I:Int)<(N:Int)+1) (by omega),hgn]
  cases hg:Sig.Cc (N+1) x I (N+1) p with
  | none =>
    have:¬ (⟨#[]⟩:ByteArray)=r:=fun e=>by have:=HRS.out;rw[<- e] at this;exact absurd this (by decide)
    simp[this]
  | some y =>
    have:=zcl _ _ _ _ _ _ hg
    rw[decide_eq_true (p:=p.length<=4096) (by omega)]
    simp
 rw[show((N+1:Nat):Int)=(N:Int)+1 by omega] at hgv
 have HGV:=zh hgv;have HR3:=zh hr3;clear hgv hgn hr3
 go_wp2_with fail
 refine HGV.out.mono ?_
 rintro e w3 ⟨rfl,hb⟩
 have HB3:=zh hb;clear hb
 obtain⟨Y,hY⟩:∃ Y,Y=(Sig.Cc (N+1) x I (N+1) p).getD ⟨#[]⟩:=⟨_,rfl⟩
 rw[<- hY]
 have hyr:(Y.toList==r.toList)=R:=by rw[bytes_beq,HR3.out,<- hY]
 clear hY
 go_wp2_with fail
 go_ret
 exact⟨by first|rfl|rw[hyr],HB3.out⟩
section
variable {P:Program} {fn:Func} {tmps:Array Value} {w:World} {Q:Ending->World->Prop}
end
theorem zbJ {P:Program}{ops:Array Oper}{Q:Exit->Act->World->Prop}{a:Act}{w:World}{rest:List Oper}{o:Oper}(hw:Region.wanted o (yielded ops a.tmps)=true)
 (h:wpList P ops Q ({ o with guard:=none } :: rest) a w):wpList P ops Q (o::rest) a w:=by
 unfold wpList at h ⊢
 rw[if_pos hw]
 rw[if_pos (by simp[Region.wanted])] at h
 exact h
end
section
open Go
namespace Own
def zbR:Bool->List UInt8->Bool
 | f,[] => !f
 | f,c::l=>if c=47 then !f&&zbR true l else zbR false l
theorem zcH (l:List UInt8):(dV l=zbR true l)/\(Nam.cuts l).tail.all (fun p => !p.isEmpty)=zbR false l:=by
 induction l with
 | nil=>exact⟨rfl,rfl⟩
 | cons c l ih =>
   by_cases h:c=47
   ·subst h
    have e:Nam.cuts (47::l)=[]::Nam.cuts l:=by simp[Nam.cuts]
    constructor
    ·unfold dV zbR
     rw[e]
     simp
    ·rw[e,List.tail_cons]
     unfold zbR
     rw[if_pos rfl]
     show dV l=_
     rw[ih.1]
     rfl
   ·have e:Nam.cuts (c::l)=(c::(Nam.cuts l).headD [])::(Nam.cuts l).tail:=by rw[Nam.cuts,if_neg h]
    constructor
    ·unfold dV zbR
     rw[e,if_neg h,List.all_cons]
     simpa using ih.2
    ·rw[e,List.tail_cons]
     unfold zbR
     rw[if_neg h]
     exact ih.2
end Own
namespace Own
section
variable {α : Type} (f : α -> ByteArray)
variable {f}
theorem Srt.ge {l:List α}(hs:Srt f l)(t:ByteArray):∀ (k:Nat) (_:posB f t l<=k) (h:k<l.length),Aj (f l[k]) t=false:=by
 induction l with
 | nil=>intro k _ h;cases h
 | cons x l ih =>
   intro k hk h
   unfold posB at hk
   obtain⟨h1,h2⟩:=List.pairwise_cons.1 hs
   split at hk
   ·cases k with
    | zero=>omega
    | succ k=>exact ih h2 k (by omega) (by simpa using h)
   ·rename_i hx
    have hx' : Aj (f x) t=false:=by simpa using hx
    cases k with
    | zero=>exact hx'
    | succ k =>
      have hl:k<l.length:=by simpa using h
      show Aj (f l[k]) t=false
      cases hc:Aj (f l[k]) t with
      | false=>rfl
      | true =>
        have:=Dr (h1 _ (List.getElem_mem hl)) hc
        rw[hx'] at this
        cases this
end
end Own
end
section
open Go Go.RowKit Go.Maps
namespace Own
theorem zc3 (s:ByteArray):∀ (l:List Space) (b:Option Space) (x:Space),CB s b l=some x->x∈l\/b=some x
 | [],b,x,h=>.inr h
 | y :: l,b,x,h => by
   rw[LQ] at h
   rcases zc3 s l _ x h with h|h
   ·exact .inl (List.mem_cons_of_mem _ h)
   ·unfold RU at h
    split at h
    ·cases h;exact .inl List.mem_cons_self
    ·exact .inr h
theorem zbS {o:Ao}{s:ByteArray}{x:Space}(h:authority o s=some x):x∈o.spaces:=by
 unfold authority at h
 split at h
 ·rcases zc3 s _ _ x h with h|h
  ·exact h
  ·cases h
 ·cases h
end Own
namespace Own
def zcI (L:List UInt8)(i:Nat):Prop:=L[i]? = some 47/\(i=0\/∀ c,L[i+1]? = some c->c=47)
theorem zch:∀ (L:List UInt8) (f:Bool),zbR f L=true↔((f=true->L≠[]/\L[0]? ≠ some 47)/\∀ i:Nat,L[i]? = some 47->∃ c:UInt8,L[i+1]? = some c/\c≠47)
 | [],f => by
   have h:∀ i:Nat,([]:List UInt8)[i]? = some 47->∃ c:UInt8,([]:List UInt8)[i+1]? = some c/\c≠47:=fun i hi=>by simp at hi
   cases f with
   | false=>exact⟨fun _=>⟨fun e=>(by cases e),h⟩,fun _=>rfl⟩
   | true=>exact⟨fun e=>(by cases e),fun e=>absurd rfl (e.1 rfl).1⟩
 | c :: l,f => by
   unfold zbR
   by_cases h:c=47
   ·subst h
    rw[if_pos rfl,Bool.and_eq_true,zch l true]
    constructor
    ·rintro⟨h1,h2,h3⟩
     refine⟨fun hf=>(by rw[hf] at h1;cases h1),fun i hi=>?_⟩
     cases i with
     | zero =>
       obtain⟨h4,h5⟩:=h2 rfl
       cases l with
       | nil=>exact absurd rfl h4
       | cons d l=>exact⟨d,rfl,fun e=>h5 (by rw[e]<;>rfl)⟩
     | succ i=>exact h3 i hi
    ·rintro⟨h1,h2⟩
     refine⟨?_,fun _=>?_,fun i hi=>h2 (i+1) hi⟩
     ·cases f with
      | false=>rfl
      | true=>exact absurd rfl (h1 rfl).2
     ·obtain⟨d,h4,h5⟩:=h2 0 rfl
      have h4:l[0]? = some d:=h4
      refine⟨fun e=>(by rw[e] at h4;cases h4),fun e=>h5 ?_⟩
      rw[e] at h4
      exact(Option.some.inj h4).symm
   ·rw[if_neg h,zch l false]
    constructor
    ·rintro⟨_,h3⟩
     refine⟨fun _=>⟨by simp,fun e=>h (Option.some.inj e)⟩,fun i hi=>?_⟩
     cases i with
     | zero=>exact absurd (Option.some.inj hi) h
     | succ i=>exact h3 i hi
    ·rintro⟨_,h2⟩
     exact⟨fun e=>(by cases e),fun i hi=>h2 (i+1) hi⟩
theorem zc4 (L:List UInt8)(h:L≠[]):dV L=true↔∀ i,¬ zcI L i:=by
 rw[(zcH L).1,zch]
 constructor
 ·rintro⟨h1,h2⟩ i ⟨h3,h4⟩
  rcases h4 with rfl|h4
  ·exact(h1 rfl).2 h3
  ·obtain⟨c,h5,h6⟩:=h2 i h3
   exact h6 (h4 c h5)
 ·intro hb
  refine⟨fun _=>⟨h,fun e=>hb 0 ⟨e,.inl rfl⟩⟩,fun i hi=>?_⟩
  cases hn:L[i+1]? with
  | none=>exact absurd ⟨hi,.inr (fun c hc=>by rw[hn] at hc;cases hc)⟩ (hb i)
  | some c=>exact⟨c,rfl,fun e=>hb i ⟨hi,.inr (fun d hd=>by rw[hn] at hd;rw[<- Option.some.inj hd];exact e)⟩⟩
end Own
theorem zdM {s:ByteArray}{k:Nat}(h:k<s.size):s.data.toList[k]? = some s[k]:=by
 rw[Array.getElem?_toList]
 exact Array.getElem?_eq_getElem h
theorem zc5 {s:ByteArray}{k:Nat}(h:s.size<=k):s.data.toList[k]? = none:=by
 rw[Array.getElem?_toList]
 exact Array.getElem?_eq_none h
theorem zd7 {c:UInt8}(n:Nat)(hn:n<256)(h:(c.toNat:Int)=n):c=n.toUInt8:=by
 apply UInt8.toNat_inj.1
 rw[show(n.toUInt8).toNat=n from by simp[Nat.mod_eq_of_lt hn]]
 omega
theorem zcm (s:ByteArray)(w:World)(hs:s.size<=9223372036854775000):Calls Tryz.prog 33 #[.string s] w fun e w' => e=.returned (.bool (Own.BI s))/\w' = w:=by
 obtain⟨R,hR⟩:∃ R,R=Own.BI s:=⟨_,rfl⟩
 rw[<- hR]
 have HR:=zh hR;clear hR
 go_enter Tryz.func33,Tryz.ntmps33
 go_wp2_with fail
 go_loopw [3] (fun i wr=>∃ k:Nat,k<=s.size/\i=.int .i64 k/\(∀ j,j<k->¬ Own.zcI s.data.toList j)/\wr=w) (fun i _=>s.size-(intOf i).toNat)
 case atStart=>exact⟨0,by omega,rfl,(fun j hj=>absurd hj (by omega)),rfl⟩
 case round=>
  obtain⟨k,hk,rfl,hgo,rfl⟩:=hrel
  by_cases hlt:k<s.size
  case neg=>
   have dk:decide ((k:Int)<(s.size:Int))=false:=zf
   have e:R=(decide (1<=(s.size:Int))&&decide ((s.size:Int)<=64)):=by
    rw[HR.out]
    unfold Own.BI
    by_cases h0:s.data.toList=[]
    ·have : s.size = 0 :=by
      have:=congrArg List.length h0
      rw[Array.length_toList] at this
      exact this
     rw[this];rfl
    ·have : Own.dV s.data.toList = true :=(Own.zc4 _ h0).2 fun i hi => by
      by_cases hik:i<k
      ·exact hgo i hik hi
      ·have:=hi.1
       rw[zc5 (by omega)] at this
       cases this
     rw[this,Bool.and_true,show decide (1<=s.size)=decide (1<=(s.size:Int)) from decide_eq_decide.2 (by omega),show decide (s.size<=64)=decide ((s.size:Int)<=64) from decide_eq_decide.2 (by omega)]
   have HE:=zh e;clear e hgo
   by_cases h1:1<=(s.size:Int)
   ·have d1:decide (1<=(s.size:Int))=true:=decide_eq_true h1
    go_wp2_with fail
    go_ret
    exact⟨by rw[HE.out,d1]<;>rfl,rfl⟩
   ·have d1:decide (1<=(s.size:Int))=false:=decide_eq_false h1
    go_wp2_with fail
    go_ret
    exact⟨by rw[HE.out,d1]<;>rfl,rfl⟩
  have dk:decide ((k:Int)<(s.size:Int))=true:=zt
  have hbad:Own.zcI s.data.toList k->R=false:=fun hb=>by
   rw[HR.out]
   unfold Own.BI
   have:Own.dV s.data.toList=false:=by
    cases hp:Own.dV s.data.toList with
    | false=>rfl
    | true=>exact absurd hb ((Own.zc4 _ (fun e=>by have:=hb.1;rw[e] at this;cases this)).1 hp k)
   rw[this,Bool.and_false]
  have hnx:¬ Own.zcI s.data.toList k->∀ j,j<k+1->¬ Own.zcI s.data.toList j:=fun h j hj=>by
   rcases(by omega:j<k\/j=k) with h1|rfl
   ·exact hgo j h1
   ·exact h
  have h0:s.data.toList[k]? = some s[k]:=zdM hlt
  have HBAD:=zh hbad;have HNX:=zh hnx;have H0:=zh h0
  clear hbad hnx hgo h0
  by_cases h47:(s[k].toNat:Int)=47
  case neg=>
   have d47:((s[k].toNat:Int)==47)=false:=beq_eq_false_iff_ne.2 h47
   have hn:=HNX.out (by intro hb;have:=hb.1;rw[H0.out] at this;exact h47 (by rw[Option.some.inj this]<;>rfl))
   have HN:=zh hn;clear hn
   go_wp2_with fail
   exact⟨⟨k+1,by omega,by go_num,HN.out,(by first|rfl|trivial)⟩,by simp[intOf];omega⟩
  have d47:((s[k].toNat:Int)==47)=true:=beq_iff_eq.2 h47
  have hc:s[k]=47:=zd7 47 (by omega) h47
  have HC:=zh hc;clear hc
  by_cases hk0:k=0
  ·have dk0:((k:Int)==0)=true:=beq_iff_eq.2 (by omega)
   have HK0:=zh hk0;clear hk0
   have e:R=false:=HBAD.out (by exact⟨by rw[H0.out,HC.out],.inl HK0.out⟩)
   have HE:=zh e;clear e
   go_wp2_with fail
   go_ret
   exact⟨by rw[HE.out]<;>rfl,rfl⟩
  have dk0:((k:Int)==0)=false:=beq_eq_false_iff_ne.2 (by omega)
  by_cases hkl:(k:Int)=(s.size:Int)-1
  ·have dkl:((k:Int)==(s.size:Int)-1)=true:=beq_iff_eq.2 hkl
   have HKL:=zh hkl;clear hkl
   have e:R=false:=HBAD.out (by exact⟨by rw[H0.out,HC.out],.inr (fun c hc=>by have:=HKL.out;rw[zc5 (by omega)] at hc;cases hc)⟩)
   have HE:=zh e;clear e
   go_wp2_with fail
   go_ret
   exact⟨by rw[HE.out]<;>rfl,rfl⟩
  have dkl:((k:Int)==(s.size:Int)-1)=false:=beq_eq_false_iff_ne.2 hkl
  have hk1:k+1<s.size:=by omega
  have h1:s.data.toList[k+1]? = some s[k+1]:=zdM hk1
  have H1:=zh h1;clear h1
  by_cases h48:(s[k+1].toNat:Int)=47
  ·have d48:((s[k+1].toNat:Int)==47)=true:=beq_iff_eq.2 h48
   have e:R=false:=HBAD.out (by exact⟨by rw[H0.out,HC.out],.inr (fun c hc=>by rw[H1.out] at hc;rw[<- Option.some.inj hc];exact zd7 47 (by omega) h48)⟩)
   have HE:=zh e;clear e
   go_wp2_with fail
   go_ret
   exact⟨by rw[HE.out]<;>rfl,rfl⟩
  ·have d48:((s[k+1].toNat:Int)==47)=false:=beq_eq_false_iff_ne.2 h48
   have hn:=HNX.out (by intro hb;exact hb.2.elim hk0 (fun h=>h48 (by rw[h _ H1.out]<;>rfl)))
   have HN:=zh hn;clear hn
   go_wp2_with fail
   exact⟨⟨k+1,by omega,by go_num,HN.out,(by first|rfl|trivial)⟩,by simp[intOf];omega⟩
theorem zb8 (p:ByteArray)(w:World):Calls Tryz.prog 75 #[.string p] w fun e w' => e=.returned (.bool (Sig.Bn p))/\w' = w:=by
 obtain⟨R,hR⟩:∃ R,R=Sig.Bn p:=⟨_,rfl⟩
 rw[<- hR]
 unfold Sig.Bn at hR
 have HR:=zh hR;clear hR
 go_enter Tryz.func75,Tryz.ntmps75
 by_cases h33:p.size=33
 case neg=>
  have d1:((p.size:Int)==33)=false:=by rw[beq_eq_false_iff_ne];omega
  have hx:R=false:=by rw[HR.out,decide_eq_false h33]<;>rfl
  have HX:=zh hx;clear hx
  go_wp2_with fail
  go_ret
  exact⟨by rw[HX.out]<;>rfl,rfl⟩
 have d1:((p.size:Int)==33)=true:=by rw[beq_iff_eq];omega
 have h32:32<p.size:=by omega
 have hg:p.get! 32=p[32]:=getElem!_pos p.data 32 h32
 have hxl:p[32].toNat<256:=p[32].toNat_lt
 have hx:R=decide ((p[32].toNat:Int)<=6):=by
  rw[HR.out,decide_eq_true h33,hg,Bool.true_and,decide_eq_decide]
  omega
 have HX:=zh hx;clear hx
 go_wp2_with fail
 go_ret
 exact⟨by rw[HX.out]<;>rfl,rfl⟩
theorem zcy (pub m:ByteArray)(s:Sig.T)(cv pv:Value)(w:World)(hc:Al w cv s.chains)(hp:Al w pv s.path)(hcap:Eb pv)(hl:s.chains.length<=140737488355328)(hpl:s.path.length<=140737488355328)(hm:m.size<=140737488350000):
 Calls Tryz.prog 114 #[.string pub,.string m,.agg #[.int .i64 s.index,cv,pv]] w fun e w' => e=.returned (.bool (Sig.verify pub m s))/\Below w.heap.size w w':=by
 obtain⟨R,hR⟩:∃ R,R=Sig.verify pub m s:=⟨_,rfl⟩
 rw[<- hR]
 unfold Sig.verify at hR
 obtain⟨ca,cc,rfl⟩:=hc.len
 obtain⟨pa,pc,rfl⟩:=hp.len
 have HR:=zh hR;have HC:=zh hc;have HP:=zh hp;have HCAP:=zh hcap
 clear hR hc hp hcap
 go_enter Tryz.func114,Tryz.ntmps114
 have hb1:Below w.heap.size w (w.alloc (.cells #[.int .i64 s.index,.slice ca s.chains.length cc,.slice pa s.path.length pc] 70)):=zb
 have ha1:At (w.alloc (.cells #[.int .i64 s.index,.slice ca s.chains.length cc,.slice pa s.path.length pc] 70)) w.heap.size 70 #[.int .i64 s.index,.slice ca s.chains.length cc,.slice pa s.path.length pc]:=At.new w _ _
 have hlw:w.heap.size<(w.alloc (.cells #[.int .i64 s.index,.slice ca s.chains.length cc,.slice pa s.path.length pc] 70)).heap.size:=by simp
 have HC1:=zh (HC.out.below hb1);have HP1:=zh (HP.out.below hb1)
 have HB1:=zh hb1;have HA1:=zh ha1
 clear hb1 ha1
 obtain⟨c0,c1,c2⟩:=HA1.out.c3
 go_wp2_with fail
 generalize w.alloc (.cells #[.int .i64 s.index,.slice ca s.chains.length cc,.slice pa s.path.length pc] 70)=w1 at*
 refine(zb8 pub w1).mono ?_
 rintro e w2 ⟨rfl,rfl⟩
 cases vM:Sig.Bn pub with
 | false =>
   have hx:R=false:=by rw[HR.out,vM]<;>rfl
   have HX:=zh hx;clear hx vM
   go_wp2_with fail
   go_ret
   exact⟨by rw[HX.out]<;>rfl,HB1.out⟩
 | true=>
 have h33:pub.size=33:=of_decide_eq_true (Bool.and_eq_true_iff.1 vM).1
 have h6' : (pub.get! 32).toNat<=6:=of_decide_eq_true (Bool.and_eq_true_iff.1 vM).2
 have h32:32<pub.size:=by omega
 have hg:pub.get! 32=pub[32]:=getElem!_pos pub.data 32 h32
 have h6:pub[32].toNat<=6:=hg ▸ h6'
 rw[vM,hg] at HR
 obtain⟨N,hN⟩:∃ N:Nat,N=2^pub[32].toNat:=⟨_,rfl⟩
 have zah:N<=64:=by
  rw[hN]
  exact Nat.le_trans (Nat.pow_le_pow_right (by omega) h6) (by decide)
 have hN0:0<N:=by rw[hN];exact Nat.two_pow_pos _
 have hsh:wrap64 ((2:Int)^pub[32].toNat)=(N:Int):=by
  have:((2:Int)^pub[32].toNat)=((2^pub[32].toNat:Nat):Int):=(Int.natCast_pow 2 _).symm
  rw[this,<- hN]
  unfold wrap64
  omega
 have hR2:R=(decide (0<=s.index)&&decide (s.index<(N:Int))&&decide (s.chains.length=67)&&s.chains.all Sig.digest&&Sig.included (Sig.Jy (Sig.ends s.index.toNat m s.chains)) s.index N s.path (pub.extract 0 32)):=by
  have:((2:Int)^pub[32].toNat)=(N:Int):=by rw[hN];exact(Int.natCast_pow 2 _).symm
  rw[HR.out,this]
  simp
 have HR2:=zh hR2;have HSH:=zh hsh
 clear hR2 vM hN hsh hg h6'
 by_cases i3:s.chains.length=67
 case neg=>
  have e3:((s.chains.length:Int) != 67)=true:=by rw[bne_iff_ne];omega
  have hx:R=false:=by rw[HR2.out,decide_eq_false i3];simp
  have HX:=zh hx;clear hx
  go_wp2_with fail
  go_ret
  exact⟨by rw[HX.out]<;>rfl,HB1.out⟩
 have e3:((s.chains.length:Int) != 67)=false:=by rw[bne_eq_false_iff_eq];omega
 have I3:=zh i3;clear i3
 go_wp2_with fail
 refine(Ri _ s.chains w2 HC1.out hl).mono ?_
 rintro e w3 ⟨rfl,rfl⟩
 rw[aG]
 cases hall:s.chains.all Sig.digest with
 | false =>
   have hx:R=false:=by rw[HR2.out,hall];simp
   have HX:=zh hx;clear hx hall
   go_wp2_with fail
   go_ret
   exact⟨by rw[HX.out]<;>rfl,HB1.out⟩
 | true=>
 have Pk:∀ x∈s.chains,x.size=32:=fun x hx=>of_decide_eq_true (List.all_eq_true.1 hall x hx)
 have hR3:R=(decide (0<=s.index)&&decide (s.index<(N:Int))&&Sig.included (Sig.Jy (Sig.ends s.index.toNat m s.chains)) s.index N s.path (pub.extract 0 32)):=by
  rw[HR2.out,hall,decide_eq_true I3.out]
  simp
 have HR3:=zh hR3;have oF:=zh Pk
 clear hR3 hall Pk HR HR2
 go_upto_region 4 with fail
 rw[HSH.out]
 by_cases i1:s.index<0
 ·have e1:decide (s.index<0)=true:=decide_eq_true i1
  have hx:R=false:=by rw[HR3.out,zf]<;>rfl
  have HX:=zh hx;clear hx
  go_wp2_with fail
  go_ret
  exact⟨by rw[HX.out]<;>rfl,HB1.out⟩
 have e1:decide (s.index<0)=false:=decide_eq_false i1
 by_cases i2:(N:Int)<=s.index
 ·have e2:decide ((N:Int)<=s.index)=true:=decide_eq_true i2
  have hx:R=false:=by rw[HR3.out,decide_eq_false (p:=s.index<(N:Int)) (by omega)];simp
  have HX:=zh hx;clear hx
  go_wp2_with fail
  go_ret
  exact⟨by rw[HX.out]<;>rfl,HB1.out⟩
 have e2:decide ((N:Int)<=s.index)=false:=decide_eq_false i2
 obtain⟨I,hI⟩:∃ I:Nat,s.index=I:=⟨s.index.toNat,by omega⟩
 have hR4:R=Sig.included (Sig.Jy (Sig.ends I m s.chains)) (I:Int) N s.path (pub.extract 0 32):=by
  rw[HR3.out,decide_eq_true (p:=0<=s.index) (by omega),decide_eq_true (p:=s.index<(N:Int)) (by omega),hI]
  simp
 have HR4:=zh hR4;clear hR4 HR3
 rw[hI] at e1 e2 c0 HA1 ⊢
 have hIN:I<64:=by omega
 have e3' : decide (N<=I)=false:=zf
 clear hI i1 i2 e1 e2
 go_wp2_with fail
 refine(Tv m w3 hm).mono ?_
 rintro e w4 ⟨dv,rfl,hdo,hb4⟩
 have HB4:=zh (HB1.out.trans (hb4.mono HB1.out.size));have HD4:=zh hdo
 have HA4:=zh (HA1.out.below hb4 HA1.out.lt);have HC4:=zh (HC1.out.below hb4);have HP4:=zh (HP1.out.below hb4)
 obtain⟨g,zbk,hdv,hdc⟩:=Ct hdo (by omega)
 have HDC:=zh hdc
 have hgl:g<w4.heap.size:=by
  obtain⟨cur,hc⟩:=Db hdo (g:=g) (by rw[hdv]<;>rfl)
  exact At.lt hc
 subst hdv
 clear hb4 hdo hdc c0 c1 c2 HA1 HC1 HP1 HB1
 obtain⟨F,hF⟩:∃ F:Nat->ByteArray,F=fun k=>Cod.cat ((Sig.ends I m s.chains).take k):=⟨_,rfl⟩
 have hEl:(Sig.ends I m s.chains).length=67:=by unfold Sig.ends;rw[List.length_map,List.length_range]
 have hEz:∀ x∈Sig.ends I m s.chains,x.size=32:=by
  intro x hx
  unfold Sig.ends at hx
  obtain⟨c,hc,rfl⟩:=List.mem_map.1 hx
  have hc:=List.mem_range.1 hc
  refine Sig.Gx _ _ _ _ _ ?_
  rw[List.getD_eq_getElem?_getD,List.getElem?_eq_getElem (by have:=I3.out;omega)]
  exact oF.out _ (List.getElem_mem _)
 have hFz:∀ k,k<=67->(F k).size=32*k:=fun k hk=>by
  rw[hF]
  show(Cod.cat _).size=_
  rw[Rp _ (fun z hz=>hEz z (List.mem_of_mem_take hz)),List.length_take,hEl,Nat.min_eq_left hk]
 have hFs:∀ k,k<67->F (k+1)=F k++Sig.chain I k ((Sig.digits m).getD k 0) (15-(Sig.digits m).getD k 0) (s.chains.getD k ⟨#[]⟩):=fun k hk=>by
  rw[hF]
  show Cod.cat _=Cod.cat _++_
  rw[iw _ _ _ _ hk,Gy]
 have hF0:F 0=⟨#[]⟩:=by rw[hF]<;>rfl
 have hR5:R=Sig.included (Sha.sha (Sig.b1 0++F 67)) (I:Int) N s.path (pub.extract 0 32):=by
  rw[HR4.out,hF]
  show _=Sig.included (Sha.sha (Sig.b1 0++Cod.cat (List.take 67 (Sig.ends I m s.chains)))) _ _ _ _
  rw[List.take_of_length_le (by omega)]
  rfl
 have HFZ:=zh hFz;have HFS:=zh hFs;have HF0:=zh hF0;have HR5:=zh hR5
 clear hF hEl hEz hFz hFs hF0 hR5 HR4
 go_wp2_with fail
 go_loopw [9,10] (fun x i wr=>∃ k:Nat,k<=67/\i=.int .i64 k/\x=.string (F k)/\Below w4.heap.size w4 wr) (fun _ i _=>67-(intOf i).toNat)
 case atStart=>exact⟨0,by omega,rfl,by rw[HF0.out],Below.refl _ _⟩
 case round=>
  obtain⟨k,hk,rfl,rfl,hbr⟩:=hrel
  have HBR:=zh hbr
  have hat:=HA4.out.below hbr HA4.out.lt
  obtain⟨c0,c1,c2⟩:=hat.c3
  clear hat
  by_cases hlt:k<67
  ·have dk:decide ((k:Int)<67)=true:=by simp;omega
   have hdl:k<(Sig.digits m).length:=by rw[Sig.QM];omega
   have hd0:w4.cell? ⟨g,k,none⟩=some (.int .i64 (((Sig.digits m).getD k 0:Nat):Int)):=HDC.out k _ (by unfold Ii;rw[List.getElem?_map,List.getElem?_eq_getElem hdl,List.getD_eq_getElem?_getD,List.getElem?_eq_getElem hdl];rfl)
   have hd:wr.cell? ⟨g,k,none⟩=some (.int .i64 (((Sig.digits m).getD k 0:Nat):Int)):=(hbr.cell (p:=⟨g,k,none⟩) hgl).trans hd0
   have vN:=Sig.QN m k
   have hkl:k<s.chains.length:=by have:=I3.out;omega
   have hcs:=HC4.out.below hbr
   obtain⟨cb,co,hca⟩:=hcs.addrOf hkl
   subst hca
   have hcell:=hcs.cellAt hkl
   have hFs:=HFS.out k hlt
   have hxz:(s.chains.getD k ⟨#[]⟩).size=32:=by
    rw[List.getD_eq_getElem?_getD,List.getElem?_eq_getElem hkl]
    exact oF.out _ (List.getElem_mem _)
   obtain⟨d,hdd⟩:∃ d,d=(Sig.digits m).getD k 0:=⟨_,rfl⟩
   obtain⟨x,hx⟩:∃ x,x=s.chains.getD k ⟨#[]⟩:=⟨_,rfl⟩
   rw[<- hdd] at hd vN hFs
   rw[<- hx] at hcell hFs hxz
   have HFK:=zh hFs
   have hfz:=HFZ.out k hk
   clear hFs hd0 hdd hx hcs hdl
   go_wp2_with fail
   refine Lex.zl ?_
   go_wp2_with fail
   refine(show Calls Tryz.prog 154 #[.int .i64 I,.int .i64 k,.int .i64 d,.int .i64 15,.string x] wr.drew _ from Pf I k d (15-d) 15 x wr.drew (by omega) (by omega) (by omega) (by omega) (by omega)).mono ?_
   rintro e w5 ⟨rfl,hb5⟩
   have TF : Below w4.heap.size w4 w5:=hbr.trans (((Below.refl wr.heap.size wr).drew.trans hb5).mono hbr.size)
   have hyz:=Sig.Gx I k d (15-d) x hxz
   obtain⟨y,hy⟩:∃ y,y=Sig.chain I k d (15-d) x:=⟨_,rfl⟩
   rw[<- hy] at hyz HFK ⊢
   have HB5:=zh TF
   clear hb5 TF hy hbr
   go_wp2_with fail
   refine Lex.ze ?_
   go_wp2_with fail
   exact⟨⟨k+1,by omega,by go_num,by rw[HFK.out],HB5.out⟩,by simp[intOf];omega⟩
  ·obtain rfl:k=67:=by omega
   have zey:w.heap.size<w4.heap.size:=HA4.out.lt
   have hlr:=hbr.size
   have hfz:=HFZ.out 67 (by omega)
   have hp:=HP4.out.below hbr
   have HPR:=zh hp
   clear hp hbr
   go_wp2_with fail
   refine Lex.zn (fun j=>j=w.heap.size) [3,6] 9 [2] ?_
   simp only[Lex.Bp,zd]
   go_wp2_with fail
   refine(Yb (F 67) wr.drew (by omega)).mono ?_
   rintro e w5 ⟨rfl,hb5⟩
   have TF : Below wr.heap.size wr w5:=(Below.refl wr.heap.size wr).drew.trans hb5
   have q0:=(TF.cell (p:=⟨w.heap.size,0,none⟩) (by show w.heap.size<wr.heap.size;omega)).trans c0
   have q2:=(TF.cell (p:=⟨w.heap.size,2,none⟩) (by show w.heap.size<wr.heap.size;omega)).trans c2
   have hsm:∀ j,j=w.heap.size->w5.heap[j]? = wr.drew.heap[j]? :=fun j hj=>TF.block j (by omega)
   have hi:=zcp (Sha.sha (Sig.b1 0++F 67)) (I:Int) N _ s.path (pub.extract 0 32) w5 (HPR.out.below TF) HCAP.out hpl
   rw[<- HR5.out] at hi
   have HI:=zh hi;have HB5:=zh TF;have HSM:=zh hsm
   clear hb5 TF hi hsm
   generalize Sha.sha (Sig.b1 0++F 67)=L at*
   go_wp2_with fail
   refine Lex.Mid.intro (fun j hj _=>HSM.out j hj) ?_
   go_wp2_with fail
   refine HI.out.mono ?_
   rintro e w6 ⟨rfl,hb6⟩
   have HB6:=zh (HB4.out.trans ((HBR.out.trans ((HB5.out.trans (hb6.mono HB5.out.size)).mono HBR.out.size)).mono HB4.out.size));clear hb6
   go_wp2_with fail
   refine Lex.zk ⟨⟨rfl,zi c0⟩,⟨rfl,zi c2⟩,trivial⟩ ?_
   go_wp2_with fail
   go_ret
   exact⟨rfl,HB6.out⟩
theorem zcJ (x s:List UInt8):x.isPrefixOf s=true↔x.length<=s.length/\s.take x.length=x:=by
 rw[List.isPrefixOf_iff_prefix,List.prefix_iff_eq_take]
 constructor
 ·intro h
  have hl:=congrArg List.length h
  rw[List.length_take] at hl
  exact⟨by omega,h.symm⟩
 ·rintro⟨_,h⟩
  exact h.symm
theorem zc6 {α : Type}{l:List α}{p : α -> Bool}{j:Nat}(h:j<l.length)(h1:(l.take j).any p=false)(h2:p l[j]=false):(l.take (j+1)).any p=false:=by
 rw[List.take_succ_eq_append_getElem h,List.any_append,h1]
 simp[h2]
theorem zcu (s p:ByteArray)(w:World)(hs:s.size<=140737488355328)(hp:p.size<=140737488355000):Calls Tryz.prog 71 #[.string s,.string p] w fun e w' => e=.returned (.bool (Own.belongs s p))/\w' = w:=by
 obtain⟨R,hR⟩:∃ R,R=Own.belongs s p:=⟨_,rfl⟩
 rw[<- hR]
 unfold Own.belongs at hR
 have HR:=zh hR;clear hR
 go_enter Tryz.func71,Tryz.ntmps71
 by_cases h:s=p
 ·have d:(s.toList==p.toList)=true:=by rw[bytes_beq];exact decide_eq_true h
  have e:R=true:=by rw[HR.out,decide_eq_true h]<;>rfl
  have HE:=zh e;clear e
  go_wp2_with fail
  go_ret
  exact⟨by rw[HE.out]<;>rfl,rfl⟩
 have d:(s.toList==p.toList)=false:=by rw[bytes_beq];exact decide_eq_false h
 have l1:s.data.toList.length=s.size:=by rw[Array.length_toList]<;>rfl
 have l2:p.data.toList.length=p.size:=by rw[Array.length_toList]<;>rfl
 have l3:(p.data.toList++[47]).length=p.size+1:=by rw[List.length_append,l2]<;>rfl
 by_cases hlt:p.size<s.size
 ·have d1:decide ((p.size:Int)<(s.size:Int))=true:=zt
  have d2:decide ((p.size:Int)+1<=(s.size:Int))=true:=zt
  have e:R=((s.extract 0 (p.size+1)).toList==(p++⟨#[47]⟩:ByteArray).toList):=by
   rw[HR.out,decide_eq_false h,Bool.false_or,Bool.eq_iff_iff,zcJ,beq_iff_eq,ByteArray.toList_eq,ByteArray.toList_eq,Sha.Cj,l1,l3,Sha.Bq]
   simp
   intro _;omega
  have HE:=zh e
  clear e l1 l2 l3
  have ek:(p.size:Int)+1=((p.size+1:Nat):Int):=by omega
  have HEK:=zh ek;clear ek
  cases hb:((s.extract 0 (p.size+1)).toList==(p++⟨#[47]⟩:ByteArray).toList) with
  | true =>
    go_wp2_with (rw[HEK.out])
    go_ret
    exact⟨by rw[HE.out,hb]<;>rfl,rfl⟩
  | false =>
    go_wp2_with (rw[HEK.out])
    go_ret
    exact⟨by rw[HE.out,hb]<;>rfl,rfl⟩
 ·have d1:decide ((p.size:Int)<(s.size:Int))=false:=zf
  have e:R=false:=by
   rw[HR.out,decide_eq_false h,Bool.false_or,Bool.eq_false_iff]
   intro hh
   have:=((zcJ _ _).1 hh).1
   omega
  have HE:=zh e;clear e l1 l2 l3
  go_wp2_with fail
  go_ret
  exact⟨by rw[HE.out]<;>rfl,rfl⟩
theorem zbP (v:Value)(l:List Own.Member)(w:World)(h:Own.Af w v l)(hl:l.length<=140737488355328):
 Calls Tryz.prog 113 #[v] w fun e w' => e=.returned (.bool (Own.Co l))/\Below w.heap.size w w':=by
 obtain⟨R,hR⟩:∃ R,R=Own.Co l:=⟨_,rfl⟩
 rw[<- hR]
 unfold Own.Co at hR
 obtain⟨a,c,rfl⟩:=h.len
 have HR:=zh hR;have HL:=zh h;clear hR h
 go_enter Tryz.func113,Tryz.ntmps113
 go_wp2_with fail
 go_loopw [3] (fun i wr=>∃ k:Nat,k<=l.length/\i=.int .i64 k/\Own.Am [] (l.take k)=true/\Below w.heap.size w wr) (fun i _=>l.length-(intOf i).toNat)
 case atStart=>exact⟨0,by omega,rfl,rfl,Below.refl _ _⟩
 case round=>
  obtain⟨k,hk,rfl,hok,hb⟩:=hrel
  have HB:=zh hb
  by_cases hlt:k<l.length
  case neg=>
   have hke:k=l.length:=by omega
   have dk:decide ((k:Int)<l.length)=false:=zf
   have e:R=(decide (1<=(l.length:Int))&&decide ((l.length:Int)<=8)):=by
    rw[hke,List.take_length] at hok
    rw[HR.out,hok,Bool.and_true,show decide (1<=l.length)=decide (1<=(l.length:Int)) from decide_eq_decide.2 (by omega),show decide (l.length<=8)=decide ((l.length:Int)<=8) from decide_eq_decide.2 (by omega)]
   have HE:=zh e;clear e hok hb hke
   by_cases h1:1<=(l.length:Int)
   ·have d1:decide (1<=(l.length:Int))=true:=decide_eq_true h1
    have d1' : decide (1<=l.length)=true:=zt
    go_wp2_with fail
    go_ret
    exact⟨by rw[HE.out,d1]<;>rfl,HB.out⟩
   ·have d1:decide (1<=(l.length:Int))=false:=decide_eq_false h1
    have d1' : decide (1<=l.length)=false:=zf
    go_wp2_with fail
    go_ret
    exact⟨by rw[HE.out,d1]<;>rfl,HB.out⟩
  have dk:decide ((k:Int)<l.length)=true:=zt
  have hra:R=false\/(Own.CX (l.take k) l[k]=true):=by
   cases hm:Own.CX (l.take k) l[k] with
   | true=>exact .inr rfl
   | false=>refine .inl ?_;rw[HR.out,Own.RG l k hlt,hok,hm];simp
  have hra:Own.CX (l.take k) l[k]=false->R=false:=fun hm=>by
   rcases hra with h|h
   ·exact h
   ·rw[hm] at h;cases h
  have htk:Own.Am [] (l.take (k+1))=Own.CX (l.take k) l[k]:=by rw[Own.Oi l k hlt,hok,Bool.true_and]
  have hmo:Own.CX (l.take k) l[k]=(Own.EG l[k].name&&Sig.Bn l[k].pub && !((l.take k).any fun x=>decide (x.pub=l[k].pub))&&(match (l.take k).getLast? with|none=>true|some x=>Own.Aj x.name l[k].name)):=rfl
  have hlk:=HL.out.below hb
  obtain⟨b,o,ha,hbl,c0,c1⟩:=Own.Af.cells hlk hlt
  have JL:∀ j,k=j+1->∃ x:Own.Member,wr.cell? ⟨b,o+j*2,none⟩=some (.string x.name)/\(l.take k).getLast? = some x:=by
   intro j hj
   obtain⟨b',o',ha',_,e0,_⟩:=Own.Af.cells hlk (i:=j) (by omega)
   rw[ha] at ha'
   cases ha'
   have hg:=Own.getLast_take l j (by omega)
   rw[<- hj] at hg
   exact⟨_,e0,hg⟩
  subst ha
  obtain⟨nm,hnm⟩:∃ x,x=l[k].name:=⟨_,rfl⟩
  obtain⟨pb,hpb⟩:∃ x,x=l[k].pub:=⟨_,rfl⟩
  rw[<- hnm,<- hpb] at hmo
  rw[<- hnm] at c0
  rw[<- hpb] at c1
  rw[hmo] at hra htk
  have HPB:=zh hpb.symm
  have HRA:=zh hra;have HTK:=zh htk;have RH:=zh JL
  clear hra htk hmo JL hnm hpb hok hlk hb hbl
  by_cases h1:(nm.size:Int)<1
  ·have d1:decide ((nm.size:Int)<1)=true:=decide_eq_true h1
   have d1' : decide (nm.size<1)=true:=zt
   have hn:Own.EG nm=false:=by unfold Own.EG;rw[zf];rfl
   have e:R=false:=HRA.out (by rw[hn]<;>rfl)
   have HE:=zh e;clear e hn
   go_wp2_with fail
   refine Lex.zl ?_
   go_wp2_with fail
   refine Lex.ze ?_
   go_wp2_with fail
   go_ret
   exact⟨by rw[HE.out]<;>rfl,(HB.out).drew⟩
  have d1:decide ((nm.size:Int)<1)=false:=decide_eq_false h1
  have d1' : decide (nm.size<1)=false:=zf
  by_cases h2:32<(nm.size:Int)
  ·have d2:decide (32<(nm.size:Int))=true:=decide_eq_true h2
   have d2' : decide (32<nm.size)=true:=zt
   have hn:Own.EG nm=false:=by unfold Own.EG;rw[decide_eq_false (show ¬ nm.size<=32 by omega),Bool.and_false]
   have e:R=false:=HRA.out (by rw[hn]<;>rfl)
   have HE:=zh e;clear e hn
   go_wp2_with fail
   refine Lex.zl ?_
   go_wp2_with fail
   refine Lex.ze ?_
   go_wp2_with fail
   go_ret
   exact⟨by rw[HE.out]<;>rfl,(HB.out).drew⟩
  have d2:decide (32<(nm.size:Int))=false:=decide_eq_false h2
  have d2' : decide (32<nm.size)=false:=zf
  have hn:Own.EG nm=true:=by unfold Own.EG;rw[decide_eq_true (show 1<=nm.size by omega),decide_eq_true (show nm.size<=32 by omega)];rfl
  have hra:=HRA.out;have htk:=HTK.out
  rw[hn,Bool.true_and] at hra htk
  clear HRA HTK hn
  cases hp:Sig.Bn pb with
  | false =>
    have e:R=false:=hra (by rw[hp]<;>rfl)
    have HE:=zh e;clear e hra htk
    go_wp2_with fail
    refine Lex.zl ?_
    go_wp2_with fail
    refine(zb8 pb _).mono ?_
    rintro e2 w2 ⟨rfl,rfl⟩
    rw[hp]
    go_wp2_with fail
    refine Lex.ze ?_
    go_wp2_with fail
    go_ret
    exact⟨by rw[HE.out]<;>rfl,(HB.out).drew⟩
  | true=>
  rw[hp,Bool.true_and] at hra htk
  rcases Nat.eq_zero_or_pos k with hk0|hkp
  ·have hl0:(l.take k).getLast? = none:=by rw[hk0]<;>rfl
   rw[hl0] at hra htk
   simp only[Bool.and_true] at hra htk
   have HRA:=zh hra;have HTK:=zh htk
   have dz:decide ((0:Int)<(k:Int))=false:=zf
   have dz' : decide (0<k)=false:=zf
   have HK0:=zh hk0
   have HBD:=zh HB.out.drew
   clear hl0 hra htk hk0
   go_wp2_with fail
   refine Lex.zl ?_
   go_wp2_with fail
   refine(zb8 pb _).mono ?_
   rintro e2 w2 ⟨rfl,rfl⟩
   rw[hp]
   go_wp2_with fail
   refine Lex.ze ?_
   go_wp2_with fail
   clear c0 c1 hp
   go_loopw [4] (fun q wr=>∃ j:Nat,j<=k/\q=.int .i64 j/\((l.take k).take j).any (fun x=>decide (x.pub=pb))=false/\Below w.heap.size w wr) (fun q _=>k-(intOf q).toNat)
   case atStart=>exact⟨0,by omega,rfl,rfl,HBD.out⟩
   case round=>
    obtain⟨j,hj,rfl,hno,hb⟩:=hrel
    have HB3:=zh hb
    have HNO:=zh hno
    by_cases hjl:j<k
    case neg=>
     have hje:j=k:=by omega
     have dj:decide ((j:Int)<(k:Int))=false:=zf
     have htl:((l.take k).take j)=l.take k:=by rw[hje,List.take_take,Nat.min_self]
     have hok:Own.Am [] (l.take (k+1))=true:=by rw[htl] at hno;rw[HTK.out,hno];rfl
     have zdB:=zh hok;clear hok hno htl hje hb
     go_wp2_with fail
     exact⟨⟨k+1,by omega,by go_num,zdB.out,HB3.out⟩,by simp[intOf];omega⟩
    have dj:decide ((j:Int)<(k:Int))=true:=zt
    obtain⟨b2,o2,ha2,zb6,_,f1⟩:=Own.Af.cells (HL.out.below hb) (show j<l.length by omega)
    obtain⟨b3,o3,ha3,zdC,_,g1⟩:=Own.Af.cells (HL.out.below hb) hlt
    cases ha2;cases ha3
    rw[HPB.out] at g1
    have hjt:j<(l.take k).length:=by rw[List.length_take];omega
    have hjg:(l.take k)[j]=l[j]:=List.getElem_take
    obtain⟨pj,hpj⟩:∃ x,x=l[j].pub:=⟨_,rfl⟩
    rw[<- hpj] at f1
    have hbeq:(pj.toList==pb.toList)=decide ((l.take k)[j].pub=pb):=by rw[bytes_beq,hjg,hpj]
    have HBE:=zh hbeq;have HJT:=zh hjt
    clear hbeq hjg hpj hno hb zb6 zdC
    cases hc:(pj.toList==pb.toList) with
    | true =>
      have hany:(l.take k).any (fun x=>decide (x.pub=pb))=true:=List.any_eq_true.2 ⟨_,List.getElem_mem HJT.out,by rw[<- HBE.out];exact hc⟩
      have e:R=false:=HRA.out (by rw[hany]<;>rfl)
      have HE:=zh e;clear e hany
      go_wp2_with fail
      refine Lex.zl ?_
      go_wp2_with fail
      refine Lex.ze ?_
      go_wp2_with fail
      go_ret
      exact⟨by rw[HE.out]<;>rfl,(HB3.out).drew⟩
    | false =>
      have hn2:=zc6 (p:=fun x=>decide (x.pub=pb)) HJT.out HNO.out (by rw[<- HBE.out];exact hc)
      have HN2:=zh hn2;clear hn2
      go_wp2_with fail
      refine Lex.zl ?_
      go_wp2_with fail
      refine Lex.ze ?_
      go_wp2_with fail
      exact⟨⟨j+1,by omega,by go_num,HN2.out,HB3.out.drew⟩,by simp[intOf];omega⟩
  obtain⟨j0,hj0⟩:∃ j,k=j+1:=⟨k-1,by omega⟩
  obtain⟨x,e0,hx⟩:=RH.out j0 hj0
  rw[hx] at hra htk
  have Ol:(!((l.take k).any fun x=>decide (x.pub=pb))&&Own.Aj x.name nm)=false->R=false:=hra
  have Nh:Own.Am [] (l.take (k+1))=(!((l.take k).any fun x=>decide (x.pub=pb))&&Own.Aj x.name nm):=htk
  unfold Own.Aj at Ol Nh
  have dz:decide ((0:Int)<(k:Int))=true:=zt
  have dz' : decide (0<k)=true:=zt
  have ek:(k:Int)-1=(j0:Int):=by omega
  have hjl:j0<l.length:=by omega
  have HBD:=zh HB.out.drew
  cases hlb:Op.bytesLess x.name.toList nm.toList with
  | false =>
    have e:R=false:=Ol (by rw[hlb,Bool.and_false])
    have HE:=zh e;clear e hra htk Ol Nh hx hj0
    go_wp2_with fail
    refine Lex.zl ?_
    go_wp2_with fail
    refine(zb8 pb _).mono ?_
    rintro e2 w2 ⟨rfl,rfl⟩
    rw[hp]
    go_wp2_with fail
    refine Lex.ze ?_
    go_wp2_with fail
    go_ret
    exact⟨by rw[HE.out]<;>rfl,(HB.out).drew⟩
  | true =>
    rw[hlb,Bool.and_true] at Nh Ol
    have HTK:=zh Nh;have HRA:=zh Ol
    clear hra htk Ol Nh hx
    have HJ0:=zh hj0;clear hj0
    go_wp2_with fail
    refine Lex.zl ?_
    go_wp2_with fail
    refine(zb8 pb _).mono ?_
    rintro e2 w2 ⟨rfl,rfl⟩
    rw[hp]
    go_wp2_with fail
    refine Lex.ze ?_
    go_wp2_with fail
    clear c0 c1 e0 hp hlb ek
    go_loopw [4] (fun q wr=>∃ j:Nat,j<=k/\q=.int .i64 j/\((l.take k).take j).any (fun x=>decide (x.pub=pb))=false/\Below w.heap.size w wr) (fun q _=>k-(intOf q).toNat)
    case atStart=>exact⟨0,by omega,rfl,rfl,HBD.out⟩
    case round=>
     obtain⟨j,hj,rfl,hno,hb⟩:=hrel
     have HB3:=zh hb
     have HNO:=zh hno
     by_cases hjl:j<k
     case neg=>
      have hje:j=k:=by omega
      have dj:decide ((j:Int)<(k:Int))=false:=zf
      have htl:((l.take k).take j)=l.take k:=by rw[hje,List.take_take,Nat.min_self]
      have hok:Own.Am [] (l.take (k+1))=true:=by rw[htl] at hno;rw[HTK.out,hno];rfl
      have zdB:=zh hok;clear hok hno htl hje hb
      go_wp2_with fail
      exact⟨⟨k+1,by omega,by go_num,zdB.out,HB3.out⟩,by simp[intOf];omega⟩
     have dj:decide ((j:Int)<(k:Int))=true:=zt
     obtain⟨b2,o2,ha2,zb6,_,f1⟩:=Own.Af.cells (HL.out.below hb) (show j<l.length by omega)
     obtain⟨b3,o3,ha3,zdC,_,g1⟩:=Own.Af.cells (HL.out.below hb) hlt
     cases ha2;cases ha3
     rw[HPB.out] at g1
     have hjt:j<(l.take k).length:=by rw[List.length_take];omega
     have hjg:(l.take k)[j]=l[j]:=List.getElem_take
     obtain⟨pj,hpj⟩:∃ x,x=l[j].pub:=⟨_,rfl⟩
     rw[<- hpj] at f1
     have hbeq:(pj.toList==pb.toList)=decide ((l.take k)[j].pub=pb):=by rw[bytes_beq,hjg,hpj]
     have HBE:=zh hbeq;have HJT:=zh hjt
     clear hbeq hjg hpj hno hb zb6 zdC
     cases hc:(pj.toList==pb.toList) with
     | true =>
       have hany:(l.take k).any (fun x=>decide (x.pub=pb))=true:=List.any_eq_true.2 ⟨_,List.getElem_mem HJT.out,by rw[<- HBE.out];exact hc⟩
       have e:R=false:=HRA.out (by rw[hany]<;>rfl)
       have HE:=zh e;clear e hany
       go_wp2_with fail
       refine Lex.zl ?_
       go_wp2_with fail
       refine Lex.ze ?_
       go_wp2_with fail
       go_ret
       exact⟨by rw[HE.out]<;>rfl,(HB3.out).drew⟩
     | false =>
       have hn2:=zc6 (p:=fun x=>decide (x.pub=pb)) HJT.out HNO.out (by rw[<- HBE.out];exact hc)
       have HN2:=zh hn2;clear hn2
       go_wp2_with fail
       refine Lex.zl ?_
       go_wp2_with fail
       refine Lex.ze ?_
       go_wp2_with fail
       exact⟨⟨j+1,by omega,by go_num,HN2.out,HB3.out.drew⟩,by simp[intOf];omega⟩
theorem zcz (v:Value)(l:List Own.Member)(nm:ByteArray)(w:World)(h:Own.Af w v l)(hl:l.length<=140737488355328):
 Calls Tryz.prog 61 #[v,.string nm] w fun e w' => (∃ i,e=.returned (.int .i64 i)/\Own.Idx (fun m:Own.Member=>decide (m.name=nm)) l i)/\Below w.heap.size w w':=by
 obtain⟨a,c,rfl⟩:=h.len
 have HL:=zh h;clear h
 go_enter Tryz.func61,Tryz.ntmps61
 go_wp2_with fail
 go_loopw [5] (fun i wr=>∃ k:Nat,k<=l.length/\i=.int .i64 k/\(∀ j (h:j<l.length),j<k->decide (l[j].name=nm)=false)/\Below w.heap.size w wr) (fun i _=>l.length-(intOf i).toNat)
 case atStart=>exact⟨0,by omega,rfl,(fun j _ h=>absurd h (by omega)),Below.refl _ _⟩
 case round=>
  obtain⟨k,hk,rfl,hno,hb⟩:=hrel
  have HN:=zh hno;have HB:=zh hb
  by_cases hlt:k<l.length
  case neg=>
   have dk:decide ((k:Int)<l.length)=false:=zf
   have hix:=Own.Idx.miss (p:=fun m:Own.Member=>decide (m.name=nm)) (l:=l) (fun j hj=>hno j hj (by omega))
   have HIX:=zh hix;clear hix hno hb
   go_wp2_with fail
   go_ret
   exact⟨⟨_,rfl,HIX.out⟩,HB.out⟩
  have dk:decide ((k:Int)<l.length)=true:=zt
  obtain⟨b,o,ha,hbl,c0,c1⟩:=Own.Af.cells (HL.out.below hb) hlt
  subst ha
  have hbq:(l[k].name.toList==nm.toList)=decide (l[k].name=nm):=bytes_beq
  obtain⟨x,hx⟩:∃ x,x=l[k].name:=⟨_,rfl⟩
  rw[<- hx] at c0 hbq
  have HX:=zh hx;have HQ:=zh hbq
  clear hx hbq hno hb c1
  cases hc:(x.toList==nm.toList) with
  | true =>
    have hix:=Own.Idx.hit (p:=fun m:Own.Member=>decide (m.name=nm)) hlt (by show decide (l[k].name=nm)=true;rw[<- HX.out,<- HQ.out];exact hc) (fun j hj=>HN.out j (by omega) hj)
    have HIX:=zh hix;clear hix
    go_wp2_with fail
    go_ret
    exact⟨⟨_,rfl,HIX.out⟩,HB.out⟩
  | false =>
    have hn2:∀ j (h:j<l.length),j<k+1->decide (l[j].name=nm)=false:=fun j h hj=>by
     rcases(by omega:j<k\/j=k) with h1|rfl
     ·exact HN.out j h h1
     ·rw[<- HX.out,<- HQ.out];exact hc
    have HN2:=zh hn2;clear hn2
    go_wp2_with fail
    exact⟨⟨k+1,by omega,by go_num,HN2.out,HB.out⟩,by simp[intOf];omega⟩
theorem zcK (cnt:Int)(sv v:Value)(l:List Own.KeyUse)(pb:ByteArray)(w:World)(h:Own.Du w v l)(hl:l.length<=140737488355328):
 Calls Tryz.prog 115 #[.agg #[.int .i64 cnt,sv,v],.string pb] w fun e w' => e=.returned (.int .i64 (Own.Bf l pb))/\Below w.heap.size w w':=by
 obtain⟨R,hR⟩:∃ R,R=Own.Bf l pb:=⟨_,rfl⟩
 rw[<- hR]
 unfold Own.Bf at hR
 obtain⟨a,c,rfl⟩:=h.len
 have F1:=zh (show Au w _ [(25,#[.int .i64 cnt,sv,.slice a l.length c])] from((CY.nil w).push 25 #[.int .i64 cnt,sv,.slice a l.length c]).boxes)
 have HR:=zh hR
 have HL:=zh (h.below F1.out.under);clear h hR
 go_enter Tryz.func115,Tryz.ntmps115
 go_upto_region 1 with fail
 generalize w.alloc (.cells #[.int .i64 cnt,sv,.slice a l.length c] 25)=w1 at*
 go_wp2_with fail
 go_loopw [5] (fun i wr=>∃ k:Nat,k<=l.length/\i=.int .i64 k/\(∀ j (h:j<l.length),j<k->decide (l[j].pub=pb)=false)/\Below w1.heap.size w1 wr) (fun i _=>l.length-(intOf i).toNat)
 case atStart=>exact⟨0,by omega,rfl,(fun j _ h=>absurd h (by omega)),Below.refl _ _⟩
 case round=>
  obtain⟨k,hk,rfl,hno,hb⟩:=hrel
  have HN:=zh hno
  have F2:=zh (F1.out.step hb)
  have x02:wr.cell? ⟨w.heap.size,2,none⟩=some (.slice a l.length c):=F2.out.cell 0 2 rfl rfl
  by_cases hlt:k<l.length
  case neg=>
   have dk:decide ((k:Int)<l.length)=false:=zf
   have hix:=Own.Idx.miss (p:=fun m:Own.KeyUse=>decide (m.pub=pb)) (l:=l) (fun j hj=>hno j hj (by omega))
   have e:R=0:=by
    rcases hix with ⟨_,h2,_⟩|⟨j,_,h,_⟩
    ·rw[HR.out,h2]
    ·omega
   have HE:=zh e;clear hix hno hb e
   go_wp2_with fail
   go_ret
   exact⟨by rw[HE.out]<;>rfl,F2.out.under⟩
  have dk:decide ((k:Int)<l.length)=true:=zt
  obtain⟨b,o,ha,hbl,e0,e1⟩:=Own.Du.cells (HL.out.below hb) hlt
  subst ha
  have hbq:(l[k].pub.toList==pb.toList)=decide (l[k].pub=pb):=bytes_beq
  obtain⟨x,hx⟩:∃ x,x=l[k].pub:=⟨_,rfl⟩
  obtain⟨n,hn⟩:∃ x,x=l[k].next:=⟨_,rfl⟩
  rw[<- hx] at e0 hbq
  rw[<- hn] at e1
  have HX:=zh hx;have HQ:=zh hbq;have HB:=zh hb;have HNX:=zh hn
  clear hx hbq hno hb hn
  cases hc:(x.toList==pb.toList) with
  | true =>
    have hix:=Own.Idx.hit (p:=fun m:Own.KeyUse=>decide (m.pub=pb)) hlt (by show decide (l[k].pub=pb)=true;rw[<- HX.out,<- HQ.out];exact hc) (fun j hj=>HN.out j (by omega) hj)
    have e:R=n:=by
     rcases hix with ⟨h,_,_⟩|⟨j,_,h,h2,_⟩
     ·omega
     ·have:j=k:=by omega
      subst this
      rw[HR.out,h2,HNX.out]
    have HE:=zh e;clear hix e
    go_wp2_with fail
    go_ret
    exact⟨by rw[HE.out]<;>rfl,F2.out.under⟩
  | false =>
    have hn2:∀ j (h:j<l.length),j<k+1->decide (l[j].pub=pb)=false:=fun j h hj=>by
     rcases(by omega:j<k\/j=k) with h1|rfl
     ·exact HN.out j h h1
     ·rw[<- HX.out,<- HQ.out];exact hc
    have HN2:=zh hn2;clear hn2
    go_wp2_with fail
    exact⟨⟨k+1,by omega,by go_num,HN2.out,HB.out⟩,by simp[intOf];omega⟩
theorem zcX (s:Sig.T)(cv pv:Value)(w:World)(hc:Al w cv s.chains)(hp:Al w pv s.path)(hcc:Eb cv)(hsz:∀ x∈s.chains++s.path,x.size<=140737488355328):
 Calls Tryz.prog 96 #[.agg #[.int .i64 s.index,cv,pv]] w fun e w' => ∃ b,e=.returned (.bool b)/\(b=true->s.chains.length<=80/\s.path.length<=20)/\Below w.heap.size w w':=by
 obtain⟨ca,cc,rfl⟩:=hc.len
 obtain⟨pa,pc,rfl⟩:=hp.len
 obtain⟨_,_,_,he,hcl⟩:=hcc
 cases he
 have HC:=zh hc;have HP:=zh hp;have HSZ:=zh hsz
 clear hc hp hsz
 go_enter Tryz.func96,Tryz.ntmps96
 have hb1:Below w.heap.size w (w.alloc (.cells #[.int .i64 s.index,.slice ca s.chains.length cc,.slice pa s.path.length pc] 70)):=zb
 have ha1:At (w.alloc (.cells #[.int .i64 s.index,.slice ca s.chains.length cc,.slice pa s.path.length pc] 70)) w.heap.size 70 #[.int .i64 s.index,.slice ca s.chains.length cc,.slice pa s.path.length pc]:=At.new w _ _
 have hlw:w.heap.size<(w.alloc (.cells #[.int .i64 s.index,.slice ca s.chains.length cc,.slice pa s.path.length pc] 70)).heap.size:=by simp
 have HC1:=zh (HC.out.below hb1);have HP1:=zh (HP.out.below hb1)
 have HB1:=zh hb1;have HA1:=zh ha1
 clear hb1 ha1
 obtain⟨c0,c1,c2⟩:=HA1.out.c3
 go_wp2_with fail
 generalize w.alloc (.cells #[.int .i64 s.index,.slice ca s.chains.length cc,.slice pa s.path.length pc] 70)=w1 at*
 by_cases h1:s.chains.length<=80
 case neg=>
  have d1:decide (s.chains.length<=80)=false:=decide_eq_false h1
  have d1' : decide ((s.chains.length:Int)<=80)=false:=zf
  go_wp2_with fail
  refine Lex.zn (fun j=>j=w.heap.size) [13,15,21] 32 [20,3,1] ?_
  simp only[Lex.Bp,zd]
  go_wp2_with fail
  refine Lex.Mid.intro (fun j hj _=>rfl) ?_
  go_wp2_with fail
  refine Lex.Mid.intro (fun j hj _=>rfl) ?_
  go_wp2_with fail
  refine Lex.Mid.intro (fun j hj _=>rfl) ?_
  go_wp2_with fail
  refine Lex.zk ⟨trivial,trivial,trivial,trivial⟩ ?_
  go_wp2_with fail
  go_ret
  exact⟨false,rfl,(fun h=>by cases h),HB1.out.drew⟩
 have d1:decide (s.chains.length<=80)=true:=decide_eq_true h1
 have d1' : decide ((s.chains.length:Int)<=80)=true:=zt
 by_cases h2:s.path.length<=20
 case neg=>
  have d2:decide (s.path.length<=20)=false:=decide_eq_false h2
  have d2' : decide ((s.path.length:Int)<=20)=false:=zf
  go_wp2_with fail
  refine Lex.zn (fun j=>j=w.heap.size) [13,15,21] 32 [20,3,1] ?_
  simp only[Lex.Bp,zd]
  go_wp2_with fail
  refine Lex.Mid.intro (fun j hj _=>rfl) ?_
  go_wp2_with fail
  refine Lex.Mid.intro (fun j hj _=>rfl) ?_
  go_wp2_with fail
  refine Lex.Mid.intro (fun j hj _=>rfl) ?_
  go_wp2_with fail
  refine Lex.zk ⟨trivial,trivial,trivial,trivial⟩ ?_
  go_wp2_with fail
  go_ret
  exact⟨false,rfl,(fun h=>by cases h),HB1.out.drew⟩
 have d2:decide (s.path.length<=20)=true:=decide_eq_true h2
 have d2' : decide ((s.path.length:Int)<=20)=true:=zt
 have hmid:s.chains.length/2<=s.chains.length:=by omega
 have hcap2:s.chains.length/2<=cc:=by omega
 have hown0:(w1.drew.alloc (.cells #[] 9)).ownsRow w1.heap.size 9 1 (.slice (some ⟨w1.heap.size,0,none⟩) 0 0) 0 []:=Mr w1.drew 9 1 w1.heap.size (Nat.le_refl _)
 go_wp2_with fail
 refine Lex.zn (fun j=>j=w.heap.size) [13,15,21] 32 [20,3,1] ?_
 simp only[Lex.Bp,zd]
 have htk:=HC1.out.qN (c':=cc) hmid
 have htl:(s.chains.take (s.chains.length/2)).length=s.chains.length/2:=by rw[List.length_take];omega
 have zex:s.chains.length/2<=40:=by omega
 have HTK:=zh htk;have zd8:=zh hown0;have HTL:=zh htl;clear htk hown0 htl
 go_wp2_with (at_builtin;go_must (refine zbJ (by rfl) ?_;refine zbI rfl _ _ rfl w1.heap.size 0 _ [] rfl zd8.out (.slice ca (s.chains.length/2) cc) (s.chains.take (s.chains.length/2)) rfl ((HTK.out.below (Below.refl _ _).drew).below zb) (by rw[HTL.out];omega) (by simp) ?_);intro v5 w5 ho5 hg5;rw[Nat.zero_add,HTL.out,List.nil_append] at ho5;obtain⟨va,vm,vc,rfl⟩:=Ac ho5;obtain rfl:=Ba ho5;have hb5:Below w1.heap.size w1 w5:=Bh (((Below.refl w1.heap.size w1).drew).alloc (Nat.le_refl _) _) (by simp) zd8.out hg5;have q2:=(hb5.cell (p:=⟨w.heap.size,2,none⟩) hlw).trans c2;have q1:=(hb5.cell (p:=⟨w.heap.size,1,none⟩) hlw).trans c1;have HO5:=zh ho5;have HB5:=zh hb5;clear ho5 hg5 hb5)
 refine Lex.Mid.intro (fun j hj _=>by rw[hj];exact HB5.out.block _ hlw) ?_
 have hz5:=HB5.out.size
 go_wp2_with (at_builtin;go_must (refine zbJ (by rfl) ?_;refine zbI rfl _ _ rfl w1.heap.size _ _ _ rfl HO5.out (.slice pa s.path.length pc) s.path rfl (HP1.out.below HB5.out) (by omega) hz5 ?_);intro v6 w6 ho6 hg6;obtain⟨ua,um,uc,rfl⟩:=Ac ho6;obtain rfl:=Ba ho6;have hb6:Below w1.heap.size w1 w6:=Bh HB5.out hz5 HO5.out hg6;have q2:=(hb6.cell (p:=⟨w.heap.size,2,none⟩) hlw).trans c2;have q1:=(hb6.cell (p:=⟨w.heap.size,1,none⟩) hlw).trans c1;have HO6:=zh ho6;have HB6:=zh hb6;clear ho6 hg6 hb6)
 have iC:∀ j,j=w.heap.size->w6.heap[j]? = w1.drew.heap[j]? :=fun j hj=>by rw[hj];exact HB6.out.block _ hlw
 have hs6:Al w6 (.slice ua (s.chains.length/2+s.path.length) uc) (s.chains.take (s.chains.length/2)++s.path):=Al.own (by
  have:=HO6.out
  rw[<- List.map_append] at this
  have hl:(s.chains.take (s.chains.length/2)++s.path).length=s.chains.length/2+s.path.length:=by rw[List.length_append,HTL.out]
  rw[hl]
  exact this)
 have hf1:=zct _ _ w6 hs6 (fun x hx=>HSZ.out x (by
  rcases List.mem_append.1 hx with h|h
  ·exact List.mem_append.2 (.inl (List.mem_of_mem_take h))
  ·exact List.mem_append.2 (.inr h))) (by rw[List.length_append,HTL.out];omega)
 have HF1:=zh hf1;have oH:=zh iC
 clear hf1 hs6 iC
 refine Lex.Mid.intro (fun j hj _=>oH.out j hj) ?_
 go_wp2_with fail
 refine HF1.out.mono ?_
 rintro e w7 ⟨rfl,rfl⟩
 generalize zcE (s.chains.take (s.chains.length/2)++s.path)=b1
 cases b1 with
 | false =>
   go_wp2_with fail
   refine Lex.Mid.intro (fun j hj _=>oH.out j hj) ?_
   go_wp2_with fail
   refine Lex.zk ⟨⟨rfl,zi c1⟩,⟨rfl,zi c1⟩,⟨rfl,zi c2⟩,trivial⟩ ?_
   go_wp2_with fail
   go_ret
   exact⟨false,rfl,(fun h=>by cases h),HB1.out.trans (HB6.out.mono HB1.out.size)⟩
 | true =>
   have hdl:(s.chains.drop (s.chains.length/2)).length=s.chains.length-s.chains.length/2:=List.length_drop ..
   have hdi:((s.chains.length:Int)-((s.chains.length/2:Nat):Int))=((s.chains.length-s.chains.length/2:Nat):Int):=by omega
   have zdN:∀ (u:Value),Al w7 u (s.chains.drop (s.chains.length/2))->_:=fun u hu=>zct u _ w7 hu (fun x hx=>HSZ.out x (List.mem_append.2 (.inl (List.mem_of_mem_drop hx)))) (by rw[hdl];omega)
   have zdh:=zh zdN
   have HDL:=zh hdl
   have HC7:=zh (HC1.out.below HB6.out)
   clear zdN hdl hdi
   generalize zcE (s.chains.drop (s.chains.length/2))=b2 at*
   by_cases h0:0<s.chains.length
   ·obtain⟨b,o,rfl⟩:=HC1.out.addrOf h0
    go_wp2_with fail
    refine Lex.Mid.intro (fun j hj _=>oH.out j hj) ?_
    go_wp2_with fail
    refine(zdh.out _ (HC7.out.qO rfl)).mono ?_
    rintro e w8 ⟨rfl,rfl⟩
    go_wp2_with fail
    refine Lex.zk ⟨⟨rfl,zi c1⟩,⟨rfl,zi c1⟩,⟨rfl,zi c2⟩,trivial⟩ ?_
    go_wp2_with fail
    go_ret
    exact⟨_,rfl,(fun _=>⟨h1,h2⟩),HB1.out.trans (HB6.out.mono HB1.out.size)⟩
   ·cases ca with
    | none =>
      go_wp2_with fail
      refine Lex.Mid.intro (fun j hj _=>oH.out j hj) ?_
      go_wp2_with fail
      refine(zdh.out _ ⟨_,_,by rw[HDL.out],.inl (by rw[HDL.out];omega)⟩).mono ?_
      rintro e w8 ⟨rfl,rfl⟩
      go_wp2_with fail
      refine Lex.zk ⟨⟨rfl,zi c1⟩,⟨rfl,zi c1⟩,⟨rfl,zi c2⟩,trivial⟩ ?_
      go_wp2_with fail
      go_ret
      exact⟨_,rfl,(fun _=>⟨h1,h2⟩),HB1.out.trans (HB6.out.mono HB1.out.size)⟩
    | some p =>
      obtain⟨b,o,z⟩:=p
      cases z with
      | none =>
        by_cases hz:cc=s.chains.length/2
        case _=>
         go_wp2_with fail
         refine Lex.Mid.intro (fun j hj _=>oH.out j hj) ?_
         go_wp2_with fail
         refine(zdh.out _ ⟨_,_,by rw[HDL.out],.inl (by rw[HDL.out];omega)⟩).mono ?_
         rintro e w8 ⟨rfl,rfl⟩
         go_wp2_with fail
         refine Lex.zk ⟨⟨rfl,zi c1⟩,⟨rfl,zi c1⟩,⟨rfl,zi c2⟩,trivial⟩ ?_
         go_wp2_with fail
         go_ret
         exact⟨_,rfl,(fun _=>⟨h1,h2⟩),HB1.out.trans (HB6.out.mono HB1.out.size)⟩
        case _=>
         go_wp2_with fail
         refine Lex.Mid.intro (fun j hj _=>oH.out j hj) ?_
         go_wp2_with fail
         refine(zdh.out _ ⟨_,_,by rw[HDL.out],.inl (by rw[HDL.out];omega)⟩).mono ?_
         rintro e w8 ⟨rfl,rfl⟩
         go_wp2_with fail
         refine Lex.zk ⟨⟨rfl,zi c1⟩,⟨rfl,zi c1⟩,⟨rfl,zi c2⟩,trivial⟩ ?_
         go_wp2_with fail
         go_ret
         exact⟨_,rfl,(fun _=>⟨h1,h2⟩),HB1.out.trans (HB6.out.mono HB1.out.size)⟩
      | some z =>
        by_cases hz:cc=s.chains.length/2
        case _=>
         go_wp2_with fail
         refine Lex.Mid.intro (fun j hj _=>oH.out j hj) ?_
         go_wp2_with fail
         refine(zdh.out _ ⟨_,_,by rw[HDL.out],.inl (by rw[HDL.out];omega)⟩).mono ?_
         rintro e w8 ⟨rfl,rfl⟩
         go_wp2_with fail
         refine Lex.zk ⟨⟨rfl,zi c1⟩,⟨rfl,zi c1⟩,⟨rfl,zi c2⟩,trivial⟩ ?_
         go_wp2_with fail
         go_ret
         exact⟨_,rfl,(fun _=>⟨h1,h2⟩),HB1.out.trans (HB6.out.mono HB1.out.size)⟩
        case _=>
         go_wp2_with fail
         refine Lex.Mid.intro (fun j hj _=>oH.out j hj) ?_
         go_wp2_with fail
         refine(zdh.out _ ⟨_,_,by rw[HDL.out],.inl (by rw[HDL.out];omega)⟩).mono ?_
         rintro e w8 ⟨rfl,rfl⟩
         go_wp2_with fail
         refine Lex.zk ⟨⟨rfl,zi c1⟩,⟨rfl,zi c1⟩,⟨rfl,zi c2⟩,trivial⟩ ?_
         go_wp2_with fail
         go_ret
         exact⟨_,rfl,(fun _=>⟨h1,h2⟩),HB1.out.trans (HB6.out.mono HB1.out.size)⟩
namespace Own
end Own
namespace Own
end Own
def zd0 (X:Nat->Prop)(w:World)(o:Own.Ao)(n th:Int)(R:Except Int (List Own.KeyUse))(e:Ending)(w' : World):Prop:=
 (match R with
   | .error c=>e=.returned (.tuple #[Own.nobody,.int .i64 c])
   | .ok K=>if n<th then e=.returned (.tuple #[Own.nobody,.int .i64 20]) else ∃ sv kv,e=.returned (.tuple #[.agg #[.int .i64 o.count,sv,kv],.int .i64 0])/\Aq 3 Own.EI (fun k=>¬ X k) w' sv o.spaces/\Aq 2 Own.aQ (fun k=>¬ X k) w' kv K)/\Below w.heap.size w w'
theorem zc0 (X:Nat->Prop)(o:Own.Ao)(s:Own.Space)(msg:ByteArray)(l:List Own.Ai)(sv kv mv lv:Value)(w:World)(hX:∀ k,X k->k<w.heap.size)(hS:Aq 3 Own.EI (fun k=>¬ X k) w sv o.spaces)(hK:Own.Du w kv o.keys)(hm:Own.Af w mv s.members)(hA:Own.Hq w lv l)
 (hsrt:Own.Srt Own.KeyUse.pub o.keys) (hls:o.spaces.length<=3000000) (hlk:o.keys.length+l.length<=900000) (hlm:∀ s∈o.spaces,s.members.length<=3000000) (hml:s.members.length<=3000000) (JF:msg.size<=9223372036854775000)
 (hal:∀ a∈l,a.name.size<=140737488355328/\a.sig.chains.length<=140737488355328/\a.sig.path.length<=140737488355328):
 Calls Tryz.prog 97 #[.agg #[.int .i64 o.count,sv,kv],.agg #[.string s.pre,mv,.int .i64 s.threshold],.string msg,lv] w (zd0 X w o l.length s.threshold (Own.Bl s msg [] o.keys l)):=by
 refine(Si o s msg l sv kv mv lv w (hS.mono (fun _ _ _=>trivial)) hK hm hA hsrt hls hlk hlm hml JF hal).mono ?_
 rintro e w' ⟨h,hb⟩
 refine⟨?_,hb⟩
 cases hr:Own.Bl s msg [] o.keys l with
 | error c=>rw[hr] at h;exact h
 | ok K =>
   rw[hr] at h
   show if _ then _ else _
   have h:if (l.length:Int)<s.threshold then _ else _:=h
   by_cases ht:(l.length:Int)<s.threshold
   ·rw[if_pos ht] at h ⊢;exact h
   ·rw[if_neg ht] at h ⊢
    obtain⟨sv',kv',us,he,hs,hk⟩:=h
    have up:∀ k,w.heap.size<=k->¬ X k:=fun k hk hx=>by have:=hX k hx;omega
    exact⟨sv',kv',he,hs.list up,Cq (enc:=Own.Dw) (fun _=>rfl) (fun _=>rfl) (Bc.own hk) rfl (fun k hk2=>up k (Ak hk k hk2))⟩
namespace Own
def zdi (l:List Member):Prop:=l.length<=12/\∀ m∈l,m.name.size<=100/\m.pub.size<=100
def zdO (o:Ao):Prop:=o.spaces.length<=70/\o.keys.length<=40/\(∀ s∈o.spaces,s.pre.size<=100/\zdi s.members)/\∀ k∈o.keys,k.pub.size<=100
def zdo (a:Ai):Prop:=a.name.size<=100/\a.sig.chains.length<=80/\a.sig.path.length<=20
def zbM (P:Prop)(w:World)(e:Ending)(w' : World):Prop:=∃ b,e=.returned (.bool b)/\(b=true->P)/\Below w.heap.size w w'
theorem zcs {α : Type}{P : α -> Prop}{l:List α}{k:Nat}(hk:l.length<=k)(h:∀ j (h:j<l.length),j<k->P l[j]):∀ x∈l,P x:=fun x hx=>by
 obtain⟨j,hj,rfl⟩:=List.getElem_of_mem hx
 exact h j hj (by omega)
theorem zbN {α : Type}{P : α -> Prop}{l:List α}{k:Nat}(hk:k<l.length)(h:∀ j (h:j<l.length),j<k->P l[j])(hp:P l[k]):∀ j (h:j<l.length),j<k+1->P l[j]:=fun j hj hjk=>by
 rcases(by omega:j<k\/j=k) with h1|rfl
 ·exact h j hj h1
 ·exact hp
end Own
theorem zbZ (v:Value)(l:List Own.Member)(w:World)(h:Own.Af w v l)(hl:l.length<=140737488355328):
 Calls Tryz.prog 48 #[v] w (Own.zbM (Own.zdi l) w):=by
 obtain⟨Q,hQ⟩:∃ Q,Q=Own.zbM (Own.zdi l) w:=⟨_,rfl⟩
 rw[<- hQ]
 have HQ:=zh hQ;clear hQ
 obtain⟨a,c,rfl⟩:=h.len
 have HL:=zh h;clear h
 go_enter Tryz.func48,Tryz.ntmps48
 go_wp2_with fail
 go_loopw [3] (fun i wr=>∃ k:Nat,k<=l.length/\i=.int .i64 k/\(∀ j (h:j<l.length),j<k->l[j].name.size<=100/\l[j].pub.size<=100)/\Below w.heap.size w wr) (fun i _=>l.length-(intOf i).toNat)
 case atStart=>exact⟨0,by omega,rfl,(fun j _ h=>absurd h (by omega)),Below.refl _ _⟩
 case round=>
  obtain⟨k,hk,rfl,hno,hb⟩:=hrel
  have HN:=zh hno;have HB:=zh hb
  by_cases hlt:k<l.length
  case neg=>
   have dk:decide ((k:Int)<l.length)=false:=zf
   have hall:=Own.zcs (P:=fun m:Own.Member=>m.name.size<=100/\m.pub.size<=100) (by omega) hno
   have HA:=zh hall;clear hall hno hb
   go_wp2_with fail
   (try go_ret)
   rw[HQ.out]
   exact⟨_,rfl,(fun h=>⟨by have:=of_decide_eq_true h;omega,HA.out⟩),HB.out⟩
  have dk:decide ((k:Int)<l.length)=true:=zt
  obtain⟨b,o,ha,hbl,c0,c1⟩:=Own.Af.cells (HL.out.below hb) hlt
  subst ha
  have hn2:=fun hp=>Own.zbN (P:=fun m:Own.Member=>m.name.size<=100/\m.pub.size<=100) hlt hno hp
  obtain⟨x,hx⟩:∃ x,x=l[k].name:=⟨_,rfl⟩
  obtain⟨y,hy⟩:∃ x,x=l[k].pub:=⟨_,rfl⟩
  rw[<- hx] at c0
  rw[<- hy] at c1
  simp only[<- hx,<- hy] at hn2
  have HN2:=zh hn2
  clear hx hy hno hb hn2
  by_cases h1:100<(x.size:Int)
  ·have d1:decide (100<(x.size:Int))=true:=decide_eq_true h1
   have d1' : decide (100<x.size)=true:=zt
   go_wp2_with fail
   (try go_ret)
   rw[HQ.out]
   exact⟨false,rfl,(fun h=>by cases h),HB.out⟩
  have d1:decide (100<(x.size:Int))=false:=decide_eq_false h1
  have d1' : decide (100<x.size)=false:=zf
  by_cases h2:100<(y.size:Int)
  ·have d2:decide (100<(y.size:Int))=true:=decide_eq_true h2
   have d2' : decide (100<y.size)=true:=zt
   go_wp2_with fail
   (try go_ret)
   rw[HQ.out]
   exact⟨false,rfl,(fun h=>by cases h),HB.out⟩
  have d2:decide (100<(y.size:Int))=false:=decide_eq_false h2
  have d2' : decide (100<y.size)=false:=zf
  have hn:=HN2.out ⟨by omega,by omega⟩
  have HN3:=zh hn;clear hn
  go_wp2_with fail
  exact⟨⟨k+1,by omega,by go_num,HN3.out,HB.out⟩,by simp[intOf];omega⟩
theorem zcY (o:Own.Ao)(sv kv:Value)(w:World)(hS:Own.BF w sv o.spaces)(hK:Own.Du w kv o.keys)(hls:o.spaces.length<=140737488355328)(hlk:o.keys.length<=140737488355328)(hlm:∀ s∈o.spaces,s.members.length<=140737488355328):
 Calls Tryz.prog 12 #[.agg #[.int .i64 o.count,sv,kv]] w (Own.zbM (Own.zdO o) w):=by
 obtain⟨Q,hQ⟩:∃ Q,Q=Own.zbM (Own.zdO o) w:=⟨_,rfl⟩
 rw[<- hQ]
 have HQ:=zh hQ;clear hQ
 obtain⟨sa,sc,rfl⟩:=hS.len
 obtain⟨ka,kc,rfl⟩:=hK.len
 obtain⟨cnt,S,K⟩:=o
 dsimp only at*
 have F1:=zh (show Au w _ [(25,#[.int .i64 cnt,.slice sa S.length sc,.slice ka K.length kc])] from((CY.nil w).push 25 #[.int .i64 cnt,.slice sa S.length sc,.slice ka K.length kc]).boxes)
 have HS:=zh (hS.below F1.out.under);have HK:=zh (hK.below F1.out.under);have HLM:=zh hlm
 clear hS hK hlm
 go_enter Tryz.func12,Tryz.ntmps12
 go_upto_region 1 with fail
 generalize w.alloc (.cells #[.int .i64 cnt,.slice sa S.length sc,.slice ka K.length kc] 25)=w1 at*
 go_wp2_with fail
 go_loopw [3] (fun i wr=>∃ k:Nat,k<=S.length/\i=.int .i64 k/\(∀ j (h:j<S.length),j<k->S[j].pre.size<=100/\Own.zdi S[j].members)/\Below w1.heap.size w1 wr) (fun i _=>S.length-(intOf i).toNat)
 case atStart=>exact⟨0,by omega,rfl,(fun j _ h=>absurd h (by omega)),Below.refl _ _⟩
 case round=>
  obtain⟨k,hk,rfl,hno,hb⟩:=hrel
  have HN:=zh hno;have HB:=zh hb
  have F2:=zh (F1.out.step hb)
  obtain⟨x00,x01,x02⟩:=F2.out.Fw rfl
  by_cases hlt:k<S.length
  case neg=>
   have dk:decide ((k:Int)<S.length)=false:=zf
   have hall:=Own.zcs (P:=fun s:Own.Space=>s.pre.size<=100/\Own.zdi s.members) (by omega) hno
   have HA:=zh hall;clear hall hno hb
   go_wp2_with fail
   have HKR:=zh (HK.out.below HB.out)
   obtain⟨w5,hw5⟩:∃ w5,w5=wr:=⟨_,rfl⟩
   subst hw5
   (try clear x00 x01 x02)
   go_loopw [4] (fun i wr=>∃ k:Nat,k<=K.length/\i=.int .i64 k/\(∀ j (h:j<K.length),j<k->K[j].pub.size<=100)/\Below w5.heap.size w5 wr) (fun i _=>K.length-(intOf i).toNat)
   case atStart=>exact⟨0,by omega,rfl,(fun j _ h=>absurd h (by omega)),Below.refl _ _⟩
   case round=>
    obtain⟨j,hj,rfl,hno,hb⟩:=hrel
    have F3:=zh (F2.out.step hb)
    have HB3:=zh hb
    obtain⟨x00,x01,x02⟩:=F3.out.Fw rfl
    by_cases hlt:j<K.length
    case neg=>
     have dj:decide ((j:Int)<K.length)=false:=zf
     have hall:=Own.zcs (P:=fun k:Own.KeyUse=>k.pub.size<=100) (by omega) hno
     have HA2:=zh hall;clear hall hno hb
     by_cases h7:(S.length:Int)<=70
     ·have d7:decide ((S.length:Int)<=70)=true:=decide_eq_true h7
      have d7' : decide (S.length<=70)=true:=zt
      go_wp2_with fail
      (try go_ret)
      rw[HQ.out]
      exact⟨_,rfl,(fun h=>⟨by show S.length<=70;omega,by have:=of_decide_eq_true h;show K.length<=40;omega,HA.out,HA2.out⟩),F3.out.under⟩
     ·have d7:decide ((S.length:Int)<=70)=false:=decide_eq_false h7
      have d7' : decide (S.length<=70)=false:=zf
      go_wp2_with fail
      (try go_ret)
      rw[HQ.out]
      exact⟨false,rfl,(fun h=>by cases h),F3.out.under⟩
    have dj:decide ((j:Int)<K.length)=true:=zt
    obtain⟨b,o,ha,hbl,c0,c1⟩:=Own.Du.cells (HKR.out.below hb) hlt
    subst ha
    have hn2:=fun hp=>Own.zbN (P:=fun k:Own.KeyUse=>k.pub.size<=100) hlt hno hp
    obtain⟨y,hy⟩:∃ x,x=K[j].pub:=⟨_,rfl⟩
    rw[<- hy] at c0
    simp only[<- hy] at hn2
    have HN2:=zh hn2
    clear hy hno hb hn2 c1
    by_cases h1:100<(y.size:Int)
    ·have d1:decide (100<(y.size:Int))=true:=decide_eq_true h1
     have d1' : decide (100<y.size)=true:=zt
     go_wp2_with fail
     (try go_ret)
     rw[HQ.out]
     exact⟨false,rfl,(fun h=>by cases h),F3.out.under⟩
    have d1:decide (100<(y.size:Int))=false:=decide_eq_false h1
    have d1' : decide (100<y.size)=false:=zf
    have hn:=HN2.out (by omega)
    have HN3:=zh hn;clear hn
    go_wp2_with fail
    exact⟨⟨j+1,by omega,by go_num,HN3.out,HB3.out⟩,by simp[intOf];omega⟩
  have dk:decide ((k:Int)<S.length)=true:=zt
  obtain⟨b,o,mv,ha,hbl,e0,e1,e2,hmv⟩:=Own.BF.cells (HS.out.below hb) hlt
  subst ha
  have hml:=HLM.out S[k] (List.getElem_mem hlt)
  have hn2:=fun hp=>Own.zbN (P:=fun s:Own.Space=>s.pre.size<=100/\Own.zdi s.members) hlt hno hp
  obtain⟨x,hx⟩:∃ x,x=S[k]:=⟨_,rfl⟩
  rw[<- hx] at e0 hmv hml
  simp only[<- hx] at hn2
  have HN2:=zh hn2;have HMV:=zh hmv
  obtain⟨ma,mc,rfl⟩:=hmv.len
  clear hx hno hb hn2 hmv e2
  by_cases h1:100<(x.pre.size:Int)
  ·have d1:decide (100<(x.pre.size:Int))=true:=decide_eq_true h1
   have d1' : decide (100<x.pre.size)=true:=zt
   go_wp2_with fail
   (try go_ret)
   rw[HQ.out]
   exact⟨false,rfl,(fun h=>by cases h),F2.out.under⟩
  have d1:decide (100<(x.pre.size:Int))=false:=decide_eq_false h1
  have d1' : decide (100<x.pre.size)=false:=zf
  go_wp2_with fail
  refine(zbZ _ x.members _ HMV.out hml).mono ?_
  rintro e w6 ⟨q,rfl,hq,hb6⟩
  have F6:=zh (F2.out.step hb6);have HB6:=zh (HB.out.trans (hb6.mono HB.out.size))
  cases q with
  | false =>
    clear hb6
    go_wp2_with fail
    (try go_ret)
    rw[HQ.out]
    exact⟨false,rfl,(fun h=>by cases h),F6.out.under⟩
  | true =>
    have hn:=HN2.out ⟨by omega,hq rfl⟩
    have HN3:=zh hn;clear hn hq hb6
    go_wp2_with fail
    exact⟨⟨k+1,by omega,by go_num,HN3.out,HB6.out⟩,by simp[intOf];omega⟩
namespace Own
theorem W9.below {w w' : World}{v:Value}{l:List Ai}(h:W9 w v l)(hb:Below w.heap.size w w'):W9 w' v l:=by
 obtain⟨a,c,rfl,h⟩:=h
 refine⟨a,c,rfl,fun i hi=>?_⟩
 obtain⟨b,o,cv,pv,h1,h2,h3,h4,h5,h6,h7,h8,h9⟩:=h i hi
 exact⟨b,o,cv,pv,h1,Nat.lt_of_lt_of_le h2 hb.size,(hb.cell (p:=⟨b,_,none⟩) h2).trans h3,(hb.cell (p:=⟨b,_,none⟩) h2).trans h4,(hb.cell (p:=⟨b,_,none⟩) h2).trans h5,(hb.cell (p:=⟨b,_,none⟩) h2).trans h6,h7.below hb,h8.below hb,h9⟩
end Own
theorem zbQ (v:Value)(l:List Own.Ai)(w:World)(h:Own.W9 w v l)(hl:l.length<=140737488355328)(hsz:∀ a∈l,∀ x∈a.sig.chains++a.sig.path,x.size<=140737488355328):
 Calls Tryz.prog 38 #[v] w (Own.zbM (l.length<=5/\∀ a∈l,Own.zdo a) w):=by
 obtain⟨Q,hQ⟩:∃ Q,Q=Own.zbM (l.length<=5/\∀ a∈l,Own.zdo a) w:=⟨_,rfl⟩
 rw[<- hQ]
 have HQ:=zh hQ;clear hQ
 have HL:=zh h;have HSZ:=zh hsz
 obtain⟨a,c,rfl,_⟩:=h
 clear hsz
 go_enter Tryz.func38,Tryz.ntmps38
 go_wp2_with fail
 go_loopw [3] (fun i wr=>∃ k:Nat,k<=l.length/\i=.int .i64 k/\(∀ j (h:j<l.length),j<k->Own.zdo l[j])/\Below w.heap.size w wr) (fun i _=>l.length-(intOf i).toNat)
 case atStart=>exact⟨0,by omega,rfl,(fun j _ h=>absurd h (by omega)),Below.refl _ _⟩
 case round=>
  obtain⟨k,hk,rfl,hno,hb⟩:=hrel
  have HN:=zh hno;have HB:=zh hb
  by_cases hlt:k<l.length
  case neg=>
   have dk:decide ((k:Int)<l.length)=false:=zf
   have hall:=Own.zcs (P:=Own.zdo) (by omega) hno
   have HA:=zh hall;clear hall hno hb
   go_wp2_with fail
   (try go_ret)
   rw[HQ.out]
   exact⟨_,rfl,(fun hb' => ⟨by have h5:=of_decide_eq_true hb';omega,HA.out⟩),HB.out⟩
  have dk:decide ((k:Int)<l.length)=true:=zt
  obtain⟨a',c',he,hcs⟩:=HL.out.below hb
  cases he
  obtain⟨b,o,cv,pv,rfl,hbl,e0,e1,e2,e3,hcv,hpv,hcc,_⟩:=hcs k hlt
  have hn2:=fun hp=>Own.zbN (P:=Own.zdo) hlt hno hp
  have hsz:=HSZ.out l[k] (List.getElem_mem hlt)
  obtain⟨x,hx⟩:∃ x,x=l[k]:=⟨_,rfl⟩
  rw[<- hx] at e0 e1 hcv hpv hsz
  simp only[<- hx] at hn2
  have hfw:=zcX x.sig cv pv wr hcv hpv hcc hsz
  have HFW:=zh hfw;have HN2:=zh hn2
  clear hx hno hb hn2 hsz hcv hpv hcc hfw hcs
  obtain⟨xn,⟨xi,xc,xp⟩⟩:=x
  dsimp only at*
  by_cases h1:100<(xn.size:Int)
  ·have d1:decide (100<(xn.size:Int))=true:=decide_eq_true h1
   have d1' : decide (100<xn.size)=true:=zt
   go_wp2_with fail
   (try go_ret)
   rw[HQ.out]
   exact⟨false,rfl,(fun h=>by cases h),HB.out⟩
  have d1:decide (100<(xn.size:Int))=false:=decide_eq_false h1
  have d1' : decide (100<xn.size)=false:=zf
  go_wp2_with fail
  refine HFW.out.mono ?_
  rintro e w2 ⟨q,rfl,hq,hb2⟩
  have HB2:=zh (HB.out.trans (hb2.mono HB.out.size))
  cases q with
  | false =>
    clear hq hb2
    go_wp2_with fail
    (try go_ret)
    rw[HQ.out]
    exact⟨false,rfl,(fun h=>by cases h),HB2.out⟩
  | true =>
    have hn:=HN2.out ⟨by show xn.size<=100;omega,hq rfl⟩
    have HN3:=zh hn;clear hn hq hb2
    go_wp2_with fail
    exact⟨⟨k+1,by omega,by go_num,HN3.out,HB2.out⟩,by simp[intOf];omega⟩
end
section
open Go
namespace Own
def zb9 (o:Ao)(s msg:ByteArray)(l:List Ai):Except Int (List KeyUse):=
 if Bv o then
  match authority o s with
  | none=>.error 6
  | some x => match Bl x msg [] o.keys l with
    | .error c=>.error c
    | .ok K=>if (l.length:Int)<x.threshold then .error 20 else .ok K
 else .error 1
end Own
end
section
open Go Go.RowKit Go.Maps
namespace Own
theorem zca {o:Ao}(h:Bv o=true):Srt KeyUse.pub o.keys:=by
 unfold Bv at h
 simp only[Bool.and_eq_true] at h
 exact(IQ (f:=KeyUse.pub) h.2).1
end Own
def zbF (X:Nat->Prop)(w:World)(o:Own.Ao)(R:Except Int (List Own.KeyUse))(e:Ending)(w' : World):Prop:=
 (match R with
   | .error c=>e=.returned (.tuple #[Own.nobody,.int .i64 c])
   | .ok K=>∃ sv kv,e=.returned (.tuple #[.agg #[.int .i64 o.count,sv,kv],.int .i64 0])/\Aq 3 Own.EI (fun k=>¬ X k) w' sv o.spaces/\Aq 2 Own.aQ (fun k=>¬ X k) w' kv K)/\Below w.heap.size w w'
theorem zcv (X:Nat->Prop)(o:Own.Ao)(s msg:ByteArray)(l:List Own.Ai)(sv kv lv:Value)(w:World)(hX:∀ k,X k->k<w.heap.size)(hMx:Il w)(hSx:Aq 3 Own.EI (fun k=>¬ X k) w sv o.spaces)(hK:Own.Du w kv o.keys)(hA:Own.Hq w lv l)
 (hls:o.spaces.length<=3000000) (hlk:o.keys.length+l.length<=900000) (hlm:∀ s∈o.spaces,s.members.length<=3000000) (JF:msg.size<=9223372036854775000)
 (hal:∀ a∈l,a.name.size<=140737488355328/\a.sig.chains.length<=140737488355328/\a.sig.path.length<=140737488355328):
 Calls Tryz.prog 39 #[.agg #[.int .i64 o.count,sv,kv],.string s,.string msg,lv] w (zbF X w o (Own.zb9 o s msg l)):=by
 obtain⟨R,hR⟩:∃ R,R=Own.zb9 o s msg l:=⟨_,rfl⟩
 obtain⟨Q,hQ⟩:∃ Q,Q=zbF X w o R:=⟨_,rfl⟩
 rw[<- hR,<- hQ]
 have HQ:=zh hQ;have HR:=zh hR;clear hQ hR
 obtain⟨sa,sc,rfl⟩:=hSx.len
 have hS:Own.BF w (.slice sa o.spaces.length sc) o.spaces:=hSx.mono (fun _ _ _=>trivial)
 have HSX:=zh hSx;clear hSx
 obtain⟨ka,kc,rfl⟩:=hK.len
 obtain⟨la,lc,rfl,hap⟩:=id hA
 clear hap
 have ha0:=(At.new w 25 #[.int .i64 o.count,.slice sa o.spaces.length sc,.slice ka o.keys.length kc]).alloc (.cells #[.int .i64 0,.slice none 0 0,.slice none 0 0] 25)
 have ha1:=At.new1 w (.cells #[.int .i64 o.count,.slice sa o.spaces.length sc,.slice ka o.keys.length kc] 25) 25 #[.int .i64 0,.slice none 0 0,.slice none 0 0]
 have hb1:Below w.heap.size w ((w.alloc (.cells #[.int .i64 o.count,.slice sa o.spaces.length sc,.slice ka o.keys.length kc] 25)).alloc (.cells #[.int .i64 0,.slice none 0 0,.slice none 0 0] 25)):=zb.alloc (by simp) _
 have hz1:((w.alloc (.cells #[.int .i64 o.count,.slice sa o.spaces.length sc,.slice ka o.keys.length kc] 25)).alloc (.cells #[.int .i64 0,.slice none 0 0,.slice none 0 0] 25)).heap.size=w.heap.size+2:=by simp
 obtain⟨c0,c1,c2⟩:=ha0.c3
 have HS:=zh hS;have HK:=zh hK;have HA:=zh hA;have HMX:=zh hMx;have A0:=zh ha0;have A1:=zh ha1;have B1:=zh hb1;have HLM:=zh hlm;have HAL:=zh hal
 clear hS hK hA hMx ha0 ha1 hb1 hlm hal
 go_enter Tryz.func39,Tryz.ntmps39
 go_wp2_with fail
 generalize (w.alloc (.cells #[.int .i64 o.count,.slice sa o.spaces.length sc,.slice ka o.keys.length kc] 25)).alloc (.cells #[.int .i64 0,.slice none 0 0,.slice none 0 0] 25)=w1 at*
 refine(JN o _ _ w1 (HMX.out.below B1.out) (HS.out.below B1.out) (HK.out.below B1.out) (by omega) (by omega) (fun s hs=>by have:=HLM.out s hs;omega)).mono ?_
 rintro e w2 ⟨rfl,hb2⟩
 have A02:=zh (A0.out.below hb2 (by omega));have A12:=zh (A1.out.below hb2 (by omega));have B2:=zh (B1.out.trans (hb2.mono B1.out.size))
 have hz2:=hb2.size
 obtain⟨y0,y1,y2⟩:=A02.out.c3
 clear hb2 A0 A1 B1 c0 c1 c2
 cases hv:Own.Bv o with
 | false =>
   have e:R=.error 1:=by rw[HR.out,Own.zb9,if_neg (by rw[hv];simp)]
   have HE:=zh e
   have TW:=A12;have TB:=B2
   have x0:=TW.out.cell 0;have x1:=TW.out.cell 1;have x2:=TW.out.cell 2;have x3:=TW.out.free 0;have x4:=TW.out.free 1;have x5:=TW.out.free 2
   simp only[zg] at x0 x1 x2
   clear e hv
   go_wp2_with fail
   have F2:=((TW.out.set 0 (.int .i64 0)).set 1 (.slice none 0 0)).set 2 (.slice none 0 0)
   refine BJ rfl rfl rfl (AJ F2 Tryz.underlying25 rfl Bt) ?_
   rw[HQ.out,HE.out]
   exact⟨rfl,((TB.out.setCell (p:=⟨w.heap.size+1,0,none⟩) (by simp) _).setCell (p:=⟨w.heap.size+1,1,none⟩) (by simp) _).setCell (p:=⟨w.heap.size+1,2,none⟩) (by simp) _⟩
 | true=>
 have hR2:R=(match Own.authority o s with
  | none=>.error 6
  | some x => match Own.Bl x msg [] o.keys l with
    | .error c=>.error c
    | .ok K=>if (l.length:Int)<x.threshold then .error 20 else .ok K):=by rw[HR.out,Own.zb9,if_pos hv]<;>rfl
 have HR2:=zh hR2;have za3:=zh (Own.zca hv);have HOK:=zh (Own.OK.of hv)
 clear hR2 hv
 go_wp2_with fail
 refine(Om o s _ _ w2 (HMX.out.below B2.out) (HS.out.below B2.out) (HK.out.below B2.out) (by omega) (by omega) (fun s hs=>by have:=HLM.out s hs;omega)).mono ?_
 intro e w3 hpost
 obtain⟨hval,hb3⟩:=hpost
 have A03:=zh (A02.out.below hb3 (by omega));have A13:=zh (A12.out.below hb3 (by omega));have B3:=zh (B2.out.trans (hb3.mono B2.out.size))
 have hz3:=hb3.size
 clear hb3 A02 A12 B2 y0 y1 y2
 cases hau:Own.authority o s with
 | none =>
   rw[hau] at hval
   have Mq:e=.returned (.tuple #[.agg #[.string ⟨#[]⟩,.slice none 0 0,.int .i64 0],.bool false]):=hval
   subst Mq
   have e:R=.error 6:=by rw[HR2.out,hau]
   have HE:=zh e
   have TW:=zh (A13.out.alloc (.cells #[.string ⟨#[]⟩,.slice none 0 0,.int .i64 0] 39));have TB:=zh (B3.out.alloc B3.out.size (.cells #[.string ⟨#[]⟩,.slice none 0 0,.int .i64 0] 39))
   have x0:=TW.out.cell 0;have x1:=TW.out.cell 1;have x2:=TW.out.cell 2;have x3:=TW.out.free 0;have x4:=TW.out.free 1;have x5:=TW.out.free 2
   simp only[zg] at x0 x1 x2
   clear e hau hval
   go_wp2_with fail
   have F2:=((TW.out.set 0 (.int .i64 0)).set 1 (.slice none 0 0)).set 2 (.slice none 0 0)
   refine BJ rfl rfl rfl (AJ F2 Tryz.underlying25 rfl Bt) ?_
   rw[HQ.out,HE.out]
   exact⟨rfl,((TB.out.setCell (p:=⟨w.heap.size+1,0,none⟩) (by simp) _).setCell (p:=⟨w.heap.size+1,1,none⟩) (by simp) _).setCell (p:=⟨w.heap.size+1,2,none⟩) (by simp) _⟩
 | some sp=>
 rw[hau] at hval
 obtain⟨mv,rfl,hom⟩:=hval
 have hmem:=Own.zbS hau
 have hR3:R=(match Own.Bl sp msg [] o.keys l with
  | .error c=>.error c
  | .ok K=>if (l.length:Int)<sp.threshold then .error 20 else .ok K):=by rw[HR2.out,hau]
 obtain⟨ma,mm,mc,rfl⟩:=Ac hom
 obtain rfl:=Ba hom
 have hb4:Below w3.heap.size w3 (w3.alloc (.cells #[.string sp.pre,.slice ma sp.members.length mc,.int .i64 sp.threshold] 39)):=zb
 have hz4:(w3.alloc (.cells #[.string sp.pre,.slice ma sp.members.length mc,.int .i64 sp.threshold] 39)).heap.size=w3.heap.size+1:=World.size_alloc _ _
 have hmc:Own.Af (w3.alloc (.cells #[.string sp.pre,.slice ma sp.members.length mc,.int .i64 sp.threshold] 39)) (.slice ma sp.members.length mc) sp.members:=(Own.Af.of (Bc.own hom) rfl).below hb4
 have B4:=zh (B3.out.trans (hb4.mono B3.out.size));have A04:=zh (A03.out.below hb4 (by omega));have A14:=zh (A13.out.below hb4 (by omega))
 have hap:=zc0 (fun k=>X k\/(w.heap.size<=k/\k<w.heap.size+2)) o sp msg l (.slice sa o.spaces.length sc) (.slice ka o.keys.length kc) (.slice ma sp.members.length mc) (.slice la l.length lc) _ (fun k hk=>by rcases hk with hk|hk;have:=hX k hk;omega;omega) ((HSX.out.mono (G:=fun k=>¬ (X k\/(w.heap.size<=k/\k<w.heap.size+2))) (fun k hx hk h=>h.elim hx (fun h=>by omega))).below B4.out) (HK.out.below B4.out) hmc (HA.out.below B4.out) za3.out hls hlk HLM.out (HLM.out sp hmem) JF HAL.out
 obtain⟨y0,y1,y2⟩:=A04.out.c3
 have HAP:=zh hap;have HR3:=zh hR3
 clear hap hR3 hau hmem hom hb4 hmc HR2 A03 A13 B3
 go_wp2_with fail
 refine HAP.out.mono ?_
 intro e w5 hpost
 obtain⟨hval,hb5⟩:=hpost
 have TW:=zh (A14.out.below hb5 (by omega));have TB:=zh (B4.out.trans (hb5.mono B4.out.size))
 have hz5:=hb5.size
 clear hb5 A04 A14 B4 y0 y1 y2 HAP
 have x0:=TW.out.cell 0;have x1:=TW.out.cell 1;have x2:=TW.out.cell 2;have x3:=TW.out.free 0;have x4:=TW.out.free 1;have x5:=TW.out.free 2
 simp only[zg] at x0 x1 x2
 cases hf:Own.Bl sp msg [] o.keys l with
 | error c =>
   rw[hf] at hval
   have Mq:e=.returned (.tuple #[Own.nobody,.int .i64 c]):=hval
   subst Mq
   have e:R=.error c:=by rw[HR3.out,hf]
   have HE:=zh e
   unfold Own.nobody
   clear e hf hval
   go_wp2_with fail
   have F2:=((TW.out.set 0 (.int .i64 0)).set 1 (.slice none 0 0)).set 2 (.slice none 0 0)
   refine BJ rfl rfl rfl (AJ F2 Tryz.underlying25 rfl Bt) ?_
   rw[HQ.out,HE.out]
   exact⟨rfl,((TB.out.setCell (p:=⟨w.heap.size+1,0,none⟩) (by simp) _).setCell (p:=⟨w.heap.size+1,1,none⟩) (by simp) _).setCell (p:=⟨w.heap.size+1,2,none⟩) (by simp) _⟩
 | ok K =>
   rw[hf] at hval
   by_cases hth:(l.length:Int)<sp.threshold
   ·have Mq : e = .returned (.tuple #[Own.nobody,.int .i64 20]) :=by
     have h:if (l.length:Int)<sp.threshold then e=.returned (.tuple #[Own.nobody,.int .i64 20]) else _:=hval
     rw[if_pos hth] at h
     exact h
    subst Mq
    have e:R=.error 20:=by rw[HR3.out,hf];exact if_pos hth
    have HE:=zh e
    unfold Own.nobody
    clear e hf hval
    go_wp2_with fail
    have F2:=((TW.out.set 0 (.int .i64 0)).set 1 (.slice none 0 0)).set 2 (.slice none 0 0)
    refine BJ rfl rfl rfl (AJ F2 Tryz.underlying25 rfl Bt) ?_
    rw[HQ.out,HE.out]
    exact⟨rfl,((TB.out.setCell (p:=⟨w.heap.size+1,0,none⟩) (by simp) _).setCell (p:=⟨w.heap.size+1,1,none⟩) (by simp) _).setCell (p:=⟨w.heap.size+1,2,none⟩) (by simp) _⟩
   ·have Mq : ∃ sv kv,e = .returned (.tuple #[.agg #[.int .i64 o.count,sv,kv],.int .i64 0]) ∧ Aq 3 Own.EI (fun k => ¬ (X k ∨ (w.heap.size ≤ k ∧ k < w.heap.size + 2))) w5 sv o.spaces ∧ Aq 2 Own.aQ (fun k => ¬ (X k ∨ (w.heap.size ≤ k ∧ k < w.heap.size + 2))) w5 kv K :=by
     have h:if (l.length:Int)<sp.threshold then _ else ∃ sv kv,e=.returned (.tuple #[.agg #[.int .i64 o.count,sv,kv],.int .i64 0])/\Aq 3 Own.EI (fun k=>¬ (X k\/(w.heap.size<=k/\k<w.heap.size+2))) w5 sv o.spaces/\Aq 2 Own.aQ (fun k=>¬ (X k\/(w.heap.size<=k/\k<w.heap.size+2))) w5 kv K:=hval
     rw[if_neg hth] at h
     exact h
    obtain⟨sv2,kv2,rfl,hs2,hk2⟩:=Mq
    have e:R=.ok K:=by rw[HR3.out,hf];exact if_neg hth
    have HE:=zh e;have HS2:=zh hs2;have HK2:=zh hk2
    obtain⟨va,vc,rfl⟩:=hs2.len
    obtain⟨ua,uc,rfl⟩:=hk2.len
    clear e hf hval hs2 hk2
    go_wp2_with fail
    have F2:=((TW.out.set 0 (.int .i64 o.count)).set 1 (.slice va o.spaces.length vc)).set 2 (.slice ua K.length uc)
    have Ip:∀ j,¬ (X j\/(w.heap.size<=j/\j<w.heap.size+2))->(((w5.setCell ⟨w.heap.size+1,0,none⟩ (.int .i64 o.count)).setCell ⟨w.heap.size+1,1,none⟩ (.slice va o.spaces.length vc)).setCell ⟨w.heap.size+1,2,none⟩ (.slice ua K.length uc)).heap[j]? = w5.heap[j]? :=fun j hj=>by
     have hne:j≠w.heap.size+1:=by rintro rfl;exact hj (.inr ⟨by omega,by omega⟩)
     rw[zo hne,zo hne,zo hne]
    refine BJ rfl rfl rfl (AJ F2 Tryz.underlying25 rfl Bt) ?_
    rw[HQ.out,HE.out]
    refine⟨⟨_,_,rfl,?_,?_⟩,((TB.out.setCell (p:=⟨w.heap.size+1,0,none⟩) (by simp) _).setCell (p:=⟨w.heap.size+1,1,none⟩) (by simp) _).setCell (p:=⟨w.heap.size+1,2,none⟩) (by simp) _⟩
    ·exact(HS2.out.keep (by simp[World.setCell]) (fun k hk _=>Ip k hk)).mono (fun k hk _ hx=>hk (.inl hx))
    ·exact(HK2.out.keep (by simp[World.setCell]) (fun k hk _=>Ip k hk)).mono (fun k hk _ hx=>hk (.inl hx))
theorem zcL (D:Nat)(a c:Int)(w:World):(Op.equalIn (D+1) 3 (.int .i64 a) (.int .i64 c)).run Tryz.prog w=.ok (a==c) w:=by
 rw[Op.equalIn]
 simp[Tryz.underlying3]
theorem zcA (a:ByteArray)(c:Int)(w:World):(binOp .neq 59 (.agg #[.string a,.int .i64 c]) (.agg #[.string a,.int .i64 c])).run Tryz.prog w=.ok (.bool false) w:=by
 have hs:Tryz.prog.stoodInHeld 59=false:=by kernel_rfl
 have e1:=Ki 9998 a a w
 have e3:=zcL 9998 c c w
 have s1:∀ w,(sizeOf 9).run Tryz.prog w=.ok 1 w:=fun w=>by kernel_rfl
 have s2:∀ w,(isAgg 9).run Tryz.prog w=.ok false w:=fun w=>by kernel_rfl
 have s3:∀ w,(sizeOf 3).run Tryz.prog w=.ok 1 w:=fun w=>by kernel_rfl
 have s4:∀ w,(isAgg 3).run Tryz.prog w=.ok false w:=fun w=>by kernel_rfl
 have h2:(Op.equal 59 (.agg #[.string a,.int .i64 c]) (.agg #[.string a,.int .i64 c])).run Tryz.prog w=.ok true w:=by
  show(Op.equalIn (9998+2) 59 _ _).run Tryz.prog w=_
  rw[Zv] at e1
  rw[Op.equalIn]
  simp[Tryz.underlying59,hs,part,e1,e3,s1,s2,s3,s4,Result.andThen]
 simp[binOp,h2,Result.andThen]
theorem zcM (q:Own.Ao)(v1 v2 k1 k2:Value)(w:World)(h1:Own.BF w v1 q.spaces)(h2:Own.BF w v2 q.spaces)(g1:Own.Du w k1 q.keys)(g2:Own.Du w k2 q.keys)(hl:q.spaces.length<=140737488355328)(hk:q.keys.length<=140737488355328)(hv:∀ p∈q.spaces,p.members.length<=140737488355328):
 Calls Tryz.prog 22 #[.agg #[.int .i64 q.count,v1,k1],.agg #[.int .i64 q.count,v2,k2]] w fun e w' => e=.returned (.bool true)/\Below w.heap.size w w':=by
 obtain⟨nx,l,K⟩:=q
 dsimp only at*
 obtain⟨a1,c1,rfl⟩:=h1.len
 obtain⟨a2,c2,rfl⟩:=h2.len
 obtain⟨b1,d1,rfl⟩:=g1.len
 obtain⟨b2,d2,rfl⟩:=g2.len
 have F1:=zh (show Au w _ [(25,#[.int .i64 nx,.slice a1 l.length c1,.slice b1 K.length d1]),(25,#[.int .i64 nx,.slice a2 l.length c2,.slice b2 K.length d2])] from(((CY.nil w).push 25 #[.int .i64 nx,.slice a1 l.length c1,.slice b1 K.length d1]).push 25 #[.int .i64 nx,.slice a2 l.length c2,.slice b2 K.length d2]).boxes)
 have x00:((w.alloc (.cells #[.int .i64 nx,.slice a1 l.length c1,.slice b1 K.length d1] 25)).alloc (.cells #[.int .i64 nx,.slice a2 l.length c2,.slice b2 K.length d2] 25)).cell? ⟨w.heap.size,0,none⟩=some (.int .i64 nx):=F1.out.cell 0 0 rfl rfl
 have x01:((w.alloc (.cells #[.int .i64 nx,.slice a1 l.length c1,.slice b1 K.length d1] 25)).alloc (.cells #[.int .i64 nx,.slice a2 l.length c2,.slice b2 K.length d2] 25)).cell? ⟨w.heap.size,1,none⟩=some (.slice a1 l.length c1):=F1.out.cell 0 1 rfl rfl
 have x02:((w.alloc (.cells #[.int .i64 nx,.slice a1 l.length c1,.slice b1 K.length d1] 25)).alloc (.cells #[.int .i64 nx,.slice a2 l.length c2,.slice b2 K.length d2] 25)).cell? ⟨w.heap.size,2,none⟩=some (.slice b1 K.length d1):=F1.out.cell 0 2 rfl rfl
 have x10:((w.alloc (.cells #[.int .i64 nx,.slice a1 l.length c1,.slice b1 K.length d1] 25)).alloc (.cells #[.int .i64 nx,.slice a2 l.length c2,.slice b2 K.length d2] 25)).cell? ⟨w.heap.size+1,0,none⟩=some (.int .i64 nx):=F1.out.cell 1 0 rfl rfl
 have x11:((w.alloc (.cells #[.int .i64 nx,.slice a1 l.length c1,.slice b1 K.length d1] 25)).alloc (.cells #[.int .i64 nx,.slice a2 l.length c2,.slice b2 K.length d2] 25)).cell? ⟨w.heap.size+1,1,none⟩=some (.slice a2 l.length c2):=F1.out.cell 1 1 rfl rfl
 have x12:((w.alloc (.cells #[.int .i64 nx,.slice a1 l.length c1,.slice b1 K.length d1] 25)).alloc (.cells #[.int .i64 nx,.slice a2 l.length c2,.slice b2 K.length d2] 25)).cell? ⟨w.heap.size+1,2,none⟩=some (.slice b2 K.length d2):=F1.out.cell 1 2 rfl rfl
 have H1:=zh h1;have H2:=zh h2;have HV:=zh hv;have G1:=zh g1;have G2:=zh g2
 clear h1 h2 hv g1 g2
 go_enter Tryz.func22,Tryz.ntmps22
 go_wp2_with fail
 generalize ((w.alloc (.cells #[.int .i64 nx,.slice a1 l.length c1,.slice b1 K.length d1] 25)).alloc (.cells #[.int .i64 nx,.slice a2 l.length c2,.slice b2 K.length d2] 25))=w1 at*
 go_loopw [5] (fun i wr=>∃ k:Nat,k<=l.length/\i=.int .i64 k/\Below w1.heap.size w1 wr) (fun i _=>l.length-(intOf i).toNat)
 case atStart=>exact⟨0,by omega,rfl,Below.refl _ _⟩
 case round=>
  obtain⟨k,hk,rfl,hb⟩:=hrel
  have HBW:=zh hb;have FR:=zh (F1.out.step hb)
  clear hb
  (try clear x00);(try clear x01);(try clear x02);(try clear x10);(try clear x11);(try clear x12)
  have x01:wr.cell? ⟨w.heap.size,1,none⟩=some (.slice a1 l.length c1):=FR.out.cell 0 1 rfl rfl
  have x11:wr.cell? ⟨w.heap.size+1,1,none⟩=some (.slice a2 l.length c2):=FR.out.cell 1 1 rfl rfl
  by_cases hlt:k<l.length
  case neg=>
   have dk:decide ((k:Int)<l.length)=false:=zf
   go_wp2_with fail
   clear HBW
   (try clear x00);(try clear x01);(try clear x02);(try clear x10);(try clear x11);(try clear x12)
   obtain⟨w2,hw2⟩:∃ w2,w2=wr:=⟨_,rfl⟩
   rw[<- hw2] at FR ⊢
   clear hw2
   have F2:=FR
   clear FR
   go_loopw [6] (fun i wr=>∃ k:Nat,k<=K.length/\i=.int .i64 k/\Below w2.heap.size w2 wr) (fun i _=>K.length-(intOf i).toNat)
   case atStart=>exact⟨0,by omega,rfl,Below.refl _ _⟩
   case round=>
    obtain⟨j,hj,rfl,hb⟩:=hrel
    have HBW:=zh hb;have FR:=zh (F2.out.step hb)
    clear hb
    have x02:wr.cell? ⟨w.heap.size,2,none⟩=some (.slice b1 K.length d1):=FR.out.cell 0 2 rfl rfl
    have x12:wr.cell? ⟨w.heap.size+1,2,none⟩=some (.slice b2 K.length d2):=FR.out.cell 1 2 rfl rfl
    by_cases hlj:j<K.length
    case neg=>
     have dj:decide ((j:Int)<K.length)=false:=zf
     go_wp2_with fail
     go_ret
     exact⟨rfl,FR.out.under⟩
    have dj:decide ((j:Int)<K.length)=true:=zt
    obtain⟨b,o,ha,hbl,e0,e1⟩:=Own.Du.cells (G1.out.below FR.out.under) hlj
    obtain⟨b',o',ha',zb7,e0',e1'⟩:=Own.Du.cells (G2.out.below FR.out.under) hlj
    subst ha
    subst ha'
    obtain⟨x,hx⟩:∃ x,x=K[j]:=⟨_,rfl⟩
    rw[<- hx] at e0 e1 e0' e1'
    obtain⟨n,pu⟩:=x
    dsimp only at e0 e1 e0' e1'
    have hne:=zcA n pu
    clear hx
    go_wp2_with fail
    go_quiet (fail)
    go_wp2_with fail
    go_round
    case measure=>simp[intOf];omega
    case rel=>exact⟨j+1,by omega,by go_num,below_drewN HBW.out nq⟩
  have dk:decide ((k:Int)<l.length)=true:=zt
  obtain⟨b,o,u,ha,hbl,e0,e1,e2,hu⟩:=Own.BF.cells (H1.out.below FR.out.under) hlt
  obtain⟨b',o',u',ha',zb7,e0',e1',e2',hu'⟩:=Own.BF.cells (H2.out.below FR.out.under) hlt
  subst ha
  subst ha'
  have hvl:=HV.out l[k] (List.getElem_mem hlt)
  obtain⟨x,hx⟩:∃ x,x=l[k]:=⟨_,rfl⟩
  rw[<- hx] at e0 e2 e0' e2' hu hu' hvl
  have hsp:=Xi x u u' wr.drew (hu.below (Below.refl _ _).drew) (hu'.below (Below.refl _ _).drew) hvl
  have HSP:=zh hsp
  clear hx hsp hu hu'
  go_wp2_with fail
  refine Lex.zl ?_
  go_wp2_with fail
  refine HSP.out.mono ?_
  rintro e w2 ⟨rfl,hb⟩
  have HB2:=zh (HBW.out.trans (((Below.refl wr.heap.size wr).drew.trans hb).mono HBW.out.size))
  clear hb
  go_wp2_with fail
  refine Lex.ze ?_
  go_wp2_with fail
  go_round
  case measure=>simp[intOf];omega
  case rel=>exact⟨k+1,by omega,by go_num,HB2.out⟩
theorem zcb (v:Value)(s:Own.Space)(w:World)(h:Own.Af w v s.members)(hl:s.members.length<=140737488355328)(hp:s.pre.size<=140737488355328):
 Calls Tryz.prog 74 #[.agg #[.string s.pre,v,.int .i64 s.threshold]] w fun e w' => e=.returned (.bool (Own.AX s))/\Below w.heap.size w w':=by
 obtain⟨R,hR⟩:∃ R,R=Own.AX s:=⟨_,rfl⟩
 rw[<- hR]
 unfold Own.AX at hR
 obtain⟨a,c,rfl⟩:=h.len
 have F1:=zh (show Au w _ [(39,#[.string s.pre,.slice a s.members.length c,.int .i64 s.threshold])] from((CY.nil w).push 39 #[.string s.pre,.slice a s.members.length c,.int .i64 s.threshold]).boxes)
 have HR:=zh hR;have HL:=zh h
 clear hR h
 have x00:(w.alloc (.cells #[.string s.pre,.slice a s.members.length c,.int .i64 s.threshold] 39)).cell? ⟨w.heap.size,0,none⟩=some (.string s.pre):=F1.out.cell 0 0 rfl rfl
 have x01:(w.alloc (.cells #[.string s.pre,.slice a s.members.length c,.int .i64 s.threshold] 39)).cell? ⟨w.heap.size,1,none⟩=some (.slice a s.members.length c):=F1.out.cell 0 1 rfl rfl
 have x02:(w.alloc (.cells #[.string s.pre,.slice a s.members.length c,.int .i64 s.threshold] 39)).cell? ⟨w.heap.size,2,none⟩=some (.int .i64 s.threshold):=F1.out.cell 0 2 rfl rfl
 go_enter Tryz.func74,Tryz.ntmps74
 go_wp2_with fail
 generalize w.alloc (.cells #[.string s.pre,.slice a s.members.length c,.int .i64 s.threshold] 39)=w1 at*
 refine(zcm s.pre w1 (by omega)).mono ?_
 rintro e w2 ⟨rfl,rfl⟩
 cases hp:Own.BI s.pre with
 | false =>
   have e:R=false:=by rw[HR.out,hp]<;>rfl
   have HE:=zh e;clear e
   go_wp2_with fail
   go_ret
   exact⟨by rw[HE.out]<;>rfl,F1.out.under⟩
 | true=>
 go_wp2_with fail
 refine(zbP _ s.members w2 (HL.out.below F1.out.under) hl).mono ?_
 rintro e w3 ⟨rfl,hb3⟩
 have F3:=zh (F1.out.step hb3)
 clear hb3
 (try clear x00);(try clear x01);(try clear x02)
 obtain⟨x00,x01,x02⟩:=F3.out.Fw rfl
 cases hm:Own.Co s.members with
 | false =>
   have e:R=false:=by rw[HR.out,hm];simp
   have HE:=zh e;clear e
   go_wp2_with fail
   go_ret
   exact⟨by rw[HE.out]<;>rfl,F3.out.under⟩
 | true=>
 have e:R=(decide (1<=s.threshold)&&decide (s.threshold<=s.members.length)):=by rw[HR.out,hp,hm];simp
 have HE:=zh e;clear e
 by_cases h1:1<=s.threshold
 ·have d1:decide (1<=s.threshold)=true:=decide_eq_true h1
  have e:R=decide (s.threshold<=s.members.length):=by rw[HE.out,d1]<;>rfl
  have HE2:=zh e;clear e
  go_wp2_with fail
  go_ret
  exact⟨by rw[HE2.out]<;>rfl,F3.out.under⟩
 ·have d1:decide (1<=s.threshold)=false:=decide_eq_false h1
  have e:R=false:=by rw[HE.out,d1]<;>rfl
  have HE2:=zh e;clear e
  go_wp2_with fail
  go_ret
  exact⟨by rw[HE2.out]<;>rfl,F3.out.under⟩
theorem zcc (o:Own.Ao)(sv kv:Value)(w:World)(hS:Own.BF w sv o.spaces)(hK:Own.Du w kv o.keys)(hls:o.spaces.length<=140737488355328)(hlk:o.keys.length<=140737488355328)(hlm:∀ s∈o.spaces,s.members.length<=140737488355328/\s.pre.size<=140737488355328):
 Calls Tryz.prog 21 #[.agg #[.int .i64 o.count,sv,kv]] w fun e w' => e=.returned (.bool (Own.Bv o))/\Below w.heap.size w w':=by
 obtain⟨R,hR⟩:∃ R,R=Own.Bv o:=⟨_,rfl⟩
 rw[<- hR]
 unfold Own.Bv Own.late at hR
 obtain⟨sa,sc,rfl⟩:=hS.len
 obtain⟨ka,kc,rfl⟩:=hK.len
 obtain⟨cnt,S,K⟩:=o
 dsimp only at*
 have ha:=At.new w 25 #[.int .i64 cnt,.slice sa S.length sc,.slice ka K.length kc]
 have hb1:Below w.heap.size w (w.alloc (.cells #[.int .i64 cnt,.slice sa S.length sc,.slice ka K.length kc] 25)):=zb
 have HR:=zh hR;have HS:=zh (hS.below hb1);have HK:=zh (hK.below hb1);have HB:=zh hb1;have HA:=zh ha;have HLM:=zh hlm
 have c0:=ha.cell 0;have c1:=ha.cell 1;have c2:=ha.cell 2
 simp only[zg] at c0 c1 c2
 clear hR hS hK ha hb1 hlm
 go_enter Tryz.func21,Tryz.ntmps21
 by_cases h1:0<=cnt
 case neg=>
  have d1:decide (cnt<0)=true:=zt
  have e:R=false:=by rw[HR.out,decide_eq_false h1]<;>rfl
  have HE:=zh e;clear e
  go_wp2_with fail
  go_ret
  exact⟨by rw[HE.out]<;>rfl,HB.out⟩
 have d1:decide (cnt<0)=false:=zf
 by_cases h2:cnt<=1099511627776
 case neg=>
  have d2:decide (1099511627776<cnt)=true:=zt
  have e:R=false:=by rw[HR.out,decide_eq_false h2];simp
  have HE:=zh e;clear e
  go_wp2_with fail
  go_ret
  exact⟨by rw[HE.out]<;>rfl,HB.out⟩
 have d2:decide (1099511627776<cnt)=false:=zf
 by_cases h3:S.length<=64
 case neg=>
  have d3:decide ((64:Int)<S.length)=true:=zt
  have e:R=false:=by rw[HR.out,decide_eq_false h3];simp
  have HE:=zh e;clear e
  go_wp2_with fail
  go_ret
  exact⟨by rw[HE.out]<;>rfl,HB.out⟩
 have d3:decide ((64:Int)<S.length)=false:=zf
 have e:R=(Own.Ar Own.AX (fun x y=>Own.Aj x.pre y.pre) none S&&Own.Ar Own.Df (fun x y=>Own.Aj x.pub y.pub) none K):=by
  rw[HR.out,decide_eq_true h1,decide_eq_true h2,decide_eq_true h3];simp
 have HR2:=zh e;clear e HR
 go_wp2_with fail
 generalize w.alloc (.cells #[.int .i64 cnt,.slice sa S.length sc,.slice ka K.length kc] 25)=w1 at*
 clear d1 d2 d3 h1 h2
 go_loopw [3] (fun i wr=>∃ k:Nat,k<=S.length/\i=.int .i64 k/\Own.Ar Own.AX (fun x y=>Own.Aj x.pre y.pre) none (S.take k)=true/\Below w1.heap.size w1 wr) (fun i _=>S.length-(intOf i).toNat)
 case atStart=>exact⟨0,by omega,rfl,rfl,Below.refl _ _⟩
 case round=>
  obtain⟨k,hk,rfl,hok,hb⟩:=hrel
  have HOK:=zh hok;have HBW:=zh hb
  have hz1:=HA.out.lt
  have hbs:=hb.size
  have ha2:=HA.out.below hb hz1
  obtain⟨c0,c1,c2⟩:=ha2.c3
  clear ha2
  by_cases hlt:k<S.length
  case neg=>
   have hke:k=S.length:=by omega
   have dk:decide ((k:Int)<S.length)=false:=zf
   have e:R=Own.Ar Own.Df (fun x y=>Own.Aj x.pub y.pub) none K:=by
    rw[HR2.out]
    rw[hke,List.take_length] at hok
    rw[hok,Bool.true_and]
   have HR3:=zh e
   have HKW:=zh (HK.out.below hb)
   have HB2:=zh (HB.out.trans (hb.mono HB.out.size))
   have HA2:=zh (HA.out.below hb hz1)
   clear e hok hke hb HR2 HK HB HA HOK HBW HS
   go_wp2_with fail
   have hzw:w.heap.size<wr.heap.size:=by omega
   clear dk
   obtain⟨w5,hw5⟩:∃ w5,w5=wr:=⟨_,rfl⟩
   subst hw5
   go_loopw [4] (fun i wr=>∃ j:Nat,j<=K.length/\i=.int .i64 j/\Own.Ar Own.Df (fun x y=>Own.Aj x.pub y.pub) none (K.take j)=true/\Below w5.heap.size w5 wr) (fun i _=>K.length-(intOf i).toNat)
   case atStart=>exact⟨0,by omega,rfl,rfl,Below.refl _ _⟩
   case round=>
    obtain⟨j,hj,rfl,hok,hb⟩:=hrel
    have HBX:=zh hb
    have ha2:=HA2.out.below hb hzw
    obtain⟨c0,c1,c2⟩:=ha2.c3
    clear ha2
    by_cases hlt:j<K.length
    case neg=>
     have hje:j=K.length:=by omega
     have dk:decide ((j:Int)<K.length)=false:=zf
     have e:R=true:=by rw[HR3.out,<- hok,hje,List.take_length]
     have HE:=zh e;clear e hok hb hje
     go_wp2_with fail
     go_ret
     exact⟨by rw[HE.out]<;>rfl,HB2.out.trans (HBX.out.mono HB2.out.size)⟩
    have dk:decide ((j:Int)<K.length)=true:=zt
    have hra:R=((Own.Df K[j]&&Own.ahead (fun x y=>Own.Aj x.pub y.pub) (K.take j).getLast? K[j])&&Own.Ar Own.Df (fun x y=>Own.Aj x.pub y.pub) (some K[j]) (K.drop (j+1))):=by rw[HR3.out,Own.RI _ _ K j hlt,hok,Bool.true_and]
    have htk:Own.Ar Own.Df (fun x y=>Own.Aj x.pub y.pub) none (K.take (j+1))=(Own.Df K[j]&&Own.ahead (fun x y=>Own.Aj x.pub y.pub) (K.take j).getLast? K[j]):=by rw[Own.Ni _ _ K j hlt,hok,Bool.true_and]
    have hlk:=HKW.out.below hb
    obtain⟨b,o,ha,hbl,e0,e1⟩:=Own.Du.cells hlk hlt
    have JL:∀ i,j=i+1->∃ x:Own.KeyUse,wr.cell? ⟨b,o+i*2,none⟩=some (.string x.pub)/\(K.take j).getLast? = some x:=by
     intro i hi
     obtain⟨b',o',ha',_,e0,_⟩:=Own.Du.cells hlk (i:=i) (by omega)
     rw[ha] at ha'
     cases ha'
     have hg:=Own.getLast_take K i (by omega)
     rw[<- hi] at hg
     exact⟨_,e0,hg⟩
    subst ha
    obtain⟨ku,hku⟩:∃ x,x=K[j]:=⟨_,rfl⟩
    rw[<- hku] at hra htk e0 e1
    obtain⟨rest,hrest⟩:∃ x,x=Own.Ar Own.Df (fun x y=>Own.Aj x.pub y.pub) (some ku) (K.drop (j+1)):=⟨_,rfl⟩
    rw[<- hrest] at hra
    obtain⟨pb,nx⟩:=ku
    have hkk:Own.Df ⟨pb,nx⟩=(Sig.Bn pb&&decide (0<=nx)&&decide (nx<=2^(pb.get! 32).toNat)):=rfl
    rw[hkk] at hra htk
    dsimp only at hra htk e0 e1
    have hb5:Below w5.heap.size w5 (wr.alloc (.cells #[.string pb,.int .i64 nx] 59)).drew:=(hb.alloc hb.size _).drew
    have ha5:=((HA2.out.below hb hzw).alloc (.cells #[.string pb,.int .i64 nx] 59)).drew
    have b2:=ha5.cell 2
    simp only[zg] at b2
    have RH:=zh JL;have HB5:=zh hb5
    clear hok hb hlk JL hb5 ha5 hrest hku hkk HKW
    cases hp:Sig.Bn pb with
    | false =>
      have e:R=false:=by rw[hra,hp]<;>rfl
      have HE:=zh e;clear e hra htk
      go_wp2_with fail
      refine Lex.zl ?_
      go_wp2_with fail
      refine(zb8 pb _).mono ?_
      rintro e2 w2 ⟨rfl,rfl⟩
      rw[hp]
      go_wp2_with fail
      refine Lex.ze ?_
      go_wp2_with fail
      go_ret
      exact⟨by rw[HE.out]<;>rfl,HB2.out.trans (HB5.out.mono HB2.out.size)⟩
    | true=>
    rw[hp,Bool.true_and] at hra htk
    have h33:pb.size=33:=of_decide_eq_true (Bool.and_eq_true_iff.1 hp).1
    have h6:(pb.get! 32).toNat<=6:=of_decide_eq_true (Bool.and_eq_true_iff.1 hp).2
    have h32:32<pb.size:=by omega
    have hg:pb.get! 32=pb[32]:=getElem!_pos pb.data 32 h32
    rw[hg] at h6 hra htk
    obtain⟨N,hN⟩:∃ N:Nat,N=2^pb[32].toNat:=⟨_,rfl⟩
    have zah:N<=64:=by
     rw[hN]
     exact Nat.le_trans (Nat.pow_le_pow_right (by omega) h6) (by decide)
    have hNN:((2:Int)^pb[32].toNat)=(N:Int):=by rw[hN];exact(Int.natCast_pow 2 _).symm
    have hsh:wrap64 ((2:Int)^pb[32].toNat)=(N:Int):=by
     rw[hNN]
     unfold wrap64
     omega
    rw[hNN] at hra htk
    have H33:=zh h33;have HHP:=zh hp;have HSH:=zh hsh
    clear hN hNN hg h33 hp hsh
    have dsz:((pb.size:Int)==33)=true:=by rw[beq_iff_eq];have:=H33.out;omega
    by_cases n1:0<=nx
    case neg=>
     have dn1:decide (nx<0)=true:=zt
     have e:R=false:=by rw[hra,decide_eq_false n1]<;>rfl
     have HE:=zh e;clear e hra htk
     go_wp2_with fail
     refine Lex.zl ?_
     go_wp2_with fail
     refine(zb8 pb _).mono ?_
     rintro e2 w2 ⟨rfl,rfl⟩
     rw[HHP.out]
     go_wp2_with (rw[HSH.out])
     refine Lex.ze ?_
     go_wp2_with fail
     go_ret
     exact⟨by rw[HE.out]<;>rfl,HB2.out.trans (HB5.out.mono HB2.out.size)⟩
    have dn1:decide (nx<0)=false:=zf
    rw[decide_eq_true n1,Bool.true_and] at hra htk
    by_cases n2:nx<=(N:Int)
    case neg=>
     have dn2:decide ((N:Int)<nx)=true:=zt
     have e:R=false:=by rw[hra,decide_eq_false n2]<;>rfl
     have HE:=zh e;clear e hra htk n1 n2
     go_wp2_with fail
     refine Lex.zl ?_
     go_wp2_with fail
     refine(zb8 pb _).mono ?_
     rintro e2 w2 ⟨rfl,rfl⟩
     rw[HHP.out]
     go_wp2_with (rw[HSH.out])
     refine Lex.ze ?_
     go_wp2_with fail
     go_ret
     exact⟨by rw[HE.out]<;>rfl,HB2.out.trans (HB5.out.mono HB2.out.size)⟩
    have dn2:decide ((N:Int)<nx)=false:=zf
    rw[decide_eq_true n2,Bool.true_and] at hra htk
    rcases Nat.eq_zero_or_pos j with hj0|hjp
    ·have hl0:(K.take j).getLast? = none:=by rw[hj0]<;>rfl
     rw[hl0] at htk
     have HT:=zh htk
     have HJ0:=zh hj0
     have dz:decide ((0:Int)<(j:Int))=false:=zf
     have dz' : decide (0<j)=false:=zf
     clear hl0 hra htk hj0
     go_wp2_with fail
     refine Lex.zl ?_
     go_wp2_with fail
     refine(zb8 pb _).mono ?_
     rintro e2 w2 ⟨rfl,rfl⟩
     rw[HHP.out]
     go_wp2_with (rw[HSH.out])
     refine Lex.ze ?_
     go_wp2_with fail
     exact⟨⟨j+1,by omega,by go_num,HT.out,HB5.out⟩,by simp[intOf];omega⟩
    ·obtain⟨i,hi⟩:∃ i,j=i+1:=⟨j-1,by omega⟩
     obtain⟨x,f0,hx⟩:=RH.out i hi
     rw[hx] at hra htk
     have Ol:R=(Own.Aj x.pub pb&&rest):=hra
     have Nh:Own.Ar Own.Df (fun x y=>Own.Aj x.pub y.pub) none (K.take (j+1))=Own.Aj x.pub pb:=htk
     unfold Own.Aj at Ol
     have dz:decide ((0:Int)<(j:Int))=true:=zt
     have dz' : decide (0<j)=true:=zt
     have ek:(j:Int)-1=(i:Int):=by omega
     have hjl:i<K.length:=by omega
     have f1:(wr.alloc (.cells #[.string pb,.int .i64 nx] 59)).cell? ⟨b,o+i*2,none⟩=some (.string x.pub):=(((Below.refl wr.heap.size wr).alloc (Nat.le_refl _) _).cell (p:=⟨b,o+i*2,none⟩) hbl).trans f0
     cases hlb:Op.bytesLess x.pub.toList pb.toList with
     | false =>
       have e:R=false:=by rw[Ol,hlb]<;>rfl
       have HE:=zh e;clear e hra htk Ol Nh hx f0 hi
       go_wp2_with fail
       refine Lex.zl ?_
       go_wp2_with fail
       refine(zb8 pb _).mono ?_
       rintro e2 w2 ⟨rfl,rfl⟩
       rw[HHP.out]
       go_wp2_with (rw[HSH.out])
       refine Lex.ze ?_
       go_wp2_with fail
       go_ret
       exact⟨by rw[HE.out]<;>rfl,HB2.out.trans (HB5.out.mono HB2.out.size)⟩
     | true =>
       have xu:Own.Ar Own.Df (fun x y=>Own.Aj x.pub y.pub) none (K.take (j+1))=true:=by rw[Nh];exact hlb
       have HT:=zh xu
       clear hra htk Ol Nh xu hx f0 hi
       go_wp2_with fail
       refine Lex.zl ?_
       go_wp2_with fail
       refine(zb8 pb _).mono ?_
       rintro e2 w2 ⟨rfl,rfl⟩
       rw[HHP.out]
       go_wp2_with (rw[HSH.out])
       refine Lex.ze ?_
       go_wp2_with fail
       exact⟨⟨j+1,by omega,by go_num,HT.out,HB5.out⟩,by simp[intOf];omega⟩
  have dk:decide ((k:Int)<S.length)=true:=zt
  have hra:R=(((Own.AX S[k]&&Own.ahead (fun x y=>Own.Aj x.pre y.pre) (S.take k).getLast? S[k])&&Own.Ar Own.AX (fun x y=>Own.Aj x.pre y.pre) (some S[k]) (S.drop (k+1)))&&Own.Ar Own.Df (fun x y=>Own.Aj x.pub y.pub) none K):=by rw[HR2.out,Own.RI _ _ S k hlt,hok,Bool.true_and]
  have htk:Own.Ar Own.AX (fun x y=>Own.Aj x.pre y.pre) none (S.take (k+1))=(Own.AX S[k]&&Own.ahead (fun x y=>Own.Aj x.pre y.pre) (S.take k).getLast? S[k]):=by rw[Own.Ni _ _ S k hlt,hok,Bool.true_and]
  have hlk:=HS.out.below hb
  obtain⟨b,o,mv,ha,hbl,e0,e1,e2,hmv⟩:=Own.BF.cells hlk hlt
  have JL:∀ i,k=i+1->∃ x:Own.Space,wr.cell? ⟨b,o+i*3,none⟩=some (.string x.pre)/\(S.take k).getLast? = some x:=by
   intro i hi
   obtain⟨b',o',_,ha',_,e0,_⟩:=Own.BF.cells hlk (i:=i) (by omega)
   rw[ha] at ha'
   cases ha'
   have hg:=Own.getLast_take S i (by omega)
   rw[<- hi] at hg
   exact⟨_,e0,hg⟩
  subst ha
  have hml:=HLM.out S[k] (List.getElem_mem hlt)
  obtain⟨sp,hsp⟩:∃ x,x=S[k]:=⟨_,rfl⟩
  rw[<- hsp] at hra htk e0 e2 hmv hml
  obtain⟨rest,hrest⟩:∃ x,x=(Own.Ar Own.AX (fun x y=>Own.Aj x.pre y.pre) (some sp) (S.drop (k+1))&&Own.Ar Own.Df (fun x y=>Own.Aj x.pub y.pub) none K):=⟨_,rfl⟩
  rw[Bool.and_assoc,<- hrest] at hra
  obtain⟨ma,mc,rfl⟩:=hmv.len
  have RJ:Below wr.heap.size wr wr.drew:=(Below.refl _ _).drew
  have iQ:=zcb (.slice ma sp.members.length mc) sp wr.drew (hmv.below RJ) hml.1 hml.2
  have oP:=zh iQ;have RH:=zh JL;have iR:=zh RJ
  have hbr:=hb
  clear hok hb hlk JL RJ iQ hrest hsp hmv
  cases hs:Own.AX sp with
  | false =>
    have e:R=false:=by rw[hra,hs]<;>rfl
    have HE:=zh e;clear e hra htk
    go_wp2_with fail
    refine Lex.zl ?_
    go_wp2_with fail
    refine oP.out.mono ?_
    rintro e2 w7 ⟨rfl,hb7⟩
    rw[hs]
    have HB7:=zh (HB.out.trans ((hbr.trans ((iR.out.trans (hb7.mono iR.out.size)).mono hbr.size)).mono HB.out.size));clear hb7 hbr
    go_wp2_with fail
    refine Lex.ze ?_
    go_wp2_with fail
    go_ret
    exact⟨by rw[HE.out]<;>rfl,HB7.out⟩
  | true=>
  rw[hs,Bool.true_and] at hra htk
  have HHS:=zh hs;clear hs
  rcases Nat.eq_zero_or_pos k with hk0|hkp
  ·have hl0:(S.take k).getLast? = none:=by rw[hk0]<;>rfl
   rw[hl0] at htk
   have x9 : Own.Ar Own.AX (fun x y=>Own.Aj x.pre y.pre) none (S.take (k+1))=true:=htk
   have HT:=zh x9
   have HK0:=zh hk0
   have dz:decide ((0:Int)<(k:Int))=false:=zf
   have dz' : decide (0<k)=false:=zf
   clear hl0 hra htk x9 hk0
   go_wp2_with fail
   refine Lex.zl ?_
   go_wp2_with fail
   refine oP.out.mono ?_
   rintro e3 w7 ⟨rfl,hb7⟩
   rw[HHS.out]
   have zbK:=iR.out.trans (hb7.mono iR.out.size)
   have g1:=((HA.out.below (hbr.trans (zbK.mono hbr.size)) hz1)).cell 1
   have g0:=(zbK.cell (p:=⟨b,o+k*3,none⟩) hbl).trans e0
   simp only[zg] at g1
   try have f1:=(zbK.cell (p:=⟨b,o+i*3,none⟩) hbl).trans F0.out
   have HB7:=zh (hbr.trans (zbK.mono hbr.size));clear hb7 zbK hbr
   go_wp2_with fail
   refine Lex.ze ?_
   go_wp2_with fail
   exact⟨⟨k+1,by omega,by go_num,HT.out,HB7.out⟩,by simp[intOf];omega⟩
  ·obtain⟨i,hi⟩:∃ i,k=i+1:=⟨k-1,by omega⟩
   obtain⟨x,f0,hx⟩:=RH.out i hi
   rw[hx] at hra htk
   have Ol:R=(Own.Aj x.pre sp.pre&&rest):=hra
   have Nh:Own.Ar Own.AX (fun x y=>Own.Aj x.pre y.pre) none (S.take (k+1))=Own.Aj x.pre sp.pre:=htk
   have dz:decide ((0:Int)<(k:Int))=true:=zt
   have dz' : decide (0<k)=true:=zt
   have ek:(k:Int)-1=(i:Int):=by omega
   have hjl:i<S.length:=by omega
   have F0:=zh f0
   cases hlb:Own.Aj x.pre sp.pre with
   | false =>
     have e:R=false:=by rw[Ol,hlb]<;>rfl
     have HE:=zh e
     have zay : Op.bytesLess x.pre.toList sp.pre.toList=false:=hlb
     clear e hra htk Ol Nh hx f0 hi hlb
     go_wp2_with fail
     refine Lex.zl ?_
     go_wp2_with fail
     refine oP.out.mono ?_
     rintro e3 w7 ⟨rfl,hb7⟩
     rw[HHS.out]
     have zbK:=iR.out.trans (hb7.mono iR.out.size)
     have g1:=((HA.out.below (hbr.trans (zbK.mono hbr.size)) hz1)).cell 1
     have g0:=(zbK.cell (p:=⟨b,o+k*3,none⟩) hbl).trans e0
     simp only[zg] at g1
     try have f1:=(zbK.cell (p:=⟨b,o+i*3,none⟩) hbl).trans F0.out
     have HB7:=zh (hbr.trans (zbK.mono hbr.size));clear hb7 zbK hbr
     go_wp2_with fail
     refine Lex.ze ?_
     go_wp2_with fail
     go_ret
     exact⟨by rw[HE.out]<;>rfl,HB.out.trans (HB7.out.mono HB.out.size)⟩
   | true =>
     rw[hlb] at Nh
     have HT:=zh Nh
     have zay : Op.bytesLess x.pre.toList sp.pre.toList=true:=hlb
     clear hra htk Ol Nh hx f0 hi hlb
     go_wp2_with fail
     refine Lex.zl ?_
     go_wp2_with fail
     refine oP.out.mono ?_
     rintro e3 w7 ⟨rfl,hb7⟩
     rw[HHS.out]
     have zbK:=iR.out.trans (hb7.mono iR.out.size)
     have g1:=((HA.out.below (hbr.trans (zbK.mono hbr.size)) hz1)).cell 1
     have g0:=(zbK.cell (p:=⟨b,o+k*3,none⟩) hbl).trans e0
     simp only[zg] at g1
     try have f1:=(zbK.cell (p:=⟨b,o+i*3,none⟩) hbl).trans F0.out
     have HB7:=zh (hbr.trans (zbK.mono hbr.size));clear hb7 zbK hbr
     go_wp2_with fail
     refine Lex.ze ?_
     go_wp2_with fail
     exact⟨⟨k+1,by omega,by go_num,HT.out,HB7.out⟩,by simp[intOf];omega⟩
theorem zci (pre:ByteArray)(th:Int)(v:Value)(l:List Own.Member)(w:World)(h:Own.Af w v l)(hl:l.length<=3000000):
 Calls Tryz.prog 62 #[.agg #[.string pre,v,.int .i64 th]] w fun e w' => ∃ v',e=.returned (.agg #[.string pre,v',.int .i64 th])/\w'.ownsRow w.heap.size 76 2 v' l.length (l.flatMap Own.Cy)/\Below w.heap.size w w':=by
 obtain⟨a,c,rfl⟩:=h.len
 have F1:=zh (show Au w _ [(39,#[.string pre,.slice a l.length c,.int .i64 th]),(39,#[.string ⟨#[]⟩,.slice none 0 0,.int .i64 0])] from(((CY.nil w).push 39 #[.string pre,.slice a l.length c,.int .i64 th]).push 39 #[.string ⟨#[]⟩,.slice none 0 0,.int .i64 0]).boxes)
 have H:=zh (h.below F1.out.under)
 have hz:((w.alloc (.cells #[.string pre,.slice a l.length c,.int .i64 th] 39)).alloc (.cells #[.string ⟨#[]⟩,.slice none 0 0,.int .i64 0] 39)).heap.size=w.heap.size+2:=by simp
 clear h
 go_enter Tryz.func62,Tryz.ntmps62
 go_upto_region 1 with fail
 generalize (w.alloc (.cells #[.string pre,.slice a l.length c,.int .i64 th] 39)).alloc (.cells #[.string ⟨#[]⟩,.slice none 0 0,.int .i64 0] 39)=w1 at*
 obtain⟨x00,x01,x02⟩:=F1.out.Fw rfl
 have HX0:=zh (show(w1.cell? ⟨w.heap.size,0,none⟩).isSome=true by rw[x00]<;>rfl)
 have HX1:=zh (show(w1.cell? ⟨w.heap.size,1,none⟩).isSome=true by rw[x01]<;>rfl)
 have HX2:=zh (show(w1.cell? ⟨w.heap.size,2,none⟩).isSome=true by rw[x02]<;>rfl)
 have hb2:Below w1.heap.size w1 (w1.drew.alloc (.cells #[] 76)):=(Below.refl w1.heap.size w1).drew.alloc (Nat.le_refl _) _
 have ho:=Mr w1.drew 76 2 w1.heap.size (by rw[Ez];exact Nat.le_refl _)
 rw[Ez] at ho
 have HO:=zh ho;have H2:=zh (Own.Af.rows (H.out.below hb2));have HB2:=zh hb2;have F2:=zh (F1.out.step hb2);have HZ:=zh hz
 clear hb2 hz ho
 have F3:=zh (F1.out.step ((Below.refl w1.heap.size w1).alloc (Nat.le_refl _) (.cells #[] 76)))
 have y00:(w1.alloc (.cells #[] 76)).cell? ⟨w.heap.size,0,none⟩=some (.string pre):=F3.out.cell 0 0 rfl rfl
 have y01:(w1.alloc (.cells #[] 76)).cell? ⟨w.heap.size,1,none⟩=some (.slice a l.length c):=F3.out.cell 0 1 rfl rfl
 have y02:(w1.alloc (.cells #[] 76)).cell? ⟨w.heap.size,2,none⟩=some (.int .i64 th):=F3.out.cell 0 2 rfl rfl
 refine Lex.zn (fun j=>j=w.heap.size) [1,4,7] 8 [6] ?_
 simp only[Lex.Bp,zd]
 go_wp2_with (at_builtin;go_must (refine Ah JO rfl _ _ rfl w1.heap.size 0 _ [] rfl HO.out (.slice a l.length c) l.length _ rfl H2.out (Own.xA l) (by omega) (by omega) HB2.out.size ?_);intro v5 w5 ho5 hg5 _;rw[Nat.zero_add,List.nil_append] at ho5;obtain⟨va,vm,vc,rfl⟩:=Ac ho5;have HO5:=zh ho5;have F5:=zh (F2.out.far (O:=w1.heap.size) (by have:=HZ.out;show w.heap.size+2<=w1.heap.size;omega) (Ak HO.out) hg5);have HG5:=zh hg5;clear ho5 hg5;have z00:w5.cell? ⟨w.heap.size,0,none⟩=some (.string pre):=F5.out.cell 0 0 rfl rfl;have z01:w5.cell? ⟨w.heap.size,1,none⟩=some (.slice a l.length c):=F5.out.cell 0 1 rfl rfl;have z02:w5.cell? ⟨w.heap.size,2,none⟩=some (.int .i64 th):=F5.out.cell 0 2 rfl rfl;have z10:w5.cell? ⟨w.heap.size+1,0,none⟩=some (.string ⟨#[]⟩):=F5.out.cell 1 0 rfl rfl;have zbx:w5.frozen? ⟨w.heap.size+1,0,none⟩=false:=F5.out.free 1 0 rfl;have z11:w5.cell? ⟨w.heap.size+1,1,none⟩=some (.slice none 0 0):=F5.out.cell 1 1 rfl rfl;have zby:w5.frozen? ⟨w.heap.size+1,1,none⟩=false:=F5.out.free 1 1 rfl;have z12:w5.cell? ⟨w.heap.size+1,2,none⟩=some (.int .i64 0):=F5.out.cell 1 2 rfl rfl;have zbz:w5.frozen? ⟨w.heap.size+1,2,none⟩=false:=F5.out.free 1 2 rfl)
 have hlt:w.heap.size<w1.heap.size:=F1.out.lt (i:=0) (by show 0<2;omega)
 have hb5:w5.heap[w.heap.size]? = w1.heap[w.heap.size]? :=by
  have h1:=HG5.out.block w.heap.size (Nat.lt_of_lt_of_le hlt HB2.out.size) (fun e=>by have:=Ak HO.out _ e.symm;omega)
  rw[h1]
  exact HB2.out.block _ hlt
 have HB5:=zh hb5;clear hb5
 refine Lex.Mid.intro (fun j hj _=>by rw[hj];exact HB5.out) ?_
 go_wp2_with fail
 refine Lex.zk ⟨⟨rfl,HX0.out⟩,⟨rfl,HX1.out⟩,⟨rfl,HX2.out⟩,trivial⟩ ?_
 go_wp2_with fail
 (try clear x00 x01 x02)
 have G2:=(((F5.out.put 1 0 (.string pre) rfl).put 1 1 (.slice va vm vc) rfl).put 1 2 (.int .i64 th) rfl)
 refine Ob rfl rfl (AJ (G2.at1 1 rfl) Tryz.underlying39 rfl EK) ⟨_,rfl,?_,G2.under⟩
 have hz:=HZ.out
 refine Cw (Ae HO5.out (fun k hk=>?_)) (by omega)
 have k0:=Ak HO5.out k hk
 have k2:k≠w.heap.size+1:=by omega
 rw[zo k2,zo k2,zo k2]
theorem zcj (o:Own.Ao)(s:ByteArray)(sv kv:Value)(w:World)(hS:Own.BF w sv o.spaces)(hK:Own.Du w kv o.keys)(hls:o.spaces.length<=140737488355328)(hlk:o.keys.length<=140737488355328)(hlm:∀ x∈o.spaces,x.members.length<=140737488355328/\x.pre.size<=140737488355000)(hs:s.size<=140737488355328):
 Calls Tryz.prog 19 #[.agg #[.int .i64 o.count,sv,kv],.string s] w (YA w (Own.authority o s)):=by
 obtain⟨R,hR⟩:∃ R,R=YA w (Own.authority o s):=⟨_,rfl⟩
 rw[<- hR]
 obtain⟨A,hA⟩:∃ A,A=Own.authority o s:=⟨_,rfl⟩
 rw[<- hA] at hR
 unfold Own.authority at hA
 have HR:=zh hR;clear hR
 obtain⟨sa,sc,rfl⟩:=hS.len
 obtain⟨ka,kc,rfl⟩:=hK.len
 have hval:=fun W (hW:Below w.heap.size w W)=>zcc o _ _ W (hS.below hW) (hK.below hW) hls hlk (fun x hx=>by have:=hlm x hx;omega)
 obtain⟨OKb,zd1⟩:∃ b,b=Own.Bv o:=⟨_,rfl⟩
 simp only[<- zd1] at hval hA
 have hmem:OKb=true->o.spaces.length<=64/\∀ x∈o.spaces,x.pre.size<=64/\x.members.length<=8:=fun h=>by
  rw[h] at zd1
  have:=Own.OK.of zd1.symm
  exact⟨this.ls,fun x hx=>⟨(Own.oU.of (this.sp x hx)).pre,(Own.oU.of (this.sp x hx)).len⟩⟩
 obtain⟨cnt,S,K⟩:=o
 dsimp only at*
 have F1:=zh (show Au w _ [(25,#[.int .i64 cnt,.slice sa S.length sc,.slice ka K.length kc]),(39,#[.string ⟨#[]⟩,.slice none 0 0,.int .i64 0])] from(((CY.nil w).push 25 #[.int .i64 cnt,.slice sa S.length sc,.slice ka K.length kc]).push 39 #[.string ⟨#[]⟩,.slice none 0 0,.int .i64 0]).boxes)
 have HS:=zh hS;have zdP:=zh (hval _ F1.out.under);have HM:=zh hmem;have HA:=zh hA
 clear hS hK hval zd1 hmem hlm hA
 have x00:((w.alloc (.cells #[.int .i64 cnt,.slice sa S.length sc,.slice ka K.length kc] 25)).alloc (.cells #[.string ⟨#[]⟩,.slice none 0 0,.int .i64 0] 39)).cell? ⟨w.heap.size,0,none⟩=some (.int .i64 cnt):=F1.out.cell 0 0 rfl rfl
 have x01:((w.alloc (.cells #[.int .i64 cnt,.slice sa S.length sc,.slice ka K.length kc] 25)).alloc (.cells #[.string ⟨#[]⟩,.slice none 0 0,.int .i64 0] 39)).cell? ⟨w.heap.size,1,none⟩=some (.slice sa S.length sc):=F1.out.cell 0 1 rfl rfl
 have x02:((w.alloc (.cells #[.int .i64 cnt,.slice sa S.length sc,.slice ka K.length kc] 25)).alloc (.cells #[.string ⟨#[]⟩,.slice none 0 0,.int .i64 0] 39)).cell? ⟨w.heap.size,2,none⟩=some (.slice ka K.length kc):=F1.out.cell 0 2 rfl rfl
 go_enter Tryz.func19,Tryz.ntmps19
 go_wp2_with fail
 generalize ((w.alloc (.cells #[.int .i64 cnt,.slice sa S.length sc,.slice ka K.length kc] 25)).alloc (.cells #[.string ⟨#[]⟩,.slice none 0 0,.int .i64 0] 39))=w1 at*
 refine zdP.out.mono ?_
 rintro e w2 ⟨rfl,hb2⟩
 have F2:=zh (F1.out.step hb2)
 (try clear x00);(try clear x01);(try clear x02)
 obtain⟨x00,x01,x02⟩:=F2.out.Fw rfl
 obtain⟨x10,x11,x12,zbV,zbW,zbX⟩:=F2.out.zc8 rfl
 clear hb2 zdP F1
 cases OKb with
 | false =>
   have e:A=none:=by rw[HA.out]<;>rfl
   have HE:=zh e;clear e
   go_wp2_with fail
   have G2:=(((F2.out.put 1 0 (.string ⟨#[]⟩) rfl).put 1 1 (.slice none 0 0) rfl).put 1 2 (.int .i64 0) rfl)
   rw[HR.out,HE.out]
   refine BJ rfl rfl rfl (AJ (G2.at1 1 rfl) Tryz.underlying39 rfl EK) ⟨rfl,G2.under⟩
 | true=>
 have hpa:=zcm s w2 (by omega)
 have HPA:=zh hpa;clear hpa
 cases hp:Own.BI s with
 | false =>
   have e:A=none:=by rw[HA.out,hp]<;>rfl
   have HE:=zh e;clear e
   go_wp2_with fail
   refine HPA.out.mono ?_
   rintro e w3 ⟨rfl,rfl⟩
   rw[hp]
   go_wp2_with fail
   have G2:=(((F2.out.put 1 0 (.string ⟨#[]⟩) rfl).put 1 1 (.slice none 0 0) rfl).put 1 2 (.int .i64 0) rfl)
   rw[HR.out,HE.out]
   refine BJ rfl rfl rfl (AJ (G2.at1 1 rfl) Tryz.underlying39 rfl EK) ⟨rfl,G2.under⟩
 | true=>
 obtain⟨zez,hmm⟩:=HM.out rfl
 have HP:=zh hmm
 obtain⟨B,hB⟩:∃ B:List Own.Space->Option Own.Space,B=Own.CB s none:=⟨_,rfl⟩
 have hB0:B []=none:=by rw[hB]<;>rfl
 have hBs:∀ k (hk:k<S.length),B (S.take (k+1))=Own.RU s (B (S.take k)) S[k]:=fun k hk=>by rw[hB];exact Own.aU s S k hk
 have hAB:A=B S:=by rw[HA.out,hp,hB]<;>rfl
 have HBS:=zh hBs;have HAB:=zh hAB
 clear hmm hBs hAB HA HM hB
 go_wp2_with fail
 refine HPA.out.mono ?_
 rintro e w3 ⟨rfl,rfl⟩
 rw[hp]
 go_wp2_with fail
 (try clear x00);(try clear x01);(try clear x02);(try clear x10 x11 x12 zbV zbW zbX)
 go_loopw [6,7] (fun r i wr=>∃ k:Nat,k<=S.length/\i=.int .i64 k/\(∃ b,r=.int .i64 b/\Own.lS S (B (S.take k)) b)/\Au w wr [(25,#[.int .i64 cnt,.slice sa S.length sc,.slice ka K.length kc]),(39,#[.string ⟨#[]⟩,.slice none 0 0,.int .i64 0])]) (fun _ i _=>S.length-(intOf i).toNat)
 case atStart=>exact⟨0,by omega,rfl,⟨-1,rfl,.inl ⟨rfl,hB0⟩⟩,F2.out⟩
 case round=>
  obtain⟨k,hk,rfl,⟨bi,rfl,hbi⟩,hbx⟩:=hrel
  have G1:=zh hbx;clear hbx F2
  obtain⟨x00,x01,x02⟩:=G1.out.Fw rfl
  obtain⟨x10,x11,x12,zbV,zbW,zbX⟩:=G1.out.zc8 rfl
  have HSW:=zh (HS.out.below G1.out.under)
  by_cases hlt:k<S.length
  case neg=>
   have hke:k=S.length:=by omega
   have dk:decide ((k:Int)<S.length)=false:=zf
   rw[hke,List.take_length,<- HAB.out] at hbi
   clear hke HBS HAB
   rcases hbi with ⟨rfl,h2⟩|⟨j,rfl,hj,h2⟩
   ·have HE:=zh h2;clear h2
    go_wp2_with fail
    have G2:=(((G1.out.put 1 0 (.string ⟨#[]⟩) rfl).put 1 1 (.slice none 0 0) rfl).put 1 2 (.int .i64 0) rfl)
    rw[HR.out,HE.out]
    refine BJ rfl rfl rfl (AJ (G2.at1 1 rfl) Tryz.underlying39 rfl EK) ⟨rfl,G2.under⟩
   ·have dj:decide ((j:Int)<0)=false:=zf
    have HE:=zh h2;clear h2
    obtain⟨b,o,mv,ha,hbl,e0,e1,e2,hmv⟩:=Own.BF.cells HSW.out hj
    subst ha
    have hp8:=(HP.out S[j] (List.getElem_mem hj)).2
    obtain⟨x,hx⟩:∃ x,x=S[j]:=⟨_,rfl⟩
    rw[<- hx] at e0 e2 hmv hp8 HE
    obtain⟨pre,M,th⟩:=x
    dsimp only at e0 e2 hmv hp8
    have HC:=zh (zci pre th mv M wr hmv (by omega))
    obtain⟨ma,mc,rfl⟩:=hmv.len
    clear hx hmv
    go_wp2_with fail
    refine HC.out.mono ?_
    rintro e w4 ⟨v',rfl,hov,hb4⟩
    obtain⟨va,vm,vc,rfl⟩:=Ac hov
    have G4:=zh (G1.out.step hb4);have HOV:=zh hov
    have hz3:w.heap.size+2<=wr.heap.size:=G1.out.size
    (try clear x00);(try clear x01);(try clear x02);(try clear x10 x11 x12 zbV zbW zbX)
    obtain⟨x10,x11,x12,zbV,zbW,zbX⟩:=G4.out.zc8 rfl
    clear hov hb4 e0 e1 e2
    go_wp2_with fail
    have G2:=(((G4.out.put 1 0 (.string pre) rfl).put 1 1 (.slice va vm vc) rfl).put 1 2 (.int .i64 th) rfl)
    rw[HR.out,HE.out]
    refine BJ rfl rfl rfl (AJ (G2.at1 1 rfl) Tryz.underlying39 rfl EK) ⟨⟨_,rfl,?_⟩,G2.under⟩
    refine Cw (Ae HOV.out (fun k hk=>?_)) (by omega)
    have k0:=Ak HOV.out k hk
    have k2:k≠w.heap.size+1:=by omega
    rw[zo k2,zo k2,zo k2]
  have dk:decide ((k:Int)<S.length)=true:=zt
  obtain⟨b,o,mv,ha,hbl,e0,_,_,_⟩:=Own.BF.cells HSW.out hlt
  have hpk:=(HP.out S[k] (List.getElem_mem hlt)).1
  have hst:=HBS.out k hlt
  have JL:∀ j (hj:j<S.length),wr.cell? ⟨b,o+j*3,none⟩=some (.string S[j].pre):=by
   intro j hj
   obtain⟨b',o',_,ha',_,e0,_⟩:=Own.BF.cells HSW.out hj
   rw[ha] at ha'
   cases ha'
   exact e0
  subst ha
  obtain⟨pre,hpre⟩:∃ x,x=S[k].pre:=⟨_,rfl⟩
  rw[<- hpre] at e0 hpk
  have TM:=zh hpre;have HST:=zh hst;have HBI:=zh hbi;have RH:=zh JL;have G2:=zh G1.out.drew
  have oQ:=zh (fun W=>zcu s pre W (by omega) (by omega))
  clear JL hpre hst hbi
  cases hbg:Own.belongs s pre with
  | false =>
    have hn:B (S.take (k+1))=B (S.take k):=by rw[HST.out];unfold Own.RU;rw[<- TM.out,hbg];rfl
    have HN:=zh hn
    clear hn
    go_wp2_with fail
    refine Lex.zl ?_
    go_wp2_with fail
    refine(oQ.out _).mono ?_
    rintro e3 w7 ⟨rfl,rfl⟩
    rw[hbg]
    go_wp2_with fail
    refine Lex.ze ?_
    go_wp2_with fail
    exact⟨⟨k+1,by omega,by go_num,⟨bi,rfl,by rw[HN.out];exact HBI.out⟩,G2.out⟩,by simp[intOf];omega⟩
  | true=>
  rcases HBI.out with ⟨h1,h2⟩|⟨j,h1,hj,h2⟩
  ·have hn:B (S.take (k+1))=some S[k]:=by rw[HST.out,h2];unfold Own.RU;rw[<- TM.out,hbg];rfl
   have HN:=zh hn
   subst h1
   clear hn h2
   go_wp2_with fail
   refine Lex.zl ?_
   go_wp2_with fail
   refine(oQ.out _).mono ?_
   rintro e3 w7 ⟨rfl,rfl⟩
   rw[hbg]
   go_wp2_with fail
   refine Lex.ze ?_
   go_wp2_with fail
   exact⟨⟨k+1,by omega,by go_num,⟨k,rfl,.inr ⟨k,rfl,hlt,HN.out⟩⟩,G2.out⟩,by simp[intOf];omega⟩
  ·have g0:=RH.out j hj
   obtain⟨pn,hpn⟩:∃ x,x=S[j].pre:=⟨_,rfl⟩
   rw[<- hpn] at g0
   have hn:B (S.take (k+1))=if decide (pn.size<pre.size) then some S[k] else some S[j]:=by
    rw[HST.out,h2,hpn,TM.out];unfold Own.RU;rw[<- TM.out,hbg,TM.out];rfl
   have HN:=zh hn
   subst h1
   have dj:decide ((j:Int)<0)=false:=zf
   clear hn h2 hpn
   by_cases hlg:pn.size<pre.size
   ·have dl:decide ((pn.size:Int)<(pre.size:Int))=true:=zt
    have dl' : decide (pn.size<pre.size)=true:=decide_eq_true hlg
    go_wp2_with fail
    refine Lex.zl ?_
    go_wp2_with fail
    refine(oQ.out _).mono ?_
    rintro e3 w7 ⟨rfl,rfl⟩
    rw[hbg]
    go_wp2_with fail
    refine Lex.ze ?_
    go_wp2_with fail
    exact⟨⟨k+1,by omega,by go_num,⟨k,rfl,.inr ⟨k,rfl,hlt,by rw[HN.out,dl']<;>rfl⟩⟩,G2.out⟩,by simp[intOf];omega⟩
   ·have dl:decide ((pn.size:Int)<(pre.size:Int))=false:=zf
    have dl' : decide (pn.size<pre.size)=false:=decide_eq_false hlg
    go_wp2_with fail
    refine Lex.zl ?_
    go_wp2_with fail
    refine(oQ.out _).mono ?_
    rintro e3 w7 ⟨rfl,rfl⟩
    rw[hbg]
    go_wp2_with fail
    refine Lex.ze ?_
    go_wp2_with fail
    exact⟨⟨k+1,by omega,by go_num,⟨j,rfl,.inr ⟨j,rfl,hj,by rw[HN.out,dl']<;>rfl⟩⟩,G2.out⟩,by simp[intOf];omega⟩
namespace Own
def zbB {α : Type}(f : α -> ByteArray)(x : α)(l:List α)(k:Nat)(d:Bool)(L:List α):Prop:=
 (d=false/\k<=posB f (f x) l/\L=l.take k)\/(d=true/\posB f (f x) l<k/\L=l.take (posB f (f x) l)++x::(l.take k).drop (posB f (f x) l+if Dl f (f x) l then 1 else 0))
theorem zbB.len {α : Type}{f : α -> ByteArray}{x : α}{l L:List α}{k:Nat}{d:Bool}(h:zbB f x l k d L):L.length<=l.length+1:=by
 have:=MK (f:=f) (f x) l
 rcases h with ⟨_,h1,rfl⟩|⟨_,h1,rfl⟩
 ·rw[List.length_take];omega
 ·rw[List.length_append,List.length_take,List.length_cons,List.length_drop,List.length_take]
  omega
section
variable {α : Type} {f : α -> ByteArray} {x : α} {l L:List α} {k:Nat}
theorem zbB.zero:zbB f x l 0 false []:=.inl ⟨rfl,Nat.zero_le _,rfl⟩
theorem zbB.less (h:zbB f x l k false L)(hs:Srt f l)(hk:k<l.length)(hl:Aj (f l[k]) (f x)=true):f l[k]≠f x/\zbB f x l (k+1) false (L++[l[k]]):=by
 refine⟨fun e=>(by rw[e,BP] at hl;cases hl),?_⟩
 rcases h with ⟨_,h1,rfl⟩|⟨h,_⟩
 ·refine .inl ⟨rfl,?_,by rw[List.take_succ_eq_append_getElem hk]⟩
  by_cases hp:posB f (f x) l<=k
  ·have:=hs.ge (f x) k hp hk
   rw[hl] at this
   cases this
  ·omega
 ·cases h
theorem zbB.place (h:zbB f x l k false L)(hk:k<l.length)(hl:Aj (f l[k]) (f x)=false):(f l[k]=f x->zbB f x l (k+1) true (L++[x]))/\(f l[k]≠f x->zbB f x l (k+1) true (L++[x]++[l[k]])):=by
 rcases h with ⟨_,h1,rfl⟩|⟨h,_⟩
 ·have hp : posB f (f x) l = k :=by
   by_cases hp:k<posB f (f x) l
   ·have:=UF (f:=f) (f x) l k hp hk
    rw[hl] at this
    cases this
   ·omega
  have hh:Dl f (f x) l=decide (f l[k]=f x):=by
   unfold Dl
   rw[hp,List.getElem?_eq_getElem hk]
  refine⟨fun e=>.inr ⟨rfl,by omega,?_⟩,fun e=>.inr ⟨rfl,by omega,?_⟩⟩
  ·rw[hh,decide_eq_true e,hp,if_pos rfl,List.drop_of_length_le (by rw[List.length_take];omega)]
  ·rw[hh,decide_eq_false e,hp,if_neg Bool.false_ne_true,Nat.add_zero,List.take_succ_eq_append_getElem hk,List.drop_append,List.drop_of_length_le (by rw[List.length_take];omega),List.length_take,Nat.min_eq_left (by omega),Nat.sub_self]
   simp
 ·cases h
theorem zbB.done (h:zbB f x l k true L)(hs:Srt f l)(hk:k<l.length):f l[k]≠f x/\zbB f x l (k+1) true (L++[l[k]]):=by
 rcases h with ⟨h,_⟩|⟨_,h1,rfl⟩
 ·cases h
 ·refine⟨fun e=>?_,.inr ⟨rfl,by omega,?_⟩⟩
  ·have h2:=hs.ge (f x) (posB f (f x) l) (Nat.le_refl _) (by omega)
   have h3:=(List.pairwise_iff_getElem.1 hs) (posB f (f x) l) k (by omega) hk h1
   rw[e,h2] at h3
   cases h3
  ·have hz : posB f (f x) l + (if Dl f (f x) l then 1 else 0) ≤ (l.take k).length :=by
    rw[List.length_take]
    split<;>omega
   rw[List.take_succ_eq_append_getElem hk,List.drop_append_of_le_length hz]
   simp
theorem zbB.end_ (h:zbB f x l l.length false L):L++[x]=Dj f x l:=by
 rcases h with ⟨_,h1,rfl⟩|⟨h,_⟩
 ·have h2:=MK (f:=f) (f x) l
  have e:posB f (f x) l=l.length:=by omega
  have hh:Dl f (f x) l=false:=by
   unfold Dl
   rw[e,List.getElem?_eq_none (Nat.le_refl _)]
  rw[MN,hh,e,if_neg Bool.false_ne_true,Nat.add_zero,List.drop_length]
 ·cases h
theorem zbB.zdp (h:zbB f x l l.length true L):L=Dj f x l:=by
 rcases h with ⟨h,_⟩|⟨_,h1,rfl⟩
 ·cases h
 ·rw[MN,List.take_length]
end
end Own
theorem Own.zcN (x:Own.KeyUse):∀ u∈Own.Dw x,u.oneCell' = true:=by
 intro u hu
 simp[Own.Dw] at hu
 rcases hu with rfl|rfl<;>rfl
theorem zcZ (v:Value)(l:List Own.KeyUse)(x:Own.KeyUse)(w:World)(h:Own.Du w v l)(hs:Own.Srt Own.KeyUse.pub l)(hl:l.length<=1000000):
 Calls Tryz.prog 116 #[v,.agg (Own.Dw x).toArray] w fun e w' => ∃ v',e=.returned v' /\ w'.ownsRow w.heap.size 59 2 v' (Own.Dj Own.KeyUse.pub x l).length ((Own.Dj Own.KeyUse.pub x l).flatMap Own.Dw)/\Below w.heap.size w w':=by
 obtain⟨PA,hPA⟩:∃ PA:Nat->Bool->List Own.KeyUse->Prop,PA=Own.zbB Own.KeyUse.pub x l:=⟨_,rfl⟩
 have pz:PA 0 false []:=by rw[hPA];exact Own.zbB.zero
 have zdQ:∀ k d L,PA k d L->L.length<=l.length+1:=fun k d L hp=>by rw[hPA] at hp;exact hp.len
 have zd9:∀ k L (hk:k<l.length),PA k false L->Own.Aj (Own.KeyUse.pub l[k]) (Own.KeyUse.pub x)=true->Own.KeyUse.pub l[k]≠Own.KeyUse.pub x/\PA (k+1) false (L++[l[k]]):=fun k L hk hp hlb=>by rw[hPA] at hp ⊢;exact hp.less hs hk hlb
 have zdq:∀ k L (hk:k<l.length),PA k false L->Own.Aj (Own.KeyUse.pub l[k]) (Own.KeyUse.pub x)=false->(Own.KeyUse.pub l[k]=Own.KeyUse.pub x->PA (k+1) true (L++[x]))/\(Own.KeyUse.pub l[k]≠Own.KeyUse.pub x->PA (k+1) true (L++[x]++[l[k]])):=fun k L hk hp hlb=>by rw[hPA] at hp ⊢;exact hp.place hk hlb
 have zdA:∀ k L (hk:k<l.length),PA k true L->Own.KeyUse.pub l[k]≠Own.KeyUse.pub x/\PA (k+1) true (L++[l[k]]):=fun k L hk hp=>by rw[hPA] at hp ⊢;exact hp.done hs hk
 have pend:∀ L,PA l.length false L->L++[x]=Own.Dj Own.KeyUse.pub x l:=fun L hp=>by rw[hPA] at hp;exact hp.end_
 have zdr:∀ L,PA l.length true L->L=Own.Dj Own.KeyUse.pub x l:=fun L hp=>by rw[hPA] at hp;exact hp.zdp
 obtain⟨R,hR⟩:∃ R,R=Own.Dj Own.KeyUse.pub x l:=⟨_,rfl⟩
 rw[<- hR]
 simp only[<- hR] at pend zdr
 have zec:=zh zdQ;have zdR:=zh zd9;have zdD:=zh zdq;have zdS:=zh zdA;have zed:=zh pend;have zdT:=zh zdr;have PZ:=zh pz
 clear zdQ zd9 zdq zdA pend zdr pz hPA hR
 obtain⟨a,c,rfl⟩:=h.len
 have HL:=zh h;clear h
 obtain⟨X,hX⟩:∃ X,X=x:=⟨_,rfl⟩
 rw[<- hX]
 obtain⟨xn,xp⟩:=X
 have HX:=zh hX;have HXF:=zh (congrArg Own.KeyUse.pub hX)
 dsimp only[Own.Dw] at HXF ⊢
 clear hX
 have F1:=zh (show Au w _ [(59,#[.string xn,.int .i64 xp])] from((CY.nil w).push 59 #[.string xn,.int .i64 xp]).boxes)
 show Calls Tryz.prog 116 #[.slice a l.length c,.agg #[.string xn,.int .i64 xp]] w _
 go_enter Tryz.func116,Tryz.ntmps116
 go_wp2_with fail
 generalize (w.alloc (.cells #[.string xn,.int .i64 xp] 59))=w1 at*
 go_loopw [5,6,7] (fun ov dv i wr=>∃ (k:Nat) (d:Bool) (L:List Own.KeyUse) (v:Value),k<=l.length/\i=.int .i64 k/\dv=.bool d/\ov=v/\PA k d L/\wr.ownsRow (w.heap.size+1) 59 2 v L.length (L.flatMap Own.Dw)/\Au w wr [(59,#[.string xn,.int .i64 xp])]) (fun _ _ i _=>l.length-(intOf i).toNat)
 case atStart=>exact⟨0,false,[],_,by omega,rfl,rfl,rfl,PZ.out,⟨rfl,.inl ⟨rfl,rfl⟩⟩,F1.out⟩
 case round=>
  obtain⟨k,d,L,v,hk,rfl,rfl,rfl,hpa,hown,hbx⟩:=hrel
  have hLM:=zec.out k d L hpa
  obtain⟨va,vm,vc,rfl⟩:=Ac hown
  obtain rfl:=Ba hown
  have HO:=zh hown;have G1:=zh hbx;have HPA:=zh hpa
  clear hown hbx hpa F1
  obtain⟨x00,x01⟩:=G1.out.wH rfl
  by_cases hlt:k<l.length
  case neg=>
   have hke:k=l.length:=by omega
   have dk:decide ((k:Int)<l.length)=false:=zf
   cases d with
   | true =>
     have hR:=zdT.out L (hke ▸ HPA.out)
     have HR:=zh hR;clear hR hke
     go_wp2_with fail
     go_ret
     refine⟨_,rfl,?_,G1.out.under⟩
     rw[<- HR.out]
     exact Cw HO.out (by omega)
   | false =>
     have hR:=zed.out L (hke ▸ HPA.out)
     have HR:=zh hR;clear hR hke
     have hb8:Below wr.heap.size wr (wr.alloc (.cells #[.string xn,.int .i64 xp] 59)):=zb
     have hrw:=Cx wr 59 #[.string xn,.int .i64 xp] 2 1 1 rfl
     have hwz:w.heap.size+1<=(wr.alloc (.cells #[.string xn,.int .i64 xp] 59)).heap.size:=Nat.le_trans G1.out.size hb8.size
     have HRW:=zh hrw;have HO8:=zh (own_below HO.out hb8);have G8:=zh (G1.out.step hb8);have HUP:=zh (Ak HO.out);have HWZ:=zh hwz
     clear hb8 hrw hwz
     go_wp2_with
      (at_builtin;go_must (refine Ah JQ rfl _ _ rfl (w.heap.size+1) L.length (.slice va L.length vc) (L.flatMap Own.Dw) rfl HO8.out (.slice (some ⟨wr.heap.size,0,none⟩) 1 1) 1 (Own.Dw (⟨xn,xp⟩:Own.KeyUse)) rfl HRW.out (Own.zcN (⟨xn,xp⟩:Own.KeyUse)) (by omega) (by omega) HWZ.out ?_);intro v9 w9 ho9 hg9 hw9;obtain⟨ya,ym,yc,rfl⟩:=Ac ho9;have HO9:=zh (show w9.ownsRow (w.heap.size+1) 59 2 (.slice ya ym yc) (L++[(⟨xn,xp⟩:Own.KeyUse)]).length ((L++[(⟨xn,xp⟩:Own.KeyUse)]).flatMap Own.Dw) by rw[List.length_append,List.flatMap_append];simpa using ho9);have G9:=zh (G8.out.far (O:=w.heap.size+1) (Nat.le_refl _) HUP.out hg9);clear ho9 hg9 hw9)
     go_ret
     refine⟨_,rfl,?_,G9.out.under⟩
     rw[<- HR.out,<- HX.out]
     exact Cw HO9.out (by omega)
  have dk:decide ((k:Int)<l.length)=true:=zt
  obtain⟨b,o,ha,hbl,e0,e1⟩:=Own.Du.cells (HL.out.below G1.out.under) hlt
  subst ha
  have zd2:=zdR.out k L hlt;have hpl:=zdD.out k L hlt;have hdn:=zdS.out k L hlt
  obtain⟨y,hy⟩:∃ y,y=l[k]:=⟨_,rfl⟩
  simp only[<- hy,<- HXF.out] at zd2 hpl hdn
  simp only[<- hy] at e0 e1
  obtain⟨yn,yp⟩:=y
  dsimp only at e0 e1 zd2 hpl hdn
  have HY:=zh hy;have zee:=zh zd2;have HPL:=zh hpl;have HDN:=zh hdn
  clear zd2 hpl hdn hy
  cases d with
  | true =>
    obtain⟨hne,hnx⟩:=HDN.out HPA.out
    have hq:(yn.toList==xn.toList)=false:=by rw[bytes_beq];exact decide_eq_false hne
    have HNX:=zh hnx;clear hne hnx
    go_wp2_with fail
    refine Lex.zl ?_
    go_wp2_with fail
    refine Lex.ze ?_
    (try clear x00 x01)
    have G5:=zh G1.out.drew
    have HO5:=zh (Ae (w':=wr.drew) HO.out (fun k _=>by rw[Ez]))
    have hbd:Below wr.heap.size wr wr.drew:=(Below.refl _ _).drew
    replace e0:=(hbd.cell (p:=⟨b,o+k*2,none⟩) hbl).trans e0
    replace e1:=(hbd.cell (p:=⟨b,o+k*2+1,none⟩) hbl).trans e1
    replace hbl:b<wr.drew.heap.size:=by rw[Ez];exact hbl
    clear hbd
    generalize wr.drew=w5 at*
    obtain⟨x00,x01⟩:=G5.out.wH rfl
    go_wp2_with fail
    refine Lex.zl ?_
    go_wp2_with fail
    refine Lex.ze ?_
    (try clear x00 x01)
    have G6:=zh G5.out.drew
    have HO6:=zh (Ae (w':=w5.drew) HO5.out (fun k _=>by rw[Ez]))
    have hbd:Below w5.heap.size w5 w5.drew:=(Below.refl _ _).drew
    replace e0:=(hbd.cell (p:=⟨b,o+k*2,none⟩) hbl).trans e0
    replace e1:=(hbd.cell (p:=⟨b,o+k*2+1,none⟩) hbl).trans e1
    replace hbl:b<w5.drew.heap.size:=by rw[Ez];exact hbl
    clear hbd
    generalize w5.drew=w6 at*
    obtain⟨x00,x01⟩:=G6.out.wH rfl
    have hb8:Below w6.heap.size w6 (w6.alloc (.cells #[.string yn,.int .i64 yp] 59)):=zb
    have hrw:=Cx w6 59 #[.string yn,.int .i64 yp] 2 1 1 rfl
    have hwz:w.heap.size+1<=(w6.alloc (.cells #[.string yn,.int .i64 yp] 59)).heap.size:=Nat.le_trans G6.out.size hb8.size
    have HRW:=zh hrw;have HO8:=zh (own_below HO6.out hb8);have G8:=zh (G6.out.step hb8);have HUP:=zh (Ak HO6.out);have HWZ:=zh hwz
    clear hb8 hrw hwz
    go_wp2_with
     (at_builtin;go_must (refine Ah JQ rfl _ _ rfl (w.heap.size+1) L.length (.slice va L.length vc) (L.flatMap Own.Dw) rfl HO8.out (.slice (some ⟨w6.heap.size,0,none⟩) 1 1) 1 (Own.Dw (⟨yn,yp⟩:Own.KeyUse)) rfl HRW.out (Own.zcN (⟨yn,yp⟩:Own.KeyUse)) (by omega) (by omega) HWZ.out ?_);intro v9 w9 ho9 hg9 hw9;obtain⟨ya,ym,yc,rfl⟩:=Ac ho9;have HO9:=zh (show w9.ownsRow (w.heap.size+1) 59 2 (.slice ya ym yc) (L++[(⟨yn,yp⟩:Own.KeyUse)]).length ((L++[(⟨yn,yp⟩:Own.KeyUse)]).flatMap Own.Dw) by rw[List.length_append,List.flatMap_append];simpa using ho9);have G9:=zh (G8.out.far (O:=w.heap.size+1) (Nat.le_refl _) HUP.out hg9);clear ho9 hg9 hw9)
    exact⟨⟨k+1,true,_,_,by omega,by go_num,rfl,rfl,HNX.out,HO9.out,G9.out⟩,by simp[intOf];omega⟩
  | false =>
    cases hlb:Op.bytesLess yn.toList xn.toList with
    | true =>
      obtain⟨hne,hnx⟩:=zee.out HPA.out hlb
      have hq:(yn.toList==xn.toList)=false:=by rw[bytes_beq];exact decide_eq_false hne
      have HNX:=zh hnx;clear hne hnx
      go_wp2_with fail
      refine Lex.zl ?_
      go_wp2_with fail
      refine Lex.ze ?_
      (try clear x00 x01)
      have G5:=zh G1.out.drew
      have HO5:=zh (Ae (w':=wr.drew) HO.out (fun k _=>by rw[Ez]))
      have hbd:Below wr.heap.size wr wr.drew:=(Below.refl _ _).drew
      replace e0:=(hbd.cell (p:=⟨b,o+k*2,none⟩) hbl).trans e0
      replace e1:=(hbd.cell (p:=⟨b,o+k*2+1,none⟩) hbl).trans e1
      replace hbl:b<wr.drew.heap.size:=by rw[Ez];exact hbl
      clear hbd
      generalize wr.drew=w5 at*
      obtain⟨x00,x01⟩:=G5.out.wH rfl
      go_wp2_with fail
      refine Lex.zl ?_
      go_wp2_with fail
      refine Lex.ze ?_
      (try clear x00 x01)
      have G6:=zh G5.out.drew
      have HO6:=zh (Ae (w':=w5.drew) HO5.out (fun k _=>by rw[Ez]))
      have hbd:Below w5.heap.size w5 w5.drew:=(Below.refl _ _).drew
      replace e0:=(hbd.cell (p:=⟨b,o+k*2,none⟩) hbl).trans e0
      replace e1:=(hbd.cell (p:=⟨b,o+k*2+1,none⟩) hbl).trans e1
      replace hbl:b<w5.drew.heap.size:=by rw[Ez];exact hbl
      clear hbd
      generalize w5.drew=w6 at*
      obtain⟨x00,x01⟩:=G6.out.wH rfl
      have hb8:Below w6.heap.size w6 (w6.alloc (.cells #[.string yn,.int .i64 yp] 59)):=zb
      have hrw:=Cx w6 59 #[.string yn,.int .i64 yp] 2 1 1 rfl
      have hwz:w.heap.size+1<=(w6.alloc (.cells #[.string yn,.int .i64 yp] 59)).heap.size:=Nat.le_trans G6.out.size hb8.size
      have HRW:=zh hrw;have HO8:=zh (own_below HO6.out hb8);have G8:=zh (G6.out.step hb8);have HUP:=zh (Ak HO6.out);have HWZ:=zh hwz
      clear hb8 hrw hwz
      go_wp2_with
       (at_builtin;go_must (refine Ah JQ rfl _ _ rfl (w.heap.size+1) L.length (.slice va L.length vc) (L.flatMap Own.Dw) rfl HO8.out (.slice (some ⟨w6.heap.size,0,none⟩) 1 1) 1 (Own.Dw (⟨yn,yp⟩:Own.KeyUse)) rfl HRW.out (Own.zcN (⟨yn,yp⟩:Own.KeyUse)) (by omega) (by omega) HWZ.out ?_);intro v9 w9 ho9 hg9 hw9;obtain⟨ya,ym,yc,rfl⟩:=Ac ho9;have HO9:=zh (show w9.ownsRow (w.heap.size+1) 59 2 (.slice ya ym yc) (L++[(⟨yn,yp⟩:Own.KeyUse)]).length ((L++[(⟨yn,yp⟩:Own.KeyUse)]).flatMap Own.Dw) by rw[List.length_append,List.flatMap_append];simpa using ho9);have G9:=zh (G8.out.far (O:=w.heap.size+1) (Nat.le_refl _) HUP.out hg9);clear ho9 hg9 hw9)
      exact⟨⟨k+1,false,_,_,by omega,by go_num,rfl,rfl,HNX.out,HO9.out,G9.out⟩,by simp[intOf];omega⟩
    | false =>
      obtain⟨h1,h2⟩:=HPL.out HPA.out hlb
      rw[<- HX.out] at h1 h2
      have HH1:=zh h1;have HH2:=zh h2
      clear h1 h2
      go_wp2_with fail
      refine Lex.zl ?_
      go_wp2_with fail
      refine Lex.ze ?_
      (try clear x00 x01)
      have G5:=zh G1.out.drew
      have HO5:=zh (Ae (w':=wr.drew) HO.out (fun k _=>by rw[Ez]))
      have hbd:Below wr.heap.size wr wr.drew:=(Below.refl _ _).drew
      replace e0:=(hbd.cell (p:=⟨b,o+k*2,none⟩) hbl).trans e0
      replace e1:=(hbd.cell (p:=⟨b,o+k*2+1,none⟩) hbl).trans e1
      replace hbl:b<wr.drew.heap.size:=by rw[Ez];exact hbl
      clear hbd
      generalize wr.drew=w5 at*
      obtain⟨x00,x01⟩:=G5.out.wH rfl
      have hb8:Below w5.heap.size w5 (w5.alloc (.cells #[.string xn,.int .i64 xp] 59)):=zb
      have hrw:=Cx w5 59 #[.string xn,.int .i64 xp] 2 1 1 rfl
      have hwz:w.heap.size+1<=(w5.alloc (.cells #[.string xn,.int .i64 xp] 59)).heap.size:=Nat.le_trans G5.out.size hb8.size
      have HRW:=zh hrw;have HO8:=zh (own_below HO5.out hb8);have G8:=zh (G5.out.step hb8);have HUP:=zh (Ak HO5.out);have HWZ:=zh hwz
      clear hb8 hrw hwz
      have HG8:=G8
      go_upto_region 9 with
       (at_builtin;go_must (refine Ah JQ rfl _ _ rfl (w.heap.size+1) L.length (.slice va L.length vc) (L.flatMap Own.Dw) rfl HO8.out (.slice (some ⟨w5.heap.size,0,none⟩) 1 1) 1 (Own.Dw (⟨xn,xp⟩:Own.KeyUse)) rfl HRW.out (Own.zcN (⟨xn,xp⟩:Own.KeyUse)) (by omega) (by omega) HWZ.out ?_);intro v9 w9 ho9 hg9 hw9;obtain⟨ya,ym,yc,rfl⟩:=Ac ho9;have HO9:=zh (show w9.ownsRow (w.heap.size+1) 59 2 (.slice ya ym yc) (L++[(⟨xn,xp⟩:Own.KeyUse)]).length ((L++[(⟨xn,xp⟩:Own.KeyUse)]).flatMap Own.Dw) by rw[List.length_append,List.flatMap_append];simpa using ho9);have G9:=zh (G8.out.far (O:=w.heap.size+1) (Nat.le_refl _) HUP.out hg9);clear ho9 hg9 hw9)
      obtain⟨L2,hL2⟩:∃ L2,L2=L++[(⟨xn,xp⟩:Own.KeyUse)]:=⟨_,rfl⟩
      rw[<- hL2] at HO9 HH1 HH2
      have ze0:L2.length<=1000002:=by rw[hL2,List.length_append];show L.length+1<=_;omega
      have hyl:=Ba HO9.out
      subst hyl
      clear hL2
      obtain⟨b',o',ha,zb7,f0,f1⟩:=Own.Du.cells (HL.out.below G9.out.under) hlt
      cases ha
      clear e0 e1 hbl
      rename_i hbl
      have hbl:=zb7
      rw[<- HY.out] at f0 f1
      dsimp only at f0 f1
      (try clear x00 x01)
      obtain⟨x00,x01⟩:=G9.out.wH rfl
      have e0:=f0;have e1:=f1
      clear f0 f1 zb7
      by_cases hq:yn=xn
      ·have hqq:(yn.toList==xn.toList)=true:=by rw[bytes_beq];exact decide_eq_true hq
       have HNX:=zh (HH1.out hq);clear hq
       go_wp2_with fail
       refine Lex.zl ?_
       go_wp2_with fail
       refine Lex.ze ?_
       (try clear x00 x01)
       have G10:=zh G9.out.drew
       have zaU:=zh (Ae (w':=w9.drew) HO9.out (fun k _=>by rw[Ez]))
       have hbd:Below w9.heap.size w9 w9.drew:=(Below.refl _ _).drew
       replace e0:=(hbd.cell (p:=⟨b,o+k*2,none⟩) hbl).trans e0
       replace e1:=(hbd.cell (p:=⟨b,o+k*2+1,none⟩) hbl).trans e1
       replace hbl:b<w9.drew.heap.size:=by rw[Ez];exact hbl
       clear hbd
       generalize w9.drew=w10 at*
       obtain⟨x00,x01⟩:=G10.out.wH rfl
       go_wp2_with fail
       exact⟨⟨k+1,true,_,_,by omega,by go_num,rfl,rfl,HNX.out,zaU.out,G10.out⟩,by simp[intOf];omega⟩
      ·have hqq:(yn.toList==xn.toList)=false:=by rw[bytes_beq];exact decide_eq_false hq
       have HNX:=zh (HH2.out hq);clear hq
       go_wp2_with fail
       refine Lex.zl ?_
       go_wp2_with fail
       refine Lex.ze ?_
       (try clear x00 x01)
       have G10:=zh G9.out.drew
       have zaU:=zh (Ae (w':=w9.drew) HO9.out (fun k _=>by rw[Ez]))
       have hbd:Below w9.heap.size w9 w9.drew:=(Below.refl _ _).drew
       replace e0:=(hbd.cell (p:=⟨b,o+k*2,none⟩) hbl).trans e0
       replace e1:=(hbd.cell (p:=⟨b,o+k*2+1,none⟩) hbl).trans e1
       replace hbl:b<w9.drew.heap.size:=by rw[Ez];exact hbl
       clear hbd
       generalize w9.drew=w10 at*
       obtain⟨x00,x01⟩:=G10.out.wH rfl
       have hb8:Below w10.heap.size w10 (w10.alloc (.cells #[.string yn,.int .i64 yp] 59)):=zb
       have hrw:=Cx w10 59 #[.string yn,.int .i64 yp] 2 1 1 rfl
       have hwz:w.heap.size+1<=(w10.alloc (.cells #[.string yn,.int .i64 yp] 59)).heap.size:=Nat.le_trans G10.out.size hb8.size
       have HRW:=zh hrw;have HO8:=zh (own_below zaU.out hb8);have G8:=zh (G10.out.step hb8);have HUP:=zh (Ak zaU.out);have HWZ:=zh hwz
       clear hb8 hrw hwz
       go_wp2_with
        (at_builtin;go_must (refine Ah JQ rfl _ _ rfl (w.heap.size+1) L2.length (.slice ya L2.length yc) (L2.flatMap Own.Dw) rfl HO8.out (.slice (some ⟨w10.heap.size,0,none⟩) 1 1) 1 (Own.Dw (⟨yn,yp⟩:Own.KeyUse)) rfl HRW.out (Own.zcN (⟨yn,yp⟩:Own.KeyUse)) (by omega) (by omega) HWZ.out ?_);intro v11 w11 ho9 hg9 hw9;obtain⟨za,zm,zc,rfl⟩:=Ac ho9;have yG:=zh (show w11.ownsRow (w.heap.size+1) 59 2 (.slice za zm zc) (L2++[(⟨yn,yp⟩:Own.KeyUse)]).length ((L2++[(⟨yn,yp⟩:Own.KeyUse)]).flatMap Own.Dw) by rw[List.length_append,List.flatMap_append];simpa using ho9);have G11:=zh (G8.out.far (O:=w.heap.size+1) (Nat.le_refl _) HUP.out hg9);clear ho9 hg9 hw9)
       exact⟨⟨k+1,true,_,_,by omega,by go_num,rfl,rfl,HNX.out,yG.out,G11.out⟩,by simp[intOf];omega⟩
end
end Go.Proofs.YtjlmglgmcekmhaaGreatDoor
