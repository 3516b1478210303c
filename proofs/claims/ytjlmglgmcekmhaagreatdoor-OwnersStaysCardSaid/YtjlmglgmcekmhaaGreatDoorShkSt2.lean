/- Slices of strings as they are read. -/
import Derived.Test.YtjlmglgmcekmhaaGreatDoorProg
import Derived.WalkKit
import Derived.WalkSpells
import Derived.WalkLawsBesides
import Derived.Deep.Draws
import Derived.Deep.AppendLies
import Derived.Maps.AppendAt
import Derived.Lib.Hide
import Derived.Maps.OwnSet
import Derived.Lib.Bytes
import Derived.Laws.BytesArg
import Derived.Lib.SlBytesRow
import Derived.Test.YtjlmglgmcekmhaaGreatDoorChecked
import Derived.BigQuiet
import Derived.Deep.QuietTactic
import Derived.KernelRfl
import Derived.NoCompiler
import Derived.StillTail
import Derived.Deep.DeepCutAuto
import Derived.Lib.EndianBits
import Derived.Laws.ResultCell
import Derived.Deep.MidRow
import Derived.Deep.RegionHeld3
import Derived.Deep.DrawnRows
import Derived.Deep.Cut
import Derived.StillTailTactics
import Derived.Deep.RegionLaw
import Derived.Shelf.Strings.Builder1
import Derived.Shelf.Strings.Builder2
import Derived.Shelf.Strings.OnBuilder
import Derived.Shelf.Small.Utf8
import Derived.Shelf.Small.Bits
import Derived.Shelf.Small.Strs
import Derived.Shelf.Strings.BuilderF
import Derived.Shelf.Strings.BuilderK
import Derived.Shelf.Utf8.RuneCount
import Derived.Shelf.Strings.Builder2Cap
import Derived.Shelf.Strconv.Itoa0
import Derived.Shelf.LaysM
import Derived.Shelf.Strconv.Clone
import Derived.Shelf.Strings.Search1
import Derived.Shelf.Strings.Search2
import Derived.Shelf.Strings.Search3
import Derived.Shelf.Strings.Count
import Derived.Shelf.Strings.Shaped
import Derived.Shelf.Strings.Prefix
import Derived.Shelf.Strings.Split
import Derived.Shelf.Strings.SplitShaped
import Derived.Shelf.Unicode.Decode
import Derived.Shelf.Strings.Runes
import Derived.Shelf.Strings.RuneCount
import Derived.Shelf.Strings.Explode
import Derived.Shelf.Bits.Mul64
import Derived.Shelf.Strings.Repeat
import Derived.Shelf.Unicode.DecodeSlow
import Derived.Shelf.Unicode.DecodeAny
import Derived.Shelf.Strings.BuilderCap
import Derived.Shelf.Slices.Turned
import Derived.Ground.SlgnProg
import Derived.Shelf.SlicesE.Index
import Derived.Shelf.SlicesE.Clone
import Derived.Ground.SlgfProg
import Derived.Shelf.SlicesE.IndexFunc
import Derived.Shelf.SlicesQ.IndexFunc
import Derived.OwnWalk
import Derived.Laws.BitsLemmas
import Derived.Laws.AppendOwn
import Derived.Deep.AppendSrc
import Derived.Lib.ConvBytes
import Derived.Lib.Split
import Derived.Lib.SplitLaws
import Derived.Laws.EntriesVeiled
import Derived.Maps.RangeWalk
import Derived.StringKeys
import Derived.Lib.OthersKept
import Derived.Deep.LoopGhost
import Derived.OrdersIn
import Derived.RangeFuncCalls
import Derived.TacticsIn
import Derived.RangeFuncNested
import Derived.RangeFuncBound
import Derived.RangeFuncLeaves
import Derived.OwnWalkIn
import Derived.TacticsInMore
import Derived.LoopNIn
import Derived.LoopIn
import Derived.Lib.Builder
import Derived.Lib.FrozenHead
import Derived.Lib.AppendStr
import Derived.Lib.Overlaps
import Derived.Laws.Externs
import Derived.Lib.AppendZeros
import Derived.Laws.IdiomCopy
import Derived.Laws.CopyRow
import Derived.Lib.SliceRun
import Derived.SliceStrings
import Derived.HandedShaped
import Derived.Deep.Strs
import Derived.Deep.SlicePairs
import Derived.ChangeMaps5
import Derived.Test.YtjlmglgmcekmhaaGreatDoorShkB1
import Derived.Test.YtjlmglgmcekmhaaGreatDoorShkB2
import Derived.Test.YtjlmglgmcekmhaaGreatDoorShkB3
import Derived.Test.YtjlmglgmcekmhaaGreatDoorShkB4
import Derived.Test.YtjlmglgmcekmhaaGreatDoorShkB5
import Derived.Test.YtjlmglgmcekmhaaGreatDoorShkB6
import Derived.Test.YtjlmglgmcekmhaaGreatDoorShkB7
import Derived.Test.YtjlmglgmcekmhaaGreatDoorShkB8
import Derived.Test.YtjlmglgmcekmhaaGreatDoorShkB9
import Derived.Test.YtjlmglgmcekmhaaGreatDoorShkB10
import Derived.Test.YtjlmglgmcekmhaaGreatDoorShkB11
import Derived.Test.YtjlmglgmcekmhaaGreatDoorShkB12
import Derived.Test.YtjlmglgmcekmhaaGreatDoorShkB13
import Derived.Test.YtjlmglgmcekmhaaGreatDoorShkSt1
set_option linter.unusedVariables false
set_option linter.unusedSimpArgs false
set_option maxRecDepth 100000
set_option maxHeartbeats 8000000
namespace Go.Proofs.YtjlmglgmcekmhaaGreatDoor
section
open Go Go.RowKit Go.Maps
theorem zeE {w:World}{ops:Array Oper}{rest:List Oper}{o:Oper}{a:Act}{Q:Exit->Act->World->Prop}(hgd:o.guard=none)(s x:Operand)(ho:o.op=.call { callee:=.builtin .append,args:=#[s,x],argTypes:=#[68,68] })
 (base n:Nat) (v:Value) (xs:List Value) (hs:a.eval s=v) (hown:w.ownsRow base 9 1 v n xs) (y:Value) (ys:List ByteArray) (hx:a.eval x=y) (hy:Am w y ys) (hn:n+ys.length<=4000000) (hb:base<=w.heap.size)
 (h:∀ v' w',w'.ownsRow base 9 1 v' (n+ys.length) (xs++ys.map Value.string)->w.grownBy w' v.ownBlock->wpList Tryz.prog ops Q rest (a.put o.dst v') w'):wpList Tryz.prog ops Q (o::rest) a w:=by
 obtain⟨i1,hi,hz0,hz1,hz2⟩:=info_parts Zg
 obtain⟨ya,yc,rfl,hc⟩:=hy
 cases ya with
 | none =>
   have h0:ys.length=0:=by
    rcases hc with h0|⟨b,o,e,_⟩
    ·exact h0
    ·cases e
   have hys:ys=[]:=List.eq_nil_of_length_eq_zero h0
   subst hys
   refine wpList_plain hgd fun K hK=>?_
   have hrun:=QV (P:=Tryz.prog) (w:=w) base 68 o.type 9 i1 1 Tryz.underlying68 hi v n yc xs hown
   unfold Oper.wp
   have hx' : a.eval x=.slice none 0 yc:=hx
   simp[execOp,ho,resolve,invoke,builtin,hs,hx',hrun,Result.andThen]
   exact hK _ _ (h v w (by simpa using hown) ⟨rfl,rfl,rfl,Nat.le_refl _,fun _ _ _=>rfl⟩)
 | some p =>
   refine wpList_append_own w hgd s x 68 ho base 9 i1 (.string ⟨#[]⟩) 1 16 Tryz.underlying68 hi hz0 hz1 hz2 rfl (by omega) v n xs hs hown p ys.length yc (ys.map Value.string) hx (by simp) (fun j u hj=>?_) (fun u hu=>by obtain⟨z,_,rfl⟩:=List.mem_map.1 hu;rfl) (by unfold maxLen;omega) (by omega) hb (fun v' w' h1 h2 _=>h v' w' h1 h2)
   have hjl:j<ys.length:=by
    have:=(List.getElem?_eq_some_iff.1 hj).1
    simpa using this
   rcases hc with h0|⟨b,o',e,hcell⟩
   ·omega
   ·cases e
    have hadd:(⟨b,o',none⟩:Addr).add j=⟨b,o' + j,none⟩:=by unfold Addr.add;split<;>simp_all
    rw[hadd,hcell j hjl]
    simp[List.getElem?_map,hjl] at hj
    rw[<- hj]
    simp[List.getD_eq_getElem?_getD,hjl]
def zeK (xs:List ByteArray):Nat:=(xs.map ByteArray.size).sum
def zfm (xs:List ByteArray):Bool:=decide (xs.length<=70)&&decide (zeK xs<=20000)
theorem zfb (xs:List ByteArray)(k:Nat)(h:k<xs.length):zeK (xs.take (k+1))=zeK (xs.take k)+xs[k].size:=by
 unfold zeK
 rw[List.take_succ_eq_append_getElem h,List.map_append,List.sum_append]
 simp
theorem zeZ (v:Value)(xs:List ByteArray)(w:World)(h:Am w v xs)(hx:∀ x∈xs,x.size<=140737488355328)(hl:xs.length<=60000):
 Calls Tryz.prog 147 #[v] w fun e w' => e=.returned (.bool (zfm xs))/\w' = w:=by
 obtain⟨a,c,rfl⟩:=h.len
 have htk:∀ k,k<=xs.length->zeK (xs.take k)<=k*140737488355328:=by
  intro k
  induction k with
  | zero=>intro _;simp[zeK]
  | succ k ih =>
    intro hk
    rw[zfb xs k (by omega)]
    have h1:=ih (by omega)
    have h2:=hx _ (List.getElem_mem (show k<xs.length by omega))
    omega
 obtain⟨R,hR⟩:∃ R,R=zfm xs:=⟨_,rfl⟩
 rw[<- hR]
 unfold zfm at hR
 have HR:=zh hR;have HV:=zh h;have HTK:=zh htk;have HX:=zh hx;clear hR h htk hx
 go_enter Tryz.func147,Tryz.ntmps147
 go_wp2_with fail
 go_loopw [3,4] (fun n i wr=>∃ k:Nat,k<=xs.length/\i=.int .i64 k/\n=.int .i64 ((zeK (xs.take k):Nat):Int)/\wr=w) (fun _ i _=>xs.length-(intOf i).toNat)
 case atStart=>exact⟨0,by omega,rfl,rfl,rfl⟩
 case round=>
  obtain⟨k,hk,rfl,rfl,rfl⟩:=hrel
  have hT:=HTK.out k hk
  have hT2:zeK (xs.take k)<=9223372036854775000:=by omega
  by_cases hlt:k<xs.length
  ·have dk:decide ((k:Int)<xs.length)=true:=by simp;omega
   obtain⟨b,o,rfl⟩:=HV.out.addrOf hlt
   have ce:=HV.out.cellAt hlt
   obtain⟨s,hs⟩:∃ s,s=xs.getD k ⟨#[]⟩:=⟨_,rfl⟩
   rw[<- hs] at ce
   have hsx:s=xs[k]:=by rw[hs];simp[List.getD_eq_getElem?_getD,hlt]
   have hstep:zeK (xs.take (k+1))=zeK (xs.take k)+s.size:=by rw[zfb xs k hlt,hsx]
   have hss:s.size<=140737488355328:=HX.out s (by rw[hsx];exact List.getElem_mem hlt)
   have hn1:=HTK.out (k+1) hlt
   rw[hstep] at hn1
   generalize zeK (xs.take k)=T at*
   have HST:=zh hstep;clear hstep hs hsx
   go_wp2_with fail
   exact⟨⟨k+1,by omega,by go_num,by rw[HST.out];go_num,by first|rfl|trivial⟩,by simp[intOf];omega⟩
  ·have dk:decide ((k:Int)<xs.length)=false:=by simp;omega
   have hall:zeK (xs.take k)=zeK xs:=by rw[List.take_of_length_le (by omega)]
   rw[hall] at hT2 ⊢
   clear hall hT
   by_cases h1:xs.length<=70
   ·have e1:decide ((xs.length:Int)<=70)=true:=by simp;omega
    by_cases h2:zeK xs<=20000
    ·have e2:decide (((zeK xs:Nat):Int)<=20000)=true:=by simp;omega
     have hf:R=true:=by rw[HR.out,decide_eq_true h1,decide_eq_true h2]<;>rfl
     have HF:=zh hf;clear hf
     go_wp2_with fail
     go_ret
     exact⟨by rw[HF.out]<;>rfl,rfl⟩
    ·have e2:decide (((zeK xs:Nat):Int)<=20000)=false:=by simp;omega
     have hf:R=false:=by rw[HR.out,decide_eq_false h2];simp
     have HF:=zh hf;clear hf
     go_wp2_with fail
     go_ret
     exact⟨by rw[HF.out]<;>rfl,rfl⟩
   ·have e1:decide ((xs.length:Int)<=70)=false:=by simp;omega
    have hf:R=false:=by rw[HR.out,decide_eq_false h1];simp
    have HF:=zh hf;clear hf
    go_wp2_with fail
    go_ret
    exact⟨by rw[HF.out]<;>rfl,rfl⟩
section
variable {P:Program} {fn:Func} {tmps:Array Value} {w:World} {Q:Ending->World->Prop}
end
theorem zeF {P:Program}{ops:Array Oper}{Q:Exit->Act->World->Prop}{a:Act}{w:World}{rest:List Oper}{o:Oper}(hw:Region.wanted o (yielded ops a.tmps)=true)
 (h:wpList P ops Q ({ o with guard:=none } :: rest) a w):wpList P ops Q (o::rest) a w:=by
 unfold wpList at h ⊢
 rw[if_pos hw]
 rw[if_pos (by simp[Region.wanted])] at h
 exact h
end
section
open Go
namespace Own
def zeN:Bool->List UInt8->Bool
 | f,[] => !f
 | f,c::l=>if c=47 then !f&&zeN true l else zeN false l
theorem zfn (l:List UInt8):(jE l=zeN true l)/\(Nam.cuts l).tail.all (fun p => !p.isEmpty)=zeN false l:=by
 induction l with
 | nil=>exact⟨rfl,rfl⟩
 | cons c l ih =>
   by_cases h:c=47
   ·subst h
    have e:Nam.cuts (47::l)=[]::Nam.cuts l:=by simp[Nam.cuts]
    constructor
    ·unfold jE zeN
     rw[e]
     simp
    ·rw[e,List.tail_cons]
     unfold zeN
     rw[if_pos rfl]
     show jE l=_
     rw[ih.1]
     rfl
   ·have e:Nam.cuts (c::l)=(c::(Nam.cuts l).headD [])::(Nam.cuts l).tail:=by rw[Nam.cuts,if_neg h]
    constructor
    ·unfold jE zeN
     rw[e,if_neg h,List.all_cons]
     simpa using ih.2
    ·rw[e,List.tail_cons]
     unfold zeN
     rw[if_neg h]
     exact ih.2
end Own
end
section
open Go Go.RowKit Go.Maps
namespace Own
def zfo (L:List UInt8)(i:Nat):Prop:=L[i]? = some 47/\(i=0\/∀ c,L[i+1]? = some c->c=47)
theorem zeT:∀ (L:List UInt8) (f:Bool),zeN f L=true↔((f=true->L≠[]/\L[0]? ≠ some 47)/\∀ i:Nat,L[i]? = some 47->∃ c:UInt8,L[i+1]? = some c/\c≠47)
 | [],f => by
   have h:∀ i:Nat,([]:List UInt8)[i]? = some 47->∃ c:UInt8,([]:List UInt8)[i+1]? = some c/\c≠47:=fun i hi=>by simp at hi
   cases f with
   | false=>exact⟨fun _=>⟨fun e=>(by cases e),h⟩,fun _=>rfl⟩
   | true=>exact⟨fun e=>(by cases e),fun e=>absurd rfl (e.1 rfl).1⟩
 | c :: l,f => by
   unfold zeN
   by_cases h:c=47
   ·subst h
    rw[if_pos rfl,Bool.and_eq_true,zeT l true]
    constructor
    ·rintro⟨h1,h2,h3⟩
     refine⟨fun hf=>(by rw[hf] at h1;cases h1),fun i hi=>?_⟩
     cases i with
     | zero =>
       obtain⟨h4,h5⟩:=h2 rfl
       cases l with
       | nil=>exact absurd rfl h4
       | cons d l=>exact⟨d,rfl,fun e=>h5 (by rw[e]<;>rfl)⟩
     | succ i=>exact h3 i hi
    ·rintro⟨h1,h2⟩
     refine⟨?_,fun _=>?_,fun i hi=>h2 (i+1) hi⟩
     ·cases f with
      | false=>rfl
      | true=>exact absurd rfl (h1 rfl).2
     ·obtain⟨d,h4,h5⟩:=h2 0 rfl
      have h4:l[0]? = some d:=h4
      refine⟨fun e=>(by rw[e] at h4;cases h4),fun e=>h5 ?_⟩
      rw[e] at h4
      exact(Option.some.inj h4).symm
   ·rw[if_neg h,zeT l false]
    constructor
    ·rintro⟨_,h3⟩
     refine⟨fun _=>⟨by simp,fun e=>h (Option.some.inj e)⟩,fun i hi=>?_⟩
     cases i with
     | zero=>exact absurd (Option.some.inj hi) h
     | succ i=>exact h3 i hi
    ·rintro⟨_,h2⟩
     exact⟨fun e=>(by cases e),fun i hi=>h2 (i+1) hi⟩
theorem zfc (L:List UInt8)(h:L≠[]):jE L=true↔∀ i,¬ zfo L i:=by
 rw[(zfn L).1,zeT]
 constructor
 ·rintro⟨h1,h2⟩ i ⟨h3,h4⟩
  rcases h4 with rfl|h4
  ·exact(h1 rfl).2 h3
  ·obtain⟨c,h5,h6⟩:=h2 i h3
   exact h6 (h4 c h5)
 ·intro hb
  refine⟨fun _=>⟨h,fun e=>hb 0 ⟨e,.inl rfl⟩⟩,fun i hi=>?_⟩
  cases hn:L[i+1]? with
  | none=>exact absurd ⟨hi,.inr (fun c hc=>by rw[hn] at hc;cases hc)⟩ (hb i)
  | some c=>exact⟨c,rfl,fun e=>hb i ⟨hi,.inr (fun d hd=>by rw[hn] at hd;rw[<- Option.some.inj hd];exact e)⟩⟩
end Own
theorem zge {s:ByteArray}{k:Nat}(h:k<s.size):s.data.toList[k]? = some s[k]:=by
 rw[Array.getElem?_toList]
 exact Array.getElem?_eq_getElem h
theorem zfd {s:ByteArray}{k:Nat}(h:s.size<=k):s.data.toList[k]? = none:=by
 rw[Array.getElem?_toList]
 exact Array.getElem?_eq_none h
theorem zfW {c:UInt8}(n:Nat)(hn:n<256)(h:(c.toNat:Int)=n):c=n.toUInt8:=by
 apply UInt8.toNat_inj.1
 rw[show(n.toUInt8).toNat=n from by simp[Nat.mod_eq_of_lt hn]]
 omega
theorem zfp (s:ByteArray)(w:World)(hs:s.size<=9223372036854775000):Calls Tryz.prog 33 #[.string s] w fun e w' => e=.returned (.bool (Own.BL s))/\w' = w:=by
 obtain⟨R,hR⟩:∃ R,R=Own.BL s:=⟨_,rfl⟩
 rw[<- hR]
 have HR:=zh hR;clear hR
 go_enter Tryz.func33,Tryz.ntmps33
 go_wp2_with fail
 go_loopw [3] (fun i wr=>∃ k:Nat,k<=s.size/\i=.int .i64 k/\(∀ j,j<k->¬ Own.zfo s.data.toList j)/\wr=w) (fun i _=>s.size-(intOf i).toNat)
 case atStart=>exact⟨0,by omega,rfl,(fun j hj=>absurd hj (by omega)),rfl⟩
 case round=>
  obtain⟨k,hk,rfl,hgo,rfl⟩:=hrel
  by_cases hlt:k<s.size
  case neg=>
   have dk:decide ((k:Int)<(s.size:Int))=false:=zf
   have e:R=(decide (1<=(s.size:Int))&&decide ((s.size:Int)<=64)):=by
    rw[HR.out]
    unfold Own.BL
    by_cases h0:s.data.toList=[]
    ·have : s.size = 0 :=by
      have:=congrArg List.length h0
      rw[Array.length_toList] at this
      exact this
     rw[this];rfl
    ·have : Own.jE s.data.toList = true :=(Own.zfc _ h0).2 fun i hi => by
      by_cases hik:i<k
      ·exact hgo i hik hi
      ·have:=hi.1
       rw[zfd (by omega)] at this
       cases this
     rw[this,Bool.and_true,show decide (1<=s.size)=decide (1<=(s.size:Int)) from decide_eq_decide.2 (by omega),show decide (s.size<=64)=decide ((s.size:Int)<=64) from decide_eq_decide.2 (by omega)]
   have HE:=zh e;clear e hgo
   by_cases h1:1<=(s.size:Int)
   ·have d1:decide (1<=(s.size:Int))=true:=decide_eq_true h1
    go_wp2_with fail
    go_ret
    exact⟨by rw[HE.out,d1]<;>rfl,rfl⟩
   ·have d1:decide (1<=(s.size:Int))=false:=decide_eq_false h1
    go_wp2_with fail
    go_ret
    exact⟨by rw[HE.out,d1]<;>rfl,rfl⟩
  have dk:decide ((k:Int)<(s.size:Int))=true:=zt
  have hbad:Own.zfo s.data.toList k->R=false:=fun hb=>by
   rw[HR.out]
   unfold Own.BL
   have:Own.jE s.data.toList=false:=by
    cases hp:Own.jE s.data.toList with
    | false=>rfl
    | true=>exact absurd hb ((Own.zfc _ (fun e=>by have:=hb.1;rw[e] at this;cases this)).1 hp k)
   rw[this,Bool.and_false]
  have hnx:¬ Own.zfo s.data.toList k->∀ j,j<k+1->¬ Own.zfo s.data.toList j:=fun h j hj=>by
   rcases(by omega:j<k\/j=k) with h1|rfl
   ·exact hgo j h1
   ·exact h
  have h0:s.data.toList[k]? = some s[k]:=zge hlt
  have HBAD:=zh hbad;have HNX:=zh hnx;have H0:=zh h0
  clear hbad hnx hgo h0
  by_cases h47:(s[k].toNat:Int)=47
  case neg=>
   have d47:((s[k].toNat:Int)==47)=false:=beq_eq_false_iff_ne.2 h47
   have hn:=HNX.out (by intro hb;have:=hb.1;rw[H0.out] at this;exact h47 (by rw[Option.some.inj this]<;>rfl))
   have HN:=zh hn;clear hn
   go_wp2_with fail
   exact⟨⟨k+1,by omega,by go_num,HN.out,(by first|rfl|trivial)⟩,by simp[intOf];omega⟩
  have d47:((s[k].toNat:Int)==47)=true:=beq_iff_eq.2 h47
  have hc:s[k]=47:=zfW 47 (by omega) h47
  have HC:=zh hc;clear hc
  by_cases hk0:k=0
  ·have dk0:((k:Int)==0)=true:=beq_iff_eq.2 (by omega)
   have HK0:=zh hk0;clear hk0
   have e:R=false:=HBAD.out (by exact⟨by rw[H0.out,HC.out],.inl HK0.out⟩)
   have HE:=zh e;clear e
   go_wp2_with fail
   go_ret
   exact⟨by rw[HE.out]<;>rfl,rfl⟩
  have dk0:((k:Int)==0)=false:=beq_eq_false_iff_ne.2 (by omega)
  by_cases hkl:(k:Int)=(s.size:Int)-1
  ·have dkl:((k:Int)==(s.size:Int)-1)=true:=beq_iff_eq.2 hkl
   have HKL:=zh hkl;clear hkl
   have e:R=false:=HBAD.out (by exact⟨by rw[H0.out,HC.out],.inr (fun c hc=>by have:=HKL.out;rw[zfd (by omega)] at hc;cases hc)⟩)
   have HE:=zh e;clear e
   go_wp2_with fail
   go_ret
   exact⟨by rw[HE.out]<;>rfl,rfl⟩
  have dkl:((k:Int)==(s.size:Int)-1)=false:=beq_eq_false_iff_ne.2 hkl
  have hk1:k+1<s.size:=by omega
  have h1:s.data.toList[k+1]? = some s[k+1]:=zge hk1
  have H1:=zh h1;clear h1
  by_cases h48:(s[k+1].toNat:Int)=47
  ·have d48:((s[k+1].toNat:Int)==47)=true:=beq_iff_eq.2 h48
   have e:R=false:=HBAD.out (by exact⟨by rw[H0.out,HC.out],.inr (fun c hc=>by rw[H1.out] at hc;rw[<- Option.some.inj hc];exact zfW 47 (by omega) h48)⟩)
   have HE:=zh e;clear e
   go_wp2_with fail
   go_ret
   exact⟨by rw[HE.out]<;>rfl,rfl⟩
  ·have d48:((s[k+1].toNat:Int)==47)=false:=beq_eq_false_iff_ne.2 h48
   have hn:=HNX.out (by intro hb;exact hb.2.elim hk0 (fun h=>h48 (by rw[h _ H1.out]<;>rfl)))
   have HN:=zh hn;clear hn
   go_wp2_with fail
   exact⟨⟨k+1,by omega,by go_num,HN.out,(by first|rfl|trivial)⟩,by simp[intOf];omega⟩
theorem ze9 (p:ByteArray)(w:World):Calls Tryz.prog 75 #[.string p] w fun e w' => e=.returned (.bool (Sig.Bq p))/\w' = w:=by
 obtain⟨R,hR⟩:∃ R,R=Sig.Bq p:=⟨_,rfl⟩
 rw[<- hR]
 unfold Sig.Bq at hR
 have HR:=zh hR;clear hR
 go_enter Tryz.func75,Tryz.ntmps75
 by_cases h33:p.size=33
 case neg=>
  have d1:((p.size:Int)==33)=false:=by rw[beq_eq_false_iff_ne];omega
  have hx:R=false:=by rw[HR.out,decide_eq_false h33]<;>rfl
  have HX:=zh hx;clear hx
  go_wp2_with fail
  go_ret
  exact⟨by rw[HX.out]<;>rfl,rfl⟩
 have d1:((p.size:Int)==33)=true:=by rw[beq_iff_eq];omega
 have h32:32<p.size:=by omega
 have hg:p.get! 32=p[32]:=getElem!_pos p.data 32 h32
 have hxl:p[32].toNat<256:=p[32].toNat_lt
 have hx:R=decide ((p[32].toNat:Int)<=6):=by
  rw[HR.out,decide_eq_true h33,hg,Bool.true_and,decide_eq_decide]
  omega
 have HX:=zh hx;clear hx
 go_wp2_with fail
 go_ret
 exact⟨by rw[HX.out]<;>rfl,rfl⟩
theorem zfe {α : Type}{l:List α}{p : α -> Bool}{j:Nat}(h:j<l.length)(h1:(l.take j).any p=false)(h2:p l[j]=false):(l.take (j+1)).any p=false:=by
 rw[List.take_succ_eq_append_getElem h,List.any_append,h1]
 simp[h2]
theorem zeL (v:Value)(l:List Own.Member)(w:World)(h:Own.Ag w v l)(hl:l.length<=140737488355328):
 Calls Tryz.prog 113 #[v] w fun e w' => e=.returned (.bool (Own.Cw l))/\Below w.heap.size w w':=by
 obtain⟨R,hR⟩:∃ R,R=Own.Cw l:=⟨_,rfl⟩
 rw[<- hR]
 unfold Own.Cw at hR
 obtain⟨a,c,rfl⟩:=h.len
 have HR:=zh hR;have HL:=zh h;clear hR h
 go_enter Tryz.func113,Tryz.ntmps113
 go_wp2_with fail
 go_loopw [3] (fun i wr=>∃ k:Nat,k<=l.length/\i=.int .i64 k/\Own.Aq [] (l.take k)=true/\Below w.heap.size w wr) (fun i _=>l.length-(intOf i).toNat)
 case atStart=>exact⟨0,by omega,rfl,rfl,Below.refl _ _⟩
 case round=>
  obtain⟨k,hk,rfl,hok,hb⟩:=hrel
  have HB:=zh hb
  by_cases hlt:k<l.length
  case neg=>
   have hke:k=l.length:=by omega
   have dk:decide ((k:Int)<l.length)=false:=zf
   have e:R=(decide (1<=(l.length:Int))&&decide ((l.length:Int)<=8)):=by
    rw[hke,List.take_length] at hok
    rw[HR.out,hok,Bool.and_true,show decide (1<=l.length)=decide (1<=(l.length:Int)) from decide_eq_decide.2 (by omega),show decide (l.length<=8)=decide ((l.length:Int)<=8) from decide_eq_decide.2 (by omega)]
   have HE:=zh e;clear e hok hb hke
   by_cases h1:1<=(l.length:Int)
   ·have d1:decide (1<=(l.length:Int))=true:=decide_eq_true h1
    have d1' : decide (1<=l.length)=true:=zt
    go_wp2_with fail
    go_ret
    exact⟨by rw[HE.out,d1]<;>rfl,HB.out⟩
   ·have d1:decide (1<=(l.length:Int))=false:=decide_eq_false h1
    have d1' : decide (1<=l.length)=false:=zf
    go_wp2_with fail
    go_ret
    exact⟨by rw[HE.out,d1]<;>rfl,HB.out⟩
  have dk:decide ((k:Int)<l.length)=true:=zt
  have hra:R=false\/(Own.Di (l.take k) l[k]=true):=by
   cases hm:Own.Di (l.take k) l[k] with
   | true=>exact .inr rfl
   | false=>refine .inl ?_;rw[HR.out,Own.TG l k hlt,hok,hm];simp
  have hra:Own.Di (l.take k) l[k]=false->R=false:=fun hm=>by
   rcases hra with h|h
   ·exact h
   ·rw[hm] at h;cases h
  have htk:Own.Aq [] (l.take (k+1))=Own.Di (l.take k) l[k]:=by rw[Own.PI l k hlt,hok,Bool.true_and]
  have hmo:Own.Di (l.take k) l[k]=(Own.Fp l[k].name&&Sig.Bq l[k].pub && !((l.take k).any fun x=>decide (x.pub=l[k].pub))&&(match (l.take k).getLast? with|none=>true|some x=>Own.Ak x.name l[k].name)):=rfl
  have hlk:=HL.out.below hb
  obtain⟨b,o,ha,hbl,c0,c1⟩:=Own.Ag.cells hlk hlt
  have KI:∀ j,k=j+1->∃ x:Own.Member,wr.cell? ⟨b,o+j*2,none⟩=some (.string x.name)/\(l.take k).getLast? = some x:=by
   intro j hj
   obtain⟨b',o',ha',_,e0,_⟩:=Own.Ag.cells hlk (i:=j) (by omega)
   rw[ha] at ha'
   cases ha'
   have hg:=Own.getLast_take l j (by omega)
   rw[<- hj] at hg
   exact⟨_,e0,hg⟩
  subst ha
  obtain⟨nm,hnm⟩:∃ x,x=l[k].name:=⟨_,rfl⟩
  obtain⟨pb,hpb⟩:∃ x,x=l[k].pub:=⟨_,rfl⟩
  rw[<- hnm,<- hpb] at hmo
  rw[<- hnm] at c0
  rw[<- hpb] at c1
  rw[hmo] at hra htk
  have HPB:=zh hpb.symm
  have HRA:=zh hra;have HTK:=zh htk;have TI:=zh KI
  clear hra htk hmo KI hnm hpb hok hlk hb hbl
  by_cases h1:(nm.size:Int)<1
  ·have d1:decide ((nm.size:Int)<1)=true:=decide_eq_true h1
   have d1' : decide (nm.size<1)=true:=zt
   have hn:Own.Fp nm=false:=by unfold Own.Fp;rw[zf];rfl
   have e:R=false:=HRA.out (by rw[hn]<;>rfl)
   have HE:=zh e;clear e hn
   go_wp2_with fail
   refine Lex.zl ?_
   go_wp2_with fail
   refine Lex.ze ?_
   go_wp2_with fail
   go_ret
   exact⟨by rw[HE.out]<;>rfl,(HB.out).drew⟩
  have d1:decide ((nm.size:Int)<1)=false:=decide_eq_false h1
  have d1' : decide (nm.size<1)=false:=zf
  by_cases h2:32<(nm.size:Int)
  ·have d2:decide (32<(nm.size:Int))=true:=decide_eq_true h2
   have d2' : decide (32<nm.size)=true:=zt
   have hn:Own.Fp nm=false:=by unfold Own.Fp;rw[decide_eq_false (show ¬ nm.size<=32 by omega),Bool.and_false]
   have e:R=false:=HRA.out (by rw[hn]<;>rfl)
   have HE:=zh e;clear e hn
   go_wp2_with fail
   refine Lex.zl ?_
   go_wp2_with fail
   refine Lex.ze ?_
   go_wp2_with fail
   go_ret
   exact⟨by rw[HE.out]<;>rfl,(HB.out).drew⟩
  have d2:decide (32<(nm.size:Int))=false:=decide_eq_false h2
  have d2' : decide (32<nm.size)=false:=zf
  have hn:Own.Fp nm=true:=by unfold Own.Fp;rw[decide_eq_true (show 1<=nm.size by omega),decide_eq_true (show nm.size<=32 by omega)];rfl
  have hra:=HRA.out;have htk:=HTK.out
  rw[hn,Bool.true_and] at hra htk
  clear HRA HTK hn
  cases hp:Sig.Bq pb with
  | false =>
    have e:R=false:=hra (by rw[hp]<;>rfl)
    have HE:=zh e;clear e hra htk
    go_wp2_with fail
    refine Lex.zl ?_
    go_wp2_with fail
    refine(ze9 pb _).mono ?_
    rintro e2 w2 ⟨rfl,rfl⟩
    rw[hp]
    go_wp2_with fail
    refine Lex.ze ?_
    go_wp2_with fail
    go_ret
    exact⟨by rw[HE.out]<;>rfl,(HB.out).drew⟩
  | true=>
  rw[hp,Bool.true_and] at hra htk
  rcases Nat.eq_zero_or_pos k with hk0|hkp
  ·have hl0:(l.take k).getLast? = none:=by rw[hk0]<;>rfl
   rw[hl0] at hra htk
   simp only[Bool.and_true] at hra htk
   have HRA:=zh hra;have HTK:=zh htk
   have dz:decide ((0:Int)<(k:Int))=false:=zf
   have dz' : decide (0<k)=false:=zf
   have HK0:=zh hk0
   have HBD:=zh HB.out.drew
   clear hl0 hra htk hk0
   go_wp2_with fail
   refine Lex.zl ?_
   go_wp2_with fail
   refine(ze9 pb _).mono ?_
   rintro e2 w2 ⟨rfl,rfl⟩
   rw[hp]
   go_wp2_with fail
   refine Lex.ze ?_
   go_wp2_with fail
   clear c0 c1 hp
   go_loopw [4] (fun q wr=>∃ j:Nat,j<=k/\q=.int .i64 j/\((l.take k).take j).any (fun x=>decide (x.pub=pb))=false/\Below w.heap.size w wr) (fun q _=>k-(intOf q).toNat)
   case atStart=>exact⟨0,by omega,rfl,rfl,HBD.out⟩
   case round=>
    obtain⟨j,hj,rfl,hno,hb⟩:=hrel
    have HB3:=zh hb
    have HNO:=zh hno
    by_cases hjl:j<k
    case neg=>
     have hje:j=k:=by omega
     have dj:decide ((j:Int)<(k:Int))=false:=zf
     have htl:((l.take k).take j)=l.take k:=by rw[hje,List.take_take,Nat.min_self]
     have hok:Own.Aq [] (l.take (k+1))=true:=by rw[htl] at hno;rw[HTK.out,hno];rfl
     have zfY:=zh hok;clear hok hno htl hje hb
     go_wp2_with fail
     exact⟨⟨k+1,by omega,by go_num,zfY.out,HB3.out⟩,by simp[intOf];omega⟩
    have dj:decide ((j:Int)<(k:Int))=true:=zt
    obtain⟨b2,o2,ha2,zey,_,f1⟩:=Own.Ag.cells (HL.out.below hb) (show j<l.length by omega)
    obtain⟨b3,o3,ha3,zfZ,_,g1⟩:=Own.Ag.cells (HL.out.below hb) hlt
    cases ha2;cases ha3
    rw[HPB.out] at g1
    have hjt:j<(l.take k).length:=by rw[List.length_take];omega
    have hjg:(l.take k)[j]=l[j]:=List.getElem_take
    obtain⟨pj,hpj⟩:∃ x,x=l[j].pub:=⟨_,rfl⟩
    rw[<- hpj] at f1
    have hbeq:(pj.toList==pb.toList)=decide ((l.take k)[j].pub=pb):=by rw[bytes_beq,hjg,hpj]
    have HBE:=zh hbeq;have HJT:=zh hjt
    clear hbeq hjg hpj hno hb zey zfZ
    cases hc:(pj.toList==pb.toList) with
    | true =>
      have hany:(l.take k).any (fun x=>decide (x.pub=pb))=true:=List.any_eq_true.2 ⟨_,List.getElem_mem HJT.out,by rw[<- HBE.out];exact hc⟩
      have e:R=false:=HRA.out (by rw[hany]<;>rfl)
      have HE:=zh e;clear e hany
      go_wp2_with fail
      refine Lex.zl ?_
      go_wp2_with fail
      refine Lex.ze ?_
      go_wp2_with fail
      go_ret
      exact⟨by rw[HE.out]<;>rfl,(HB3.out).drew⟩
    | false =>
      have hn2:=zfe (p:=fun x=>decide (x.pub=pb)) HJT.out HNO.out (by rw[<- HBE.out];exact hc)
      have HN2:=zh hn2;clear hn2
      go_wp2_with fail
      refine Lex.zl ?_
      go_wp2_with fail
      refine Lex.ze ?_
      go_wp2_with fail
      exact⟨⟨j+1,by omega,by go_num,HN2.out,HB3.out.drew⟩,by simp[intOf];omega⟩
  obtain⟨j0,hj0⟩:∃ j,k=j+1:=⟨k-1,by omega⟩
  obtain⟨x,e0,hx⟩:=TI.out j0 hj0
  rw[hx] at hra htk
  have PW:(!((l.take k).any fun x=>decide (x.pub=pb))&&Own.Ak x.name nm)=false->R=false:=hra
  have Ot:Own.Aq [] (l.take (k+1))=(!((l.take k).any fun x=>decide (x.pub=pb))&&Own.Ak x.name nm):=htk
  unfold Own.Ak at PW Ot
  have dz:decide ((0:Int)<(k:Int))=true:=zt
  have dz' : decide (0<k)=true:=zt
  have ek:(k:Int)-1=(j0:Int):=by omega
  have hjl:j0<l.length:=by omega
  have HBD:=zh HB.out.drew
  cases hlb:Op.bytesLess x.name.toList nm.toList with
  | false =>
    have e:R=false:=PW (by rw[hlb,Bool.and_false])
    have HE:=zh e;clear e hra htk PW Ot hx hj0
    go_wp2_with fail
    refine Lex.zl ?_
    go_wp2_with fail
    refine(ze9 pb _).mono ?_
    rintro e2 w2 ⟨rfl,rfl⟩
    rw[hp]
    go_wp2_with fail
    refine Lex.ze ?_
    go_wp2_with fail
    go_ret
    exact⟨by rw[HE.out]<;>rfl,(HB.out).drew⟩
  | true =>
    rw[hlb,Bool.and_true] at Ot PW
    have HTK:=zh Ot;have HRA:=zh PW
    clear hra htk PW Ot hx
    have HJ0:=zh hj0;clear hj0
    go_wp2_with fail
    refine Lex.zl ?_
    go_wp2_with fail
    refine(ze9 pb _).mono ?_
    rintro e2 w2 ⟨rfl,rfl⟩
    rw[hp]
    go_wp2_with fail
    refine Lex.ze ?_
    go_wp2_with fail
    clear c0 c1 e0 hp hlb ek
    go_loopw [4] (fun q wr=>∃ j:Nat,j<=k/\q=.int .i64 j/\((l.take k).take j).any (fun x=>decide (x.pub=pb))=false/\Below w.heap.size w wr) (fun q _=>k-(intOf q).toNat)
    case atStart=>exact⟨0,by omega,rfl,rfl,HBD.out⟩
    case round=>
     obtain⟨j,hj,rfl,hno,hb⟩:=hrel
     have HB3:=zh hb
     have HNO:=zh hno
     by_cases hjl:j<k
     case neg=>
      have hje:j=k:=by omega
      have dj:decide ((j:Int)<(k:Int))=false:=zf
      have htl:((l.take k).take j)=l.take k:=by rw[hje,List.take_take,Nat.min_self]
      have hok:Own.Aq [] (l.take (k+1))=true:=by rw[htl] at hno;rw[HTK.out,hno];rfl
      have zfY:=zh hok;clear hok hno htl hje hb
      go_wp2_with fail
      exact⟨⟨k+1,by omega,by go_num,zfY.out,HB3.out⟩,by simp[intOf];omega⟩
     have dj:decide ((j:Int)<(k:Int))=true:=zt
     obtain⟨b2,o2,ha2,zey,_,f1⟩:=Own.Ag.cells (HL.out.below hb) (show j<l.length by omega)
     obtain⟨b3,o3,ha3,zfZ,_,g1⟩:=Own.Ag.cells (HL.out.below hb) hlt
     cases ha2;cases ha3
     rw[HPB.out] at g1
     have hjt:j<(l.take k).length:=by rw[List.length_take];omega
     have hjg:(l.take k)[j]=l[j]:=List.getElem_take
     obtain⟨pj,hpj⟩:∃ x,x=l[j].pub:=⟨_,rfl⟩
     rw[<- hpj] at f1
     have hbeq:(pj.toList==pb.toList)=decide ((l.take k)[j].pub=pb):=by rw[bytes_beq,hjg,hpj]
     have HBE:=zh hbeq;have HJT:=zh hjt
     clear hbeq hjg hpj hno hb zey zfZ
     cases hc:(pj.toList==pb.toList) with
     | true =>
       have hany:(l.take k).any (fun x=>decide (x.pub=pb))=true:=List.any_eq_true.2 ⟨_,List.getElem_mem HJT.out,by rw[<- HBE.out];exact hc⟩
       have e:R=false:=HRA.out (by rw[hany]<;>rfl)
       have HE:=zh e;clear e hany
       go_wp2_with fail
       refine Lex.zl ?_
       go_wp2_with fail
       refine Lex.ze ?_
       go_wp2_with fail
       go_ret
       exact⟨by rw[HE.out]<;>rfl,(HB3.out).drew⟩
     | false =>
       have hn2:=zfe (p:=fun x=>decide (x.pub=pb)) HJT.out HNO.out (by rw[<- HBE.out];exact hc)
       have HN2:=zh hn2;clear hn2
       go_wp2_with fail
       refine Lex.zl ?_
       go_wp2_with fail
       refine Lex.ze ?_
       go_wp2_with fail
       exact⟨⟨j+1,by omega,by go_num,HN2.out,HB3.out.drew⟩,by simp[intOf];omega⟩
theorem zfy (s:Sig.T)(cv pv:Value)(w:World)(hc:Am w cv s.chains)(hp:Am w pv s.path)(hcc:Eo cv)(hsz:∀ x∈s.chains++s.path,x.size<=140737488355328):
 Calls Tryz.prog 96 #[.agg #[.int .i64 s.index,cv,pv]] w fun e w' => ∃ b,e=.returned (.bool b)/\(b=true->s.chains.length<=80/\s.path.length<=20)/\Below w.heap.size w w':=by
 obtain⟨ca,cc,rfl⟩:=hc.len
 obtain⟨pa,pc,rfl⟩:=hp.len
 obtain⟨_,_,_,he,hcl⟩:=hcc
 cases he
 have HC:=zh hc;have HP:=zh hp;have HSZ:=zh hsz
 clear hc hp hsz
 go_enter Tryz.func96,Tryz.ntmps96
 have hb1:Below w.heap.size w (w.alloc (.cells #[.int .i64 s.index,.slice ca s.chains.length cc,.slice pa s.path.length pc] 70)):=zb
 have ha1:At (w.alloc (.cells #[.int .i64 s.index,.slice ca s.chains.length cc,.slice pa s.path.length pc] 70)) w.heap.size 70 #[.int .i64 s.index,.slice ca s.chains.length cc,.slice pa s.path.length pc]:=At.new w _ _
 have hlw:w.heap.size<(w.alloc (.cells #[.int .i64 s.index,.slice ca s.chains.length cc,.slice pa s.path.length pc] 70)).heap.size:=by simp
 have HC1:=zh (HC.out.below hb1);have HP1:=zh (HP.out.below hb1)
 have HB1:=zh hb1;have HA1:=zh ha1
 clear hb1 ha1
 obtain⟨c0,c1,c2⟩:=HA1.out.c3
 go_wp2_with fail
 generalize w.alloc (.cells #[.int .i64 s.index,.slice ca s.chains.length cc,.slice pa s.path.length pc] 70)=w1 at*
 by_cases h1:s.chains.length<=80
 case neg=>
  have d1:decide (s.chains.length<=80)=false:=decide_eq_false h1
  have d1' : decide ((s.chains.length:Int)<=80)=false:=zf
  go_wp2_with fail
  refine Lex.zn (fun j=>j=w.heap.size) [13,15,21] 32 [20,3,1] ?_
  simp only[Lex.Br,zd]
  go_wp2_with fail
  refine Lex.Mid.intro (fun j hj _=>rfl) ?_
  go_wp2_with fail
  refine Lex.Mid.intro (fun j hj _=>rfl) ?_
  go_wp2_with fail
  refine Lex.Mid.intro (fun j hj _=>rfl) ?_
  go_wp2_with fail
  refine Lex.zk ⟨trivial,trivial,trivial,trivial⟩ ?_
  go_wp2_with fail
  go_ret
  exact⟨false,rfl,(fun h=>by cases h),HB1.out.drew⟩
 have d1:decide (s.chains.length<=80)=true:=decide_eq_true h1
 have d1' : decide ((s.chains.length:Int)<=80)=true:=zt
 by_cases h2:s.path.length<=20
 case neg=>
  have d2:decide (s.path.length<=20)=false:=decide_eq_false h2
  have d2' : decide ((s.path.length:Int)<=20)=false:=zf
  go_wp2_with fail
  refine Lex.zn (fun j=>j=w.heap.size) [13,15,21] 32 [20,3,1] ?_
  simp only[Lex.Br,zd]
  go_wp2_with fail
  refine Lex.Mid.intro (fun j hj _=>rfl) ?_
  go_wp2_with fail
  refine Lex.Mid.intro (fun j hj _=>rfl) ?_
  go_wp2_with fail
  refine Lex.Mid.intro (fun j hj _=>rfl) ?_
  go_wp2_with fail
  refine Lex.zk ⟨trivial,trivial,trivial,trivial⟩ ?_
  go_wp2_with fail
  go_ret
  exact⟨false,rfl,(fun h=>by cases h),HB1.out.drew⟩
 have d2:decide (s.path.length<=20)=true:=decide_eq_true h2
 have d2' : decide ((s.path.length:Int)<=20)=true:=zt
 have hmid:s.chains.length/2<=s.chains.length:=by omega
 have hcap2:s.chains.length/2<=cc:=by omega
 have hown0:(w1.drew.alloc (.cells #[] 9)).ownsRow w1.heap.size 9 1 (.slice (some ⟨w1.heap.size,0,none⟩) 0 0) 0 []:=NC w1.drew 9 1 w1.heap.size (Nat.le_refl _)
 go_wp2_with fail
 refine Lex.zn (fun j=>j=w.heap.size) [13,15,21] 32 [20,3,1] ?_
 simp only[Lex.Br,zd]
 have htk:=HC1.out.xG (c':=cc) hmid
 have htl:(s.chains.take (s.chains.length/2)).length=s.chains.length/2:=by rw[List.length_take];omega
 have zgr:s.chains.length/2<=40:=by omega
 have HTK:=zh htk;have zfX:=zh hown0;have HTL:=zh htl;clear htk hown0 htl
 go_wp2_with (at_builtin;go_must (refine zeF (by rfl) ?_;refine zeE rfl _ _ rfl w1.heap.size 0 _ [] rfl zfX.out (.slice ca (s.chains.length/2) cc) (s.chains.take (s.chains.length/2)) rfl ((HTK.out.below (Below.refl _ _).drew).below zb) (by rw[HTL.out];omega) (by simp) ?_);intro v5 w5 ho5 hg5;rw[Nat.zero_add,HTL.out,List.nil_append] at ho5;obtain⟨va,vm,vc,rfl⟩:=Ad ho5;obtain rfl:=Bf ho5;have hb5:Below w1.heap.size w1 w5:=Bn (((Below.refl w1.heap.size w1).drew).alloc (Nat.le_refl _) _) (by simp) zfX.out hg5;have q2:=(hb5.cell (p:=⟨w.heap.size,2,none⟩) hlw).trans c2;have q1:=(hb5.cell (p:=⟨w.heap.size,1,none⟩) hlw).trans c1;have HO5:=zh ho5;have HB5:=zh hb5;clear ho5 hg5 hb5)
 refine Lex.Mid.intro (fun j hj _=>by rw[hj];exact HB5.out.block _ hlw) ?_
 have hz5:=HB5.out.size
 go_wp2_with (at_builtin;go_must (refine zeF (by rfl) ?_;refine zeE rfl _ _ rfl w1.heap.size _ _ _ rfl HO5.out (.slice pa s.path.length pc) s.path rfl (HP1.out.below HB5.out) (by omega) hz5 ?_);intro v6 w6 ho6 hg6;obtain⟨ua,um,uc,rfl⟩:=Ad ho6;obtain rfl:=Bf ho6;have hb6:Below w1.heap.size w1 w6:=Bn HB5.out hz5 HO5.out hg6;have q2:=(hb6.cell (p:=⟨w.heap.size,2,none⟩) hlw).trans c2;have q1:=(hb6.cell (p:=⟨w.heap.size,1,none⟩) hlw).trans c1;have HO6:=zh ho6;have HB6:=zh hb6;clear ho6 hg6 hb6)
 have lN:∀ j,j=w.heap.size->w6.heap[j]? = w1.drew.heap[j]? :=fun j hj=>by rw[hj];exact HB6.out.block _ hlw
 have hs6:Am w6 (.slice ua (s.chains.length/2+s.path.length) uc) (s.chains.take (s.chains.length/2)++s.path):=Am.own (by
  have:=HO6.out
  rw[<- List.map_append] at this
  have hl:(s.chains.take (s.chains.length/2)++s.path).length=s.chains.length/2+s.path.length:=by rw[List.length_append,HTL.out]
  rw[hl]
  exact this)
 have hf1:=zeZ _ _ w6 hs6 (fun x hx=>HSZ.out x (by
  rcases List.mem_append.1 hx with h|h
  ·exact List.mem_append.2 (.inl (List.mem_of_mem_take h))
  ·exact List.mem_append.2 (.inr h))) (by rw[List.length_append,HTL.out];omega)
 have HF1:=zh hf1;have uP:=zh lN
 clear hf1 hs6 lN
 refine Lex.Mid.intro (fun j hj _=>uP.out j hj) ?_
 go_wp2_with fail
 refine HF1.out.mono ?_
 rintro e w7 ⟨rfl,rfl⟩
 generalize zfm (s.chains.take (s.chains.length/2)++s.path)=b1
 cases b1 with
 | false =>
   go_wp2_with fail
   refine Lex.Mid.intro (fun j hj _=>uP.out j hj) ?_
   go_wp2_with fail
   refine Lex.zk ⟨⟨rfl,zi c1⟩,⟨rfl,zi c1⟩,⟨rfl,zi c2⟩,trivial⟩ ?_
   go_wp2_with fail
   go_ret
   exact⟨false,rfl,(fun h=>by cases h),HB1.out.trans (HB6.out.mono HB1.out.size)⟩
 | true =>
   have hdl:(s.chains.drop (s.chains.length/2)).length=s.chains.length-s.chains.length/2:=List.length_drop ..
   have hdi:((s.chains.length:Int)-((s.chains.length/2:Nat):Int))=((s.chains.length-s.chains.length/2:Nat):Int):=by omega
   have zfI:∀ (u:Value),Am w7 u (s.chains.drop (s.chains.length/2))->_:=fun u hu=>zeZ u _ w7 hu (fun x hx=>HSZ.out x (List.mem_append.2 (.inl (List.mem_of_mem_drop hx)))) (by rw[hdl];omega)
   have zfq:=zh zfI
   have HDL:=zh hdl
   have HC7:=zh (HC1.out.below HB6.out)
   clear zfI hdl hdi
   generalize zfm (s.chains.drop (s.chains.length/2))=b2 at*
   by_cases h0:0<s.chains.length
   ·obtain⟨b,o,rfl⟩:=HC1.out.addrOf h0
    go_wp2_with fail
    refine Lex.Mid.intro (fun j hj _=>uP.out j hj) ?_
    go_wp2_with fail
    refine(zfq.out _ (HC7.out.xH rfl)).mono ?_
    rintro e w8 ⟨rfl,rfl⟩
    go_wp2_with fail
    refine Lex.zk ⟨⟨rfl,zi c1⟩,⟨rfl,zi c1⟩,⟨rfl,zi c2⟩,trivial⟩ ?_
    go_wp2_with fail
    go_ret
    exact⟨_,rfl,(fun _=>⟨h1,h2⟩),HB1.out.trans (HB6.out.mono HB1.out.size)⟩
   ·cases ca with
    | none =>
      go_wp2_with fail
      refine Lex.Mid.intro (fun j hj _=>uP.out j hj) ?_
      go_wp2_with fail
      refine(zfq.out _ ⟨_,_,by rw[HDL.out],.inl (by rw[HDL.out];omega)⟩).mono ?_
      rintro e w8 ⟨rfl,rfl⟩
      go_wp2_with fail
      refine Lex.zk ⟨⟨rfl,zi c1⟩,⟨rfl,zi c1⟩,⟨rfl,zi c2⟩,trivial⟩ ?_
      go_wp2_with fail
      go_ret
      exact⟨_,rfl,(fun _=>⟨h1,h2⟩),HB1.out.trans (HB6.out.mono HB1.out.size)⟩
    | some p =>
      obtain⟨b,o,z⟩:=p
      cases z with
      | none =>
        by_cases hz:cc=s.chains.length/2
        case _=>
         go_wp2_with fail
         refine Lex.Mid.intro (fun j hj _=>uP.out j hj) ?_
         go_wp2_with fail
         refine(zfq.out _ ⟨_,_,by rw[HDL.out],.inl (by rw[HDL.out];omega)⟩).mono ?_
         rintro e w8 ⟨rfl,rfl⟩
         go_wp2_with fail
         refine Lex.zk ⟨⟨rfl,zi c1⟩,⟨rfl,zi c1⟩,⟨rfl,zi c2⟩,trivial⟩ ?_
         go_wp2_with fail
         go_ret
         exact⟨_,rfl,(fun _=>⟨h1,h2⟩),HB1.out.trans (HB6.out.mono HB1.out.size)⟩
        case _=>
         go_wp2_with fail
         refine Lex.Mid.intro (fun j hj _=>uP.out j hj) ?_
         go_wp2_with fail
         refine(zfq.out _ ⟨_,_,by rw[HDL.out],.inl (by rw[HDL.out];omega)⟩).mono ?_
         rintro e w8 ⟨rfl,rfl⟩
         go_wp2_with fail
         refine Lex.zk ⟨⟨rfl,zi c1⟩,⟨rfl,zi c1⟩,⟨rfl,zi c2⟩,trivial⟩ ?_
         go_wp2_with fail
         go_ret
         exact⟨_,rfl,(fun _=>⟨h1,h2⟩),HB1.out.trans (HB6.out.mono HB1.out.size)⟩
      | some z =>
        by_cases hz:cc=s.chains.length/2
        case _=>
         go_wp2_with fail
         refine Lex.Mid.intro (fun j hj _=>uP.out j hj) ?_
         go_wp2_with fail
         refine(zfq.out _ ⟨_,_,by rw[HDL.out],.inl (by rw[HDL.out];omega)⟩).mono ?_
         rintro e w8 ⟨rfl,rfl⟩
         go_wp2_with fail
         refine Lex.zk ⟨⟨rfl,zi c1⟩,⟨rfl,zi c1⟩,⟨rfl,zi c2⟩,trivial⟩ ?_
         go_wp2_with fail
         go_ret
         exact⟨_,rfl,(fun _=>⟨h1,h2⟩),HB1.out.trans (HB6.out.mono HB1.out.size)⟩
        case _=>
         go_wp2_with fail
         refine Lex.Mid.intro (fun j hj _=>uP.out j hj) ?_
         go_wp2_with fail
         refine(zfq.out _ ⟨_,_,by rw[HDL.out],.inl (by rw[HDL.out];omega)⟩).mono ?_
         rintro e w8 ⟨rfl,rfl⟩
         go_wp2_with fail
         refine Lex.zk ⟨⟨rfl,zi c1⟩,⟨rfl,zi c1⟩,⟨rfl,zi c2⟩,trivial⟩ ?_
         go_wp2_with fail
         go_ret
         exact⟨_,rfl,(fun _=>⟨h1,h2⟩),HB1.out.trans (HB6.out.mono HB1.out.size)⟩
namespace Own
def zfz (l:List Member):Prop:=l.length<=12/\∀ m∈l,m.name.size<=100/\m.pub.size<=100
def zgf (o:Ar):Prop:=o.spaces.length<=70/\o.keys.length<=40/\(∀ s∈o.spaces,s.pre.size<=100/\zfz s.members)/\∀ k∈o.keys,k.pub.size<=100
def zfB (a:Aj):Prop:=a.name.size<=100/\a.sig.chains.length<=80/\a.sig.path.length<=20
def zeC (P:Prop)(w:World)(e:Ending)(w' : World):Prop:=∃ b,e=.returned (.bool b)/\(b=true->P)/\Below w.heap.size w w'
theorem zeX {α : Type}{P : α -> Prop}{l:List α}{k:Nat}(hk:l.length<=k)(h:∀ j (h:j<l.length),j<k->P l[j]):∀ x∈l,P x:=fun x hx=>by
 obtain⟨j,hj,rfl⟩:=List.getElem_of_mem hx
 exact h j hj (by omega)
theorem zeJ {α : Type}{P : α -> Prop}{l:List α}{k:Nat}(hk:k<l.length)(h:∀ j (h:j<l.length),j<k->P l[j])(hp:P l[k]):∀ j (h:j<l.length),j<k+1->P l[j]:=fun j hj hjk=>by
 rcases(by omega:j<k\/j=k) with h1|rfl
 ·exact h j hj h1
 ·exact hp
end Own
theorem zeD (v:Value)(l:List Own.Member)(w:World)(h:Own.Ag w v l)(hl:l.length<=140737488355328):
 Calls Tryz.prog 48 #[v] w (Own.zeC (Own.zfz l) w):=by
 obtain⟨Q,hQ⟩:∃ Q,Q=Own.zeC (Own.zfz l) w:=⟨_,rfl⟩
 rw[<- hQ]
 have HQ:=zh hQ;clear hQ
 obtain⟨a,c,rfl⟩:=h.len
 have HL:=zh h;clear h
 go_enter Tryz.func48,Tryz.ntmps48
 go_wp2_with fail
 go_loopw [3] (fun i wr=>∃ k:Nat,k<=l.length/\i=.int .i64 k/\(∀ j (h:j<l.length),j<k->l[j].name.size<=100/\l[j].pub.size<=100)/\Below w.heap.size w wr) (fun i _=>l.length-(intOf i).toNat)
 case atStart=>exact⟨0,by omega,rfl,(fun j _ h=>absurd h (by omega)),Below.refl _ _⟩
 case round=>
  obtain⟨k,hk,rfl,hno,hb⟩:=hrel
  have HN:=zh hno;have HB:=zh hb
  by_cases hlt:k<l.length
  case neg=>
   have dk:decide ((k:Int)<l.length)=false:=zf
   have hall:=Own.zeX (P:=fun m:Own.Member=>m.name.size<=100/\m.pub.size<=100) (by omega) hno
   have HA:=zh hall;clear hall hno hb
   go_wp2_with fail
   (try go_ret)
   rw[HQ.out]
   exact⟨_,rfl,(fun h=>⟨by have:=of_decide_eq_true h;omega,HA.out⟩),HB.out⟩
  have dk:decide ((k:Int)<l.length)=true:=zt
  obtain⟨b,o,ha,hbl,c0,c1⟩:=Own.Ag.cells (HL.out.below hb) hlt
  subst ha
  have hn2:=fun hp=>Own.zeJ (P:=fun m:Own.Member=>m.name.size<=100/\m.pub.size<=100) hlt hno hp
  obtain⟨x,hx⟩:∃ x,x=l[k].name:=⟨_,rfl⟩
  obtain⟨y,hy⟩:∃ x,x=l[k].pub:=⟨_,rfl⟩
  rw[<- hx] at c0
  rw[<- hy] at c1
  simp only[<- hx,<- hy] at hn2
  have HN2:=zh hn2
  clear hx hy hno hb hn2
  by_cases h1:100<(x.size:Int)
  ·have d1:decide (100<(x.size:Int))=true:=decide_eq_true h1
   have d1' : decide (100<x.size)=true:=zt
   go_wp2_with fail
   (try go_ret)
   rw[HQ.out]
   exact⟨false,rfl,(fun h=>by cases h),HB.out⟩
  have d1:decide (100<(x.size:Int))=false:=decide_eq_false h1
  have d1' : decide (100<x.size)=false:=zf
  by_cases h2:100<(y.size:Int)
  ·have d2:decide (100<(y.size:Int))=true:=decide_eq_true h2
   have d2' : decide (100<y.size)=true:=zt
   go_wp2_with fail
   (try go_ret)
   rw[HQ.out]
   exact⟨false,rfl,(fun h=>by cases h),HB.out⟩
  have d2:decide (100<(y.size:Int))=false:=decide_eq_false h2
  have d2' : decide (100<y.size)=false:=zf
  have hn:=HN2.out ⟨by omega,by omega⟩
  have HN3:=zh hn;clear hn
  go_wp2_with fail
  exact⟨⟨k+1,by omega,by go_num,HN3.out,HB.out⟩,by simp[intOf];omega⟩
theorem zf0 (o:Own.Ar)(sv kv:Value)(w:World)(hS:Own.BH w sv o.spaces)(hK:Own.D9 w kv o.keys)(hls:o.spaces.length<=140737488355328)(hlk:o.keys.length<=140737488355328)(hlm:∀ s∈o.spaces,s.members.length<=140737488355328):
 Calls Tryz.prog 12 #[.agg #[.int .i64 o.count,sv,kv]] w (Own.zeC (Own.zgf o) w):=by
 obtain⟨Q,hQ⟩:∃ Q,Q=Own.zeC (Own.zgf o) w:=⟨_,rfl⟩
 rw[<- hQ]
 have HQ:=zh hQ;clear hQ
 obtain⟨sa,sc,rfl⟩:=hS.len
 obtain⟨ka,kc,rfl⟩:=hK.len
 obtain⟨cnt,S,K⟩:=o
 dsimp only at*
 have F1:=zh (show Aw w _ [(25,#[.int .i64 cnt,.slice sa S.length sc,.slice ka K.length kc])] from((Dj.nil w).push 25 #[.int .i64 cnt,.slice sa S.length sc,.slice ka K.length kc]).boxes)
 have HS:=zh (hS.below F1.out.under);have HK:=zh (hK.below F1.out.under);have HLM:=zh hlm
 clear hS hK hlm
 go_enter Tryz.func12,Tryz.ntmps12
 go_upto_region 1 with fail
 generalize w.alloc (.cells #[.int .i64 cnt,.slice sa S.length sc,.slice ka K.length kc] 25)=w1 at*
 go_wp2_with fail
 go_loopw [3] (fun i wr=>∃ k:Nat,k<=S.length/\i=.int .i64 k/\(∀ j (h:j<S.length),j<k->S[j].pre.size<=100/\Own.zfz S[j].members)/\Below w1.heap.size w1 wr) (fun i _=>S.length-(intOf i).toNat)
 case atStart=>exact⟨0,by omega,rfl,(fun j _ h=>absurd h (by omega)),Below.refl _ _⟩
 case round=>
  obtain⟨k,hk,rfl,hno,hb⟩:=hrel
  have HN:=zh hno;have HB:=zh hb
  have F2:=zh (F1.out.step hb)
  obtain⟨x00,x01,x02⟩:=F2.out.Gh rfl
  by_cases hlt:k<S.length
  case neg=>
   have dk:decide ((k:Int)<S.length)=false:=zf
   have hall:=Own.zeX (P:=fun s:Own.Space=>s.pre.size<=100/\Own.zfz s.members) (by omega) hno
   have HA:=zh hall;clear hall hno hb
   go_wp2_with fail
   have HKR:=zh (HK.out.below HB.out)
   obtain⟨w5,hw5⟩:∃ w5,w5=wr:=⟨_,rfl⟩
   subst hw5
   (try clear x00 x01 x02)
   go_loopw [4] (fun i wr=>∃ k:Nat,k<=K.length/\i=.int .i64 k/\(∀ j (h:j<K.length),j<k->K[j].pub.size<=100)/\Below w5.heap.size w5 wr) (fun i _=>K.length-(intOf i).toNat)
   case atStart=>exact⟨0,by omega,rfl,(fun j _ h=>absurd h (by omega)),Below.refl _ _⟩
   case round=>
    obtain⟨j,hj,rfl,hno,hb⟩:=hrel
    have F3:=zh (F2.out.step hb)
    have HB3:=zh hb
    obtain⟨x00,x01,x02⟩:=F3.out.Gh rfl
    by_cases hlt:j<K.length
    case neg=>
     have dj:decide ((j:Int)<K.length)=false:=zf
     have hall:=Own.zeX (P:=fun k:Own.KeyUse=>k.pub.size<=100) (by omega) hno
     have HA2:=zh hall;clear hall hno hb
     by_cases h7:(S.length:Int)<=70
     ·have d7:decide ((S.length:Int)<=70)=true:=decide_eq_true h7
      have d7' : decide (S.length<=70)=true:=zt
      go_wp2_with fail
      (try go_ret)
      rw[HQ.out]
      exact⟨_,rfl,(fun h=>⟨by show S.length<=70;omega,by have:=of_decide_eq_true h;show K.length<=40;omega,HA.out,HA2.out⟩),F3.out.under⟩
     ·have d7:decide ((S.length:Int)<=70)=false:=decide_eq_false h7
      have d7' : decide (S.length<=70)=false:=zf
      go_wp2_with fail
      (try go_ret)
      rw[HQ.out]
      exact⟨false,rfl,(fun h=>by cases h),F3.out.under⟩
    have dj:decide ((j:Int)<K.length)=true:=zt
    obtain⟨b,o,ha,hbl,c0,c1⟩:=Own.D9.cells (HKR.out.below hb) hlt
    subst ha
    have hn2:=fun hp=>Own.zeJ (P:=fun k:Own.KeyUse=>k.pub.size<=100) hlt hno hp
    obtain⟨y,hy⟩:∃ x,x=K[j].pub:=⟨_,rfl⟩
    rw[<- hy] at c0
    simp only[<- hy] at hn2
    have HN2:=zh hn2
    clear hy hno hb hn2 c1
    by_cases h1:100<(y.size:Int)
    ·have d1:decide (100<(y.size:Int))=true:=decide_eq_true h1
     have d1' : decide (100<y.size)=true:=zt
     go_wp2_with fail
     (try go_ret)
     rw[HQ.out]
     exact⟨false,rfl,(fun h=>by cases h),F3.out.under⟩
    have d1:decide (100<(y.size:Int))=false:=decide_eq_false h1
    have d1' : decide (100<y.size)=false:=zf
    have hn:=HN2.out (by omega)
    have HN3:=zh hn;clear hn
    go_wp2_with fail
    exact⟨⟨j+1,by omega,by go_num,HN3.out,HB3.out⟩,by simp[intOf];omega⟩
  have dk:decide ((k:Int)<S.length)=true:=zt
  obtain⟨b,o,mv,ha,hbl,e0,e1,e2,hmv⟩:=Own.BH.cells (HS.out.below hb) hlt
  subst ha
  have hml:=HLM.out S[k] (List.getElem_mem hlt)
  have hn2:=fun hp=>Own.zeJ (P:=fun s:Own.Space=>s.pre.size<=100/\Own.zfz s.members) hlt hno hp
  obtain⟨x,hx⟩:∃ x,x=S[k]:=⟨_,rfl⟩
  rw[<- hx] at e0 hmv hml
  simp only[<- hx] at hn2
  have HN2:=zh hn2;have HMV:=zh hmv
  obtain⟨ma,mc,rfl⟩:=hmv.len
  clear hx hno hb hn2 hmv e2
  by_cases h1:100<(x.pre.size:Int)
  ·have d1:decide (100<(x.pre.size:Int))=true:=decide_eq_true h1
   have d1' : decide (100<x.pre.size)=true:=zt
   go_wp2_with fail
   (try go_ret)
   rw[HQ.out]
   exact⟨false,rfl,(fun h=>by cases h),F2.out.under⟩
  have d1:decide (100<(x.pre.size:Int))=false:=decide_eq_false h1
  have d1' : decide (100<x.pre.size)=false:=zf
  go_wp2_with fail
  refine(zeD _ x.members _ HMV.out hml).mono ?_
  rintro e w6 ⟨q,rfl,hq,hb6⟩
  have F6:=zh (F2.out.step hb6);have HB6:=zh (HB.out.trans (hb6.mono HB.out.size))
  cases q with
  | false =>
    clear hb6
    go_wp2_with fail
    (try go_ret)
    rw[HQ.out]
    exact⟨false,rfl,(fun h=>by cases h),F6.out.under⟩
  | true =>
    have hn:=HN2.out ⟨by omega,hq rfl⟩
    have HN3:=zh hn;clear hn hq hb6
    go_wp2_with fail
    exact⟨⟨k+1,by omega,by go_num,HN3.out,HB6.out⟩,by simp[intOf];omega⟩
namespace Own
theorem Yg.below {w w' : World}{v:Value}{l:List Aj}(h:Yg w v l)(hb:Below w.heap.size w w'):Yg w' v l:=by
 obtain⟨a,c,rfl,h⟩:=h
 refine⟨a,c,rfl,fun i hi=>?_⟩
 obtain⟨b,o,cv,pv,h1,h2,h3,h4,h5,h6,h7,h8,h9⟩:=h i hi
 exact⟨b,o,cv,pv,h1,Nat.lt_of_lt_of_le h2 hb.size,(hb.cell (p:=⟨b,_,none⟩) h2).trans h3,(hb.cell (p:=⟨b,_,none⟩) h2).trans h4,(hb.cell (p:=⟨b,_,none⟩) h2).trans h5,(hb.cell (p:=⟨b,_,none⟩) h2).trans h6,h7.below hb,h8.below hb,h9⟩
end Own
theorem zeM (v:Value)(l:List Own.Aj)(w:World)(h:Own.Yg w v l)(hl:l.length<=140737488355328)(hsz:∀ a∈l,∀ x∈a.sig.chains++a.sig.path,x.size<=140737488355328):
 Calls Tryz.prog 38 #[v] w (Own.zeC (l.length<=5/\∀ a∈l,Own.zfB a) w):=by
 obtain⟨Q,hQ⟩:∃ Q,Q=Own.zeC (l.length<=5/\∀ a∈l,Own.zfB a) w:=⟨_,rfl⟩
 rw[<- hQ]
 have HQ:=zh hQ;clear hQ
 have HL:=zh h;have HSZ:=zh hsz
 obtain⟨a,c,rfl,_⟩:=h
 clear hsz
 go_enter Tryz.func38,Tryz.ntmps38
 go_wp2_with fail
 go_loopw [3] (fun i wr=>∃ k:Nat,k<=l.length/\i=.int .i64 k/\(∀ j (h:j<l.length),j<k->Own.zfB l[j])/\Below w.heap.size w wr) (fun i _=>l.length-(intOf i).toNat)
 case atStart=>exact⟨0,by omega,rfl,(fun j _ h=>absurd h (by omega)),Below.refl _ _⟩
 case round=>
  obtain⟨k,hk,rfl,hno,hb⟩:=hrel
  have HN:=zh hno;have HB:=zh hb
  by_cases hlt:k<l.length
  case neg=>
   have dk:decide ((k:Int)<l.length)=false:=zf
   have hall:=Own.zeX (P:=Own.zfB) (by omega) hno
   have HA:=zh hall;clear hall hno hb
   go_wp2_with fail
   (try go_ret)
   rw[HQ.out]
   exact⟨_,rfl,(fun hb' => ⟨by have h5:=of_decide_eq_true hb';omega,HA.out⟩),HB.out⟩
  have dk:decide ((k:Int)<l.length)=true:=zt
  obtain⟨a',c',he,hcs⟩:=HL.out.below hb
  cases he
  obtain⟨b,o,cv,pv,rfl,hbl,e0,e1,e2,e3,hcv,hpv,hcc,_⟩:=hcs k hlt
  have hn2:=fun hp=>Own.zeJ (P:=Own.zfB) hlt hno hp
  have hsz:=HSZ.out l[k] (List.getElem_mem hlt)
  obtain⟨x,hx⟩:∃ x,x=l[k]:=⟨_,rfl⟩
  rw[<- hx] at e0 e1 hcv hpv hsz
  simp only[<- hx] at hn2
  have hfw:=zfy x.sig cv pv wr hcv hpv hcc hsz
  have HFW:=zh hfw;have HN2:=zh hn2
  clear hx hno hb hn2 hsz hcv hpv hcc hfw hcs
  obtain⟨xn,⟨xi,xc,xp⟩⟩:=x
  dsimp only at*
  by_cases h1:100<(xn.size:Int)
  ·have d1:decide (100<(xn.size:Int))=true:=decide_eq_true h1
   have d1' : decide (100<xn.size)=true:=zt
   go_wp2_with fail
   (try go_ret)
   rw[HQ.out]
   exact⟨false,rfl,(fun h=>by cases h),HB.out⟩
  have d1:decide (100<(xn.size:Int))=false:=decide_eq_false h1
  have d1' : decide (100<xn.size)=false:=zf
  go_wp2_with fail
  refine HFW.out.mono ?_
  rintro e w2 ⟨q,rfl,hq,hb2⟩
  have HB2:=zh (HB.out.trans (hb2.mono HB.out.size))
  cases q with
  | false =>
    clear hq hb2
    go_wp2_with fail
    (try go_ret)
    rw[HQ.out]
    exact⟨false,rfl,(fun h=>by cases h),HB2.out⟩
  | true =>
    have hn:=HN2.out ⟨by show xn.size<=100;omega,hq rfl⟩
    have HN3:=zh hn;clear hn hq hb2
    go_wp2_with fail
    exact⟨⟨k+1,by omega,by go_num,HN3.out,HB2.out⟩,by simp[intOf];omega⟩
theorem zeQ (v:Value)(s:Own.Space)(w:World)(h:Own.Ag w v s.members)(hl:s.members.length<=140737488355328)(hp:s.pre.size<=140737488355328):
 Calls Tryz.prog 74 #[.agg #[.string s.pre,v,.int .i64 s.threshold]] w fun e w' => e=.returned (.bool (Own.Bb s))/\Below w.heap.size w w':=by
 obtain⟨R,hR⟩:∃ R,R=Own.Bb s:=⟨_,rfl⟩
 rw[<- hR]
 unfold Own.Bb at hR
 obtain⟨a,c,rfl⟩:=h.len
 have F1:=zh (show Aw w _ [(39,#[.string s.pre,.slice a s.members.length c,.int .i64 s.threshold])] from((Dj.nil w).push 39 #[.string s.pre,.slice a s.members.length c,.int .i64 s.threshold]).boxes)
 have HR:=zh hR;have HL:=zh h
 clear hR h
 have x00:(w.alloc (.cells #[.string s.pre,.slice a s.members.length c,.int .i64 s.threshold] 39)).cell? ⟨w.heap.size,0,none⟩=some (.string s.pre):=F1.out.cell 0 0 rfl rfl
 have x01:(w.alloc (.cells #[.string s.pre,.slice a s.members.length c,.int .i64 s.threshold] 39)).cell? ⟨w.heap.size,1,none⟩=some (.slice a s.members.length c):=F1.out.cell 0 1 rfl rfl
 have x02:(w.alloc (.cells #[.string s.pre,.slice a s.members.length c,.int .i64 s.threshold] 39)).cell? ⟨w.heap.size,2,none⟩=some (.int .i64 s.threshold):=F1.out.cell 0 2 rfl rfl
 go_enter Tryz.func74,Tryz.ntmps74
 go_wp2_with fail
 generalize w.alloc (.cells #[.string s.pre,.slice a s.members.length c,.int .i64 s.threshold] 39)=w1 at*
 refine(zfp s.pre w1 (by omega)).mono ?_
 rintro e w2 ⟨rfl,rfl⟩
 cases hp:Own.BL s.pre with
 | false =>
   have e:R=false:=by rw[HR.out,hp]<;>rfl
   have HE:=zh e;clear e
   go_wp2_with fail
   go_ret
   exact⟨by rw[HE.out]<;>rfl,F1.out.under⟩
 | true=>
 go_wp2_with fail
 refine(zeL _ s.members w2 (HL.out.below F1.out.under) hl).mono ?_
 rintro e w3 ⟨rfl,hb3⟩
 have F3:=zh (F1.out.step hb3)
 clear hb3
 (try clear x00);(try clear x01);(try clear x02)
 obtain⟨x00,x01,x02⟩:=F3.out.Gh rfl
 cases hm:Own.Cw s.members with
 | false =>
   have e:R=false:=by rw[HR.out,hm];simp
   have HE:=zh e;clear e
   go_wp2_with fail
   go_ret
   exact⟨by rw[HE.out]<;>rfl,F3.out.under⟩
 | true=>
 have e:R=(decide (1<=s.threshold)&&decide (s.threshold<=s.members.length)):=by rw[HR.out,hp,hm];simp
 have HE:=zh e;clear e
 by_cases h1:1<=s.threshold
 ·have d1:decide (1<=s.threshold)=true:=decide_eq_true h1
  have e:R=decide (s.threshold<=s.members.length):=by rw[HE.out,d1]<;>rfl
  have HE2:=zh e;clear e
  go_wp2_with fail
  go_ret
  exact⟨by rw[HE2.out]<;>rfl,F3.out.under⟩
 ·have d1:decide (1<=s.threshold)=false:=decide_eq_false h1
  have e:R=false:=by rw[HE.out,d1]<;>rfl
  have HE2:=zh e;clear e
  go_wp2_with fail
  go_ret
  exact⟨by rw[HE2.out]<;>rfl,F3.out.under⟩
theorem zfi (o:Own.Ar)(sv kv:Value)(w:World)(hS:Own.BH w sv o.spaces)(hK:Own.D9 w kv o.keys)(hls:o.spaces.length<=140737488355328)(hlk:o.keys.length<=140737488355328)(hlm:∀ s∈o.spaces,s.members.length<=140737488355328/\s.pre.size<=140737488355328):
 Calls Tryz.prog 21 #[.agg #[.int .i64 o.count,sv,kv]] w fun e w' => e=.returned (.bool (Own.Bz o))/\Below w.heap.size w w':=by
 obtain⟨R,hR⟩:∃ R,R=Own.Bz o:=⟨_,rfl⟩
 rw[<- hR]
 unfold Own.Bz Own.late at hR
 obtain⟨sa,sc,rfl⟩:=hS.len
 obtain⟨ka,kc,rfl⟩:=hK.len
 obtain⟨cnt,S,K⟩:=o
 dsimp only at*
 have ha:=At.new w 25 #[.int .i64 cnt,.slice sa S.length sc,.slice ka K.length kc]
 have hb1:Below w.heap.size w (w.alloc (.cells #[.int .i64 cnt,.slice sa S.length sc,.slice ka K.length kc] 25)):=zb
 have HR:=zh hR;have HS:=zh (hS.below hb1);have HK:=zh (hK.below hb1);have HB:=zh hb1;have HA:=zh ha;have HLM:=zh hlm
 have c0:=ha.cell 0;have c1:=ha.cell 1;have c2:=ha.cell 2
 simp only[zg] at c0 c1 c2
 clear hR hS hK ha hb1 hlm
 go_enter Tryz.func21,Tryz.ntmps21
 by_cases h1:0<=cnt
 case neg=>
  have d1:decide (cnt<0)=true:=zt
  have e:R=false:=by rw[HR.out,decide_eq_false h1]<;>rfl
  have HE:=zh e;clear e
  go_wp2_with fail
  go_ret
  exact⟨by rw[HE.out]<;>rfl,HB.out⟩
 have d1:decide (cnt<0)=false:=zf
 by_cases h2:cnt<=1099511627776
 case neg=>
  have d2:decide (1099511627776<cnt)=true:=zt
  have e:R=false:=by rw[HR.out,decide_eq_false h2];simp
  have HE:=zh e;clear e
  go_wp2_with fail
  go_ret
  exact⟨by rw[HE.out]<;>rfl,HB.out⟩
 have d2:decide (1099511627776<cnt)=false:=zf
 by_cases h3:S.length<=64
 case neg=>
  have d3:decide ((64:Int)<S.length)=true:=zt
  have e:R=false:=by rw[HR.out,decide_eq_false h3];simp
  have HE:=zh e;clear e
  go_wp2_with fail
  go_ret
  exact⟨by rw[HE.out]<;>rfl,HB.out⟩
 have d3:decide ((64:Int)<S.length)=false:=zf
 have e:R=(Own.Av Own.Bb (fun x y=>Own.Ak x.pre y.pre) none S&&Own.Av Own.Dq (fun x y=>Own.Ak x.pub y.pub) none K):=by
  rw[HR.out,decide_eq_true h1,decide_eq_true h2,decide_eq_true h3];simp
 have HR2:=zh e;clear e HR
 go_wp2_with fail
 generalize w.alloc (.cells #[.int .i64 cnt,.slice sa S.length sc,.slice ka K.length kc] 25)=w1 at*
 clear d1 d2 d3 h1 h2
 go_loopw [3] (fun i wr=>∃ k:Nat,k<=S.length/\i=.int .i64 k/\Own.Av Own.Bb (fun x y=>Own.Ak x.pre y.pre) none (S.take k)=true/\Below w1.heap.size w1 wr) (fun i _=>S.length-(intOf i).toNat)
 case atStart=>exact⟨0,by omega,rfl,rfl,Below.refl _ _⟩
 case round=>
  obtain⟨k,hk,rfl,hok,hb⟩:=hrel
  have HOK:=zh hok;have HBW:=zh hb
  have hz1:=HA.out.lt
  have hbs:=hb.size
  have ha2:=HA.out.below hb hz1
  obtain⟨c0,c1,c2⟩:=ha2.c3
  clear ha2
  by_cases hlt:k<S.length
  case neg=>
   have hke:k=S.length:=by omega
   have dk:decide ((k:Int)<S.length)=false:=zf
   have e:R=Own.Av Own.Dq (fun x y=>Own.Ak x.pub y.pub) none K:=by
    rw[HR2.out]
    rw[hke,List.take_length] at hok
    rw[hok,Bool.true_and]
   have HR3:=zh e
   have HKW:=zh (HK.out.below hb)
   have HB2:=zh (HB.out.trans (hb.mono HB.out.size))
   have HA2:=zh (HA.out.below hb hz1)
   clear e hok hke hb HR2 HK HB HA HOK HBW HS
   go_wp2_with fail
   have hzw:w.heap.size<wr.heap.size:=by omega
   clear dk
   obtain⟨w5,hw5⟩:∃ w5,w5=wr:=⟨_,rfl⟩
   subst hw5
   go_loopw [4] (fun i wr=>∃ j:Nat,j<=K.length/\i=.int .i64 j/\Own.Av Own.Dq (fun x y=>Own.Ak x.pub y.pub) none (K.take j)=true/\Below w5.heap.size w5 wr) (fun i _=>K.length-(intOf i).toNat)
   case atStart=>exact⟨0,by omega,rfl,rfl,Below.refl _ _⟩
   case round=>
    obtain⟨j,hj,rfl,hok,hb⟩:=hrel
    have HBX:=zh hb
    have ha2:=HA2.out.below hb hzw
    obtain⟨c0,c1,c2⟩:=ha2.c3
    clear ha2
    by_cases hlt:j<K.length
    case neg=>
     have hje:j=K.length:=by omega
     have dk:decide ((j:Int)<K.length)=false:=zf
     have e:R=true:=by rw[HR3.out,<- hok,hje,List.take_length]
     have HE:=zh e;clear e hok hb hje
     go_wp2_with fail
     go_ret
     exact⟨by rw[HE.out]<;>rfl,HB2.out.trans (HBX.out.mono HB2.out.size)⟩
    have dk:decide ((j:Int)<K.length)=true:=zt
    have hra:R=((Own.Dq K[j]&&Own.ahead (fun x y=>Own.Ak x.pub y.pub) (K.take j).getLast? K[j])&&Own.Av Own.Dq (fun x y=>Own.Ak x.pub y.pub) (some K[j]) (K.drop (j+1))):=by rw[HR3.out,Own.TJ _ _ K j hlt,hok,Bool.true_and]
    have htk:Own.Av Own.Dq (fun x y=>Own.Ak x.pub y.pub) none (K.take (j+1))=(Own.Dq K[j]&&Own.ahead (fun x y=>Own.Ak x.pub y.pub) (K.take j).getLast? K[j]):=by rw[Own.Ou _ _ K j hlt,hok,Bool.true_and]
    have hlk:=HKW.out.below hb
    obtain⟨b,o,ha,hbl,e0,e1⟩:=Own.D9.cells hlk hlt
    have KI:∀ i,j=i+1->∃ x:Own.KeyUse,wr.cell? ⟨b,o+i*2,none⟩=some (.string x.pub)/\(K.take j).getLast? = some x:=by
     intro i hi
     obtain⟨b',o',ha',_,e0,_⟩:=Own.D9.cells hlk (i:=i) (by omega)
     rw[ha] at ha'
     cases ha'
     have hg:=Own.getLast_take K i (by omega)
     rw[<- hi] at hg
     exact⟨_,e0,hg⟩
    subst ha
    obtain⟨ku,hku⟩:∃ x,x=K[j]:=⟨_,rfl⟩
    rw[<- hku] at hra htk e0 e1
    obtain⟨rest,hrest⟩:∃ x,x=Own.Av Own.Dq (fun x y=>Own.Ak x.pub y.pub) (some ku) (K.drop (j+1)):=⟨_,rfl⟩
    rw[<- hrest] at hra
    obtain⟨pb,nx⟩:=ku
    have hkk:Own.Dq ⟨pb,nx⟩=(Sig.Bq pb&&decide (0<=nx)&&decide (nx<=2^(pb.get! 32).toNat)):=rfl
    rw[hkk] at hra htk
    dsimp only at hra htk e0 e1
    have hb5:Below w5.heap.size w5 (wr.alloc (.cells #[.string pb,.int .i64 nx] 59)).drew:=(hb.alloc hb.size _).drew
    have ha5:=((HA2.out.below hb hzw).alloc (.cells #[.string pb,.int .i64 nx] 59)).drew
    have b2:=ha5.cell 2
    simp only[zg] at b2
    have TI:=zh KI;have HB5:=zh hb5
    clear hok hb hlk KI hb5 ha5 hrest hku hkk HKW
    cases hp:Sig.Bq pb with
    | false =>
      have e:R=false:=by rw[hra,hp]<;>rfl
      have HE:=zh e;clear e hra htk
      go_wp2_with fail
      refine Lex.zl ?_
      go_wp2_with fail
      refine(ze9 pb _).mono ?_
      rintro e2 w2 ⟨rfl,rfl⟩
      rw[hp]
      go_wp2_with fail
      refine Lex.ze ?_
      go_wp2_with fail
      go_ret
      exact⟨by rw[HE.out]<;>rfl,HB2.out.trans (HB5.out.mono HB2.out.size)⟩
    | true=>
    rw[hp,Bool.true_and] at hra htk
    have h33:pb.size=33:=of_decide_eq_true (Bool.and_eq_true_iff.1 hp).1
    have h6:(pb.get! 32).toNat<=6:=of_decide_eq_true (Bool.and_eq_true_iff.1 hp).2
    have h32:32<pb.size:=by omega
    have hg:pb.get! 32=pb[32]:=getElem!_pos pb.data 32 h32
    rw[hg] at h6 hra htk
    obtain⟨N,hN⟩:∃ N:Nat,N=2^pb[32].toNat:=⟨_,rfl⟩
    have zcY:N<=64:=by
     rw[hN]
     exact Nat.le_trans (Nat.pow_le_pow_right (by omega) h6) (by decide)
    have hNN:((2:Int)^pb[32].toNat)=(N:Int):=by rw[hN];exact(Int.natCast_pow 2 _).symm
    have hsh:wrap64 ((2:Int)^pb[32].toNat)=(N:Int):=by
     rw[hNN]
     unfold wrap64
     omega
    rw[hNN] at hra htk
    have H33:=zh h33;have HHP:=zh hp;have HSH:=zh hsh
    clear hN hNN hg h33 hp hsh
    have dsz:((pb.size:Int)==33)=true:=by rw[beq_iff_eq];have:=H33.out;omega
    by_cases n1:0<=nx
    case neg=>
     have dn1:decide (nx<0)=true:=zt
     have e:R=false:=by rw[hra,decide_eq_false n1]<;>rfl
     have HE:=zh e;clear e hra htk
     go_wp2_with fail
     refine Lex.zl ?_
     go_wp2_with fail
     refine(ze9 pb _).mono ?_
     rintro e2 w2 ⟨rfl,rfl⟩
     rw[HHP.out]
     go_wp2_with (rw[HSH.out])
     refine Lex.ze ?_
     go_wp2_with fail
     go_ret
     exact⟨by rw[HE.out]<;>rfl,HB2.out.trans (HB5.out.mono HB2.out.size)⟩
    have dn1:decide (nx<0)=false:=zf
    rw[decide_eq_true n1,Bool.true_and] at hra htk
    by_cases n2:nx<=(N:Int)
    case neg=>
     have dn2:decide ((N:Int)<nx)=true:=zt
     have e:R=false:=by rw[hra,decide_eq_false n2]<;>rfl
     have HE:=zh e;clear e hra htk n1 n2
     go_wp2_with fail
     refine Lex.zl ?_
     go_wp2_with fail
     refine(ze9 pb _).mono ?_
     rintro e2 w2 ⟨rfl,rfl⟩
     rw[HHP.out]
     go_wp2_with (rw[HSH.out])
     refine Lex.ze ?_
     go_wp2_with fail
     go_ret
     exact⟨by rw[HE.out]<;>rfl,HB2.out.trans (HB5.out.mono HB2.out.size)⟩
    have dn2:decide ((N:Int)<nx)=false:=zf
    rw[decide_eq_true n2,Bool.true_and] at hra htk
    rcases Nat.eq_zero_or_pos j with hj0|hjp
    ·have hl0:(K.take j).getLast? = none:=by rw[hj0]<;>rfl
     rw[hl0] at htk
     have HT:=zh htk
     have HJ0:=zh hj0
     have dz:decide ((0:Int)<(j:Int))=false:=zf
     have dz' : decide (0<j)=false:=zf
     clear hl0 hra htk hj0
     go_wp2_with fail
     refine Lex.zl ?_
     go_wp2_with fail
     refine(ze9 pb _).mono ?_
     rintro e2 w2 ⟨rfl,rfl⟩
     rw[HHP.out]
     go_wp2_with (rw[HSH.out])
     refine Lex.ze ?_
     go_wp2_with fail
     exact⟨⟨j+1,by omega,by go_num,HT.out,HB5.out⟩,by simp[intOf];omega⟩
    ·obtain⟨i,hi⟩:∃ i,j=i+1:=⟨j-1,by omega⟩
     obtain⟨x,f0,hx⟩:=TI.out i hi
     rw[hx] at hra htk
     have PW:R=(Own.Ak x.pub pb&&rest):=hra
     have Ot:Own.Av Own.Dq (fun x y=>Own.Ak x.pub y.pub) none (K.take (j+1))=Own.Ak x.pub pb:=htk
     unfold Own.Ak at PW
     have dz:decide ((0:Int)<(j:Int))=true:=zt
     have dz' : decide (0<j)=true:=zt
     have ek:(j:Int)-1=(i:Int):=by omega
     have hjl:i<K.length:=by omega
     have f1:(wr.alloc (.cells #[.string pb,.int .i64 nx] 59)).cell? ⟨b,o+i*2,none⟩=some (.string x.pub):=(((Below.refl wr.heap.size wr).alloc (Nat.le_refl _) _).cell (p:=⟨b,o+i*2,none⟩) hbl).trans f0
     cases hlb:Op.bytesLess x.pub.toList pb.toList with
     | false =>
       have e:R=false:=by rw[PW,hlb]<;>rfl
       have HE:=zh e;clear e hra htk PW Ot hx f0 hi
       go_wp2_with fail
       refine Lex.zl ?_
       go_wp2_with fail
       refine(ze9 pb _).mono ?_
       rintro e2 w2 ⟨rfl,rfl⟩
       rw[HHP.out]
       go_wp2_with (rw[HSH.out])
       refine Lex.ze ?_
       go_wp2_with fail
       go_ret
       exact⟨by rw[HE.out]<;>rfl,HB2.out.trans (HB5.out.mono HB2.out.size)⟩
     | true =>
       have zbH:Own.Av Own.Dq (fun x y=>Own.Ak x.pub y.pub) none (K.take (j+1))=true:=by rw[Ot];exact hlb
       have HT:=zh zbH
       clear hra htk PW Ot zbH hx f0 hi
       go_wp2_with fail
       refine Lex.zl ?_
       go_wp2_with fail
       refine(ze9 pb _).mono ?_
       rintro e2 w2 ⟨rfl,rfl⟩
       rw[HHP.out]
       go_wp2_with (rw[HSH.out])
       refine Lex.ze ?_
       go_wp2_with fail
       exact⟨⟨j+1,by omega,by go_num,HT.out,HB5.out⟩,by simp[intOf];omega⟩
  have dk:decide ((k:Int)<S.length)=true:=zt
  have hra:R=(((Own.Bb S[k]&&Own.ahead (fun x y=>Own.Ak x.pre y.pre) (S.take k).getLast? S[k])&&Own.Av Own.Bb (fun x y=>Own.Ak x.pre y.pre) (some S[k]) (S.drop (k+1)))&&Own.Av Own.Dq (fun x y=>Own.Ak x.pub y.pub) none K):=by rw[HR2.out,Own.TJ _ _ S k hlt,hok,Bool.true_and]
  have htk:Own.Av Own.Bb (fun x y=>Own.Ak x.pre y.pre) none (S.take (k+1))=(Own.Bb S[k]&&Own.ahead (fun x y=>Own.Ak x.pre y.pre) (S.take k).getLast? S[k]):=by rw[Own.Ou _ _ S k hlt,hok,Bool.true_and]
  have hlk:=HS.out.below hb
  obtain⟨b,o,mv,ha,hbl,e0,e1,e2,hmv⟩:=Own.BH.cells hlk hlt
  have KI:∀ i,k=i+1->∃ x:Own.Space,wr.cell? ⟨b,o+i*3,none⟩=some (.string x.pre)/\(S.take k).getLast? = some x:=by
   intro i hi
   obtain⟨b',o',_,ha',_,e0,_⟩:=Own.BH.cells hlk (i:=i) (by omega)
   rw[ha] at ha'
   cases ha'
   have hg:=Own.getLast_take S i (by omega)
   rw[<- hi] at hg
   exact⟨_,e0,hg⟩
  subst ha
  have hml:=HLM.out S[k] (List.getElem_mem hlt)
  obtain⟨sp,hsp⟩:∃ x,x=S[k]:=⟨_,rfl⟩
  rw[<- hsp] at hra htk e0 e2 hmv hml
  obtain⟨rest,hrest⟩:∃ x,x=(Own.Av Own.Bb (fun x y=>Own.Ak x.pre y.pre) (some sp) (S.drop (k+1))&&Own.Av Own.Dq (fun x y=>Own.Ak x.pub y.pub) none K):=⟨_,rfl⟩
  rw[Bool.and_assoc,<- hrest] at hra
  obtain⟨ma,mc,rfl⟩:=hmv.len
  have TK:Below wr.heap.size wr wr.drew:=(Below.refl _ _).drew
  have mP:=zeQ (.slice ma sp.members.length mc) sp wr.drew (hmv.below TK) hml.1 hml.2
  have vK:=zh mP;have TI:=zh KI;have mQ:=zh TK
  have hbr:=hb
  clear hok hb hlk KI TK mP hrest hsp hmv
  cases hs:Own.Bb sp with
  | false =>
    have e:R=false:=by rw[hra,hs]<;>rfl
    have HE:=zh e;clear e hra htk
    go_wp2_with fail
    refine Lex.zl ?_
    go_wp2_with fail
    refine vK.out.mono ?_
    rintro e2 w7 ⟨rfl,hb7⟩
    rw[hs]
    have HB7:=zh (HB.out.trans ((hbr.trans ((mQ.out.trans (hb7.mono mQ.out.size)).mono hbr.size)).mono HB.out.size));clear hb7 hbr
    go_wp2_with fail
    refine Lex.ze ?_
    go_wp2_with fail
    go_ret
    exact⟨by rw[HE.out]<;>rfl,HB7.out⟩
  | true=>
  rw[hs,Bool.true_and] at hra htk
  have HHS:=zh hs;clear hs
  rcases Nat.eq_zero_or_pos k with hk0|hkp
  ·have hl0:(S.take k).getLast? = none:=by rw[hk0]<;>rfl
   rw[hl0] at htk
   have zbI : Own.Av Own.Bb (fun x y=>Own.Ak x.pre y.pre) none (S.take (k+1))=true:=htk
   have HT:=zh zbI
   have HK0:=zh hk0
   have dz:decide ((0:Int)<(k:Int))=false:=zf
   have dz' : decide (0<k)=false:=zf
   clear hl0 hra htk zbI hk0
   go_wp2_with fail
   refine Lex.zl ?_
   go_wp2_with fail
   refine vK.out.mono ?_
   rintro e3 w7 ⟨rfl,hb7⟩
   rw[HHS.out]
   have zeG:=mQ.out.trans (hb7.mono mQ.out.size)
   have g1:=((HA.out.below (hbr.trans (zeG.mono hbr.size)) hz1)).cell 1
   have g0:=(zeG.cell (p:=⟨b,o+k*3,none⟩) hbl).trans e0
   simp only[zg] at g1
   try have f1:=(zeG.cell (p:=⟨b,o+i*3,none⟩) hbl).trans F0.out
   have HB7:=zh (hbr.trans (zeG.mono hbr.size));clear hb7 zeG hbr
   go_wp2_with fail
   refine Lex.ze ?_
   go_wp2_with fail
   exact⟨⟨k+1,by omega,by go_num,HT.out,HB7.out⟩,by simp[intOf];omega⟩
  ·obtain⟨i,hi⟩:∃ i,k=i+1:=⟨k-1,by omega⟩
   obtain⟨x,f0,hx⟩:=TI.out i hi
   rw[hx] at hra htk
   have PW:R=(Own.Ak x.pre sp.pre&&rest):=hra
   have Ot:Own.Av Own.Bb (fun x y=>Own.Ak x.pre y.pre) none (S.take (k+1))=Own.Ak x.pre sp.pre:=htk
   have dz:decide ((0:Int)<(k:Int))=true:=zt
   have dz' : decide (0<k)=true:=zt
   have ek:(k:Int)-1=(i:Int):=by omega
   have hjl:i<S.length:=by omega
   have F0:=zh f0
   cases hlb:Own.Ak x.pre sp.pre with
   | false =>
     have e:R=false:=by rw[PW,hlb]<;>rfl
     have HE:=zh e
     have zdp : Op.bytesLess x.pre.toList sp.pre.toList=false:=hlb
     clear e hra htk PW Ot hx f0 hi hlb
     go_wp2_with fail
     refine Lex.zl ?_
     go_wp2_with fail
     refine vK.out.mono ?_
     rintro e3 w7 ⟨rfl,hb7⟩
     rw[HHS.out]
     have zeG:=mQ.out.trans (hb7.mono mQ.out.size)
     have g1:=((HA.out.below (hbr.trans (zeG.mono hbr.size)) hz1)).cell 1
     have g0:=(zeG.cell (p:=⟨b,o+k*3,none⟩) hbl).trans e0
     simp only[zg] at g1
     try have f1:=(zeG.cell (p:=⟨b,o+i*3,none⟩) hbl).trans F0.out
     have HB7:=zh (hbr.trans (zeG.mono hbr.size));clear hb7 zeG hbr
     go_wp2_with fail
     refine Lex.ze ?_
     go_wp2_with fail
     go_ret
     exact⟨by rw[HE.out]<;>rfl,HB.out.trans (HB7.out.mono HB.out.size)⟩
   | true =>
     rw[hlb] at Ot
     have HT:=zh Ot
     have zdp : Op.bytesLess x.pre.toList sp.pre.toList=true:=hlb
     clear hra htk PW Ot hx f0 hi hlb
     go_wp2_with fail
     refine Lex.zl ?_
     go_wp2_with fail
     refine vK.out.mono ?_
     rintro e3 w7 ⟨rfl,hb7⟩
     rw[HHS.out]
     have zeG:=mQ.out.trans (hb7.mono mQ.out.size)
     have g1:=((HA.out.below (hbr.trans (zeG.mono hbr.size)) hz1)).cell 1
     have g0:=(zeG.cell (p:=⟨b,o+k*3,none⟩) hbl).trans e0
     simp only[zg] at g1
     try have f1:=(zeG.cell (p:=⟨b,o+i*3,none⟩) hbl).trans F0.out
     have HB7:=zh (hbr.trans (zeG.mono hbr.size));clear hb7 zeG hbr
     go_wp2_with fail
     refine Lex.ze ?_
     go_wp2_with fail
     exact⟨⟨k+1,by omega,by go_num,HT.out,HB7.out⟩,by simp[intOf];omega⟩
namespace Own
theorem zfO (l:List KeyUse)(x:KeyUse):(use l x).length<=l.length+1:=by
 induction l with
 | nil=>exact Nat.le_refl _
 | cons k l ih =>
   unfold use
   split
   ·rw[List.length_cons,List.length_cons];omega
   ·split
    ·rw[List.length_cons,List.length_cons];omega
    ·rw[List.length_cons,List.length_cons];omega
end Own
namespace Own
theorem zeO (s:Space)(msg:ByteArray):∀ (l:List Aj) (seen:List ByteArray) (K K' : List KeyUse),Bp s msg seen K l=.ok K' -> K'.length<=K.length+l.length
 | [],seen,K,K',h => by
   unfold Bp at h
   cases h
   simp
 | a :: l,seen,K,K',h => by
   unfold Bp at h
   split at h
   ·cases h
   ·split at h
    ·cases h
    ·split at h
     ·split at h
      ·cases h
      ·have h1:=zeO s msg l _ _ _ h
       have h2:=fun p=>zfO K ⟨p,a.sig.index+1⟩
       rw[List.length_cons]
       exact Nat.le_trans h1 (Nat.le_trans (Nat.add_le_add_right (h2 _) _) (by omega))
     ·cases h
end Own
structure OwB (w:World) (b:Nat) (n:Int) (S:List Own.Space) (K:List Own.KeyUse) (sv kv:Value):Prop where
 at_:At w b 25 #[.int .i64 n,sv,kv]
 sp:Own.BH w sv S
 ks:Own.D9 w kv K
section
variable {w w' : World} {b:Nat} {n:Int} {S:List Own.Space} {K:List Own.KeyUse} {sv kv cv pv:Value} {a:Own.Aj}
theorem OwB.below (h:OwB w b n S K sv kv)(hb:Below w.heap.size w w'):OwB w' b n S K sv kv:=⟨h.at_.below hb h.at_.lt,h.sp.below hb,h.ks.below hb⟩
theorem OwB.new (hs:Own.BH w sv S)(hk:Own.D9 w kv K)(n:Int):OwB (w.alloc (.cells #[.int .i64 n,sv,kv] 25)) w.heap.size n S K sv kv:=
 have hb:=(Below.refl w.heap.size w).alloc (Nat.le_refl _) (.cells #[.int .i64 n,sv,kv] 25)
 ⟨At.new w _ _,hs.below hb,hk.below hb⟩
theorem OwB.put (h:OwB w b n S K sv kv){n' : Int}{S' : List Own.Space}{K' : List Own.KeyUse}{sv' kv' : Value}(hs:Au 3 Own.Fu (fun k=>k≠b) w sv' S')(hk:Au 2 Own.fG (fun k=>k≠b) w kv' K'):
 OwB (((w.setCell ⟨b,0,none⟩ (.int .i64 n')).setCell ⟨b,1,none⟩ sv').setCell ⟨b,2,none⟩ kv') b n' S' K' sv' kv':=by
 have IZ:∀ k,k≠b->(((w.setCell ⟨b,0,none⟩ (.int .i64 n')).setCell ⟨b,1,none⟩ sv').setCell ⟨b,2,none⟩ kv').heap[k]? = w.heap[k]? :=fun k hk=>by rw[zo hk,zo hk,zo hk]
 have hsz:(((w.setCell ⟨b,0,none⟩ (.int .i64 n')).setCell ⟨b,1,none⟩ sv').setCell ⟨b,2,none⟩ kv').heap.size=w.heap.size:=by simp[World.setCell]
 refine⟨?_,(hs.keep (Nat.le_of_eq hsz.symm) (fun k hk _=>IZ k hk)).mono (fun _ _ _=>trivial),(hk.keep (Nat.le_of_eq hsz.symm) (fun k hk _=>IZ k hk)).mono (fun _ _ _=>trivial)⟩
 have ht:=((h.at_.set 0 (.int .i64 n')).set 1 sv').set 2 kv'
 simpa using ht
end
end
section
open Go
namespace Own
theorem zfC {o:Ar}{op:Op}(h:(Co o op).2=0):(Co o op).1.keys.length<=o.keys.length+op.Aa.length:=by
 unfold Co at h ⊢
 split
 ·exact Nat.zero_le _
 ·split
  ·exact Nat.zero_le _
  ·cases hw:FZ o.spaces op with
   | error c=>exact Nat.zero_le _
   | ok p =>
     obtain⟨s,l⟩:=p
     dsimp only
     cases ha:AX s (Bc o op).1 o.keys op.Aa with
     | error c=>exact Nat.zero_le _
     | ok K =>
       show K.length<=_
       unfold AX at ha
       split at ha
       ·cases ha
       ·rename_i K2 he
        split at ha
        ·cases ha
        ·cases ha
         exact zeO s _ _ [] o.keys _ he
theorem zfD {o:Ar}{op:Op}(h:(Co o op).2≠0):(Co o op).1=.none:=by
 unfold Co at h ⊢
 split
 ·rfl
 ·split
  ·rfl
  ·cases hw:FZ o.spaces op with
   | error c=>rfl
   | ok p =>
     obtain⟨s,l⟩:=p
     dsimp only
     cases ha:AX s (Bc o op).1 o.keys op.Aa with
     | error c=>rfl
     | ok K =>
       exfalso
       rename_i h1 h2
       rw[if_neg h1,if_neg h2,hw] at h
       dsimp only at h
       rw[ha] at h
       exact h rfl
theorem zeP {o:Ar}(h:Bz o=true):o.spaces.length<=64/\(∀ s∈o.spaces,s.members.length<=64)/\0<=o.count/\o.count<=1099511627776:=by
 have hO:=Tq.iff.1 h
 refine⟨hO.len,fun s hs=>?_,hO.c0,hO.c1⟩
 have h1:=hO.sp s hs
 unfold Bb Cw at h1
 simp only[Bool.and_eq_true,decide_eq_true_eq] at h1
 omega
end Own
end
section
open Go Go.RowKit Go.Maps
namespace Own
def ROp:Elem Op:=fun F w cs o=>∃ mv av,cs=[.int .i64 o.kind,.string o.pre,mv,.int .i64 o.threshold,.string o.name,.string o.pub,av]/\Au 2 Ed F w mv o.members/\Au 4 RAp F w av o.Aa
instance:Dp ROp:=⟨fun⟨m,a,h1,h2,h3⟩ hs hk=>⟨m,a,h1,h2.keep hs hk,h3.keep hs hk⟩,fun⟨m,a,h1,h2,h3⟩ hF=>⟨m,a,h1,h2.mono hF,h3.mono hF⟩⟩
theorem zff {w:World}{a:Option Addr}{n c:Nat}{l:List Op}(h:Au 7 ROp fE w (.slice a n c) l){i:Nat}(hi:i<l.length):∃ b o mv av,a=some ⟨b,o,none⟩/\b<w.heap.size/\w.cell? ⟨b,o+i*7,none⟩=some (.int .i64 l[i].kind)/\w.cell? ⟨b,o+i*7+1,none⟩=some (.string l[i].pre)/\
 w.cell? ⟨b,o+i*7+2,none⟩=some mv/\w.cell? ⟨b,o+i*7+3,none⟩=some (.int .i64 l[i].threshold)/\w.cell? ⟨b,o+i*7+4,none⟩=some (.string l[i].name)/\w.cell? ⟨b,o+i*7+5,none⟩=some (.string l[i].pub)/\w.cell? ⟨b,o+i*7+6,none⟩=some av/\Ag w mv l[i].members/\Yg w av l[i].Aa:=by
 obtain⟨b,o,ha,_,hb,cs,h1,h2,mv,av,h3,h4,h5⟩:=h.at_ hi
 subst h3
 exact⟨b,o,mv,av,ha,hb,h2 0 _ rfl,h2 1 _ rfl,h2 2 _ rfl,h2 3 _ rfl,h2 4 _ rfl,h2 5 _ rfl,h2 6 _ rfl,h4,jO h5⟩
end Own
end
section
open Go Go.RowKit Go.Maps
theorem zf1 (g:Nat)(lb:Array Value)(eg:∀ args w,(callFunc g args).run Tryz.prog w=.ok (.enter g args) w)(p:Own.KeyUse->Bool)(v:Value)(l:List Own.KeyUse)(w:World)(h:Own.D9 w v l)(hl:l.length<=140737488355328)
 (hp:∀ (W:World) (x:Own.KeyUse),Below w.heap.size w W->Calls Tryz.prog g (#[.agg #[.string x.pub,.int .i64 x.next]]++lb) W fun e w' => e=.returned (.bool (p x))/\Below W.heap.size W w'):
 Calls Tryz.prog 95 #[v,.func (.func g) #[] lb] w fun e w' => (∃ i,e=.returned (.int .i64 i)/\Own.Idx p l i)/\Below w.heap.size w w':=by
 obtain⟨a,c,rfl⟩:=h.len
 have HL:=zh h;have HP:=zh hp;clear h hp
 go_enter Tryz.func95,Tryz.ntmps95
 go_wp2_with fail
 go_loopw [8] (fun i wr=>∃ k:Nat,∃ hk:k<=l.length,i=.int .i64 k/\(∀ j (hj:j<k),p (l[j]'(by omega))=false)/\Below w.heap.size w wr) (fun i _=>l.length-(intOf i).toNat)
 case atStart=>exact⟨0,by omega,rfl,(fun j hj=>absurd hj (by omega)),Below.refl _ _⟩
 case round=>
  obtain⟨k,hk,rfl,hn,hb⟩:=hrel
  have HBW:=zh hb;have HN:=zh hn
  by_cases hlt:k<l.length
  case neg=>
   have hke:k=l.length:=by omega
   have dk:decide ((k:Int)<l.length)=false:=zf
   have hix:=Own.Idx.miss (p:=p) (l:=l) (fun j hj=>hn j (by omega))
   have HIX:=zh hix
   clear hix hke hb hn
   go_wp2_with fail
   go_ret
   exact⟨⟨_,rfl,HIX.out⟩,HBW.out⟩
  have dk:decide ((k:Int)<l.length)=true:=zt
  obtain⟨b,o,ha,hbl,e0,e1⟩:=Own.D9.cells (HL.out.below hb) hlt
  subst ha
  have hcall:=HP.out wr l[k] hb
  obtain⟨nm,hnm⟩:∃ x,x=l[k].pub:=⟨_,rfl⟩
  obtain⟨pb,hpb⟩:∃ x,x=l[k].next:=⟨_,rfl⟩
  rw[<- hnm] at e0 hcall
  rw[<- hpb] at e1 hcall
  clear hb hn hnm hpb
  cases hq:p l[k] with
  | true =>
    rw[hq] at hcall
    have hix:=Own.Idx.hit hlt hq (HN.out)
    have HIX:=zh hix
    clear hix hq
    go_wp2_with (go_at_fn g;refine hcall.mono ?_;rintro e w' ⟨rfl,hb'⟩)
    go_ret
    exact⟨⟨_,rfl,HIX.out⟩,HBW.out.trans (hb'.mono HBW.out.size)⟩
  | false =>
    rw[hq] at hcall
    have hn2:∀ j (hj:j<k+1),p (l[j]'(by omega))=false:=fun j hj=>by
     by_cases e:j=k
     ·subst e;exact hq
     ·exact HN.out j (by omega)
    have HN2:=zh hn2
    clear hn2 hq
    go_wp2_with (go_at_fn g;refine hcall.mono ?_;rintro e w' ⟨rfl,hb'⟩)
    go_round
    case measure=>simp[intOf];omega
    case rel=>exact⟨k+1,by omega,by go_num,HN2.out,HBW.out.trans (hb'.mono HBW.out.size)⟩
theorem zf2 (g:Nat)(lb:Array Value)(eg:∀ args w,(callFunc g args).run Tryz.prog w=.ok (.enter g args) w)(p:Own.KeyUse->Bool)(v:Value)(l:List Own.KeyUse)(w:World)(h:Own.D9 w v l)(hl:l.length<=140737488355328)
 (hp:∀ (W:World) (x:Own.KeyUse),Below w.heap.size w W->Calls Tryz.prog g (#[.agg #[.string x.pub,.int .i64 x.next]]++lb) W fun e w' => e=.returned (.bool (p x))/\Below W.heap.size W w'):
 Calls Tryz.prog 36 #[v,.func (.func g) #[] lb] w fun e w' => e=.returned (.bool (l.any p))/\Below w.heap.size w w':=by
 have HI:=zh (zf1 g lb eg p v l w h hl hp);clear h hp
 go_enter Tryz.func36,Tryz.ntmps36
 go_wp2_with fail
 refine HI.out.mono ?_
 rintro e w2 ⟨⟨i,rfl,hi⟩,hb⟩
 have HB:=zh hb;have HJ:=zh hi.any;clear hb hi
 go_wp2_with fail
 go_ret
 exact⟨by rw[<- HJ.out]<;>rfl,HB.out⟩
theorem zfE (g:Nat)(lb:Array Value)(eg:∀ args w,(callFunc g args).run Tryz.prog w=.ok (.enter g args) w)(P:Own.Op->Prop)(v:Value)(l:List Own.Op)(w:World)(h:Au 7 Own.ROp Own.fE w v l)(hl:l.length<=140737488355328)
 (hp:∀ (W:World) (x:Own.Op) (mv av:Value),x∈l->Below w.heap.size w W->Own.Ag W mv x.members->Own.Yg W av x.Aa->Calls Tryz.prog g (#[Own.opV x mv av]++lb) W fun e w' => ∃ b,e=.returned (.bool b)/\(b=false->P x)/\Below W.heap.size W w'):
 Calls Tryz.prog 94 #[v,.func (.func g) #[] lb] w fun e w' => (∃ i,e=.returned (.int .i64 i)/\(i<0->∀ x∈l,P x))/\Below w.heap.size w w':=by
 obtain⟨a,c,rfl⟩:=h.len
 have HL:=zh h;have HP:=zh hp;clear h hp
 go_enter Tryz.func94,Tryz.ntmps94
 go_wp2_with fail
 go_loopw [8] (fun i wr=>∃ k:Nat,∃ hk:k<=l.length,i=.int .i64 k/\(∀ j (hj:j<k),P (l[j]'(by omega)))/\Below w.heap.size w wr) (fun i _=>l.length-(intOf i).toNat)
 case atStart=>exact⟨0,by omega,rfl,(fun j hj=>absurd hj (by omega)),Below.refl _ _⟩
 case round=>
  obtain⟨k,hk,rfl,hn,hb⟩:=hrel
  have HBW:=zh hb;have HN:=zh hn
  by_cases hlt:k<l.length
  case neg=>
   have hke:k=l.length:=by omega
   have dk:decide ((k:Int)<l.length)=false:=zf
   have hix:∀ x∈l,P x:=fun x hx=>by
    obtain⟨j,hj,rfl⟩:=List.getElem_of_mem hx
    exact hn j (by omega)
   have HIX:=zh hix
   clear hix hke hb hn
   go_wp2_with fail
   go_ret
   exact⟨⟨_,rfl,fun _=>HIX.out⟩,HBW.out⟩
  have dk:decide ((k:Int)<l.length)=true:=zt
  obtain⟨b,o,mv,av,ha,hbl,e0,e1,e2,e3,e4,e5,e6,hm,hap⟩:=Own.zff (HL.out.below hb) hlt
  subst ha
  have hcall:=HP.out wr l[k] mv av (List.getElem_mem hlt) hb hm hap
  obtain⟨ma,mc,rfl⟩:=hm.len
  obtain⟨aa,ac,rfl,_⟩:=id hap
  obtain⟨X,hX⟩:∃ x,x=l[k]:=⟨_,rfl⟩
  have hPX:P X->P l[k]:=fun h=>by rw[<- hX];exact h
  rw[<- hX] at e0 e1 e2 e3 e4 e5 e6 hcall
  have HPX:=zh hPX
  unfold Own.opV at hcall
  obtain⟨ze0,xp,xm,xt,xn,ze1,xa⟩:=X
  dsimp only at e0 e1 e2 e3 e4 e5 e6 hcall
  clear hb hn hX hm hap hPX
  go_wp2_with fail
  refine hcall.mono ?_
  rintro e w' ⟨bb,rfl,hbb,hb'⟩
  have HBB:=zh hbb;have HB':=zh hb'
  clear hbb hb' hcall
  cases bb with
  | true =>
    go_wp2_with fail
    go_ret
    exact⟨⟨_,rfl,fun h=>by omega⟩,HBW.out.trans (HB'.out.mono HBW.out.size)⟩
  | false =>
    have hn2:∀ j (hj:j<k+1),P (l[j]'(by omega)):=fun j hj=>by
     by_cases e:j=k
     ·subst e;exact HPX.out (HBB.out rfl)
     ·exact HN.out j (by omega)
    have HN2:=zh hn2
    clear hn2
    go_wp2_with fail
    go_round
    case measure=>simp[intOf];omega
    case rel=>exact⟨k+1,by omega,by go_num,HN2.out,HBW.out.trans (HB'.out.mono HBW.out.size)⟩
theorem zfF (g:Nat)(lb:Array Value)(eg:∀ args w,(callFunc g args).run Tryz.prog w=.ok (.enter g args) w)(P:Own.Op->Prop)(v:Value)(l:List Own.Op)(w:World)(h:Au 7 Own.ROp Own.fE w v l)(hl:l.length<=140737488355328)
 (hp:∀ (W:World) (x:Own.Op) (mv av:Value),x∈l->Below w.heap.size w W->Own.Ag W mv x.members->Own.Yg W av x.Aa->Calls Tryz.prog g (#[Own.opV x mv av]++lb) W fun e w' => ∃ b,e=.returned (.bool b)/\(b=false->P x)/\Below W.heap.size W w'):
 Calls Tryz.prog 34 #[v,.func (.func g) #[] lb] w fun e w' => (∃ b,e=.returned (.bool b)/\(b=false->∀ x∈l,P x))/\Below w.heap.size w w':=by
 have HI:=zh (zfE g lb eg P v l w h hl hp);clear h hp
 go_enter Tryz.func34,Tryz.ntmps34
 go_wp2_with fail
 refine HI.out.mono ?_
 rintro e w2 ⟨⟨i,rfl,hi⟩,hb⟩
 have HB:=zh hb;have HJ:=zh hi;clear hb hi
 go_wp2_with fail
 go_ret
 exact⟨⟨_,rfl,fun h=>HJ.out (by simpa using h)⟩,HB.out⟩
namespace Own
def zfr (op:Op):Prop:=op.pre.size+op.name.size+op.pub.size<=300/\zfz op.members/\op.Aa.length<=5/\∀ a∈op.Aa,zfB a
end Own
theorem zfj (op:Own.Op)(mv av:Value)(w:World)(hm:Own.Ag w mv op.members)(hA:Own.Yg w av op.Aa)(hml:op.members.length<=140737488355328)(hal:op.Aa.length<=140737488355328)
 (hz:op.pre.size<=140737488355328/\op.name.size<=140737488355328/\op.pub.size<=140737488355328) (hsz:∀ a∈op.Aa,∀ x∈a.sig.chains++a.sig.path,x.size<=140737488355328):
 Calls Tryz.prog 13 #[Own.opV op mv av] w (Own.zeC (Own.zfr op) w):=by
 obtain⟨Q,hQ⟩:∃ Q,Q=Own.zeC (Own.zfr op) w:=⟨_,rfl⟩
 rw[<- hQ]
 have HQ:=zh hQ;clear hQ
 unfold Own.opV
 obtain⟨ma,mc,rfl⟩:=hm.len
 obtain⟨aa,ac,rfl,hap⟩:=id hA
 clear hap
 obtain⟨z1,z2,z3⟩:=hz
 have F1:=zh (show Aw w _ [(29,#[.int .i64 op.kind,.string op.pre,.slice ma op.members.length mc,.int .i64 op.threshold,.string op.name,.string op.pub,.slice aa op.Aa.length ac])] from((Dj.nil w).push 29 #[.int .i64 op.kind,.string op.pre,.slice ma op.members.length mc,.int .i64 op.threshold,.string op.name,.string op.pub,.slice aa op.Aa.length ac]).boxes)
 have hfm:=fun W (hW:Below w.heap.size w W)=>zeD _ op.members W (hm.below hW) hml
 have hfa:=fun W (hW:Below w.heap.size w W)=>zeM _ op.Aa W (hA.below hW) hal hsz
 have HFM:=zh hfm;have HFA:=zh hfa
 clear hm hA hfm hfa hsz
 go_enter Tryz.func13,Tryz.ntmps13
 go_upto_region 1 with fail
 generalize (w.alloc (.cells #[.int .i64 op.kind,.string op.pre,.slice ma op.members.length mc,.int .i64 op.threshold,.string op.name,.string op.pub,.slice aa op.Aa.length ac] 29))=w1 at*
 obtain⟨x00,x01,x02,x03,x04,x05,x06⟩:=F1.out.KF rfl
 have hwr:wrap64 ((op.pre.size:Int)+(op.name.size:Int))=(op.pre.size:Int)+(op.name.size:Int):=by unfold wrap64;omega
 by_cases h3:op.pre.size+op.name.size+op.pub.size<=300
 case neg=>
  have d1:decide ((op.pre.size:Int)+(op.name.size:Int)+(op.pub.size:Int)<=300)=false:=zf
  go_wp2_with fail
  (try go_ret)
  rw[HQ.out]
  exact⟨false,rfl,(fun h=>by cases h),F1.out.under⟩
 have d1:decide ((op.pre.size:Int)+(op.name.size:Int)+(op.pub.size:Int)<=300)=true:=zt
 have H3:=zh h3
 go_wp2_with fail
 refine(HFM.out w1 F1.out.under).mono ?_
 rintro e w2 ⟨q,rfl,hq,hb2⟩
 have F2:=zh (F1.out.step hb2);have HQ1:=zh hq
 clear hb2 hq
 (try clear x00 x01 x02 x03 x04 x05 x06)
 obtain⟨x00,x01,x02,x03,x04,x05,x06⟩:=F2.out.KF rfl
 cases q with
 | false =>
   go_wp2_with fail
   (try go_ret)
   rw[HQ.out]
   exact⟨false,rfl,(fun h=>by cases h),F2.out.under⟩
 | true=>
 go_wp2_with fail
 refine(HFA.out w2 F2.out.under).mono ?_
 rintro e w3 ⟨q,rfl,hq,hb3⟩
 have F3:=zh (F2.out.step hb3);have HQ2:=zh hq
 clear hb3 hq
 cases q with
 | false =>
   go_wp2_with fail
   (try go_ret)
   rw[HQ.out]
   exact⟨false,rfl,(fun h=>by cases h),F3.out.under⟩
 | true=>
 go_wp2_with fail
 (try go_ret)
 rw[HQ.out]
 exact⟨true,rfl,(fun _=>⟨H3.out,HQ1.out trivial,HQ2.out trivial⟩),F3.out.under⟩
def zgg (x:Own.Op):Prop:=x.members.length<=140737488355328/\x.Aa.length<=140737488355328/\(x.pre.size<=140737488355328/\x.name.size<=140737488355328/\x.pub.size<=140737488355328)/\(∀ a∈x.Aa,∀ y∈a.sig.chains++a.sig.path,y.size<=140737488355328)
theorem zf3 (x:Own.Op)(mv av:Value)(w:World)(hm:Own.Ag w mv x.members)(hA:Own.Yg w av x.Aa)(hx:zgg x):
 Calls Tryz.prog 35 #[Own.opV x mv av] w fun e w' => ∃ b,e=.returned (.bool b)/\(b=false->Own.zfr x)/\Below w.heap.size w w':=by
 have hf:=fun W (hW:Below w.heap.size w W)=>zfj x mv av W (hm.below hW) (hA.below hW) hx.1 hx.2.1 hx.2.2.1 hx.2.2.2
 obtain⟨ma,mc,rfl⟩:=hm.len
 obtain⟨aa,ac,rfl,hz⟩:=id hA
 clear hz
 have HF:=zh hf
 clear hf hm hA hx
 obtain⟨Q,hQ⟩:∃ Q,Q=Own.zfr x:=⟨_,rfl⟩
 rw[<- hQ] at HF ⊢
 clear hQ
 unfold Own.opV at*
 obtain⟨ze0,xp,xm,xt,xn,ze1,xa⟩:=x
 dsimp only at*
 have F1:=zh (show Aw w _ [(29,#[.int .i64 ze0,.string xp,.slice ma xm.length mc,.int .i64 xt,.string xn,.string ze1,.slice aa xa.length ac])] from((Dj.nil w).push 29 #[.int .i64 ze0,.string xp,.slice ma xm.length mc,.int .i64 xt,.string xn,.string ze1,.slice aa xa.length ac]).boxes)
 go_enter Tryz.func35,Tryz.ntmps35
 go_upto_region 1 with fail
 generalize (w.alloc (.cells #[.int .i64 ze0,.string xp,.slice ma xm.length mc,.int .i64 xt,.string xn,.string ze1,.slice aa xa.length ac] 29))=w1 at*
 obtain⟨x00,x01,x02,x03,x04,x05,x06⟩:=F1.out.KF rfl
 go_wp2_with fail
 refine(HF.out w1 F1.out.under).mono ?_
 rintro e w2 ⟨b,rfl,hb,hb2⟩
 have F2:=zh (F1.out.step hb2);have HB:=zh hb
 clear hb hb2 F1
 go_wp2_with fail
 go_ret
 exact⟨!b,rfl,fun h=>HB.out (by cases b<;>simp_all),F2.out.under⟩
theorem zf4 (x:Own.KeyUse)(kb:Nat)(kp:ByteArray)(kn:Int)(w:World)(h0:w.cell? ⟨kb,0,none⟩=some (.string kp))(h1:w.cell? ⟨kb,1,none⟩=some (.int .i64 kn)):
 Calls Tryz.prog 37 (#[.agg #[.string x.pub,.int .i64 x.next]]++#[.pointer (some ⟨kb,0,none⟩)]) w fun e w' => e=.returned (.bool (decide (x.pub=kp)&&decide (kn<=x.next)))/\Below w.heap.size w w':=by
 obtain⟨xp,xn⟩:=x
 dsimp only
 obtain⟨R,hR⟩:∃ R,R=(decide (xp=kp)&&decide (kn<=xn)):=⟨_,rfl⟩
 rw[<- hR]
 have F1:=zh (show Aw w _ [(59,#[.string xp,.int .i64 xn])] from((Dj.nil w).push 59 #[.string xp,.int .i64 xn]).boxes)
 have H0:=zh (fun W (hW:Below w.heap.size w W)=>(hW.cell (p:=⟨kb,0,none⟩) (block_lt h0)).trans h0)
 have H1:=zh (fun W (hW:Below w.heap.size w W)=>(hW.cell (p:=⟨kb,1,none⟩) (block_lt h1)).trans h1)
 clear h0 h1
 go_enter Tryz.func37,Tryz.ntmps37
 go_upto_region 1 with fail
 generalize (w.alloc (.cells #[.string xp,.int .i64 xn] 59))=w1 at*
 obtain⟨x00,x01⟩:=F1.out.zb5 rfl
 have y0:=H0.out w1 F1.out.under;have y1:=H1.out w1 F1.out.under
 by_cases hp:xp=kp
 ·have q1:(xp.toList==kp.toList)=true:=by rw[bytes_beq];exact decide_eq_true hp
  by_cases hn:kn<=xn
  ·have d:decide (kn<=xn)=true:=decide_eq_true hn
   have HE:=zh (show R=true by rw[hR,decide_eq_true hp,decide_eq_true hn]<;>rfl)
   clear hR hp hn
   go_wp2_with fail
   go_ret
   exact⟨by rw[HE.out]<;>rfl,F1.out.under⟩
  ·have d:decide (kn<=xn)=false:=decide_eq_false hn
   have HE:=zh (show R=false by rw[hR,decide_eq_true hp,decide_eq_false hn]<;>rfl)
   have hn' : ¬ kn<=xn:=hn
   clear hR hp hn
   go_wp2_with fail
   go_ret
   exact⟨by rw[HE.out]<;>rfl,F1.out.under⟩
 ·have q1:(xp.toList==kp.toList)=false:=by rw[bytes_beq];exact decide_eq_false hp
  have HE:=zh (show R=false by rw[hR,decide_eq_false hp]<;>rfl)
  clear hR hp
  go_wp2_with fail
  go_ret
  exact⟨by rw[HE.out]<;>rfl,F1.out.under⟩
theorem zf5 (o:Own.Ar)(l:List Own.Op)(sv kv lv:Value)(w:World)(hM:IW w)(hS:Own.BH w sv o.spaces)(hK:Own.D9 w kv o.keys)(hL:Au 7 Own.ROp Own.fE w lv l)
 (hls:o.spaces.length<=140737488355328) (hlk:o.keys.length<=140737488355328) (hlm:∀ s∈o.spaces,s.members.length<=140737488355328/\s.pre.size<=140737488355328) (hll:l.length<=140737488355328) (hop:∀ x∈l,zgg x):
 Calls Tryz.prog 6 #[.agg #[.int .i64 o.count,sv,kv],lv] w fun e w' => e=.returned (.bool true)/\Below w.heap.size w w':=by
 obtain⟨sa,sc,rfl⟩:=hS.len
 obtain⟨ka,kc,rfl⟩:=hK.len
 obtain⟨la,lc,rfl⟩:=hL.len
 have hfo:=fun W (hW:Below w.heap.size w W)=>zf0 o _ _ W (hS.below hW) (hK.below hW) hls hlk (fun s hs=>(hlm s hs).1)
 have hvl:=fun W (hW:Below w.heap.size w W)=>zfi o _ _ W (hS.below hW) (hK.below hW) hls hlk hlm
 have hcf:=fun W (hW:Below w.heap.size w W)=>zfF 35 #[] Tryz.call35 Own.zfr _ l W (hL.below hW) hll (fun W' x mv av hx hb hm ha=>zf3 x mv av W' hm ha (hop x hx))
 have HFO:=zh hfo;have HVL:=zh hvl;have HCF:=zh hcf;have HM:=zh hM;have HL:=zh hL;have HS:=zh hS;have HK:=zh hK
 clear hfo hvl hcf hM hL hS hK hls hlk hlm hop
 have ha0:=At.new w 25 #[.int .i64 o.count,.slice sa o.spaces.length sc,.slice ka o.keys.length kc]
 have hb0:=(Below.refl w.heap.size w).alloc (Nat.le_refl _) (.cells #[.int .i64 o.count,.slice sa o.spaces.length sc,.slice ka o.keys.length kc] 25)
 have O1:=zh (OwB.new HS.out HK.out o.count);have B1:=zh hb0
 clear ha0 hb0 HS HK
 go_enter Tryz.func6,Tryz.ntmps6
 go_upto_region 1 with fail
 generalize w.alloc (.cells #[.int .i64 o.count,.slice sa o.spaces.length sc,.slice ka o.keys.length kc] 25)=w1 at*
 obtain⟨b,hbe⟩:∃ b,b=w.heap.size:=⟨_,rfl⟩
 rw[<- hbe] at O1 ⊢
 have hwb:w.heap.size<=b:=Nat.le_of_eq hbe.symm
 clear hbe
 go_wp2_with fail
 refine(awake53_any w1 (HM.out.below B1.out)).mono ?_
 rintro e w2 ⟨rfl,hb⟩
 have O2:=zh (O1.out.below hb);have B2:=zh (B1.out.trans (hb.mono B1.out.size))
 clear hb O1 B1
 obtain⟨c0,c1,c2⟩:=O2.out.at_.c3
 go_wp2_with fail
 refine(HFO.out w2 B2.out).mono ?_
 rintro e w3 ⟨bb,rfl,hfb,hb⟩
 have O3:=zh (O2.out.below hb);have B3:=zh (B2.out.trans (hb.mono B2.out.size));have HFB:=zh hfb
 clear hb hfb O2 B2 c0 c1 c2
 cases bb with
 | false =>
   go_wp2_with fail
   go_ret
   exact⟨rfl,B3.out⟩
 | true=>
 by_cases h5:5<l.length
 ·have d:decide (5<(l.length:Int))=true:=zt
  have d' : decide (5<l.length)=true:=decide_eq_true h5
  go_wp2_with fail
  go_ret
  exact⟨rfl,B3.out⟩
 have d:decide (5<(l.length:Int))=false:=zf
 have d' : decide (5<l.length)=false:=decide_eq_false h5
 go_wp2_with fail
 refine(HCF.out w3 B3.out).mono ?_
 rintro e w4 ⟨⟨bc,rfl,hfc⟩,hb⟩
 have O4:=zh (O3.out.below hb);have B4:=zh (B3.out.trans (hb.mono B3.out.size));have HFC:=zh hfc
 clear hb hfc O3 B3
 cases bc with
 | true =>
   go_wp2_with fail
   go_ret
   exact⟨rfl,B4.out⟩
 | false=>
 obtain⟨c0,c1,c2⟩:=O4.out.at_.c3
 go_wp2_with fail
 refine(HVL.out w4 B4.out).mono ?_
 rintro e w5 ⟨rfl,hb⟩
 have O5:=zh (O4.out.below hb);have B5:=zh (B4.out.trans (hb.mono B4.out.size))
 clear hb O4 B4 c0 c1 c2
 cases hv:Own.Bz o with
 | false =>
   go_wp2_with fail
   go_ret
   exact⟨rfl,B5.out⟩
 | true=>
 have zfI:=HFC.out (by first|trivial|rfl)
 have hk0:o.keys.length<=40:=(HFB.out (by first|trivial|rfl)).2.1
 have zfq:=zh zfI;have HV:=zh hv;have HK0:=zh hk0
 clear zfI hv hk0 HFB HFC HFO HVL HCF
 go_wp2_with fail
 go_loopw [32] (fun i wr=>∃ k:Nat,∃ hk:k<=l.length,i=.int .i64 k/\∃ (oc:Own.Ar) (sv kv:Value),Own.Bz oc=true/\oc.keys.length<=40+5*k/\OwB wr b oc.count oc.spaces oc.keys sv kv/\Below w.heap.size w wr) (fun i _=>l.length-(intOf i).toNat)
 case atStart=>exact⟨0,by omega,rfl,o,_,_,HV.out,HK0.out,O5.out,B5.out⟩
 case round=>
  obtain⟨k,hk,rfl,oc,sv,kv,hvc,hkc,hO,hb⟩:=hrel
  obtain⟨va,vc,rfl⟩:=hO.sp.len
  obtain⟨ya,yc,rfl⟩:=hO.ks.len
  have OR:=zh hO;have ze2:=zh hb;have HVC:=zh hvc;have HKC:=zh hkc
  by_cases hlt:k<l.length
  case neg=>
   have dk:decide ((k:Int)<l.length)=false:=zf
   clear hO hb hvc hkc
   go_wp2_with fail
   go_ret
   exact⟨rfl,ze2.out⟩
  have dk:decide ((k:Int)<l.length)=true:=zt
  obtain⟨gb,go,mv,av,ha,hbl,e0,e1,e2,e3,e4,e5,e6,hm,hap⟩:=Own.zff (HL.out.below hb) hlt
  subst ha
  obtain⟨ma,mc,rfl⟩:=hm.len
  obtain⟨aa,ac,rfl,hz⟩:=id hap
  clear hz
  have hfx:=zfq.out l[k] (List.getElem_mem hlt)
  obtain⟨X,hX⟩:∃ x,x=l[k]:=⟨_,rfl⟩
  rw[<- hX] at e0 e1 e2 e3 e4 e5 e6 hm hap hfx
  have hvz:=Own.zeP hvc
  have zfP:=fun W (hW:Below wr.heap.size wr W)=>(QS oc X (.slice va oc.spaces.length vc) (.slice ya oc.keys.length yc) (.slice ma X.members.length mc) (.slice aa X.Aa.length ac) W (HM.out.below (hb.trans (hW.mono hb.size))) (hO.sp.below hW) (hO.ks.below hW) (hm.below hW) (hap.below hW).out (by omega) (by omega) (fun s hs=>by have:=hvz.2.1 s hs;omega) (by have:=hfx.2.1.1;omega) (fun a ha=>by obtain⟨q1,q2,q3⟩:=hfx.2.2.2 a ha;exact⟨by omega,by omega,by omega⟩)).mono (fun _ _ h=>h.val)
  have hlen :=@Own.zfC oc X
  have hok :=@Own.qW oc X
  have hnot :=@Own.zfD oc X
  have zgh:=hfx.2.2.1
  unfold Own.opV at zfP
  obtain⟨R,hR⟩:∃ R,R=Own.Co oc X:=⟨_,rfl⟩
  rw[<- hR] at hlen hok hnot
  simp only[<- hR] at zfP
  obtain⟨ze0,xp,xm,xt,xn,ze1,xa⟩:=X
  obtain⟨y,code⟩:=R
  dsimp only at*
  have HAP:=zh zfP;have HLEN:=zh hlen;have HOK:=zh hok;have zga:=zh hnot;have HA5:=zh zgh;have HVZ:=zh hvz
  clear hX hm hap hfx zfP hlen hok hnot hR hO hb hvc hkc zgh hvz
  go_upto_region 8 with fail
  have hb:=(Below.refl wr.heap.size wr).alloc (Nat.le_refl _) (.cells #[.int .i64 ze0,.string xp,.slice ma xm.length mc,.int .i64 xt,.string xn,.string ze1,.slice aa xa.length ac] 29)
  have ze3:=zh (At.new wr 29 #[.int .i64 ze0,.string xp,.slice ma xm.length mc,.int .i64 xt,.string xn,.string ze1,.slice aa xa.length ac])
  have X6:=zh hb;have O6:=zh (OR.out.below hb)
  clear hb e0 e1 e2 e3 e4 e5 e6
  generalize wr.alloc (.cells #[.int .i64 ze0,.string xp,.slice ma xm.length mc,.int .i64 xt,.string xn,.string ze1,.slice aa xa.length ac] 29)=w6 at*
  have s0:=ze3.out.cell 0;have s1:=ze3.out.cell 1;have s2:=ze3.out.cell 2;have s3:=ze3.out.cell 3;have s4:=ze3.out.cell 4;have s5:=ze3.out.cell 5;have s6:=ze3.out.cell 6
  have c0:=O6.out.at_.cell 0;have c1:=O6.out.at_.cell 1;have c2:=O6.out.at_.cell 2
  simp only[zg] at s0 s1 s2 s3 s4 s5 s6 c0 c1 c2
  go_wp2_with fail
  refine(HAP.out w6 X6.out).mono ?_
  rintro e w7 ⟨sv2,kv2,rfl,hs2,hk2,hb⟩
  dsimp only at hs2 hk2
  have hb6:b<w6.heap.size:=O6.out.at_.lt
  obtain⟨pa,pc,rfl⟩:=hs2.len
  obtain⟨ra,rc,rfl⟩:=hk2.len
  have X7:=zh (X6.out.trans (hb.mono X6.out.size));have O7:=zh (O6.out.below hb)
  have B7:=zh (ze2.out.trans (X7.out.mono ze2.out.size))
  have S7:=zh (show Au 3 Own.Fu (fun k=>k≠b) w7 (.slice pa y.spaces.length pc) y.spaces from hs2.mono (fun k hk _=>by omega));have K7:=zh (show Au 2 Own.fG (fun k=>k≠b) w7 (.slice ra y.keys.length rc) y.keys from hk2.mono (fun k hk _=>by omega))
  clear hb hs2 hk2 s0 s1 s2 s3 s4 s5 s6 c0 c1 c2 hb6 ze3 O6 X6 HAP
  dsimp only
  go_upto_region 9 with fail
  obtain⟨yn,ze4,ze5⟩:=y
  dsimp only at S7 K7 HLEN HOK zga ⊢
  have hb:=(Below.refl w7.heap.size w7).alloc (Nat.le_refl _) (.cells #[.int .i64 yn,.slice pa ze4.length pc,.slice ra ze5.length rc] 25)
  have zgl:b<w7.heap.size:=O7.out.at_.lt
  have C8:=zh (At.new w7 25 #[.int .i64 yn,.slice pa ze4.length pc,.slice ra ze5.length rc])
  have O8:=zh (O7.out.below hb);have B8:=zh (B7.out.trans (hb.mono B7.out.size));have S8:=zh (S7.out.below hb);have K8:=zh (K7.out.below hb)
  clear hb S7 K7 O7 B7 X7
  generalize w7.alloc (.cells #[.int .i64 yn,.slice pa ze4.length pc,.slice ra ze5.length rc] 25)=w8 at*
  obtain⟨c,hc⟩:∃ x,x=w7.heap.size:=⟨_,rfl⟩
  have hbc:b≠c:=by omega
  rw[<- hc] at C8 ⊢
  clear hc zgl
  by_cases hcode:code=0
  case neg=>
   have hn:=zga.out hcode
   have dz:(code==(0:Int))=false:=by rw[beq_eq_false_iff_ne];exact hcode
   obtain⟨rfl,rfl,rfl⟩:yn=0/\ze4=[]/\ze5=[]:=by
    unfold Own.Ar.none at hn
    injection hn with h1 h2 h3
    exact⟨h1,h2,h3⟩
   have x0:=At.cell C8.out 0;have x1:=At.cell C8.out 1;have x2:=At.cell C8.out 2
   simp only[List.getElem?_toArray,List.getElem?_cons_zero,List.getElem?_cons_succ,List.length_nil] at x0 x1 x2
   clear hn
   go_wp2_with fail
   go_round
   case measure=>simp[intOf];omega
   case rel=>exact⟨k+1,by omega,by go_num,oc,_,_,HVC.out,by have:=HKC.out;omega,O8.out,B8.out⟩
  subst hcode
  obtain⟨hyv,hyc,hyk⟩:=HOK.out rfl
  have hyl:=HLEN.out rfl
  have hvz:=HVZ.out
  have hkc:=HKC.out
  have ha5:=HA5.out
  obtain rfl:yn=oc.count+1:=hyc
  have hn0:0<=oc.count:=hvz.2.2.1
  have hn1:oc.count<=1099511627776:=hvz.2.2.2
  have zgm:ze4.length<=64:=(Own.zeP hyv).1
  have zgi:∀ s∈ze4,s.members.length<=64:=(Own.zeP hyv).2.1
  have hval:=fun W (hW:Below w8.heap.size w8 W)=>KL ⟨oc.count+1,ze4,ze5⟩ (.slice pa ze4.length pc) (.slice ra ze5.length rc) W (HM.out.below (B8.out.trans (hW.mono B8.out.size))) ((S8.out.below hW).mono (fun _ _ _=>trivial)) ((K8.out.below hW).mono (fun _ _ _=>trivial)) (by show ze4.length<=_;omega) (by show ze5.length<=_;omega) (fun s hs=>by have:=zgi s hs;omega)
  rw[hyv] at hval
  have zgj:=zh hval;have HYV:=zh hyv;have HYK:=zh hyk
  have HYL:=zh (show ze5.length<=40+5*(k+1) by omega)
  have HYM:=zh (show ze5.length<=140737488355328 by omega)
  have HOM:=zh (show oc.keys.length<=140737488355328 by omega)
  clear hval hyv hyk hyl hvz hkc ha5 zgm zgi HOK zga HLEN HA5 HVZ
  obtain⟨x0,x1,x2⟩:=C8.out.c3
  go_wp2_with fail
  refine(zgj.out w8 (Below.refl _ _)).mono ?_
  rintro e w9 ⟨rfl,hb⟩
  have ze6:=zh (C8.out.below hb C8.out.lt);have O9:=zh (O8.out.below hb);have B9:=zh (B8.out.trans (hb.mono B8.out.size));have ze7:=zh (S8.out.below hb);have K9:=zh (K8.out.below hb)
  clear hb C8 O8 B8 S8 K8 zgj x0 x1 x2
  obtain⟨x0,x1,x2⟩:=ze6.out.c3;obtain⟨c0,c1,c2⟩:=O9.out.at_.c3
  go_wp2_with fail
  clear x0 x1 x2 c0 c1 c2
  go_loopw [73] (fun i wj=>∃ j:Nat,j<=oc.keys.length/\i=.int .i64 j/\Below w9.heap.size w9 wj) (fun i _=>oc.keys.length-(intOf i).toNat)
  case atStart=>exact⟨0,by omega,rfl,Below.refl _ _⟩
  case round=>
   obtain⟨j,hj,rfl,hbj⟩:=hrel
   have ze8:=zh hbj;have zgs:=HOM.out;have zgt:=HYM.out
   by_cases hjl:j<oc.keys.length
   case neg=>
    have dk2:decide ((j:Int)<oc.keys.length)=false:=zf
    have C10:=zh (ze6.out.below hbj ze6.out.lt);have O10:=zh (O9.out.below hbj);have S10:=zh (ze7.out.below hbj);have K10:=zh (K9.out.below hbj);have B10:=zh (B9.out.trans (hbj.mono B9.out.size))
    clear hbj
    have x0:=C10.out.cell 0;have x1:=C10.out.cell 1;have x2:=C10.out.cell 2
    have c0:=O10.out.at_.cell 0;have c1:=O10.out.at_.cell 1;have c2:=O10.out.at_.cell 2;have c0f:=O10.out.at_.free 0;have c1f:=O10.out.at_.free 1;have c2f:=O10.out.at_.free 2
    simp only[zg] at x0 x1 x2 c0 c1 c2
    go_wp2_with fail
    go_round
    case measure=>simp[intOf];omega
    case rel=>exact⟨k+1,by omega,by go_num,⟨oc.count+1,ze4,ze5⟩,_,_,HYV.out,HYL.out,O10.out.put S10.out K10.out,((B10.out.setCell (p:=⟨b,0,none⟩) hwb _).setCell (p:=⟨b,1,none⟩) hwb _).setCell (p:=⟨b,2,none⟩) hwb _⟩
   have dk2:decide ((j:Int)<oc.keys.length)=true:=zt
   obtain⟨gk,ok,hka,hgk,k0,k1⟩:=Own.D9.cells (O9.out.ks.below hbj) hjl
   subst hka
   have hyk:=HYK.out oc.keys[j] (List.getElem_mem hjl)
   obtain⟨kp,hkp⟩:∃ x,x=oc.keys[j].pub:=⟨_,rfl⟩
   obtain⟨kn,hkn⟩:∃ x,x=oc.keys[j].next:=⟨_,rfl⟩
   rw[<- hkp] at k0 hyk
   rw[<- hkn] at k1 hyk
   have hany:ze5.any (fun n=>decide (n.pub=kp)&&decide (kn<=n.next))=true:=by
    obtain⟨n,hn,h1,h2⟩:=hyk
    exact List.any_eq_true.2 ⟨n,hn,by rw[decide_eq_true h1,decide_eq_true h2]<;>rfl⟩
   have zgn:=zh hany
   clear hkp hkn hyk hany hbj
   go_upto_region 17 with fail
   have hb:=(Below.refl wr.heap.size wr).alloc (Nat.le_refl _) (.cells #[.string kp,.int .i64 kn] 59)
   have T11:=zh (At.new wr 59 #[.string kp,.int .i64 kn])
   have Y11:=zh (ze8.out.trans (hb.mono ze8.out.size))
   clear hb k0 k1
   generalize wr.alloc (.cells #[.string kp,.int .i64 kn] 59)=w11 at*
   have t0:=T11.out.cell 0;have t1:=T11.out.cell 1
   have C11:=zh (ze6.out.below Y11.out ze6.out.lt)
   have x0:=C11.out.cell 0;have x1:=C11.out.cell 1;have x2:=C11.out.cell 2
   simp only[zg] at x0 x1 x2 t0 t1
   have hcf:=zf2 37 #[.pointer (some ⟨wr.heap.size,0,none⟩)] Tryz.call37 (fun n=>decide (n.pub=kp)&&decide (kn<=n.next)) (.slice ra ze5.length rc) ze5 w11 ((K9.out.below Y11.out).mono (fun _ _ _=>trivial)) HYM.out (fun W x hW=>zf4 x wr.heap.size kp kn W ((hW.cell (p:=⟨wr.heap.size,0,none⟩) T11.out.lt).trans t0) ((hW.cell (p:=⟨wr.heap.size,1,none⟩) T11.out.lt).trans t1))
   rw[zgn.out] at hcf
   have HCF:=zh hcf
   clear hcf
   go_wp2_with fail
   refine HCF.out.mono ?_
   rintro e w12 ⟨rfl,hb⟩
   have Y12:=zh (Y11.out.trans (hb.mono Y11.out.size))
   clear hb
   go_wp2_with fail
   go_round
   case measure=>simp[intOf];omega
   case rel=>exact⟨j+1,by omega,by go_num,Y12.out⟩
theorem Am.opened {w:World}{a:Addr}{len cap:Nat}{ss:List ByteArray}(h:∀ i,i<ss.length->w.cell? (a.add i)=some (.string (ss.getD i ByteArray.empty)))(hl:len<=ss.length):Am w (.slice (some a) len cap) (ss.take len):=by
 have e:(ss.take len).length=len:=by rw[List.length_take];omega
 by_cases h0:len=0
 ·exact⟨_,_,by rw[e],.inl (by rw[e];exact h0)⟩
 ·obtain⟨b,o,sp⟩:=a
  cases sp with
  | none =>
    refine⟨_,_,by rw[e],.inr ⟨b,o,rfl,fun j hj=>?_⟩⟩
    rw[e] at hj
    have:=h j (by omega)
    have e2:(⟨b,o,none⟩:Addr).add j=⟨b,o+j,none⟩:=by unfold Addr.add;split<;>simp_all
    rw[e2] at this
    rw[this]
    have:(ss.take len).getD j ⟨#[]⟩=ss.getD j ByteArray.empty:=by simp[List.getD_eq_getElem?_getD,List.getElem?_take,hj];rfl
    rw[this]
  | some p =>
    exfalso
    have:=h 0 (by omega)
    unfold World.cell? Addr.add at this
    simp at this
    split at this<;>simp_all
open Go.ChangeShapes in
theorem zeR {H:Type}{P:Program}{e:TypeId} : ∀ (ss:List ByteArray),(DataW.weightsAll P e (strs (H:=H) ss)).all (· <= reachBytes)=true->∀ s∈ss,s.size<=reachBytes
 | [],_,_,h=>by cases h
 | x :: l,h,s,hs => by
   have e1:DataW.weightsAll P e (strs (H:=H) (x::l))=[x.data.toList.length]++DataW.weightsAll P e (strs (H:=H) l):=rfl
   rw[e1,List.all_append,Bool.and_eq_true] at h
   rcases List.mem_cons.1 hs with rfl|hs
   ·have:=h.1
    simp only[List.all_cons,List.all_nil,Bool.and_true,decide_eq_true_eq] at this
    rw[Array.length_toList] at this
    exact this
   ·exact zeR l h.2 s hs
theorem zfk:Tryz.prog.bytesOf 9=16:=by kernel_rfl
open Go.ChangeShapes Go.WideShapes in
theorem zfQ {H:Type}{enc:TypeId × Value->H}{W:World}{a:Option Addr}{len cap:Nat}{d:DataW H}{p:List MemPlace}(h:DataW.Trod enc Tryz.prog W 0 (fun _=>true) true 68 (.slice a len cap) d p)
 (hz:(d.weights Tryz.prog 68).all (· <= reachBytes)=true):∃ xs:List ByteArray,Am W (.slice a len cap) xs/\(∀ z∈xs,z.size<=140737488355328)/\xs.length<=140737488355328:=by
 obtain⟨fuel,hf⟩:=h
 rcases open_strings Tryz.underlying68 Tryz.underlying9 (by kernel_rfl) hf with ⟨hcs,_⟩|⟨a',len',cap',ss,hcs,_,hl,hm,hn,hx2,hcell,_⟩
 ·have e:Value.slice a len cap=.slice none 0 0:=by simpa [Value.cells] using hcs
  rw[e]
  exact⟨[],⟨none,0,rfl,.inl rfl⟩,(fun z hz=>by cases hz),Nat.zero_le _⟩
 ·have e:Value.slice a len cap=.slice (some a') len' cap':=by simpa [Value.cells] using hcs
  rw[e]
  have hn' : ss.length=cap':=by simpa using hn
  have hd:d=.slice (strs (ss.take len')) (strs (ss.drop len')):=(Prod.mk.inj hx2).1
  rw[hd] at hz
  have hw:(DataW.slice (strs (H:=H) (ss.take len')) (strs (ss.drop len'))).weights Tryz.prog 68=((strs (H:=H) (ss.take len')).length+(strs (H:=H) (ss.drop len')).length)*Tryz.prog.bytesOf 9::(DataW.weightsAll Tryz.prog 9 (strs (H:=H) (ss.take len'))++DataW.weightsAll Tryz.prog 9 (strs (H:=H) (ss.drop len'))):=by
   simp only[DataW.weights,Tryz.underlying68]
  rw[hw,List.all_cons,List.all_append,Bool.and_eq_true,Bool.and_eq_true,zfk] at hz
  obtain⟨h1,h2,_⟩:=hz
  have e1:(strs (H:=H) (ss.take len')).length=len':=by unfold strs;rw[List.length_map,List.length_take];omega
  rw[e1] at h1
  have h1':=of_decide_eq_true h1
  unfold reachBytes at h1'
  refine⟨ss.take len',Am.opened hcell (by omega),fun z hz2=>?_,?_⟩
  ·have:=zeR _ h2 z hz2
   unfold reachBytes at this
   omega
  ·rw[List.length_take]
   omega
end
section
open Go Go.ChangeShapes Go.WideShapes Go.RowKit Go.Maps
section
variable {H:Type} {enc:TypeId × Value->H}
theorem zeB {a:Assume}{C:Checked}{os:Os}{f:FuncId}{fn:Func}{s:ChangeSpec}{conds:List PathCond}{apart fresh handsOn again:Bool}{X:World->Array Value->Prop}
 (hX:∀ (w w' : World) (args:Array Value),w.heap=w'.heap->X w args->X w' args)
 (own:ownKnob C.prog.godebug=none) (started:os.Started) (noInit:C.prog.inits.idxOf? f=none) (hfn:C.prog.funcs[f]? = some fn)
 (witness : ∃ (w : World) (tape : Tape) (i : Input),w.os = os ∧ (w.forCall tape i).Shaped C.prog ∧ i.vars = [] ∧ Input.okWide C.prog (w.forCall tape i) .any w.heap.size f i ∧
   ((s.pre enc C.prog fn conds apart (w.forCall tape i).memory i.args/\X (w.forCall tape i).memory i.args)/\sizedMet enc C.prog fn (OpenSpec.ofChange s) apart (w.forCall tape i).memory i.args)/\a.holds C.prog (lone (Frame.enter C.prog f i.args .normal) [] (w.forCall tape i)))
 (contract : ∀ (W : World) (base : Nat) (args : Array Value) (ds gs : List (DataW H)) (before : List MemPlace),
   (∀ (j:Nat) t v,fn.params[j]? = some t->args[j]? = some v->Value.okWide C.prog W .any base t v)->
   DataW.Whole enc C.prog fn.params.toList s.vars apart W args.toList ds gs before->
   conds.all (PathCond.test C.prog ⟨fn.params.toList,ds,s.plain.varTypes C.prog,gs⟩)=true->
   (DataW.weightsEach C.prog (fn.params.toList++s.plain.varTypes C.prog) (ds++gs)).all (· <= reachBytes)=true->X W args->W.ShapedOpen C.prog->
   a.holds C.prog (lone (Frame.enter C.prog f args .normal) [] W)->
   Calls C.prog f args W fun e W' => ∃ v,e=.returned v/\s.post enc C.prog fn apart fresh handsOn again W args v W'):
 ReturnsInHanded a C os f .any (fun w args=>(s.pre enc C.prog fn conds apart w args/\X w args)/\sizedMet enc C.prog fn (OpenSpec.ofChange s) apart w args) (s.post enc C.prog fn apart fresh handsOn again):=by
 refine returnsInHanded_of_calls own started noInit witness ?_
 intro w tape i _ hsh _ hok hpre hholds
 obtain⟨_,_,_,fn',hfn',_,_,_,_,hval⟩:=hok
 have e:fn' = fn:=Option.some.inj (hfn'.symm.trans hfn)
 subst e
 obtain⟨⟨⟨ds,gs,before,hw,hc⟩,hx⟩,hz⟩:=hpre
 have hw':=DataW.Whole.of_heap (w':=w.forCall tape i) (by rfl) hw
 refine(contract (w.forCall tape i) w.heap.size i.args ds gs before hval hw' hc (hz.weights hw) (hX _ _ _ (by rfl) hx) hsh hholds).mono fun e W' ⟨v,he,hp⟩=>?_
 subst he
 exact ChangeSpec.post_blind hp
theorem zfR {W:World}(h:W.ShapedOpen Tryz.prog):IW W:=
 Go.Proofs.cell_of_shapedOpen_int (zero:=#[.int .i64 0]) (t:=3) h (of_decide_eq_true (by kernel_rfl)) (by kernel_rfl) rfl (by kernel_rfl) (by kernel_rfl) Tryz.underlying3
end
end
section
open Go Go.ChangeShapes Go.WideShapes Go.RowKit Go.Maps
section
variable {H:Type} {enc:TypeId × Value->H}
theorem zeH {P:Program}{e:TypeId}{p:Nat->Bool} : ∀ l:List (DataW H),(DataW.weightsAll P e l).all p=true->∀ d∈l,(d.weights P e).all p=true
 | [],_,_,h=>by cases h
 | x :: l,h,d,hd => by
   have e1:DataW.weightsAll P e (x::l)=x.weights P e++DataW.weightsAll P e l:=rfl
   rw[e1,List.all_append,Bool.and_eq_true] at h
   rcases List.mem_cons.1 hd with rfl|hd
   ·exact h.1
   ·exact zeH l h.2 d hd
theorem zf9 {α : Type}{R:Elem α}{Good : α -> Prop}{T S:TypeId}{size B:Nat}(hu:Tryz.prog.underlying S=some (.slice T))(hsz:Tryz.prog.cellsOf T=size)(hby:Tryz.prog.bytesOf T=B)(hB:1<=B)(hs1:1<=size){W:World}
 (zfJ:∀ (n:Nat) (cs:List Value) (x:DataW H × List MemPlace),cs.length=size->DataW.trod enc Tryz.prog W 0 (fun _=>true) true n T cs=some x->(x.1.weights Tryz.prog T).all (· <= reachBytes)=true->∃ o,R Own.fE W cs o/\Good o)
 {v:Value} {d:DataW H} {ps:List MemPlace} (h:DataW.Trod enc Tryz.prog W 0 (fun _=>true) true S v d ps) (hsl:∃ b len cap,v=.slice b len cap) (hz:(d.weights Tryz.prog S).all (· <= reachBytes)=true):
 ∃ l:List α,Au size R Own.fE W v l/\(∀ o∈l,Good o)/\l.length<=140737488355328:=by
 obtain⟨a0,zef,cap0,rfl⟩:=hsl
 obtain⟨n,hy⟩:=h
 rcases Deep.open_slice hu hy with ⟨hcs,_⟩|⟨a,len,cap,m,k,D,Pl,hcs,_,hl,_,hm,hx,hc⟩
 ·have e:Value.slice a0 zef cap0=.slice none 0 0:=by simpa [Value.cells] using hcs
  rw[e]
  exact⟨[],Au.nil _ _,(fun z hz=>by cases hz),Nat.zero_le _⟩
 ·have e:Value.slice a0 zef cap0=.slice (some a) len cap:=by simpa [Value.cells] using hcs
  rw[e]
  have hm' : m=cap:=by rw[hm]<;>rfl
  have hd:=(Prod.mk.inj hx).1
  rw[hd] at hz
  have hw:(DataW.slice ((List.range len).map D) ((List.range (m-len)).map fun j=>D (len+j))).weights Tryz.prog S=
   (((List.range len).map D).length + ((List.range (m - len)).map fun j => D (len + j)).length) * Tryz.prog.bytesOf T ::
     (DataW.weightsAll Tryz.prog T ((List.range len).map D)++DataW.weightsAll Tryz.prog T ((List.range (m-len)).map fun j=>D (len+j))):=by
   simp only[DataW.weights,hu]
  rw[hw,List.all_cons,List.all_append,Bool.and_eq_true,Bool.and_eq_true,hby] at hz
  obtain⟨h1,h2,_⟩:=hz
  have h1':=of_decide_eq_true h1
  unfold reachBytes at h1'
  rw[List.length_map,List.length_range] at h1'
  have hlen' : len<=140737488355328:=by
   have:=Nat.mul_le_mul_left (len+((List.range (m-len)).map fun j=>D (len+j)).length) hB
   omega
  have each:∀ i,i<len->∃ (cs:List Value) (o : α),cs.length=size/\(∀ j,j<size->W.cell? (a.add (i*size+j))=cs[j]?)/\R Own.fE W cs o/\Good o:=by
   intro i hi
   obtain⟨cs',g1,g2⟩:=hc i (by omega)
   rw[hsz] at g1
   obtain⟨_,hlen,hcell⟩:=World.cells?_some g1
   have hzi:=zeH _ h2 (D i) (List.mem_map.2 ⟨i,List.mem_range.2 hi,rfl⟩)
   obtain⟨o,q1,q2⟩:=zfJ _ cs' _ hlen g2 hzi
   exact⟨cs',o,hlen,fun j hj=>by rw[<- Deep.add_add];exact hcell j hj,q1,q2⟩
  by_cases h0:len=0
  ·subst h0
   exact⟨[],Au.nil _ _,(fun z hz=>by cases hz),Nat.zero_le _⟩
  have ho0:Nonempty α :=by
   obtain⟨_,o,_⟩:=each 0 (by omega)
   exact⟨o⟩
  obtain⟨O,hO⟩:∃ O:Nat -> α,∀ i,i<len->∃ cs:List Value,cs.length=size/\(∀ j,j<size->W.cell? (a.add (i*size+j))=cs[j]?)/\R Own.fE W cs (O i)/\Good (O i):=by
   refine⟨fun i=>if h:i<len then (each i h).choose_spec.choose else Classical.choice ho0,fun i hi=>?_⟩
   simp only[dif_pos hi]
   exact⟨_,(each i hi).choose_spec.choose_spec⟩
  have el:((List.range len).map O).length=len:=by rw[List.length_map,List.length_range]
  refine⟨(List.range len).map O,⟨_,_,by rw[el],.inr ?_⟩,?_,by rw[el];exact hlen'⟩
  ·obtain⟨b,o,sp⟩:=a
   obtain⟨cs0,l0,hcell,_⟩:=hO 0 (by omega)
   have hc0:=hcell 0 (by omega)
   have hsome:∃ u,cs0[0]? = some u:=⟨cs0[0]'(by omega),List.getElem?_eq_getElem (by omega)⟩
   obtain⟨u,hu0⟩:=hsome
   rw[hu0] at hc0
   cases sp with
   | some p =>
     exfalso
     unfold World.cell? Addr.add at hc0
     simp at hc0
     split at hc0<;>simp_all
   | none =>
     have ad:∀ q,(⟨b,o,none⟩:Addr).add q=⟨b,o+q,none⟩:=fun q=>by unfold Addr.add;split<;>simp_all
     refine⟨b,o,rfl,trivial,?_,?_⟩
     ·rw[ad] at hc0
      exact block_lt hc0
     ·intro i hi
      rw[el] at hi
      obtain⟨cs,k0,k1,k2,_⟩:=hO i hi
      simp only[List.getElem_map,List.getElem_range]
      refine⟨cs,k0,fun j u hj=>?_,k2⟩
      have hjl:j<cs.length:=(List.getElem?_eq_some_iff.1 hj).1
      have:=k1 j (by omega)
      rw[ad,hj] at this
      rw[Nat.add_assoc]
      exact this
  ·intro o ho
   obtain⟨i,hi,rfl⟩:=List.mem_map.1 ho
   obtain⟨_,_,_,_,q⟩:=hO i (List.mem_range.1 hi)
   exact q
end
end
section
open Go Go.ChangeShapes Go.WideShapes Go.RowKit Go.Maps
section
variable {H:Type} {enc:TypeId × Value->H}
theorem zfs:Tryz.prog.cellsOf 3=1:=by kernel_rfl
theorem zeI:Tryz.prog.cellsOf 9=1:=by kernel_rfl
def zeY (m:Own.Member):Prop:=m.name.size<=140737488355328/\m.pub.size<=140737488355328
def zgb (k:Own.KeyUse):Prop:=k.pub.size<=140737488355328/\(Lit.int .i64 k.next).wf=true
theorem zeA {s:ByteArray}(h:s.data.toList.length<=reachBytes):s.size<=140737488355328:=by
 unfold reachBytes at h
 have e:s.size=s.data.toList.length:=by rw[Array.length_toList]<;>rfl
 omega
theorem zft {W:World}(n:Nat)(cs:List Value)(x:DataW H × List MemPlace)(hl:cs.length=2)(hy:DataW.trod enc Tryz.prog W 0 (fun _=>true) true n 76 cs=some x)(hz:(x.1.weights Tryz.prog 76).all (· <= reachBytes)=true):
 ∃ o,Own.Ed Own.fE W cs o/\zeY o:=by
 match cs,hl with
 | [c0,c1],_ =>
   obtain⟨y0,y1,m,he,_,u0,u1⟩:=ChangeShapes.trod_struct2 Tryz.underlying76 hy
   simp only[zeI,List.drop,List.take] at u0 u1
   obtain⟨s,hs,rfl,_⟩:=DataW.trod_string Tryz.underlying9 u0
   obtain⟨t,ht,rfl,_⟩:=DataW.trod_string Tryz.underlying9 u1
   simp only[List.cons.injEq,and_true] at hs ht
   subst hs;subst ht
   have hw:x.1.weights Tryz.prog 76=[s.data.toList.length,t.data.toList.length]:=by
    rw[he]
    simp only[DataW.weights,Tryz.underlying76]
    rfl
   rw[hw] at hz
   simp only[List.all_cons,List.all_nil,Bool.and_true,Bool.and_eq_true,decide_eq_true_eq] at hz
   exact⟨⟨s,t⟩,rfl,zeA hz.1,zeA hz.2⟩
theorem zfK {W:World}(n:Nat)(cs:List Value)(x:DataW H × List MemPlace)(hl:cs.length=2)(hy:DataW.trod enc Tryz.prog W 0 (fun _=>true) true n 59 cs=some x)(hz:(x.1.weights Tryz.prog 59).all (· <= reachBytes)=true):
 ∃ o,Own.fG Own.fE W cs o/\zgb o:=by
 match cs,hl with
 | [c0,c1],_ =>
   obtain⟨y0,y1,m,he,_,u0,u1⟩:=ChangeShapes.trod_struct2 Tryz.underlying59 hy
   simp only[zeI,zfs,List.drop,List.take] at u0 u1
   obtain⟨s,hs,rfl,_⟩:=DataW.trod_string Tryz.underlying9 u0
   obtain⟨t,ht,rfl,wt⟩:=DataW.trod_int Tryz.underlying3 u1
   simp only[List.cons.injEq,and_true] at hs ht
   subst hs;subst ht
   have hw:x.1.weights Tryz.prog 59=[s.data.toList.length]:=by
    rw[he]
    simp only[DataW.weights,Tryz.underlying59]
    rfl
   rw[hw] at hz
   simp only[List.all_cons,List.all_nil,Bool.and_true,decide_eq_true_eq] at hz
   exact⟨⟨s,t⟩,rfl,zeA hz,wt⟩
theorem zfg {W:World}{S T:TypeId}(hu:Tryz.prog.underlying S=some (.slice T)){n:Nat}{v:Value}{x:DataW H × List MemPlace}(hy:DataW.trod enc Tryz.prog W 0 (fun _=>true) true n S [v]=some x):∃ b len cap,v=.slice b len cap:=by
 rcases Deep.open_slice hu hy with ⟨hcs,_⟩|⟨a,len,cap,m,k,D,Pl,hcs,_⟩
 ·exact⟨none,0,0,by simpa using hcs⟩
 ·exact⟨_,len,cap,by simpa using hcs⟩
theorem zeS {α : Type}{R:Elem α}{Good : α -> Prop}{T S:TypeId}{size B:Nat}(hu:Tryz.prog.underlying S=some (.slice T))(hsz:Tryz.prog.cellsOf T=size)(hby:Tryz.prog.bytesOf T=B)(hB:1<=B)(hs1:1<=size){W:World}
 (zfJ:∀ (n:Nat) (cs:List Value) (x:DataW H × List MemPlace),cs.length=size->DataW.trod enc Tryz.prog W 0 (fun _=>true) true n T cs=some x->(x.1.weights Tryz.prog T).all (· <= reachBytes)=true->∃ o,R Own.fE W cs o/\Good o)
 {n:Nat} {v:Value} {x:DataW H × List MemPlace} (hy:DataW.trod enc Tryz.prog W 0 (fun _=>true) true n S [v]=some x) (hz:(x.1.weights Tryz.prog S).all (· <= reachBytes)=true):
 ∃ l:List α,Au size R Own.fE W v l/\(∀ o∈l,Good o)/\l.length<=140737488355328:=by
 obtain⟨b,len,cap,rfl⟩:=zfg hu hy
 exact zf9 (ps:=x.2) hu hsz hby hB hs1 zfJ ⟨n,hy⟩ ⟨b,len,cap,rfl⟩ hz
theorem zeU {W:World}{n:Nat}{v:Value}{x:DataW H × List MemPlace}(hy:DataW.trod enc Tryz.prog W 0 (fun _=>true) true n 26 [v]=some x)(hz:(x.1.weights Tryz.prog 26).all (· <= reachBytes)=true):∃ l,Own.Ag W v l/\(∀ o∈l,zeY o)/\l.length<=140737488355328:=
 zeS (B:=32) Tryz.underlying26 (by kernel_rfl) (by kernel_rfl) (by decide) (by decide) zft hy hz
theorem zfL {W:World}{n:Nat}{v:Value}{x:DataW H × List MemPlace}(hy:DataW.trod enc Tryz.prog W 0 (fun _=>true) true n 23 [v]=some x)(hz:(x.1.weights Tryz.prog 23).all (· <= reachBytes)=true):∃ l,Own.D9 W v l/\(∀ o∈l,zgb o)/\l.length<=140737488355328:=
 zeS (B:=24) Tryz.underlying23 (by kernel_rfl) (by kernel_rfl) (by decide) (by decide) zfK hy hz
theorem zfh:Tryz.prog.cellsOf 26=1:=by kernel_rfl
theorem zfM:Tryz.prog.cellsOf 22=1:=by kernel_rfl
theorem zfG:Tryz.prog.cellsOf 23=1:=by kernel_rfl
def zf6 (s:Own.Space):Prop:=s.pre.size<=140737488355328/\(Lit.int .i64 s.threshold).wf=true/\(∀ m∈s.members,zeY m)/\s.members.length<=140737488355328
theorem zf7 {W:World}(n:Nat)(cs:List Value)(x:DataW H × List MemPlace)(hl:cs.length=3)(hy:DataW.trod enc Tryz.prog W 0 (fun _=>true) true n 39 cs=some x)(hz:(x.1.weights Tryz.prog 39).all (· <= reachBytes)=true):
 ∃ o,Own.Fu Own.fE W cs o/\zf6 o:=by
 match cs,hl with
 | [c0,c1,c2],_ =>
   obtain⟨y0,y1,y2,m,he,_,u0,u1,u2⟩:=Deep.trod_struct3 Tryz.underlying39 hy
   simp only[zeI,zfs,zfh,List.drop,List.take] at u0 u1 u2
   obtain⟨s,hs,rfl,_⟩:=DataW.trod_string Tryz.underlying9 u0
   obtain⟨t,ht,rfl,wt⟩:=DataW.trod_int Tryz.underlying3 u2
   simp only[List.cons.injEq,and_true] at hs ht
   subst hs;subst ht
   have hw:x.1.weights Tryz.prog 39=s.data.toList.length::(y1.1.weights Tryz.prog 26++[]):=by
    rw[he]
    simp only[DataW.weights,Tryz.underlying39]
    rfl
   rw[hw] at hz
   simp only[List.all_cons,List.append_nil,Bool.and_eq_true,decide_eq_true_eq] at hz
   obtain⟨l,h1,h2,h3⟩:=zeU u1 hz.2
   exact⟨⟨s,l,t⟩,⟨c1,rfl,h1⟩,zeA hz.1,wt,h2,h3⟩
theorem zf8 {W:World}{n:Nat}{v:Value}{x:DataW H × List MemPlace}(hy:DataW.trod enc Tryz.prog W 0 (fun _=>true) true n 22 [v]=some x)(hz:(x.1.weights Tryz.prog 22).all (· <= reachBytes)=true):∃ l,Own.BH W v l/\(∀ o∈l,zf6 o)/\l.length<=140737488355328:=
 zeS (B:=48) Tryz.underlying22 (by kernel_rfl) (by kernel_rfl) (by decide) (by decide) zf7 hy hz
theorem zfN:Tryz.prog.cellsOf 25=3:=by kernel_rfl
theorem zfH {W:World}{base:Nat}{v:Value}{d:DataW H}{ps:List MemPlace}(hval:Value.okWide Tryz.prog W .any base 25 v)(h:DataW.Trod enc Tryz.prog W 0 (fun _=>true) true 25 v d ps)(hz:(d.weights Tryz.prog 25).all (· <= reachBytes)=true):
 ∃ (o:Own.Ar) (u k:Value),v=.agg #[.int .i64 o.count,u,k]/\Own.BH W u o.spaces/\Own.D9 W k o.keys/\(Lit.int .i64 o.count).wf=true/\(∀ s∈o.spaces,zf6 s)/\(∀ k∈o.keys,zgb k)/\o.spaces.length<=140737488355328/\o.keys.length<=140737488355328:=by
 obtain⟨cs,rfl,hs⟩:=okWide_struct Tryz.underlying25 hval
 rw[zfN] at hs
 match cs,hs with
 | ⟨[c0,c1,c2]⟩,_ =>
   obtain⟨n,hy⟩:=h
   obtain⟨y0,y1,y2,m,he,_,u0,u1,u2⟩:=Deep.trod_struct3 Tryz.underlying25 hy
   simp only[zfs,zfM,zfG,Value.cells,List.drop,List.take] at u0 u1 u2
   obtain⟨a,ha,rfl,wa⟩:=DataW.trod_int Tryz.underlying3 u0
   simp only[List.cons.injEq,and_true] at ha
   subst ha
   have hd:d=.agg [.lit (.int .i64 a),y1.1,y2.1]:=(Prod.mk.inj he).1
   have hw:(DataW.agg [.lit (.int .i64 a),y1.1,y2.1]).weights Tryz.prog 25=y1.1.weights Tryz.prog 22++(y2.1.weights Tryz.prog 23++[]):=by
    simp only[DataW.weights,Tryz.underlying25]
    rfl
   rw[hd,hw,List.append_nil,List.all_append,Bool.and_eq_true] at hz
   obtain⟨l,h1,h2,h3⟩:=zf8 u1 hz.1
   obtain⟨k,g1,g2,g3⟩:=zfL u2 hz.2
   exact⟨⟨a,l,k⟩,c1,c2,rfl,h1,g1,wa,h2,g2,h3,g3⟩
theorem zgc:Tryz.prog.cellsOf 68=1:=by kernel_rfl
theorem zfu:Tryz.prog.cellsOf 70=3:=by kernel_rfl
theorem zfA {W:World}{S T:TypeId}(hu:Tryz.prog.underlying S=some (.slice T)){n:Nat}{v:Value}{x:DataW H × List MemPlace}(hy:DataW.trod enc Tryz.prog W 0 (fun _=>true) true n S [v]=some x):Eo v:=by
 rcases Deep.open_slice hu hy with ⟨hcs,_⟩|⟨a,len,cap,m,k,D,Pl,hcs,_,hl,_⟩
 ·exact⟨none,0,0,by simpa using hcs,Nat.le_refl _⟩
 ·exact⟨_,len,cap,by simpa using hcs,hl⟩
theorem zfv {W:World}{n:Nat}{v:Value}{x:DataW H × List MemPlace}(hy:DataW.trod enc Tryz.prog W 0 (fun _=>true) true n 68 [v]=some x)(hz:(x.1.weights Tryz.prog 68).all (· <= reachBytes)=true):∃ xs:List ByteArray,Am W v xs/\(∀ z∈xs,z.size<=140737488355328)/\xs.length<=140737488355328:=by
 obtain⟨b,len,cap,rfl⟩:=zfg Tryz.underlying68 hy
 exact zfQ (p:=x.2) ⟨n,hy⟩ hz
end
end
section
open Go Go.ChangeShapes Go.WideShapes Go.RowKit Go.Maps
section
variable {H:Type} {enc:TypeId × Value->H}
def GAp (a:Own.Aj):Prop:=a.name.size<=140737488355328/\(Lit.int .i64 a.sig.index).wf=true/\(∀ s∈a.sig.chains,s.size<=140737488355328)/\(∀ k∈a.sig.path,k.size<=140737488355328)/\a.sig.chains.length<=140737488355328/\a.sig.path.length<=140737488355328
theorem GAp.sizes {a:Own.Aj}(h:GAp a):a.name.size<=140737488355328/\∀ x∈a.sig.chains++a.sig.path,x.size<=140737488355328:=⟨h.1,fun x hx=>by
 rcases List.mem_append.1 hx with hx|hx
 ·exact h.2.2.1 x hx
 ·exact h.2.2.2.1 x hx⟩
theorem zfS {W:World}(n:Nat)(cs:List Value)(x:DataW H × List MemPlace)(hl:cs.length=4)(hy:DataW.trod enc Tryz.prog W 0 (fun _=>true) true n 72 cs=some x)(hz:(x.1.weights Tryz.prog 72).all (· <= reachBytes)=true):
 ∃ o,Own.RAp Own.fE W cs o/\GAp o:=by
 match cs,hl with
 | [c0,c1,c2,c3],_ =>
   obtain⟨y0,y1,m,he,_,u0,u1⟩:=ChangeShapes.trod_struct2 Tryz.underlying72 hy
   simp only[zeI,zfu,List.drop,List.take] at u0 u1
   obtain⟨s,hs,e0,_⟩:=DataW.trod_string Tryz.underlying9 u0
   obtain⟨z0,z1,z2,m2,he2,_,g0,g1,g2⟩:=Deep.trod_struct3 Tryz.underlying70 u1
   simp only[zfs,zgc,List.drop,List.take] at g0 g1 g2
   obtain⟨a,ha,e1,wa⟩:=DataW.trod_int Tryz.underlying3 g0
   simp only[List.cons.injEq,and_true] at hs ha
   subst hs;subst ha
   have hd2:y1.1=.agg [.lit (.int .i64 a),z1.1,z2.1]:=by rw[he2,e1]
   have hd:x.1=.agg [.lit (.string s.data.toList),.agg [.lit (.int .i64 a),z1.1,z2.1]]:=by rw[<- hd2,he,e0]
   have hw:(DataW.agg [.lit (.string s.data.toList),.agg [.lit (.int .i64 a),z1.1,z2.1]]).weights Tryz.prog 72=s.data.toList.length::((z1.1.weights Tryz.prog 68++(z2.1.weights Tryz.prog 68++[]))++[]):=by
    simp only[DataW.weights,Tryz.underlying72]
    rfl
   rw[hd,hw] at hz
   simp only[List.all_cons,List.append_nil,List.all_append,Bool.and_eq_true,decide_eq_true_eq] at hz
   obtain⟨l,h1,h2,h3⟩:=zfv g1 hz.2.1
   obtain⟨k,k1,k2,k3⟩:=zfv g2 hz.2.2
   exact⟨⟨s,⟨a,l,k⟩⟩,⟨c2,c3,rfl,⟨h1,zfA Tryz.underlying68 g1,fun _ _ _=>trivial⟩,⟨k1,zfA Tryz.underlying68 g2,fun _ _ _=>trivial⟩⟩,zeA hz.1,wa,h2,k2,h3,k3⟩
theorem zfT {W:World}{n:Nat}{v:Value}{x:DataW H × List MemPlace}(hy:DataW.trod enc Tryz.prog W 0 (fun _=>true) true n 27 [v]=some x)(hz:(x.1.weights Tryz.prog 27).all (· <= reachBytes)=true):∃ l,Au 4 Own.RAp Own.fE W v l/\(∀ a∈l,GAp a)/\l.length<=140737488355328:=by
 obtain⟨l,h1,h2,h3⟩:=zeS (B:=72) Tryz.underlying27 (by kernel_rfl) (by kernel_rfl) (by decide) (by decide) zfS hy hz
 exact⟨l,h1,h2,h3⟩
theorem zfw:Tryz.prog.cellsOf 27=1:=by kernel_rfl
def GOp (o:Own.Op):Prop:=((Lit.int .i64 o.kind).wf=true/\(Lit.int .i64 o.threshold).wf=true)/\(o.pre.size<=140737488355328/\o.name.size<=140737488355328/\o.pub.size<=140737488355328)/\(∀ m∈o.members,zeY m)/\o.members.length<=140737488355328/\(∀ a∈o.Aa,GAp a)/\o.Aa.length<=140737488355328
theorem zfU {W:World}(n:Nat)(cs:List Value)(x:DataW H × List MemPlace)(hl:cs.length=7)(hy:DataW.trod enc Tryz.prog W 0 (fun _=>true) true n 29 cs=some x)(hz:(x.1.weights Tryz.prog 29).all (· <= reachBytes)=true):
 ∃ (o:Own.Op) (mv av:Value),cs=[.int .i64 o.kind,.string o.pre,mv,.int .i64 o.threshold,.string o.name,.string o.pub,av]/\Own.Ag W mv o.members/\Au 4 Own.RAp Own.fE W av o.Aa/\GOp o:=by
 match cs,hl with
 | [c0,c1,c2,c3,c4,c5,c6],_ =>
   obtain⟨xs,m,_,rfl,_,hlen,hf⟩:=DataW.trod_struct Tryz.underlying29 hy
   match xs,hlen with
   | [y0,y1,y2,y3,y4,y5,y6],_ =>
     have u0:=hf 0 _ rfl;have u1:=hf 1 _ rfl;have u2:=hf 2 _ rfl;have u3:=hf 3 _ rfl;have u4:=hf 4 _ rfl;have u5:=hf 5 _ rfl;have u6:=hf 6 _ rfl
     change DataW.trod enc Tryz.prog W 0 (fun _=>true) true m 3 (List.take (Tryz.prog.cellsOf 3) (List.drop 0 [c0,c1,c2,c3,c4,c5,c6]))=some y0 at u0
     change DataW.trod enc Tryz.prog W 0 (fun _=>true) true m 9 (List.take (Tryz.prog.cellsOf 9) (List.drop 1 [c0,c1,c2,c3,c4,c5,c6]))=some y1 at u1
     change DataW.trod enc Tryz.prog W 0 (fun _=>true) true m 26 (List.take (Tryz.prog.cellsOf 26) (List.drop 2 [c0,c1,c2,c3,c4,c5,c6]))=some y2 at u2
     change DataW.trod enc Tryz.prog W 0 (fun _=>true) true m 3 (List.take (Tryz.prog.cellsOf 3) (List.drop 3 [c0,c1,c2,c3,c4,c5,c6]))=some y3 at u3
     change DataW.trod enc Tryz.prog W 0 (fun _=>true) true m 9 (List.take (Tryz.prog.cellsOf 9) (List.drop 4 [c0,c1,c2,c3,c4,c5,c6]))=some y4 at u4
     change DataW.trod enc Tryz.prog W 0 (fun _=>true) true m 9 (List.take (Tryz.prog.cellsOf 9) (List.drop 5 [c0,c1,c2,c3,c4,c5,c6]))=some y5 at u5
     change DataW.trod enc Tryz.prog W 0 (fun _=>true) true m 27 (List.take (Tryz.prog.cellsOf 27) (List.drop 6 [c0,c1,c2,c3,c4,c5,c6]))=some y6 at u6
     simp only[zeI,zfs,zfh,zfw,List.drop,List.take] at u0 u1 u2 u3 u4 u5 u6
     obtain⟨a,ha,e0,wa⟩:=DataW.trod_int Tryz.underlying3 u0
     obtain⟨b,hb,e1,_⟩:=DataW.trod_string Tryz.underlying9 u1
     obtain⟨d,hd,e3,wd⟩:=DataW.trod_int Tryz.underlying3 u3
     obtain⟨e,hee,e4,_⟩:=DataW.trod_string Tryz.underlying9 u4
     obtain⟨f,hff,e5,_⟩:=DataW.trod_string Tryz.underlying9 u5
     have ha' : c0=.int .i64 a:=by simpa using ha
     have hb' : c1=.string b:=by simpa using hb
     have hd' : c3=.int .i64 d:=by simpa using hd
     have he' : c4=.string e:=by simpa using hee
     have hf' : c5=.string f:=by simpa using hff
     subst ha';subst hb';subst hd';subst he';subst hf'
     have hw:(DataW.agg ([y0,y1,y2,y3,y4,y5,y6].map (·.1))).weights Tryz.prog 29=b.data.toList.length::(y2.1.weights Tryz.prog 26++(e.data.toList.length::f.data.toList.length::(y6.1.weights Tryz.prog 27++[]))):=by
      simp only[DataW.weights,Tryz.underlying29,e0,e1,e3,e4,e5,List.map_cons,List.map_nil]
      rfl
     rw[hw] at hz
     simp only[List.all_cons,List.all_append,List.append_nil,Bool.and_eq_true,decide_eq_true_eq] at hz
     obtain⟨z1,z2,z3,z4,z5⟩:=hz
     obtain⟨l,h1,h2,h3⟩:=zeU u2 z2
     obtain⟨k,k1,k2,k3⟩:=zfT u6 z5
     exact⟨⟨a,b,l,d,e,f,k⟩,c2,c6,rfl,h1,k1,⟨wa,wd⟩,⟨zeA z1,zeA z3,zeA z4⟩,h2,h3,k2,k3⟩
theorem zgd {W:World}{v:Value}{d:DataW H}{ps:List MemPlace}(h:DataW.Trod enc Tryz.prog W 0 (fun _=>true) true 56 v d ps)(hsl:∃ b len cap,v=.slice b len cap)(hz:(d.weights Tryz.prog 56).all (· <= reachBytes)=true):
 ∃ l,Au 7 Own.ROp Own.fE W v l/\(∀ o∈l,GOp o)/\l.length<=140737488355328:=
 zf9 (B:=112) Tryz.underlying56 (by kernel_rfl) (by kernel_rfl) (by decide) (by decide) (fun n cs x hl hy hz=>by
  obtain⟨o,mv,av,h0,h1,h2,h3⟩:=zfU n cs x hl hy hz
  exact⟨o,⟨mv,av,h0,h1,h2⟩,h3⟩) h hsl hz
end
end
section
open Go Go.ChangeShapes Go.WideShapes Go.ChangeAt Go.RowKit
theorem zfx:ownKnob Tryz.prog.godebug=none:=by kernel_rfl
theorem zeV:laidOutB Tryz.prog=true:=by kernel_rfl
theorem zfa (os:Os)(started:os.Started)(H:Type)(enc:TypeId × Value->H):
 ReturnsInHanded {} Tryz.checked os 6 .any (fun w args=>(Rows.ownersStaysSpec.pre enc Tryz.prog Tryz.f6 Rows.ownersStaysRow.domain false w args/\laidMetH Tryz.prog Rows.ownersStaysRow.laid w)/\sizedMet enc Tryz.prog Tryz.f6 (OpenSpec.ofChange Rows.ownersStaysSpec) false w args)
  (Rows.ownersStaysSpec.post enc Tryz.prog Tryz.f6 false true false false):=by
 refine zeB (C:=Tryz.checked) (X:=fun w _=>laidMetH Tryz.prog Rows.ownersStaysRow.laid w) (fun _ _ _ hh h=>h.of_heap hh) zfx started (by kernel_rfl) Tryz.func6
  (ChangeSpec.witness_shaped (enc :=enc) (C :=Tryz.checked) (os :=os) (X :=fun w _ => laidMetH Tryz.prog Rows.ownersStaysRow.laid w) false (World.laidAll Tryz.prog os Rows.ownersStaysRow.laid) #[.agg #[.int .i64 0,.slice none 0 0,.slice none 0 0],.slice none 0 0] 8 (World.laidAll_os _ _ _)
    (World.shaped_of_ZipB (by kernel_rfl) (by kernel_rfl)) (by kernel_rfl) (by kernel_rfl) (by kernel_rfl)
    (by rw[MakeChecks.laidMetH_plain _ _ _ (by kernel_rfl)];exact laidMet_laidAll _ (by kernel_rfl) (by kernel_rfl))) ?_
 intro W base args ds gs before hval0 hW _ hz0 _ hsh _
 have hM:=zfR hsh
 have hval:∀ (j:Nat) t v,Tryz.f6.params[j]? = some t->args[j]? = some v->Value.okWide Tryz.prog W .any base t v:=hval0
 have hW':=hW
 obtain⟨p,q,hA0,hV,rfl,_,_⟩:=hW
 have hA:DataW.TrodAll enc Tryz.prog W 0 (fun _=>true) true Tryz.f6.params.toList args.toList ds p:=hA0
 rw[Tryz.params6] at hA hval
 obtain⟨v0,v1,d0,d1,p0,p1,rfl,rfl,rfl,h0,h1⟩:=trodAll_two hA
 obtain⟨rfl,rfl⟩:=trodVars_none hV
 have e0:DataW.weightsEach Tryz.prog (Tryz.f6.params.toList++Rows.ownersStaysSpec.plain.varTypes Tryz.prog) ([d0,d1]++[])=d0.weights Tryz.prog 25++(d1.weights Tryz.prog 56++[]):=by
  rw[Tryz.params6]
  rfl
 have hz0:=e0 ▸ hz0
 simp only[List.all_append,List.all_nil,Bool.and_true,Bool.and_eq_true] at hz0
 have g0:=h0
 obtain⟨o0,u0,k0,rfl,hos0,hok0,zgu,zgk,zgv,zgo,zgp⟩:=zfH (hval 0 25 v0 rfl rfl) h0 hz0.1
 obtain⟨l1,hlo1,zfV,zgq⟩:=zgd h1 (okWide_slice Tryz.underlying56 (hval 1 56 v1 rfl rfl)) hz0.2
 have e1:Rows.ownersStaysSpec.fn H ([d0,d1]++[]) = { results:=[.lit (.bool true)],args:=[d0,d1] } :=by simp[Rows.ownersStaysSpec]
 refine(zf5 o0 l1 _ _ _ W hM hos0 hok0 hlo1 zgo zgp (fun s hs=>⟨(zgk s hs).2.2.2,(zgk s hs).1⟩) zgq (fun x hx=>⟨(zfV x hx).2.2.2.1,(zfV x hx).2.2.2.2.2,(zfV x hx).2.1,fun a ha=>((zfV x hx).2.2.2.2.1 a ha).sizes.2⟩)).mono fun e W' ⟨he,hb⟩=>?_
 subst he
 refine⟨_,rfl,_,_,_,[],p0++(p1++[]),[],by simpa using hW',?_,?_,?_,hb.frame _,fun h=>by cases h⟩
 ·rw[e1];exact trodAll_mk1 (shut_bool Tryz.underlying4 true)
 ·rw[e1];exact(trodAll_cons_mk (Below.trod zeV (by kernel_rfl) (of_decide_eq_true (by kernel_rfl)) h0 hb (fun z hz=>hW'.lt z (by simp[hz]))) (trodAll_cons_mk (Below.trod zeV (by kernel_rfl) (of_decide_eq_true (by kernel_rfl)) h1 hb (fun z hz=>hW'.lt z (by simp[hz]))) trodAll_mk0))
 ·rw[e1];rfl
theorem zfl:Rows.OwnersStaysSaid:=zeW zfa
theorem ostays_card:Rows.OwnersStaysCardSaid:=
 Claim7.holds_tied_plain_at .later [] [.data,.pinned] true Rows.ownersStaysCard.stood.harness false zfl (fun _ h=>by cases h) (by kernel_rfl) (fun _ h=>by cases h) ownersStays_row_tie rfl ⟨rfl,rfl⟩ (by kernel_rfl) rfl
  (fun f fn hf hfn => by
    obtain rfl : f = 6 := Option.some.inj ((show Tryz.prog.funcNamed "modcert/modcertlaw53.OwnersStays" = some 6 by kernel_rfl).symm.trans hf) |>.symm
    obtain rfl:fn=Tryz.f6:=(Option.some.inj (Tryz.func6.symm.trans hfn)).symm
    exact⟨by kernel_rfl,fun j t ht=>by
     rw[Tryz.params6] at ht
     have hm:t∈[25,56]:=by simpa using Array.mem_of_getElem? ht
     have hall:([25,56].all fun u => !Tryz.prog.wantsStandIn u)=true:=by kernel_rfl
     exact(show Tryz.prog.wantsStandIn t=false by simpa using List.all_eq_true.1 hall t hm)⟩)
  (by kernel_rfl)
end
end Go.Proofs.YtjlmglgmcekmhaaGreatDoor
