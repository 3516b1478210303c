/- The parts of a path between slashes, plainly. -/
import Derived.WalkKit
import Derived.WalkSpells
import Derived.WalkLawsBesides
import Derived.Deep.Draws
import Derived.Deep.AppendLies
import Derived.Maps.AppendAt
import Derived.Lib.Hide
import Derived.Maps.OwnSet
import Derived.Lib.Bytes
import Derived.Laws.BytesArg
import Derived.Lib.Split
import Derived.Lib.SplitLaws
import Derived.Laws.EntriesVeiled
import Derived.Test.YtdiiafgoccakkaaGreatDoorChecked
import Derived.BigQuiet
import Derived.Deep.QuietTactic
import Derived.Lib.SlBytesRow
import Derived.KernelRfl
import Derived.NoCompiler
import Derived.StillTail
import Derived.Laws.ResultCell
import Derived.Deep.MidRow
import Derived.Deep.RegionHeld3
import Derived.Deep.DrawnRows
import Derived.Deep.Cut
import Derived.StillTailTactics
import Derived.Deep.RegionLaw
import Derived.Shelf.Strings.Builder1
import Derived.Shelf.Strings.Builder2
import Derived.Shelf.Strings.Trim
import Derived.Shelf.Small.Utf8
import Derived.Shelf.Small.Bits
import Derived.Shelf.Small.Strs
import Derived.Shelf.Small.Wraps
import Derived.Shelf.Strings.BuilderF
import Derived.Shelf.Strings.BuilderK
import Derived.Shelf.Strings.Builder2Cap
import Derived.Shelf.Strconv.Itoa0
import Derived.Shelf.LaysM
import Derived.Shelf.Strconv.Clone
import Derived.Shelf.Strings.Search1
import Derived.Shelf.Strings.Prefix
import Derived.Shelf.Unicode.Decode
import Derived.Shelf.Strings.Runes
import Derived.Shelf.Strings.AsciiSet
import Derived.Shelf.Bits.Mul64
import Derived.Shelf.Strings.Repeat
import Derived.Shelf.Unicode.DecodeSlow
import Derived.Shelf.Unicode.DecodeAny
import Derived.Shelf.Strings.BuilderCap
import Derived.Shelf.Slices.Equal
import Derived.Ground.Names2Prog
import Derived.Shelf.Slices.Clone
import Derived.Shelf.Slices.Empties2
import Derived.Ground.SlgnProg
import Derived.Shelf.SlicesE.Clone
import Derived.Ground.SlgfProg
import Derived.Shelf.SlicesE.IndexFunc
import Derived.Shelf.SlicesQ.IndexFunc
import Derived.Test.YtdiiafgoccakkaaGreatDoorProg
import Derived.Maps.RangeWalk
import Derived.StringKeys
import Derived.Deep.DeepCutAuto
import Derived.Lib.EndianBits
import Derived.Lib.Builder
import Derived.Lib.FrozenHead
import Derived.Lib.AppendStr
import Derived.Lib.OthersKept
import Derived.OwnWalk
import Derived.Laws.BitsLemmas
import Derived.Laws.AppendOwn
import Derived.Deep.AppendSrc
import Derived.Lib.ConvBytes
import Derived.Shelf.SlMaps.Clone
import Derived.Carry
import Derived.OrdersIn
import Derived.RangeFuncCalls
import Derived.TacticsIn
import Derived.RangeFuncNested
import Derived.RangeFuncBound
import Derived.RangeFuncLeaves
import Derived.OwnWalkIn
import Derived.TacticsInMore
import Derived.LoopNIn
import Derived.LoopIn
import Derived.Shelf.Sort.Plain
import Derived.Shelf.Slices.In.SortNone
import Derived.Sort.OwnSorted
import Derived.Shelf.Abstract
import Derived.Maps.Keyed
import Derived.ProofKit
import Derived.SliceStrings
import Derived.Stop.Joined
import Derived.HandedShaped
import Derived.OpenShut
import Derived.Deep.Strs
import Derived.Deep.SlicePairs
import Derived.ChangeMaps5
import Derived.Test.YtdiiafgoccakkaaGreatDoorRows
import Derived.Test.YtdiiafgoccakkaaGreatDoorCards
import Derived.Test.YtdiiafgoccakkaaGreatDoorTie
import Derived.LaidMore
import Derived.Lay
import Derived.SevenTiedAt
import Derived.Test.YtdiiafgoccakkaaGreatDoorShkB1
import Derived.Test.YtdiiafgoccakkaaGreatDoorShkB2
import Derived.Test.YtdiiafgoccakkaaGreatDoorShkB3
import Derived.Test.YtdiiafgoccakkaaGreatDoorShkB4
import Derived.Test.YtdiiafgoccakkaaGreatDoorShkB5
import Derived.Test.YtdiiafgoccakkaaGreatDoorShkB6
import Derived.Test.YtdiiafgoccakkaaGreatDoorShkB7
import Derived.Test.YtdiiafgoccakkaaGreatDoorShkB8
set_option linter.unusedVariables false
set_option linter.unusedSimpArgs false
set_option maxRecDepth 100000
set_option maxHeartbeats 8000000
namespace Go.Proofs.YtdiiafgoccakkaaGreatDoor
section
open Go Go.RowKit Go.Maps
namespace Nam
end Nam
def zev (w:World):Prop:=∃ m:Int,w.cell? ⟨0,0,none⟩=some (.int .i64 m)
end
section
open Go
namespace Sto
open Own (Bt Srt BH)
/-! ### entries only grow at the end -/
theorem zdK {s t:St}{x:SOp}(h:move s x=.ok t):s.ents <+: t.ents:=by
 unfold move at h
 split at h
 ·cases h
  split
  ·exact List.prefix_refl _
  ·exact List.prefix_refl _
 ·split at h
  ·split at h
   ·cases h
    exact List.prefix_refl _
   ·cases h
  ·split at h
   ·cases h
    exact⟨_,rfl⟩
   ·cases h
    exact List.prefix_refl _
theorem zdz:∀ (l:List SOp) {s t:St},steps l s=.ok t->s.ents <+: t.ents
 | [],s,t,h => by
   cases h
   exact List.prefix_refl _
 | x :: l,s,t,h => by
   unfold steps at h
   cases hm:step s x with
   | error c=>rw[hm] at h;cases h
   | ok u =>
     rw[hm] at h
     refine List.IsPrefix.trans ?_ (zdz l h)
     unfold step at hm
     cases hv:move s x with
     | error c=>rw[hv] at hm;cases hm
     | ok w =>
       rw[hv] at hm
       dsimp only at hm
       split at hm
       ·cases hm
        exact zdK hv
       ·cases hm
theorem zdP {s t:St}{l:List SOp}(h:txn s l=.ok t):s.ents <+: t.ents:=by
 unfold txn at h
 split at h
 ·exact zdz l h
 ·cases h
end Sto
end
section
open Go Go.RowKit Go.Maps
namespace Sto
open Own (Bt Srt BH)
def zd1:Nat->Prop:=fun _=>True
section
variable {F G:Nat->Prop} {w w' : World} {v:Value} {l:List ByteArray}
end
section
variable {F:Nat->Prop} {w w' : World} {a:Option Addr} {n c:Nat}
end
section
variable {F G:Nat->Prop} {w w' : World} {mo mv:Nat} {ve:Value} {s:St}
end
end Sto
end
section
open Go Go.RowKit Go.Maps
def zdu (xs:List ByteArray):Nat:=(xs.map ByteArray.size).sum
def zd4 (xs:List ByteArray):Bool:=decide (xs.length<=70)&&decide (zdu xs<=20000)
theorem zd5 (xs:List ByteArray)(k:Nat)(h:k<xs.length):zdu (xs.take (k+1))=zdu (xs.take k)+xs[k].size:=by
 unfold zdu
 rw[List.take_succ_eq_append_getElem h,List.map_append,List.sum_append]
 simp
theorem zdA {xs:List ByteArray}{x:ByteArray}(h:x∈xs):x.size<=zdu xs:=by
 induction xs with
 | nil=>cases h
 | cons y l ih =>
   unfold zdu at ih ⊢
   rw[List.map_cons,List.sum_cons]
   rcases List.mem_cons.1 h with rfl|h1
   ·omega
   ·have:=ih h1;omega
theorem zdF (v:Value)(xs:List ByteArray)(w:World)(h:Am w v xs)(hx:∀ x∈xs,x.size<=140737488355328)(hl:xs.length<=60000):
 Calls Tryz.prog 31 #[v] w fun e w' => e=.returned (.bool (zd4 xs))/\w' = w:=by
 obtain⟨a,c,rfl⟩:=h.len
 have htk:∀ k,k<=xs.length->zdu (xs.take k)<=k*140737488355328:=by
  intro k
  induction k with
  | zero=>intro _;simp[zdu]
  | succ k ih =>
    intro hk
    rw[zd5 xs k (by omega)]
    have h1:=ih (by omega)
    have h2:=hx _ (List.getElem_mem (show k<xs.length by omega))
    omega
 obtain⟨R,hR⟩:∃ R,R=zd4 xs:=⟨_,rfl⟩
 rw[<- hR]
 unfold zd4 at hR
 have HR:=zh hR;have HV:=zh h;have HTK:=zh htk;have HX:=zh hx;clear hR h htk hx
 go_enter Tryz.func31,Tryz.ntmps31
 go_wp2
 go_loopw [3,4] (fun n i wr=>∃ k:Nat,k<=xs.length/\i=.int .i64 k/\n=.int .i64 ((zdu (xs.take k):Nat):Int)/\wr=w) (fun _ i _=>xs.length-(intOf i).toNat)
 case atStart=>exact⟨0,by omega,rfl,rfl,rfl⟩
 case round=>
  obtain⟨k,hk,rfl,rfl,rfl⟩:=hrel
  have hT:=HTK.out k hk
  have hT2:zdu (xs.take k)<=9223372036854775000:=by omega
  by_cases hlt:k<xs.length
  ·have dk:decide ((k:Int)<xs.length)=true:=by simp;omega
   obtain⟨b,o,rfl⟩:=HV.out.addrOf hlt
   have ce:=HV.out.cellAt hlt
   obtain⟨s,hs⟩:∃ s,s=xs.getD k ⟨#[]⟩:=⟨_,rfl⟩
   rw[<- hs] at ce
   have hsx:s=xs[k]:=by rw[hs];simp[List.getD_eq_getElem?_getD,hlt]
   have hstep:zdu (xs.take (k+1))=zdu (xs.take k)+s.size:=by rw[zd5 xs k hlt,hsx]
   have hss:s.size<=140737488355328:=HX.out s (by rw[hsx];exact List.getElem_mem hlt)
   have hn1:=HTK.out (k+1) hlt
   rw[hstep] at hn1
   generalize zdu (xs.take k)=T at*
   have HST:=zh hstep;clear hstep hs hsx
   go_wp2
   exact⟨⟨k+1,by omega,by go_num,by rw[HST.out];go_num,by first|rfl|trivial⟩,by simp[intOf];omega⟩
  ·have dk:decide ((k:Int)<xs.length)=false:=by simp;omega
   have hall:zdu (xs.take k)=zdu xs:=by rw[List.take_of_length_le (by omega)]
   rw[hall] at hT2 ⊢
   clear hall hT
   by_cases h1:xs.length<=70
   ·have e1:decide ((xs.length:Int)<=70)=true:=by simp;omega
    by_cases h2:zdu xs<=20000
    ·have e2:decide (((zdu xs:Nat):Int)<=20000)=true:=by simp;omega
     have hf:R=true:=by rw[HR.out,decide_eq_true h1,decide_eq_true h2]<;>rfl
     have HF:=zh hf;clear hf
     go_wp2
     go_ret
     exact⟨by rw[HF.out]<;>rfl,rfl⟩
    ·have e2:decide (((zdu xs:Nat):Int)<=20000)=false:=by simp;omega
     have hf:R=false:=by rw[HR.out,decide_eq_false h2];simp
     have HF:=zh hf;clear hf
     go_wp2
     go_ret
     exact⟨by rw[HF.out]<;>rfl,rfl⟩
   ·have e1:decide ((xs.length:Int)<=70)=false:=by simp;omega
    have hf:R=false:=by rw[HR.out,decide_eq_false h1];simp
    have HF:=zh hf;clear hf
    go_wp2
    go_ret
    exact⟨by rw[HF.out]<;>rfl,rfl⟩
namespace Sto
def zek:Elem (List SOp):=fun F w cs l=>∃ u,cs=[u]/\Nt F w u l
instance:Cc zek:=⟨fun⟨u,h1,h2⟩ hs hk=>⟨u,h1,h2.keep hs hk⟩,fun⟨u,h1,h2⟩ hF=>⟨u,h1,h2.mono hF⟩⟩
abbrev zd0 (F:Nat->Prop)(w:World)(v:Value)(L:List (List SOp)):Prop:=Dp 1 zek F w v L
theorem zd0.cells {F:Nat->Prop}{w:World}{a:Option Addr}{n c:Nat}{L:List (List SOp)}(h:zd0 F w (.slice a n c) L){i:Nat}(hi:i<L.length):∃ b o u,a=some ⟨b,o,none⟩/\b<w.heap.size/\w.cell? ⟨b,o+i,none⟩=some u/\Nt F w u L[i]:=by
 obtain⟨b,o,ha,_,hb,cs,h1,h2,u,h3,h4⟩:=h.at_ hi
 subst h3
 refine⟨b,o,u,ha,hb,?_,h4⟩
 have:=h2 0 _ rfl
 rw[Nat.mul_one,Nat.add_zero] at this
 exact this
end Sto
end
section
open Go Go.RowKit Go.Maps
namespace Sto
structure zeb (L:List (List SOp)):Prop where
 l:L.length<=140737488355328
 i:∀ ops∈L,ops.length<=140737488355328
 r:∀ ops∈L,∀ x∈ops,∀ y∈x.obj.refs,y.size<=140737488355328
def zdQ (x:SOp):Prop:=x.name.size<=100/\x.data.size<=1500/\x.obj.data.size<=600/\x.obj.refs.length<=4/\zd4 x.obj.refs=true
theorem zdA {xs:List ByteArray} : ∀ {x:ByteArray},x∈xs->x.size<=zdu xs:=by
 induction xs with
 | nil=>intro x h;cases h
 | cons y l ih =>
   intro x h
   have e:zdu (y::l)=y.size+zdu l:=by unfold zdu;rw[List.map_cons,List.sum_cons]
   rcases List.mem_cons.1 h with rfl|h
   ·omega
   ·have:=ih h;omega
theorem zdQ.reach {x:SOp}(h:zdQ x):Fe x:=by
 obtain⟨h1,h2,h3,h4,h5⟩:=h
 unfold zd4 at h5
 simp only[Bool.and_eq_true,decide_eq_true_eq] at h5
 exact⟨⟨fun y hy=>by have:=zdA hy;omega,by omega,by omega⟩,by omega,by omega⟩
def zdH (L:List (List SOp))(w:World)(e:Ending)(w' : World):Prop:=(∃ b,e=.returned (.bool b)/\(b=true->L.length<=10/\(∀ ops∈L,ops.length<=30)/\∀ ops∈L,∀ x∈ops,zdQ x))/\Below w.heap.size w w'
def zd7 (L:List (List SOp))(k:Nat):Nat:=((L.take k).map List.length).sum
theorem zdy {L:List (List SOp)}{k:Nat}(h:k<L.length):zd7 L (k+1)=zd7 L k+L[k].length:=by
 unfold zd7
 rw[List.take_succ_eq_append_getElem h,List.map_append,List.sum_append]
 simp
theorem zdI {L:List (List SOp)}(hL:∀ ops∈L,ops.length<=140737488355328):∀ k,k<=L.length->zd7 L k<=k*140737488355328
 | 0,_=>by unfold zd7;simp
 | k + 1,h => by
   rw[zdy (by omega)]
   have:=zdI hL k (by omega)
   have:=hL _ (List.getElem_mem (show k<L.length by omega))
   omega
theorem zdR {L:List (List SOp)}{m:Nat}(h:zd7 L L.length<=m):∀ ops∈L,ops.length<=m:=by
 intro ops ho
 obtain⟨i,hi,rfl⟩:=List.getElem_of_mem ho
 have key:∀ k,i<k->k<=L.length->L[i].length<=zd7 L k:=by
  intro k
  induction k with
  | zero=>intro h;omega
  | succ k ih =>
    intro h1 h2
    rw[zdy (by omega)]
    by_cases e:i=k
    ·subst e;omega
    ·have:=ih (by omega) (by omega);omega
 exact Nat.le_trans (key L.length hi (Nat.le_refl _)) h
theorem zd2 (F:Nat->Prop)(v:Value)(L:List (List SOp))(w:World)(h:zd0 F w v L)(hr:zeb L):
 Calls Tryz.prog 8 #[v] w (zdH L w):=by
 obtain⟨R,hR⟩:∃ R,R=zdH L w:=⟨_,rfl⟩
 rw[<- hR]
 obtain⟨va,vc,rfl⟩:=h.len
 have hll:=hr.l
 have HR:=zh hR;have H:=zh h;have HRE:=zh hr
 clear hR h hr
 go_enter Tryz.func8,Tryz.ntmps8
 go_wp2
 go_loopw [3,4] (fun nv i wr=>∃ (k:Nat) (m:Int),k<=L.length/\i=.int .i64 k/\nv=.int .i64 m/\(L.length<=10->m=zd7 L k)/\(∀ ops∈L.take k,∀ x∈ops,zdQ x)/\Below w.heap.size w wr) (fun _ i _=>L.length-(intOf i).toNat)
 case atStart=>exact⟨0,0,Nat.zero_le _,rfl,rfl,fun _=>rfl,(fun _ h=>by cases h),Below.refl _ _⟩
 case round=>
  obtain⟨k,m,hk,rfl,rfl,hm,hfx,hb⟩:=hrel
  have HM:=zh hm;have HB:=zh hb;have HFX:=zh hfx
  clear hm hb hfx
  by_cases hlt:k<L.length
  ·have dk:decide ((k:Int)<L.length)=true:=by simp;omega
   obtain⟨wo,hwo⟩:∃ x,x=wr:=⟨_,rfl⟩
   subst hwo
   obtain⟨b,o,u,ha,hbl,ce,hu⟩:=zd0.cells (H.out.below HB.out) hlt
   subst ha
   obtain⟨ops,hops⟩:∃ x,x=L[k]:=⟨_,rfl⟩
   rw[<- hops] at hu
   obtain⟨ua,uc,rfl⟩:=hu.len
   have hml:ops∈L:=by rw[hops];exact List.getElem_mem hlt
   have hol:=HRE.out.i _ hml
   have HU:=zh hu;have wG:=zh hops;have HML:=zh hml
   have HCE:=zh (show ∀ W,Below wo.heap.size wo W->W.cell? ⟨b,o+k,none⟩=some (.slice ua ops.length uc) from fun W hW=>(hW.cell (p:=⟨b,o+k,none⟩) hbl).trans ce)
   clear hu hops hml ce
   go_wp2
   go_loopw [3,5] (fun nv i wr=>∃ (j:Nat) (m2:Int),j<=ops.length/\i=.int .i64 j/\nv=.int .i64 m2/\(L.length<=10->m2=zd7 L k+j)/\(∀ x∈ops.take j,zdQ x)/\Below wo.heap.size wo wr) (fun _ i _=>ops.length-(intOf i).toNat)
   case atStart=>exact⟨0,m,Nat.zero_le _,rfl,rfl,fun h=>by rw[HM.out h];simp,(fun _ h=>by cases h),Below.refl _ _⟩
   case round=>
    obtain⟨j,m2,hj,rfl,rfl,hm2,zel,hb2⟩:=hrel
    have HM2:=zh hm2;have HB2:=zh hb2;have zem:=zh zel
    clear hm2 zel
    have ce:=HCE.out _ hb2
    clear hb2
    by_cases hlj:j<ops.length
    ·have dj:decide ((j:Int)<ops.length)=true:=by simp;omega
     obtain⟨b2,o2,v',ha2,yR,e0,e1,e2,e3,e4,e5,hu9⟩:=Nt.cells (HU.out.below HB2.out) hlj
     subst ha2
     obtain⟨x,hx⟩:∃ x,x=ops[j]:=⟨_,rfl⟩
     have hrx:=HRE.out.r _ HML.out x (by rw[hx];exact List.getElem_mem hlj)
     rw[<- hx] at e0 e1 e2 e3 e5 hu9
     obtain⟨ya,yc,rfl⟩:=hu9.len
     have X1:=zh (show Aj wr _ [(77,#[.int .i64 x.kind,.string x.name,.string x.data,.int .i64 x.obj.kind,.slice ya x.obj.refs.length yc,.string x.obj.data])] from((Bp.nil wr).push 77 #[.int .i64 x.kind,.string x.name,.string x.data,.int .i64 x.obj.kind,.slice ya x.obj.refs.length yc,.string x.obj.data]).boxes)
     have HU9:=zh (hu9.1.below X1.out.under);have HRX:=zh hrx;have HBX:=zh (HB.out.trans ((HB2.out.trans (X1.out.under.mono HB2.out.size)).mono HB.out.size))
     have HBQ:=zh (HB2.out.trans (X1.out.under.mono HB2.out.size))
     have HXE:=zh hx
     clear hx hrx hu9
     go_upto_region 9 with fail
     clear e0 e1 e2 e3 e4 e5 ce
     generalize (wr.alloc (.cells #[.int .i64 x.kind,.string x.name,.string x.data,.int .i64 x.obj.kind,.slice ya x.obj.refs.length yc,.string x.obj.data] 77))=wx at*
     obtain⟨x00,x01,x02,x03,x04,x05⟩:=X1.out.zaU rfl
     by_cases c1:100<x.name.size
     ·have d1:decide ((100:Int)<x.name.size)=true:=zt
      go_wp2
      (try go_ret)
      rw[HR.out]
      exact⟨⟨false,rfl,fun h=>by cases h⟩,HBX.out⟩
     have d1:decide ((100:Int)<x.name.size)=false:=zf
     by_cases c2:1500<x.data.size
     ·have d2:decide ((1500:Int)<x.data.size)=true:=zt
      go_wp2
      (try go_ret)
      rw[HR.out]
      exact⟨⟨false,rfl,fun h=>by cases h⟩,HBX.out⟩
     have d2:decide ((1500:Int)<x.data.size)=false:=zf
     by_cases c3:600<x.obj.data.size
     ·have d3:decide ((600:Int)<x.obj.data.size)=true:=zt
      go_wp2
      (try go_ret)
      rw[HR.out]
      exact⟨⟨false,rfl,fun h=>by cases h⟩,HBX.out⟩
     have d3:decide ((600:Int)<x.obj.data.size)=false:=zf
     by_cases c4:4<x.obj.refs.length
     ·have d4:decide ((4:Int)<x.obj.refs.length)=true:=zt
      go_wp2
      (try go_ret)
      rw[HR.out]
      exact⟨⟨false,rfl,fun h=>by cases h⟩,HBX.out⟩
     have d4:decide ((4:Int)<x.obj.refs.length)=false:=zf
     have hfw:=zdF _ x.obj.refs wx HU9.out HRX.out (by omega)
     obtain⟨fw,zee⟩:∃ f,f=zd4 x.obj.refs:=⟨_,rfl⟩
     rw[<- zee] at hfw
     have HFW:=zh hfw;have HFE:=zh zee
     clear hfw zee
     go_wp2_with fail
     refine HFW.out.mono ?_
     rintro e wz ⟨rfl,hwz⟩
     subst wz
     cases fw with
     | false =>
       go_wp2
       (try go_ret)
       rw[HR.out]
       exact⟨⟨false,rfl,fun h=>by cases h⟩,HBX.out⟩
     | true =>
       go_wp2_with fail
       (try clear x00 x01 x02 x03 x04 x05)
       refine⟨⟨j+1,_,by omega,by go_num,rfl,fun h=>?_,fun y hy=>?_,HBQ.out⟩,by simp[intOf];omega⟩
       rotate_left
       ·rw[List.take_succ_eq_append_getElem hlj] at hy
        rcases List.mem_append.1 hy with hy|hy
        ·exact zem.out y hy
        ·rw[List.mem_singleton.1 hy,<- HXE.out]
         exact⟨by omega,by omega,by omega,by omega,HFE.out.symm⟩
       have h1:=HM2.out h
       have h2:=zdI HRE.out.i k hk
       have h3:k*140737488355328<=10*140737488355328:=Nat.mul_le_mul (by omega) (Nat.le_refl _)
       rw[h1]
       unfold wrap64
       omega
    ·have dj:decide ((j:Int)<ops.length)=false:=by simp;omega
     obtain rfl:j=ops.length:=by omega
     go_wp2_with fail
     refine⟨⟨k+1,m2,by omega,by go_num,rfl,fun h=>?_,fun q hq=>?_,HB.out.trans (HB2.out.mono HB.out.size)⟩,by simp[intOf];omega⟩
     rotate_left
     ·rw[List.take_succ_eq_append_getElem hlt] at hq
      rcases List.mem_append.1 hq with hq|hq
      ·exact HFX.out q hq
      ·rw[List.mem_singleton.1 hq,<- wG.out]
       have:=zem.out
       rw[List.take_length] at this
       exact this
     rw[HM2.out h,zdy hlt,<- wG.out]
     omega
  ·have dk:decide ((k:Int)<L.length)=false:=by simp;omega
   obtain rfl:k=L.length:=by omega
   by_cases c1:L.length<=10
   ·have d1:decide ((L.length:Int)<=10)=true:=zt
    obtain⟨bb,hbb⟩:∃ b,b=decide (m<=30):=⟨_,rfl⟩
    have HBB:=zh hbb
    clear hbb
    go_wp2
    (try go_ret)
    rw[HR.out]
    have hfx:=HFX.out
    rw[List.take_length] at hfx
    refine⟨⟨_,rfl,fun h=>⟨c1,zdR ?_,hfx⟩⟩,HB.out⟩
    have h1:=of_decide_eq_true h
    have h2:=HM.out c1
    omega
   ·have d1:decide ((L.length:Int)<=10)=false:=zf
    go_wp2
    (try go_ret)
    rw[HR.out]
    exact⟨⟨false,rfl,fun h=>by cases h⟩,HB.out⟩
end Sto
namespace Sto
open Own (Bt Srt)
theorem zdL {w:World}{a:Option Addr}{n c c' k:Nat}{xs:List ByteArray}(h:Am w (.slice a n c) xs)(hk:k<=xs.length):Am w (.slice a k c') (xs.take k):=by
 obtain⟨a',c2,he,h0|⟨b,o,ha,hc⟩⟩:=h
 ·cases he
  obtain rfl:k=0:=by omega
  exact⟨a,c',by simp,.inl (by simp)⟩
 ·cases he
  refine⟨a,c',by simp[Nat.min_eq_left hk],.inr ⟨b,o,ha,fun j hj=>?_⟩⟩
  rw[List.length_take,Nat.min_eq_left hk] at hj
  rw[hc j (by omega),List.getD_eq_getElem?_getD,List.getD_eq_getElem?_getD,List.getElem?_take_of_lt hj]
theorem zdX {w w' : World}{p:StP}{ep:Nat}{s:St}{c:Ac}{l:List SOp}{e:Ending}(h:I4 w p ep s c l e w')(ha:BK w p ep s c):
 ∃ k p' ep' s' c',e=.returned (.int .i64 k)/\CU w w' p p' ep' s' c' /\ ep' <= ep+1/\(s' = s\/txn s l=.ok s'):=by
 unfold I4 at h
 cases ht:txn s l with
 | error k =>
   rw[ht] at h
   obtain⟨rfl,hb⟩:=h
   exact⟨k,p,ep,s,c,rfl,.of_below ha hb,by omega,.inl rfl⟩
 | ok t =>
   rw[ht] at h
   dsimp only at h
   split at h
   ·obtain⟨rfl,hb⟩:=h
    exact⟨7,p,ep,s,c,rfl,.of_below ha hb,by omega,.inl rfl⟩
   ·split at h
    ·obtain⟨rfl,p',hs⟩:=h
     exact⟨0,p',ep,t,_,rfl,hs,by omega,.inr rfl⟩
    ·split at h
     ·obtain⟨rfl,p',c',hs⟩:=h
      exact⟨0,p',ep+1,t,c',rfl,hs,by omega,.inr rfl⟩
     ·obtain⟨rfl,hb⟩:=h
      exact⟨22,p,ep,s,c,rfl,.of_below ha hb,by omega,.inl rfl⟩
theorem grows {s s' : St}{l:List SOp}(h:s' = s\/txn s l=.ok s'):s'.ents.take s.ents.length=s.ents/\s.ents.length<=s'.ents.length:=by
 rcases h with rfl|h
 ·exact⟨List.take_of_length_le (Nat.le_refl _),Nat.le_refl _⟩
 ·have hp:=zdP h
  exact⟨(List.prefix_iff_eq_take.1 hp).symm,hp.length_le⟩
theorem zdM {x:Val}(h:Jd x=true):1<=x.name.size/\x.name.size<=64/\1<=x.data.size/\x.data.size<=65536:=by
 unfold Jd EU at h
 simp only[Bool.and_eq_true,decide_eq_true_eq] at h
 exact⟨h.1.1.1,h.1.1.2,h.1.2,h.2⟩
theorem zdN {s:St}(h:Bw s){x:Val}(hx:x∈s.vals):lK s x.name=x.data:=by
 unfold lK
 rw[aj h.vs hx]
end Sto
namespace Sto
open Own (Bt Srt)
structure KpI (w:World) (sb:Nat) (ov:Value) (wr:World) (k:Nat) (p:StP) (ep:Nat) (s:St) (c:Ac):Prop where
 at_:BK wr p ep s c
 sb_:p.sb=sb
 ep_:ep<=1+k
 old:Am wr ov s.ents
 ob:0<s.ents.length->∀ q,ov.ownBlock=some q->q<wr.heap.size/\¬ p.core q
 bw:Below w.heap.size w wr
 ft:∀ q,p.foot q->w.heap.size<=q
end Sto
open Sto
theorem zdG (n0:Int)(F:Nat->Prop)(v:Value)(L:List (List SOp))(w:World)(hn0:0<=n0/\n0<256)(h:zd0 F w v L)(hr:zeb L):
 Calls Tryz.prog 5 #[.int .u8 n0,v] w fun e w' => e=.returned (.bool true)/\Below w.heap.size w w':=by
 obtain⟨n,rfl⟩:∃ n:Nat,n0=n:=⟨n0.toNat,by omega⟩
 have hn:n<256:=by omega
 clear hn0
 obtain⟨va,vc,rfl⟩:=h.len
 have H:=zh h;have HRE:=zh hr
 clear h hr
 go_enter Tryz.func5,Tryz.ntmps5
 go_wp2_with fail
 refine(xJ _).mono ?_
 rintro e w1 ⟨rfl,hb1⟩
 have HB1:=zh hb1
 clear hb1
 go_wp2_with fail
 refine(zd2 F _ L _ (H.out.below HB1.out) HRE.out).mono ?_
 rintro e w2 ⟨⟨b,rfl,hb⟩,hb2⟩
 have HB2:=zh (HB1.out.trans (hb2.mono HB1.out.size))
 clear hb2
 cases b with
 | false =>
   go_wp2
   (try go_ret)
   exact⟨rfl,HB2.out⟩
 | true=>
 obtain⟨hL,hi,hfx⟩:=hb rfl
 have HI:=zh hi;have HFX:=zh hfx
 clear hb hi hfx
 have hpg:=dJ (8+n%33) w2 (by omega) (by omega)
 rw[show((8+n%33:Nat):Int)=8+(n:Int)%33 by omega] at hpg
 obtain⟨c0,hc0⟩:∃ c,c=Ac.blank (8+n%33):=⟨_,rfl⟩
 rw[<- hc0] at hpg
 have zb6:Calm c0:=by rw[hc0];exact iD _
 have hsz:Ga c0:=by rw[hc0];exact ZR _
 have hlen:8<=c0.Aa.length:=by rw[hc0];show 8<=(List.replicate _ _).length;rw[List.length_replicate];omega
 have HPG:=zh hpg;have zb7:=zh zb6;have HSZ:=zh hsz;have HLEN:=zh hlen
 clear hpg zb6 hsz hlen hc0
 go_wp2_with fail
 refine HPG.out.mono ?_
 rintro e w3 ⟨d,v,rfl,hd,hvs,hb3,hdf⟩
 unfold Yg
 obtain⟨ra,rn,rc,rfl⟩:∃ a n c,v=.slice a n c:=by obtain⟨a,c,h⟩:=hvs.len;exact⟨a,_,c,h⟩
 have hal:Below w3.heap.size w3 (w3.alloc (.cells #[.slice ra rn rc,.slice none 0 0] 41)):=zb
 have HD:=zh (hd.below hal (Nat.le_refl _));have HB3:=zh (HB2.out.trans ((hb3.trans (hal.mono hb3.size)).mono HB2.out.size));have HDF:=zh (show ∀ k,d.foot k->w.heap.size<=k from fun k hk=>Nat.le_trans HB2.out.size (hdf k hk))
 clear hd hal hb3 hvs hdf HPG
 go_upto_region 6 with fail
 generalize w3.alloc (.cells #[.slice ra rn rc,.slice none 0 0] 41)=w4 at*
 go_wp2_with fail
 refine(dR d c0 _ HD.out zb7.out HSZ.out HLEN.out).mono ?_
 rintro e w5 ⟨p,rfl,hp,-,-,-,-,-,hft,hfr⟩
 have HP:=zh hp
 have HB5:=zh (HB3.out.trans (Fr.El hfr (fun k hk=>HDF.out k hk) HB3.out.size))
 have HFT:=zh (show ∀ k,p.foot k->w.heap.size<=k from fun k hk=>(hft k hk).elim (HDF.out k) fun h=>Nat.le_trans HB3.out.size h)
 clear hp hft hfr HD HB3 HDF zb7 HSZ HLEN HB1 HB2
 go_wp2
 go_loopw [9,51] (fun ov i wr=>∃ (k:Nat) (q:StP) (ep:Nat) (s:St) (c:Ac),k<=L.length/\i=.int .i64 k/\KpI w p.sb ov wr k q ep s c) (fun _ i _=>L.length-(intOf i).toNat)
 case atStart=>exact⟨0,p,1,St.none,_,Nat.zero_le _,rfl,HP.out,rfl,Nat.le_refl _,⟨none,0,rfl,.inl rfl⟩,(fun _ q h=>by cases h),HB5.out,HFT.out⟩
 case round=>
  obtain⟨k,q,ep,s,c,hk,rfl,hki⟩:=hrel
  obtain⟨xa,xc,rfl⟩:=hki.old.len
  have HK:=zh hki
  clear hki
  by_cases hlt:k<L.length
  ·have dk:decide ((k:Int)<L.length)=true:=by simp;omega
   obtain⟨wo,hwo⟩:∃ x,x=wr:=⟨_,rfl⟩
   subst hwo
   obtain⟨b,o,u,ha,hbl,ce,hu⟩:=zd0.cells (H.out.below HK.out.bw) hlt
   subst ha
   obtain⟨ops,hops⟩:∃ x,x=L[k]:=⟨_,rfl⟩
   rw[<- hops] at hu
   obtain⟨ua,uc,rfl⟩:=hu.len
   have hml:ops∈L:=by rw[hops];exact List.getElem_mem hlt
   have hcm:=cB q ep s c _ (.slice ua ops.length uc) ops wo HK.out.at_ (by have:=HK.out.ep_;omega) hu (fun x hx=>(HFX.out _ hml x hx).reach) (by have:=HI.out _ hml;omega)
   rw[HK.out.sb_] at hcm
   have HCM:=zh hcm
   clear hcm hu hops hml
   go_wp2_with fail
   refine HCM.out.mono ?_
   intro e w6 hpost
   obtain⟨kk,q1,ep1,s1,c1,rfl,hst,zew,hgr⟩:=zdX hpost HK.out.at_
   have zef:=hst.sb.trans HK.out.sb_
   have hss:=Vg q1.sb q1.d.a ep1 q1.mo q1.ve q1.mv _ q1.F s1 w6 hst.at_.self hst.at_.st hst.at_.ok
   rw[zef] at hss
   obtain⟨hg1,hg2⟩:=grows hgr
   have hb6:Below w.heap.size w w6:=HK.out.bw.trans (Fr.El hst.fr (fun j hj=>HK.out.ft j (by rcases hj with h|h|h;exact .inl h;exact .inr (.inr (.inl h));exact .inr (.inr (.inr h)))) HK.out.bw.size)
   have hold:Am w6 (.slice xa s.ents.length xc) s.ents:=by
    by_cases h0:0<s.ents.length
    ·exact HK.out.old.keep fun j hj hl=>hst.fr.keep j hl (HK.out.ob h0 j hj).2
    ·exact HK.out.old.empty (by omega) w6
   have zb8:∀ j,q1.foot j->w.heap.size<=j:=fun j hj=>(hst.foot j hj).elim (HK.out.ft j) fun h=>Nat.le_trans HK.out.bw.size h
   have HSS:=zh hss;have HST:=zh hst.at_;have zeg:=zh zef;have zex:=zh (show ep1<=1+(k+1) by have:=HK.out.ep_;omega);have HG1:=zh hg1;have HB6:=zh hb6;have HOLD:=zh hold;have HF1:=zh zb8
   clear hpost hst zef hss hgr hg1 hb6 hold zb8 ce HCM zew
   go_wp2_with fail
   refine HSS.out.mono ?_
   rintro e w7 ⟨v6,rfl,⟨wo',we,wv,rfl,h1,h2,h3⟩,hb7,hcp⟩
   obtain⟨oa,oc,rfl⟩:=h1.len
   obtain⟨ea,ec,rfl⟩:=h2.len
   obtain⟨na,nc,rfl⟩:=h3.len
   have hec:s1.ents.length<=ec:=by obtain⟨_,_,_,e,_,_,_,e2,hc⟩:=hcp;cases e;cases e2;exact hc
   have B1:=zh (show Aj w7 _ [(26,#[.slice oa s1.objs.length oc,.slice ea s1.ents.length ec,.slice na s1.vals.length nc])] from((Bp.nil w7).push 26 #[.slice oa s1.objs.length oc,.slice ea s1.ents.length ec,.slice na s1.vals.length nc]).boxes)
   have hb8:=hb7.trans (B1.out.under.mono hb7.size)
   have zc9:=zh (HST.out.below hb8);have HO8:=zh (h1.below B1.out.under);have HE8:=zh (h2.below B1.out.under);have HV8:=zh (h3.below B1.out.under);have zec:=zh (HOLD.out.below hb8);have HB8:=zh (HB6.out.trans (hb8.mono HB6.out.size))
   have ze3:w6.heap.size<=w7.heap.size:=hb7.size
   have zey:=zh (show ∀ j,q1.foot j->j<w6.heap.size from HST.out.lt)
   clear h1 h2 h3 hb7 hb8 hcp HOLD HST HSS HB6
   go_upto_region 17 with fail
   generalize (w7.alloc (.cells #[.slice oa s1.objs.length oc,.slice ea s1.ents.length ec,.slice na s1.vals.length nc] 26))=w8 at*
   obtain⟨b00,b01,b02⟩:=B1.out.Ev rfl
   have dlt:decide ((s1.ents.length:Int)<s.ents.length)=false:=zf
   have ze4:decide (s1.ents.length<s.ents.length)=false:=zf
   have hnl:¬ s1.ents.length<s.ents.length:=by omega
   have ze5:s.ents.length<=ec:=by omega
   have heq:=eP _ _ _ _ w8 (zdL (c':=ec) HE8.out.1 hg2) zec.out (by rw[HG1.out];have:=zc9.out.ok.e1;omega) (by have:=zc9.out.ok.e1;omega)
   rw[decide_eq_true HG1.out] at heq
   have HEQ:=zh heq
   clear heq
   go_wp2_with fail
   refine HEQ.out.mono ?_
   rintro e w9 ⟨rfl,q9,rfl⟩
   have hb9:Below w8.heap.size w8 (w8.drewN q9):=below_drewN (Below.refl _ _) q9
   have zcA:=zh (zc9.out.below hb9);have HO9:=zh (HO8.out.below hb9);have HE9:=zh (HE8.out.below hb9);have HV9:=zh (HV8.out.below hb9);have B9:=zh (B1.out.step hb9);have HB9:=zh (HB8.out.trans (hb9.mono HB8.out.size))
   have hz9:w7.heap.size<=(w8.drewN q9).heap.size:=by have:=B9.out.size;omega
   (try clear b00 b01 b02)
   clear hb9 zc9 HO8 HE8 HV8 zec HB8 HEQ B1
   generalize w8.drewN q9=w9 at*
   obtain⟨b00,b01,b02⟩:=B9.out.Ev rfl
   go_wp2_with fail
   (try clear b00 b01 b02)
   go_loopw [81] (fun i wr=>∃ j:Nat,j<=s1.objs.length/\i=.int .i64 j/\Below w9.heap.size w9 wr) (fun i _=>s1.objs.length-(intOf i).toNat)
   case atStart=>exact⟨0,Nat.zero_le _,rfl,Below.refl _ _⟩
   case round=>
    obtain⟨j,hj,rfl,hbr⟩:=hrel
    have HBR:=zh hbr
    clear hbr
    by_cases hlj:j<s1.objs.length
    ·have dj:decide ((j:Int)<s1.objs.length)=true:=by simp;omega
     obtain⟨b2,o2,xv,ha2,yR,e0,e1,e2,hxv⟩:=Xc.cells (HO9.out.below HBR.out) hlj
     subst ha2
     obtain⟨x,hx⟩:∃ x,x=s1.objs[j]:=⟨_,rfl⟩
     have hmx:x∈s1.objs:=by rw[hx];exact List.getElem_mem hlj
     have zen:=zcA.out.ok.ok x hmx
     have hlk:=aj zcA.out.ok.os hmx
     rw[<- hx] at e0 e2 hxv
     obtain⟨xva,xvc,rfl⟩:=hxv.len
     have hjb:j<=1024:=by have:=zcA.out.ok.o1;omega
     have X1:=zh (show Aj wr _ [(64,#[.int .i64 x.kind,.slice xva x.refs.length xvc,.string x.data])] from((Bp.nil wr).push 64 #[.int .i64 x.kind,.slice xva x.refs.length xvc,.string x.data]).boxes)
     have hbx:=HBR.out.trans (X1.out.under.mono HBR.out.size)
     have HXV:=zh (hxv.1.below X1.out.under);have HX:=zh hx;have HLK:=zh hlk;have HOK:=zh zen;have HBX:=zh hbx
     clear hx hmx zen hlk hxv hbx
     go_upto_region 23 with fail
     clear e0 e1 e2
     generalize (wr.alloc (.cells #[.int .i64 x.kind,.slice xva x.refs.length xvc,.string x.data] 64))=wx at*
     obtain⟨x00,x01,x02⟩:=X1.out.Ev rfl
     have hdg:=Wh x (.slice xva x.refs.length xvc) wx HXV.out (Eu HOK.out)
     rw[OG HOK.out] at hdg
     obtain⟨D,hD⟩:∃ D,D=dig x:=⟨_,rfl⟩
     have hDz:D.size<=140737488350000:=by rw[hD,OE];decide
     have hlk:=HLK.out
     rw[<- hD] at hdg hlk
     have HDG:=zh hdg;have HD:=zh hD;have zeo:=zh hlk
     clear hdg hD hlk HLK
     go_wp2_with fail
     refine HDG.out.mono ?_
     rintro e wa ⟨rfl,hba⟩
     have hgt:=sS q1.sb q1.d.a ep1 q1.mo q1.ve q1.mv _ q1.F s1 D wa (zcA.out.self.below (HBX.out.trans (hba.mono HBX.out.size)) zcA.out.self.lt) (zcA.out.st.below (HBX.out.trans (hba.mono HBX.out.size))) zcA.out.ok hDz
     rw[zeg.out] at hgt
     have HGT:=zh hgt
     have HBA:=zh (HBX.out.trans (hba.mono HBX.out.size));have XA:=zh (X1.out.step hba);have zep:=zh (HXV.out.below hba)
     (try clear x00);(try clear x01);(try clear x02)
     clear hba hgt HDG X1 HXV
     go_wp2_with fail
     refine HGT.out.mono ?_
     intro e wb hpost
     unfold OU at hpost
     rw[zeo.out] at hpost
     obtain⟨yv,rfl,hyv,hbb⟩:=hpost
     obtain⟨yva,yvc,rfl⟩:=hyv.len
     unfold Dj
     have Y1:=zh (show Aj wb _ [(64,#[.int .i64 x.kind,.slice yva x.refs.length yvc,.string x.data])] from((Bp.nil wb).push 64 #[.int .i64 x.kind,.slice yva x.refs.length yvc,.string x.data]).boxes)
     have hbc:=hbb.trans (Y1.out.under.mono hbb.size)
     have HBC:=zh (HBA.out.trans (hbc.mono HBA.out.size));have XC:=zh (XA.out.step hbc);have zeq:=zh (zep.out.below hbc);have zer:=zh (hyv.1.below Y1.out.under)
     clear hyv hbb hbc XA zep HGT zeo
     go_upto_region 25 with fail
     generalize (wb.alloc (.cells #[.int .i64 x.kind,.slice yva x.refs.length yvc,.string x.data] 64))=wc at*
     obtain⟨x00,x01,x02⟩:=XC.out.Ev rfl
     obtain⟨y00,y01,y02⟩:=Y1.out.Ev rfl
     have hsm:=dD x x (.slice yva x.refs.length yvc) (.slice xva x.refs.length xvc) wc zer.out zeq.out (Eu HOK.out) (Eu HOK.out)
     rw[jG] at hsm
     unfold Dj at hsm
     have HSM:=zh hsm
     clear hsm
     go_wp2_with fail
     refine HSM.out.mono ?_
     rintro e wd ⟨rfl,hbd⟩
     have HBD:=zh (HBC.out.trans (hbd.mono HBC.out.size))
     (try clear x00);(try clear x01);(try clear x02)
     (try clear y00 y01 y02)
     clear hbd HSM XC Y1 zeq zer
     by_cases hj0:j=0
     ·have dj0:decide ((0:Int)<j)=false:=zf
      have dj1:decide (0<j)=false:=zf
      have HJ0:=zh hj0
      clear hj0
      go_wp2
      exact⟨⟨j+1,by omega,by go_num,HBD.out⟩,by simp[intOf];omega⟩
     ·have hjp:0<j:=by omega
      have dj0:decide ((0:Int)<j)=true:=zt
      have hlp:j-1<s1.objs.length:=by omega
      have hix:((j:Int)-1).toNat=j-1:=by omega
      obtain⟨z,hz⟩:∃ z,z=s1.objs[j-1]:=⟨_,rfl⟩
      have zeh:=zcA.out.ok.ok z (by rw[hz];exact List.getElem_mem hlp)
      have hless:=List.pairwise_iff_getElem.1 zcA.out.ok.os (j-1) j hlp hlj (by omega)
      rw[<- hz,<- HX.out] at hless
      obtain⟨b3,o3,zv,XL,zez,f0,f1,f2,hzv⟩:=Xc.cells (HO9.out.below HBD.out) hlp
      cases XL
      rw[<- hz] at f0 f2 hzv
      obtain⟨zva,zvc,rfl⟩:=hzv.len
      have hdz:=Wh z (.slice zva z.refs.length zvc) wd hzv.1 (Eu zeh)
      rw[OG zeh] at hdz
      obtain⟨Z,hZ⟩:∃ Z,Z=dig z:=⟨_,rfl⟩
      rw[<- hZ] at hdz hless
      rw[<- HD.out] at hless
      have hl2:Op.bytesLess Z.toList D.toList=true:=hless
      unfold Dj at hdz
      have HDZ:=zh hdz
      clear hdz hz zeh hless hzv hZ
      have BD:=zh (B9.out.step HBD.out)
      obtain⟨b00,b01,b02⟩:=BD.out.Ev rfl
      go_wp2_with fail
      refine HDZ.out.mono ?_
      rintro e we ⟨rfl,hbe⟩
      have HBE:=zh (HBD.out.trans (hbe.mono HBD.out.size))
      (try clear b00 b01 b02)
      clear hbe f0 f1 f2
      go_wp2
      exact⟨⟨j+1,by omega,by go_num,HBE.out⟩,by simp[intOf];omega⟩
    ·have dj:decide ((j:Int)<s1.objs.length)=false:=by simp;omega
     have hB9:=B9.out.step HBR.out
     have HBW:=zh (HB9.out.trans (HBR.out.mono HB9.out.size));have zdB:=zh (zcA.out.below HBR.out);have HEA:=zh (HE9.out.below HBR.out);have HVA:=zh (HV9.out.below HBR.out);have BA:=zh hB9
     have hza:w9.heap.size<=wr.heap.size:=HBR.out.size
     clear hB9 HB9 zcA HE9 HV9 B9 HO9
     obtain⟨wk,hwk⟩:∃ x,x=wr:=⟨_,rfl⟩
     subst hwk
     obtain⟨b00,b01,b02⟩:=BA.out.Ev rfl
     go_wp2_with fail
     (try clear b00 b01 b02)
     go_loopw [128] (fun i wr=>∃ j:Nat,j<=s1.vals.length/\i=.int .i64 j/\Below wk.heap.size wk wr) (fun i _=>s1.vals.length-(intOf i).toNat)
     case atStart=>exact⟨0,Nat.zero_le _,rfl,Below.refl _ _⟩
     case round=>
      obtain⟨j,hj,rfl,hbr⟩:=hrel
      have HBR:=zh hbr
      clear hbr
      by_cases hlj:j<s1.vals.length
      ·have dj:decide ((j:Int)<s1.vals.length)=true:=by simp;omega
       obtain⟨b2,o2,ha2,yR,e0,e1⟩:=UD.cells (HVA.out.below HBR.out) hlj
       subst ha2
       obtain⟨x,hx⟩:∃ x,x=s1.vals[j]:=⟨_,rfl⟩
       have hmx:x∈s1.vals:=by rw[hx];exact List.getElem_mem hlj
       obtain⟨z1,z2,z3,z4⟩:=zdM (zdB.out.ok.vk x hmx)
       have hva:=zdN zdB.out.ok hmx
       rw[<- hx] at e0 e1
       have hjb:j<=1024:=by have:=zdB.out.ok.v1;have h9:=hlj;omega
       have X1:=zh (show Aj wr _ [(71,#[.string x.name,.string x.data])] from((Bp.nil wr).push 71 #[.string x.name,.string x.data]).boxes)
       have hbx:=HBR.out.trans (X1.out.under.mono HBR.out.size)
       have HX:=zh hx;have HVX:=zh hva;have HBX:=zh hbx
       clear hx hmx hva hbx
       go_upto_region 35 with fail
       clear e0 e1
       generalize (wr.alloc (.cells #[.string x.name,.string x.data] 71))=wx at*
       have dd:(x.data.toList==[])=false:=by
        rw[beq_eq_false_iff_ne]
        intro e
        have h3:x.data.size=0:=by
         have h2:=congrArg List.length e
         rw[ByteArray.toList_eq,Sha.Aq] at h2
         exact h2
        omega
       have hvl:=jC q1.sb q1.d.a ep1 q1.mo q1.ve q1.mv _ q1.F s1 x.name wx.drew (zdB.out.self.below (HBX.out.drew) zdB.out.self.lt) (zdB.out.st.below HBX.out.drew) (by omega)
       rw[HVX.out,zeg.out] at hvl
       have HVL:=zh hvl
       have HXI:=zh (show(wx.cell? ⟨wr.heap.size,1,none⟩).isSome=true by rw[show wx.cell? ⟨wr.heap.size,1,none⟩=some (.string x.data) from X1.out.cell 0 1 rfl rfl]<;>rfl)
       clear hvl
       have BX:=zh (BA.out.step HBX.out)
       obtain⟨b00,b01,b02⟩:=BX.out.Ev rfl
       obtain⟨x00,x01⟩:=X1.out.vF rfl
       refine Lex.zn (fun i=>i=wr.heap.size) [25] 26 [24] ?_
       simp only[Lex.Bh,zd]
       by_cases hj0:j=0
       ·have dj0:decide ((0:Int)<j)=false:=zf
        have dj1:decide (0<j)=false:=zf
        have HJ0:=zh hj0
        clear hj0
        go_wp2_with fail
        refine HVL.out.mono ?_
        rintro e wy ⟨rfl,hby⟩
        replace hby:Below wx.heap.size wx wy:=(Below.refl wx.heap.size wx).drew.trans hby
        have HBY:=zh hby
        have zei:=zh (HBX.out.trans (hby.mono HBX.out.size))
        (try clear x00);(try clear x01)
        clear hby
        have XY:=zh (X1.out.step HBY.out)
        obtain⟨x00,x01⟩:=XY.out.vF rfl
        go_wp2
        refine Lex.Mid.intro (fun i hi hl=>by subst hi;exact HBY.out.block _ (by have:=X1.out.size;exact this)) ?_
        go_wp2
        refine Lex.zk ⟨⟨rfl,HXI.out⟩,trivial⟩ ?_
        go_wp2
        exact⟨⟨j+1,by omega,by go_num,zei.out⟩,by simp[intOf];omega⟩
       ·have hjp:0<j:=by omega
        have dj0:decide ((0:Int)<j)=true:=zt
        have hlp:j-1<s1.vals.length:=by omega
        have hix:((j:Int)-1).toNat=j-1:=by omega
        obtain⟨z,hz⟩:∃ z,z=s1.vals[j-1]:=⟨_,rfl⟩
        have hless:=List.pairwise_iff_getElem.1 zdB.out.ok.vs (j-1) j hlp hlj (by omega)
        rw[<- hz,<- HX.out] at hless
        have hl2:Op.bytesLess z.name.toList x.name.toList=true:=hless
        obtain⟨b3,o3,XL,zez,f0,f1⟩:=UD.cells (HVA.out.below HBX.out) hlp
        cases XL
        rw[<- hz] at f0 f1
        clear hz hless hj0
        go_wp2_with fail
        refine HVL.out.mono ?_
        rintro e wy ⟨rfl,hby⟩
        replace hby:Below wx.heap.size wx wy:=(Below.refl wx.heap.size wx).drew.trans hby
        have HBY:=zh hby
        have zei:=zh (HBX.out.trans (hby.mono HBX.out.size))
        (try clear x00);(try clear x01)
        clear hby
        have XY:=zh (X1.out.step HBY.out)
        obtain⟨x00,x01⟩:=XY.out.vF rfl
        go_wp2
        refine Lex.Mid.intro (fun i hi hl=>by subst hi;exact HBY.out.block _ (by have:=X1.out.size;exact this)) ?_
        go_wp2
        refine Lex.zk ⟨⟨rfl,HXI.out⟩,trivial⟩ ?_
        go_wp2
        exact⟨⟨j+1,by omega,by go_num,zei.out⟩,by simp[intOf];omega⟩
      ·have dj:decide ((j:Int)<s1.vals.length)=false:=by simp;omega
       have hbw:=HBW.out.trans (HBR.out.mono HBW.out.size)
       have ze0:=zh (zdB.out.below HBR.out);have HEF:=zh (HEA.out.below HBR.out);have ze1:=zh hbw
       have hzf:wk.heap.size<=wr.heap.size:=HBR.out.size
       clear hbw
       go_wp2_with fail
       refine⟨⟨k+1,q1,ep1,s1,c1,by omega,by go_num,⟨ze0.out,zeg.out,zex.out,HEF.out.1,fun h0 j hj=>?_,ze1.out,HF1.out⟩⟩,by simp[intOf];omega⟩
       have h2:=HEF.out.2 h0 j hj
       have h3:w6.heap.size<=j:=h2.1
       exact⟨h2.2,fun hc=>by have h4:=zey.out j (by rcases hc with h|h|h;exact .inl h;exact .inr (.inr (.inl h));exact .inr (.inr (.inr h)));omega⟩
  ·have dk:decide ((k:Int)<L.length)=false:=by simp;omega
   go_wp2
   (try go_ret)
   exact⟨rfl,HK.out.bw⟩
theorem Am.opened {w:World}{a:Addr}{len cap:Nat}{ss:List ByteArray}(h:∀ i,i<ss.length->w.cell? (a.add i)=some (.string (ss.getD i ByteArray.empty)))(hl:len<=ss.length):Am w (.slice (some a) len cap) (ss.take len):=by
 have e:(ss.take len).length=len:=by rw[List.length_take];omega
 by_cases h0:len=0
 ·exact⟨_,_,by rw[e],.inl (by rw[e];exact h0)⟩
 ·obtain⟨b,o,sp⟩:=a
  cases sp with
  | none =>
    refine⟨_,_,by rw[e],.inr ⟨b,o,rfl,fun j hj=>?_⟩⟩
    rw[e] at hj
    have:=h j (by omega)
    have e2:(⟨b,o,none⟩:Addr).add j=⟨b,o+j,none⟩:=by unfold Addr.add;split<;>simp_all
    rw[e2] at this
    rw[this]
    have:(ss.take len).getD j ⟨#[]⟩=ss.getD j ByteArray.empty:=by simp[List.getD_eq_getElem?_getD,List.getElem?_take,hj];rfl
    rw[this]
  | some p =>
    exfalso
    have:=h 0 (by omega)
    unfold World.cell? Addr.add at this
    simp at this
    split at this<;>simp_all
open Go.ChangeShapes in
theorem zdx {H:Type}{P:Program}{e:TypeId} : ∀ (ss:List ByteArray),(DataW.weightsAll P e (strs (H:=H) ss)).all (· <= reachBytes)=true->∀ s∈ss,s.size<=reachBytes
 | [],_,_,h=>by cases h
 | x :: l,h,s,hs => by
   have e1:DataW.weightsAll P e (strs (H:=H) (x::l))=[x.data.toList.length]++DataW.weightsAll P e (strs (H:=H) l):=rfl
   rw[e1,List.all_append,Bool.and_eq_true] at h
   rcases List.mem_cons.1 hs with rfl|hs
   ·have:=h.1
    simp only[List.all_cons,List.all_nil,Bool.and_true,decide_eq_true_eq] at this
    rw[Array.length_toList] at this
    exact this
   ·exact zdx l h.2 s hs
theorem zd8:Tryz.prog.bytesOf 9=16:=by kernel_rfl
open Go.ChangeShapes Go.WideShapes in
theorem zdY {H:Type}{enc:TypeId × Value->H}{W:World}{a:Option Addr}{len cap:Nat}{d:DataW H}{p:List MemPlace}(h:DataW.Trod enc Tryz.prog W 0 (fun _=>true) true 23 (.slice a len cap) d p)
 (hz:(d.weights Tryz.prog 23).all (· <= reachBytes)=true):∃ xs:List ByteArray,Am W (.slice a len cap) xs/\(∀ z∈xs,z.size<=140737488355328)/\xs.length<=140737488355328:=by
 obtain⟨fuel,hf⟩:=h
 rcases open_strings Tryz.underlying23 Tryz.underlying9 (by kernel_rfl) hf with ⟨hcs,_⟩|⟨a',len',cap',ss,hcs,_,hl,hm,hn,hx2,hcell,_⟩
 ·have e:Value.slice a len cap=.slice none 0 0:=by simpa [Value.cells] using hcs
  rw[e]
  exact⟨[],⟨none,0,rfl,.inl rfl⟩,(fun z hz=>by cases hz),Nat.zero_le _⟩
 ·have e:Value.slice a len cap=.slice (some a') len' cap':=by simpa [Value.cells] using hcs
  rw[e]
  have hn' : ss.length=cap':=by simpa using hn
  have hd:d=.slice (strs (ss.take len')) (strs (ss.drop len')):=(Prod.mk.inj hx2).1
  rw[hd] at hz
  have hw:(DataW.slice (strs (H:=H) (ss.take len')) (strs (ss.drop len'))).weights Tryz.prog 23=((strs (H:=H) (ss.take len')).length+(strs (H:=H) (ss.drop len')).length)*Tryz.prog.bytesOf 9::(DataW.weightsAll Tryz.prog 9 (strs (H:=H) (ss.take len'))++DataW.weightsAll Tryz.prog 9 (strs (H:=H) (ss.drop len'))):=by
   simp only[DataW.weights,Tryz.underlying23]
  rw[hw,List.all_cons,List.all_append,Bool.and_eq_true,Bool.and_eq_true,zd8] at hz
  obtain⟨h1,h2,_⟩:=hz
  have e1:(strs (H:=H) (ss.take len')).length=len':=by unfold strs;rw[List.length_map,List.length_take];omega
  rw[e1] at h1
  have h1':=of_decide_eq_true h1
  unfold reachBytes at h1'
  refine⟨ss.take len',Am.opened hcell (by omega),fun z hz2=>?_,?_⟩
  ·have:=zdx _ h2 z hz2
   unfold reachBytes at this
   omega
  ·rw[List.length_take]
   omega
end
section
open Go Go.ChangeShapes Go.WideShapes Go.RowKit Go.Maps
section
variable {H:Type} {enc:TypeId × Value->H}
theorem zds {a:Assume}{C:Checked}{os:Os}{f:FuncId}{fn:Func}{s:ChangeSpec}{conds:List PathCond}{apart fresh handsOn again:Bool}{X:World->Array Value->Prop}
 (hX:∀ (w w' : World) (args:Array Value),w.heap=w'.heap->X w args->X w' args)
 (own:ownKnob C.prog.godebug=none) (started:os.Started) (noInit:C.prog.inits.idxOf? f=none) (hfn:C.prog.funcs[f]? = some fn)
 (witness : ∃ (w : World) (tape : Tape) (i : Input),w.os = os ∧ (w.forCall tape i).Shaped C.prog ∧ i.vars = [] ∧ Input.okWide C.prog (w.forCall tape i) .any w.heap.size f i ∧
   ((s.pre enc C.prog fn conds apart (w.forCall tape i).memory i.args/\X (w.forCall tape i).memory i.args)/\sizedMet enc C.prog fn (OpenSpec.ofChange s) apart (w.forCall tape i).memory i.args)/\a.holds C.prog (lone (Frame.enter C.prog f i.args .normal) [] (w.forCall tape i)))
 (contract : ∀ (W : World) (base : Nat) (args : Array Value) (ds gs : List (DataW H)) (before : List MemPlace),
   (∀ (j:Nat) t v,fn.params[j]? = some t->args[j]? = some v->Value.okWide C.prog W .any base t v)->
   DataW.Whole enc C.prog fn.params.toList s.vars apart W args.toList ds gs before->
   conds.all (PathCond.test C.prog ⟨fn.params.toList,ds,s.plain.varTypes C.prog,gs⟩)=true->
   (DataW.weightsEach C.prog (fn.params.toList++s.plain.varTypes C.prog) (ds++gs)).all (· <= reachBytes)=true->X W args->W.ShapedOpen C.prog->
   a.holds C.prog (lone (Frame.enter C.prog f args .normal) [] W)->
   Calls C.prog f args W fun e W' => ∃ v,e=.returned v/\s.post enc C.prog fn apart fresh handsOn again W args v W'):
 ReturnsInHanded a C os f .any (fun w args=>(s.pre enc C.prog fn conds apart w args/\X w args)/\sizedMet enc C.prog fn (OpenSpec.ofChange s) apart w args) (s.post enc C.prog fn apart fresh handsOn again):=by
 refine returnsInHanded_of_calls own started noInit witness ?_
 intro w tape i _ hsh _ hok hpre hholds
 obtain⟨_,_,_,fn',hfn',_,_,_,_,hval⟩:=hok
 have e:fn' = fn:=Option.some.inj (hfn'.symm.trans hfn)
 subst e
 obtain⟨⟨⟨ds,gs,before,hw,hc⟩,hx⟩,hz⟩:=hpre
 have hw':=DataW.Whole.of_heap (w':=w.forCall tape i) (by rfl) hw
 refine(contract (w.forCall tape i) w.heap.size i.args ds gs before hval hw' hc (hz.weights hw) (hX _ _ _ (by rfl) hx) hsh hholds).mono fun e W' ⟨v,he,hp⟩=>?_
 subst he
 exact ChangeSpec.post_blind hp
theorem zdZ {W:World}(h:W.ShapedOpen Tryz.prog):zev W:=
 Go.Proofs.cell_of_shapedOpen_int (zero:=#[.int .i64 0]) (t:=3) h (of_decide_eq_true (by kernel_rfl)) (by kernel_rfl) rfl (by kernel_rfl) (by kernel_rfl) Tryz.underlying3
end
end
section
open Go Go.ChangeShapes Go.WideShapes Go.RowKit Go.Maps
section
variable {H:Type} {enc:TypeId × Value->H}
theorem zdv {P:Program}{e:TypeId}{p:Nat->Bool} : ∀ l:List (DataW H),(DataW.weightsAll P e l).all p=true->∀ d∈l,(d.weights P e).all p=true
 | [],_,_,h=>by cases h
 | x :: l,h,d,hd => by
   have e1:DataW.weightsAll P e (x::l)=x.weights P e++DataW.weightsAll P e l:=rfl
   rw[e1,List.all_append,Bool.and_eq_true] at h
   rcases List.mem_cons.1 hd with rfl|hd
   ·exact h.1
   ·exact zdv l h.2 d hd
theorem zdJ {α : Type}{R:Elem α}{Good : α -> Prop}{T S:TypeId}{size B:Nat}(hu:Tryz.prog.underlying S=some (.slice T))(hsz:Tryz.prog.cellsOf T=size)(hby:Tryz.prog.bytesOf T=B)(hB:1<=B)(hs1:1<=size){W:World}
 (zdS:∀ (n:Nat) (cs:List Value) (x:DataW H × List MemPlace),cs.length=size->DataW.trod enc Tryz.prog W 0 (fun _=>true) true n T cs=some x->(x.1.weights Tryz.prog T).all (· <= reachBytes)=true->∃ o,R Sto.zd1 W cs o/\Good o)
 {v:Value} {d:DataW H} {ps:List MemPlace} (h:DataW.Trod enc Tryz.prog W 0 (fun _=>true) true S v d ps) (hsl:∃ b len cap,v=.slice b len cap) (hz:(d.weights Tryz.prog S).all (· <= reachBytes)=true):
 ∃ l:List α,Dp size R Sto.zd1 W v l/\(∀ o∈l,Good o)/\l.length<=140737488355328:=by
 obtain⟨a0,zbS,cap0,rfl⟩:=hsl
 obtain⟨n,hy⟩:=h
 rcases Deep.open_slice hu hy with ⟨hcs,_⟩|⟨a,len,cap,m,k,D,Pl,hcs,_,hl,_,hm,hx,hc⟩
 ·have e:Value.slice a0 zbS cap0=.slice none 0 0:=by simpa [Value.cells] using hcs
  rw[e]
  exact⟨[],Dp.nil _ _,(fun z hz=>by cases hz),Nat.zero_le _⟩
 ·have e:Value.slice a0 zbS cap0=.slice (some a) len cap:=by simpa [Value.cells] using hcs
  rw[e]
  have hm' : m=cap:=by rw[hm]<;>rfl
  have hd:=(Prod.mk.inj hx).1
  rw[hd] at hz
  have hw:(DataW.slice ((List.range len).map D) ((List.range (m-len)).map fun j=>D (len+j))).weights Tryz.prog S=
   (((List.range len).map D).length + ((List.range (m - len)).map fun j => D (len + j)).length) * Tryz.prog.bytesOf T ::
     (DataW.weightsAll Tryz.prog T ((List.range len).map D)++DataW.weightsAll Tryz.prog T ((List.range (m-len)).map fun j=>D (len+j))):=by
   simp only[DataW.weights,hu]
  rw[hw,List.all_cons,List.all_append,Bool.and_eq_true,Bool.and_eq_true,hby] at hz
  obtain⟨h1,h2,_⟩:=hz
  have h1':=of_decide_eq_true h1
  unfold reachBytes at h1'
  rw[List.length_map,List.length_range] at h1'
  have hlen' : len<=140737488355328:=by
   have:=Nat.mul_le_mul_left (len+((List.range (m-len)).map fun j=>D (len+j)).length) hB
   omega
  have each:∀ i,i<len->∃ (cs:List Value) (o : α),cs.length=size/\(∀ j,j<size->W.cell? (a.add (i*size+j))=cs[j]?)/\R Sto.zd1 W cs o/\Good o:=by
   intro i hi
   obtain⟨cs',g1,g2⟩:=hc i (by omega)
   rw[hsz] at g1
   obtain⟨_,hlen,hcell⟩:=World.cells?_some g1
   have hzi:=zdv _ h2 (D i) (List.mem_map.2 ⟨i,List.mem_range.2 hi,rfl⟩)
   obtain⟨o,q1,q2⟩:=zdS _ cs' _ hlen g2 hzi
   exact⟨cs',o,hlen,fun j hj=>by rw[<- Deep.add_add];exact hcell j hj,q1,q2⟩
  by_cases h0:len=0
  ·subst h0
   exact⟨[],Dp.nil _ _,(fun z hz=>by cases hz),Nat.zero_le _⟩
  have ho0:Nonempty α :=by
   obtain⟨_,o,_⟩:=each 0 (by omega)
   exact⟨o⟩
  obtain⟨O,hO⟩:∃ O:Nat -> α,∀ i,i<len->∃ cs:List Value,cs.length=size/\(∀ j,j<size->W.cell? (a.add (i*size+j))=cs[j]?)/\R Sto.zd1 W cs (O i)/\Good (O i):=by
   refine⟨fun i=>if h:i<len then (each i h).choose_spec.choose else Classical.choice ho0,fun i hi=>?_⟩
   simp only[dif_pos hi]
   exact⟨_,(each i hi).choose_spec.choose_spec⟩
  have el:((List.range len).map O).length=len:=by rw[List.length_map,List.length_range]
  refine⟨(List.range len).map O,⟨_,_,by rw[el],.inr ?_⟩,?_,by rw[el];exact hlen'⟩
  ·obtain⟨b,o,sp⟩:=a
   obtain⟨cs0,l0,hcell,_⟩:=hO 0 (by omega)
   have hc0:=hcell 0 (by omega)
   have hsome:∃ u,cs0[0]? = some u:=⟨cs0[0]'(by omega),List.getElem?_eq_getElem (by omega)⟩
   obtain⟨u,hu0⟩:=hsome
   rw[hu0] at hc0
   cases sp with
   | some p =>
     exfalso
     unfold World.cell? Addr.add at hc0
     simp at hc0
     split at hc0<;>simp_all
   | none =>
     have ad:∀ q,(⟨b,o,none⟩:Addr).add q=⟨b,o+q,none⟩:=fun q=>by unfold Addr.add;split<;>simp_all
     refine⟨b,o,rfl,trivial,?_,?_⟩
     ·rw[ad] at hc0
      exact block_lt hc0
     ·intro i hi
      rw[el] at hi
      obtain⟨cs,k0,k1,k2,_⟩:=hO i hi
      simp only[List.getElem_map,List.getElem_range]
      refine⟨cs,k0,fun j u hj=>?_,k2⟩
      have hjl:j<cs.length:=(List.getElem?_eq_some_iff.1 hj).1
      have:=k1 j (by omega)
      rw[ad,hj] at this
      rw[Nat.add_assoc]
      exact this
  ·intro o ho
   obtain⟨i,hi,rfl⟩:=List.mem_map.1 ho
   obtain⟨_,_,_,_,q⟩:=hO i (List.mem_range.1 hi)
   exact q
end
end
section
open Go Go.ChangeShapes Go.WideShapes Go.RowKit Go.Maps
section
variable {H:Type} {enc:TypeId × Value->H}
theorem zd6 {W:World}{S T:TypeId}(hu:Tryz.prog.underlying S=some (.slice T)){n:Nat}{v:Value}{x:DataW H × List MemPlace}(hy:DataW.trod enc Tryz.prog W 0 (fun _=>true) true n S [v]=some x):∃ b len cap,v=.slice b len cap:=by
 rcases Deep.open_slice hu hy with ⟨hcs,_⟩|⟨a,len,cap,m,k,D,Pl,hcs,_⟩
 ·exact⟨none,0,0,by simpa using hcs⟩
 ·exact⟨_,len,cap,by simpa using hcs⟩
theorem zdw {s:ByteArray}(h:s.data.toList.length<=reachBytes):s.size<=140737488355328:=by
 unfold reachBytes at h
 have e:s.size=s.data.toList.length:=by rw[Array.length_toList]<;>rfl
 omega
theorem zdT {α : Type}{R:Elem α}{Good : α -> Prop}{T S:TypeId}{size B:Nat}(hu:Tryz.prog.underlying S=some (.slice T))(hsz:Tryz.prog.cellsOf T=size)(hby:Tryz.prog.bytesOf T=B)(hB:1<=B)(hs1:1<=size){W:World}
 (zdS:∀ (n:Nat) (cs:List Value) (x:DataW H × List MemPlace),cs.length=size->DataW.trod enc Tryz.prog W 0 (fun _=>true) true n T cs=some x->(x.1.weights Tryz.prog T).all (· <= reachBytes)=true->∃ o,R Sto.zd1 W cs o/\Good o)
 {n:Nat} {v:Value} {x:DataW H × List MemPlace} (hy:DataW.trod enc Tryz.prog W 0 (fun _=>true) true n S [v]=some x) (hz:(x.1.weights Tryz.prog S).all (· <= reachBytes)=true):
 ∃ l:List α,Dp size R Sto.zd1 W v l/\(∀ o∈l,Good o)/\l.length<=140737488355328:=by
 obtain⟨b,len,cap,rfl⟩:=zd6 hu hy
 exact zdJ (ps:=x.2) hu hsz hby hB hs1 zdS ⟨n,hy⟩ ⟨b,len,cap,rfl⟩ hz
theorem zdU {W:World}{n:Nat}{v:Value}{x:DataW H × List MemPlace}(hy:DataW.trod enc Tryz.prog W 0 (fun _=>true) true n 23 [v]=some x)(hz:(x.1.weights Tryz.prog 23).all (· <= reachBytes)=true):∃ xs:List ByteArray,Am W v xs/\(∀ z∈xs,z.size<=140737488355328)/\xs.length<=140737488355328:=by
 obtain⟨b,len,cap,rfl⟩:=zd6 Tryz.underlying23 hy
 exact zdY (p:=x.2) ⟨n,hy⟩ hz
theorem zed:Tryz.prog.cellsOf 3=1:=by kernel_rfl
theorem zdC:Tryz.prog.cellsOf 9=1:=by kernel_rfl
theorem zej:Tryz.prog.cellsOf 23=1:=by kernel_rfl
theorem zdV:Tryz.prog.cellsOf 64=3:=by kernel_rfl
namespace Sto
def zes (o:Obj):Prop:=(∀ z∈o.refs,z.size<=140737488355328)/\o.refs.length<=140737488355328/\o.data.size<=140737488355328
def zet (x:SOp):Prop:=x.name.size<=140737488355328/\x.data.size<=140737488355328/\zes x.obj
theorem zdO {W:World}(n:Nat)(cs:List Value)(x:DataW H × List MemPlace)(hl:cs.length=3)(hy:DataW.trod enc Tryz.prog W 0 (fun _=>true) true n 64 cs=some x)(hz:(x.1.weights Tryz.prog 64).all (· <= reachBytes)=true):
 ∃ o,sw zd1 W cs o/\zes o:=by
 match cs,hl with
 | [c0,c1,c2],_ =>
   obtain⟨y0,y1,y2,m,he,_,u0,u1,u2⟩:=Deep.trod_struct3 Tryz.underlying64 hy
   simp only[zed,zej,zdC,List.drop,List.take] at u0 u1 u2
   obtain⟨a,ha,e0,wa⟩:=DataW.trod_int Tryz.underlying3 u0
   obtain⟨s,hs,e2,_⟩:=DataW.trod_string Tryz.underlying9 u2
   simp only[List.cons.injEq,and_true] at ha hs
   subst ha;subst hs
   have hd:x.1=.agg [.lit (.int .i64 a),y1.1,.lit (.string s.data.toList)]:=by rw[he,e0,e2]
   have hw:(DataW.agg [.lit (.int .i64 a),y1.1,.lit (.string s.data.toList)]).weights Tryz.prog 64=y1.1.weights Tryz.prog 23++(s.data.toList.length::[]):=by
    simp only[DataW.weights,Tryz.underlying64]
    rfl
   rw[hd,hw] at hz
   simp only[List.all_append,List.all_cons,List.all_nil,Bool.and_true,Bool.and_eq_true,decide_eq_true_eq] at hz
   obtain⟨xs,h1,h2,h3⟩:=zdU u1 hz.1
   exact⟨⟨a,xs,s⟩,⟨c1,rfl,h1,fun h0 k hk=>⟨trivial,h1.blk h0 k hk⟩⟩,h2,h3,zdw hz.2⟩
theorem zdW {W:World}(n:Nat)(cs:List Value)(x:DataW H × List MemPlace)(hl:cs.length=6)(hy:DataW.trod enc Tryz.prog W 0 (fun _=>true) true n 77 cs=some x)(hz:(x.1.weights Tryz.prog 77).all (· <= reachBytes)=true):
 ∃ o,ROp zd1 W cs o/\zet o:=by
 match cs,hl with
 | [c0,c1,c2,c3,c4,c5],_ =>
   obtain⟨xs,m,_,rfl,_,hlen,hf⟩:=DataW.trod_struct Tryz.underlying77 hy
   match xs,hlen with
   | [y0,y1,y2,y3],_ =>
     have u0:=hf 0 _ rfl;have u1:=hf 1 _ rfl;have u2:=hf 2 _ rfl;have u3:=hf 3 _ rfl
     change DataW.trod enc Tryz.prog W 0 (fun _=>true) true m 3 (List.take (Tryz.prog.cellsOf 3) (List.drop 0 [c0,c1,c2,c3,c4,c5]))=some y0 at u0
     change DataW.trod enc Tryz.prog W 0 (fun _=>true) true m 9 (List.take (Tryz.prog.cellsOf 9) (List.drop 1 [c0,c1,c2,c3,c4,c5]))=some y1 at u1
     change DataW.trod enc Tryz.prog W 0 (fun _=>true) true m 9 (List.take (Tryz.prog.cellsOf 9) (List.drop 2 [c0,c1,c2,c3,c4,c5]))=some y2 at u2
     change DataW.trod enc Tryz.prog W 0 (fun _=>true) true m 64 (List.take (Tryz.prog.cellsOf 64) (List.drop 3 [c0,c1,c2,c3,c4,c5]))=some y3 at u3
     simp only[zdC,zed,zdV,List.drop,List.take] at u0 u1 u2 u3
     obtain⟨a,ha,e0,wa⟩:=DataW.trod_int Tryz.underlying3 u0
     obtain⟨b,hb,e1,_⟩:=DataW.trod_string Tryz.underlying9 u1
     obtain⟨d,hd,e2,_⟩:=DataW.trod_string Tryz.underlying9 u2
     have ha' : c0=.int .i64 a:=by simpa using ha
     have hb' : c1=.string b:=by simpa using hb
     have hd' : c2=.string d:=by simpa using hd
     subst ha';subst hb';subst hd'
     have hw:(DataW.agg ([y0,y1,y2,y3].map (·.1))).weights Tryz.prog 77=b.data.toList.length::d.data.toList.length::(y3.1.weights Tryz.prog 64++[]):=by
      simp only[DataW.weights,Tryz.underlying77,e0,e1,e2,List.map_cons,List.map_nil]
      rfl
     rw[hw] at hz
     simp only[List.all_cons,List.append_nil,Bool.and_eq_true,decide_eq_true_eq] at hz
     obtain⟨z1,z2,z3⟩:=hz
     obtain⟨o,⟨v,he,h1⟩,h2⟩:=zdO m [c3,c4,c5] y3 rfl u3 z3
     cases he
     exact⟨⟨a,o,b,d⟩,⟨c4,rfl,h1⟩,zdw z1,zdw z2,h2⟩
theorem zea {W:World}{v:Value}{d:DataW H}{ps:List MemPlace}(h:DataW.Trod enc Tryz.prog W 0 (fun _=>true) true 31 v d ps)(hsl:∃ b len cap,v=.slice b len cap)(hz:(d.weights Tryz.prog 31).all (· <= reachBytes)=true):
 ∃ L,zd0 zd1 W v L/\(∀ l∈L,(∀ x∈l,zet x)/\l.length<=140737488355328)/\L.length<=140737488355328:=
 zdJ (B:=24) Tryz.underlying31 (by kernel_rfl) (by kernel_rfl) (by decide) (by decide) (fun n cs x hl hy hz=>by
  match cs,hl with
  | [c0],_ =>
    obtain⟨l,h1,h2,h3⟩:=zdT (B:=88) Tryz.underlying27 (by kernel_rfl) (by kernel_rfl) (by decide) (by decide) zdW hy hz
    exact⟨l,⟨c0,rfl,h1⟩,h2,h3⟩) h hsl hz
end Sto
end
end
section
open Go Go.ChangeShapes Go.WideShapes Go.ChangeAt Go.RowKit
theorem zdD:ownKnob Tryz.prog.godebug=none:=by kernel_rfl
theorem zdE:laidOutB Tryz.prog=true:=by kernel_rfl
theorem zd3 (os:Os)(started:os.Started)(H:Type)(enc:TypeId × Value->H):
 ReturnsInHanded {} Tryz.checked os 5 .any (fun w args=>(Rows.storeKeepsSpec.pre enc Tryz.prog Tryz.f5 Rows.storeKeepsRow.domain false w args/\laidMetH Tryz.prog Rows.storeKeepsRow.laid w)/\sizedMet enc Tryz.prog Tryz.f5 (OpenSpec.ofChange Rows.storeKeepsSpec) false w args)
  (Rows.storeKeepsSpec.post enc Tryz.prog Tryz.f5 false true false false):=by
 refine zds (C:=Tryz.checked) (X:=fun w _=>laidMetH Tryz.prog Rows.storeKeepsRow.laid w) (fun _ _ _ hh h=>h.of_heap hh) zdD started (by kernel_rfl) Tryz.func5
  (ChangeSpec.witness_shaped (enc :=enc) (C :=Tryz.checked) (os :=os) (X :=fun w _ => laidMetH Tryz.prog Rows.storeKeepsRow.laid w) false (World.laidAll Tryz.prog os Rows.storeKeepsRow.laid) #[.int .u8 0,.slice none 0 0] 8 (World.laidAll_os _ _ _)
    (World.shaped_of_ZipB (by kernel_rfl) (by kernel_rfl)) (by kernel_rfl) (by kernel_rfl) (by kernel_rfl)
    (by rw[MakeChecks.laidMetH_plain _ _ _ (by kernel_rfl)];exact laidMet_laidAll _ (by kernel_rfl) (by kernel_rfl))) ?_
 intro W base args ds gs before hval0 hW _ hz0 _ hsh _
 have hM:=zdZ hsh
 have hval:∀ (j:Nat) t v,Tryz.f5.params[j]? = some t->args[j]? = some v->Value.okWide Tryz.prog W .any base t v:=hval0
 have hW':=hW
 obtain⟨p,q,hA0,hV,rfl,_,_⟩:=hW
 have hA:DataW.TrodAll enc Tryz.prog W 0 (fun _=>true) true Tryz.f5.params.toList args.toList ds p:=hA0
 rw[Tryz.params5] at hA hval
 obtain⟨v0,v1,d0,d1,p0,p1,rfl,rfl,rfl,h0,h1⟩:=trodAll_two hA
 obtain⟨rfl,rfl⟩:=trodVars_none hV
 obtain⟨x0,rfl,rfl,rfl,wx0⟩:=open_int Tryz.underlying5 (hval 0 5 v0 rfl rfl) h0
 have hx0:0<=x0/\x0<256:=by
  have:=wx0
  simp[Lit.wf,IntKind.has] at this
  have h1:IntKind.u8.min=0:=by decide
  have h2:IntKind.u8.max=255:=by decide
  omega
 have e0:DataW.weightsEach Tryz.prog (Tryz.f5.params.toList++Rows.storeKeepsSpec.plain.varTypes Tryz.prog) ([DataW.lit (.int .u8 x0),d1]++[])=d1.weights Tryz.prog 31++[]:=by
  rw[Tryz.params5]
  rfl
 have hz0:=e0 ▸ hz0
 simp only[List.all_append,List.all_nil,Bool.and_true,Bool.and_eq_true] at hz0
 obtain⟨l1,hlo1,zeu,ze2⟩:=Sto.zea h1 (okWide_slice Tryz.underlying31 (hval 1 31 v1 rfl rfl)) hz0
 have e1:Rows.storeKeepsSpec.fn H ([.lit (.int .u8 x0),d1]++[]) = { results:=[.lit (.bool true)],args:=[.lit (.int .u8 x0),d1] } :=by simp[Rows.storeKeepsSpec]
 refine(zdG x0 Sto.zd1 v1 l1 W hx0 hlo1 ⟨ze2,fun l h=>(zeu l h).2,fun l h x hx=>((zeu l h).1 x hx).2.2.1⟩).mono fun e W' ⟨he,hb⟩=>?_
 subst he
 refine⟨_,rfl,_,_,_,[],[]++(p1++[]),[],by simpa using hW',?_,?_,?_,hb.frame _,fun h=>by cases h⟩
 ·rw[e1];exact trodAll_mk1 (shut_bool Tryz.underlying4 true)
 ·rw[e1];exact(trodAll_cons_mk (shut_int Tryz.underlying5 wx0) (trodAll_cons_mk (Below.trod zdE (by kernel_rfl) (of_decide_eq_true (by kernel_rfl)) h1 hb (fun z hz=>hW'.lt z (by simp[hz]))) trodAll_mk0))
 ·rw[e1];rfl
theorem zd9:Rows.StoreKeepsSaid:=
 OpenClaim.holds_of_wide 5 Tryz.f5 rfl rfl rfl rfl rfl rfl rfl ⟨rfl,rfl,rfl,rfl,rfl⟩ rfl rfl rfl rfl rfl (by kernel_rfl) Tryz.func5 (by kernel_rfl)
  (of_decide_eq_true (by kernel_rfl)) (by unfold Func.isWrapper;first|(rw[if_pos (by decide +kernel)];kernel_rfl)|(rw[if_neg (by decide +kernel)];exact⟨rfl,rfl⟩))
  (fun os started H enc _=>zd3 os started H enc)
theorem okeeps_card:Rows.StoreKeepsCardSaid:=
 Claim7.holds_tied_plain_at .later [] [.data,.pinned] true Rows.storeKeepsCard.stood.harness true zd9 (fun _ h=>by cases h) (by kernel_rfl) (fun _ h=>by cases h) storeKeeps_row_tie rfl ⟨rfl,rfl⟩ (by kernel_rfl) rfl
  (fun f fn hf hfn => by
    obtain rfl : f = 5 := Option.some.inj ((show Tryz.prog.funcNamed "modcert/modcertlaw52.StoreKeeps" = some 5 by kernel_rfl).symm.trans hf) |>.symm
    obtain rfl:fn=Tryz.f5:=(Option.some.inj (Tryz.func5.symm.trans hfn)).symm
    exact⟨by kernel_rfl,fun j t ht=>by
     rw[Tryz.params5] at ht
     have hm:t∈[5,31]:=by simpa using Array.mem_of_getElem? ht
     have hall:([5,31].all fun u => !Tryz.prog.wantsStandIn u)=true:=by kernel_rfl
     exact(show Tryz.prog.wantsStandIn t=false by simpa using List.all_eq_true.1 hall t hm)⟩)
  (by kernel_rfl)
end
end Go.Proofs.YtdiiafgoccakkaaGreatDoor
