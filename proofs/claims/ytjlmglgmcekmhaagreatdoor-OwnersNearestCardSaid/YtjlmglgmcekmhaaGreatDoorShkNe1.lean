/- Paths, plainly: no part between slashes is empty. -/
import Derived.WalkKit
import Derived.WalkSpells
import Derived.WalkLawsBesides
import Derived.Deep.Draws
import Derived.Deep.AppendLies
import Derived.Maps.AppendAt
import Derived.Lib.Hide
import Derived.Maps.OwnSet
import Derived.Lib.Bytes
import Derived.Laws.BytesArg
import Derived.Lib.Split
import Derived.Lib.SplitLaws
import Derived.Laws.EntriesVeiled
import Derived.Test.YtjlmglgmcekmhaaGreatDoorChecked
import Derived.BigQuiet
import Derived.Deep.QuietTactic
import Derived.Lib.SlBytesRow
import Derived.KernelRfl
import Derived.NoCompiler
import Derived.StillTail
import Derived.Laws.ResultCell
import Derived.Deep.MidRow
import Derived.Deep.RegionHeld3
import Derived.Deep.DrawnRows
import Derived.Deep.Cut
import Derived.StillTailTactics
import Derived.Deep.RegionLaw
import Derived.Shelf.Strings.Builder1
import Derived.Shelf.Strings.Builder2
import Derived.Shelf.Strings.OnBuilder
import Derived.Shelf.Small.Utf8
import Derived.Shelf.Small.Bits
import Derived.Shelf.Small.Strs
import Derived.Shelf.Strings.BuilderF
import Derived.Shelf.Strings.BuilderK
import Derived.Shelf.Utf8.RuneCount
import Derived.Shelf.Strings.Builder2Cap
import Derived.Shelf.Strconv.Itoa0
import Derived.Shelf.LaysM
import Derived.Shelf.Strconv.Clone
import Derived.Shelf.Strings.Search1
import Derived.Shelf.Strings.Search2
import Derived.Shelf.Strings.Search3
import Derived.Shelf.Strings.Count
import Derived.Shelf.Strings.Shaped
import Derived.Shelf.Strings.Prefix
import Derived.Shelf.Strings.Split
import Derived.Shelf.Strings.SplitShaped
import Derived.Shelf.Unicode.Decode
import Derived.Shelf.Strings.Runes
import Derived.Shelf.Strings.RuneCount
import Derived.Shelf.Strings.Explode
import Derived.Shelf.Bits.Mul64
import Derived.Shelf.Strings.Repeat
import Derived.Shelf.Unicode.DecodeSlow
import Derived.Shelf.Unicode.DecodeAny
import Derived.Shelf.Strings.BuilderCap
import Derived.Shelf.Slices.Turned
import Derived.Ground.SlgnProg
import Derived.Shelf.SlicesE.Index
import Derived.Shelf.SlicesE.Clone
import Derived.Ground.SlgfProg
import Derived.Shelf.SlicesE.IndexFunc
import Derived.Shelf.SlicesQ.IndexFunc
import Derived.Test.YtjlmglgmcekmhaaGreatDoorProg
import Derived.Maps.RangeWalk
import Derived.StringKeys
import Derived.Deep.DeepCutAuto
import Derived.Lib.EndianBits
import Derived.OwnWalk
import Derived.Laws.BitsLemmas
import Derived.Laws.AppendOwn
import Derived.Deep.AppendSrc
import Derived.Lib.ConvBytes
import Derived.Lib.OthersKept
import Derived.Deep.LoopGhost
import Derived.OrdersIn
import Derived.RangeFuncCalls
import Derived.TacticsIn
import Derived.RangeFuncNested
import Derived.RangeFuncBound
import Derived.RangeFuncLeaves
import Derived.OwnWalkIn
import Derived.TacticsInMore
import Derived.LoopNIn
import Derived.LoopIn
import Derived.Lib.Builder
import Derived.Lib.FrozenHead
import Derived.Lib.AppendStr
import Derived.Laws.IdiomCopy
import Derived.Lib.SliceRun
import Derived.Lib.Overlaps
import Derived.Laws.Externs
import Derived.Lib.AppendZeros
import Derived.Laws.CopyRow
import Derived.HandedShaped
import Derived.OpenShut
import Derived.ProofKit
import Derived.SliceStrings
import Derived.Stop.Joined
import Derived.Deep.Strs
import Derived.Deep.SlicePairs
import Derived.ChangeMaps5
import Derived.Test.YtjlmglgmcekmhaaGreatDoorRows
import Derived.Test.YtjlmglgmcekmhaaGreatDoorCards
import Derived.Test.YtjlmglgmcekmhaaGreatDoorTie
import Derived.LaidMore
import Derived.Lay
import Derived.SevenTiedAt
import Derived.Test.YtjlmglgmcekmhaaGreatDoorShkB1
import Derived.Test.YtjlmglgmcekmhaaGreatDoorShkB2
import Derived.Test.YtjlmglgmcekmhaaGreatDoorShkB3
import Derived.Test.YtjlmglgmcekmhaaGreatDoorShkB4
import Derived.Test.YtjlmglgmcekmhaaGreatDoorShkB5
import Derived.Test.YtjlmglgmcekmhaaGreatDoorShkB6
import Derived.Test.YtjlmglgmcekmhaaGreatDoorShkB7
import Derived.Test.YtjlmglgmcekmhaaGreatDoorShkB8
import Derived.Test.YtjlmglgmcekmhaaGreatDoorShkB9
import Derived.Test.YtjlmglgmcekmhaaGreatDoorShkB10
import Derived.Test.YtjlmglgmcekmhaaGreatDoorShkB11
import Derived.Test.YtjlmglgmcekmhaaGreatDoorShkB12
import Derived.Test.YtjlmglgmcekmhaaGreatDoorShkB13
set_option linter.unusedVariables false
set_option linter.unusedSimpArgs false
set_option maxRecDepth 100000
set_option maxHeartbeats 4000000
namespace Go.Proofs.YtjlmglgmcekmhaaGreatDoor
section
open Go
namespace Own
def ze8:Bool->List UInt8->Bool
 | f,[] => !f
 | f,c::l=>if c=47 then !f&&ze8 true l else ze8 false l
theorem zeR (l:List UInt8):(jE l=ze8 true l)/\(Nam.cuts l).tail.all (fun p => !p.isEmpty)=ze8 false l:=by
 induction l with
 | nil=>exact⟨rfl,rfl⟩
 | cons c l ih =>
   by_cases h:c=47
   ·subst h
    have e:Nam.cuts (47::l)=[]::Nam.cuts l:=by simp[Nam.cuts]
    constructor
    ·unfold jE ze8
     rw[e]
     simp
    ·rw[e,List.tail_cons]
     unfold ze8
     rw[if_pos rfl]
     show jE l=_
     rw[ih.1]
     rfl
   ·have e:Nam.cuts (c::l)=(c::(Nam.cuts l).headD [])::(Nam.cuts l).tail:=by rw[Nam.cuts,if_neg h]
    constructor
    ·unfold jE ze8
     rw[e,if_neg h,List.all_cons]
     simpa using ih.2
    ·rw[e,List.tail_cons]
     unfold ze8
     rw[if_neg h]
     exact ih.2
end Own
namespace Own
theorem zfh {l:List Nat}(h:∀ b∈l,b<256){b:Nat}(hb:b<256)(hn:b ∉ l):find (Bo l) (CX b)=none:=by
 unfold find
 rw[List.find?_eq_none]
 intro m hm
 obtain⟨a,ha,rfl⟩:=List.mem_map.1 hm
 simp only[decide_eq_true_eq]
 intro e
 have:=ZT (h a ha) hb e
 subst this
 exact hn ha
end Own
end
section
open Go Go.RowKit Go.Maps
namespace Own
def zeS (L:List UInt8)(i:Nat):Prop:=L[i]? = some 47/\(i=0\/∀ c,L[i+1]? = some c->c=47)
theorem zeC:∀ (L:List UInt8) (f:Bool),ze8 f L=true↔((f=true->L≠[]/\L[0]? ≠ some 47)/\∀ i:Nat,L[i]? = some 47->∃ c:UInt8,L[i+1]? = some c/\c≠47)
 | [],f => by
   have h:∀ i:Nat,([]:List UInt8)[i]? = some 47->∃ c:UInt8,([]:List UInt8)[i+1]? = some c/\c≠47:=fun i hi=>by simp at hi
   cases f with
   | false=>exact⟨fun _=>⟨fun e=>(by cases e),h⟩,fun _=>rfl⟩
   | true=>exact⟨fun e=>(by cases e),fun e=>absurd rfl (e.1 rfl).1⟩
 | c :: l,f => by
   unfold ze8
   by_cases h:c=47
   ·subst h
    rw[if_pos rfl,Bool.and_eq_true,zeC l true]
    constructor
    ·rintro⟨h1,h2,h3⟩
     refine⟨fun hf=>(by rw[hf] at h1;cases h1),fun i hi=>?_⟩
     cases i with
     | zero =>
       obtain⟨h4,h5⟩:=h2 rfl
       cases l with
       | nil=>exact absurd rfl h4
       | cons d l=>exact⟨d,rfl,fun e=>h5 (by rw[e]<;>rfl)⟩
     | succ i=>exact h3 i hi
    ·rintro⟨h1,h2⟩
     refine⟨?_,fun _=>?_,fun i hi=>h2 (i+1) hi⟩
     ·cases f with
      | false=>rfl
      | true=>exact absurd rfl (h1 rfl).2
     ·obtain⟨d,h4,h5⟩:=h2 0 rfl
      have h4:l[0]? = some d:=h4
      refine⟨fun e=>(by rw[e] at h4;cases h4),fun e=>h5 ?_⟩
      rw[e] at h4
      exact(Option.some.inj h4).symm
   ·rw[if_neg h,zeC l false]
    constructor
    ·rintro⟨_,h3⟩
     refine⟨fun _=>⟨by simp,fun e=>h (Option.some.inj e)⟩,fun i hi=>?_⟩
     cases i with
     | zero=>exact absurd (Option.some.inj hi) h
     | succ i=>exact h3 i hi
    ·rintro⟨_,h2⟩
     exact⟨fun e=>(by cases e),fun i hi=>h2 (i+1) hi⟩
theorem zeM (L:List UInt8)(h:L≠[]):jE L=true↔∀ i,¬ zeS L i:=by
 rw[(zeR L).1,zeC]
 constructor
 ·rintro⟨h1,h2⟩ i ⟨h3,h4⟩
  rcases h4 with rfl|h4
  ·exact(h1 rfl).2 h3
  ·obtain⟨c,h5,h6⟩:=h2 i h3
   exact h6 (h4 c h5)
 ·intro hb
  refine⟨fun _=>⟨h,fun e=>hb 0 ⟨e,.inl rfl⟩⟩,fun i hi=>?_⟩
  cases hn:L[i+1]? with
  | none=>exact absurd ⟨hi,.inr (fun c hc=>by rw[hn] at hc;cases hc)⟩ (hb i)
  | some c=>exact⟨c,rfl,fun e=>hb i ⟨hi,.inr (fun d hd=>by rw[hn] at hd;rw[<- Option.some.inj hd];exact e)⟩⟩
end Own
theorem zfy {s:ByteArray}{k:Nat}(h:k<s.size):s.data.toList[k]? = some s[k]:=by
 rw[Array.getElem?_toList]
 exact Array.getElem?_eq_getElem h
theorem zeN {s:ByteArray}{k:Nat}(h:s.size<=k):s.data.toList[k]? = none:=by
 rw[Array.getElem?_toList]
 exact Array.getElem?_eq_none h
theorem zft {c:UInt8}(n:Nat)(hn:n<256)(h:(c.toNat:Int)=n):c=n.toUInt8:=by
 apply UInt8.toNat_inj.1
 rw[show(n.toUInt8).toNat=n from by simp[Nat.mod_eq_of_lt hn]]
 omega
theorem zeT (s:ByteArray)(w:World)(hs:s.size<=9223372036854775000):Calls Tryz.prog 33 #[.string s] w fun e w' => e=.returned (.bool (Own.BL s))/\w' = w:=by
 obtain⟨R,hR⟩:∃ R,R=Own.BL s:=⟨_,rfl⟩
 rw[<- hR]
 have HR:=zh hR;clear hR
 go_enter Tryz.func33,Tryz.ntmps33
 go_wp2_with fail
 go_loopw [3] (fun i wr=>∃ k:Nat,k<=s.size/\i=.int .i64 k/\(∀ j,j<k->¬ Own.zeS s.data.toList j)/\wr=w) (fun i _=>s.size-(intOf i).toNat)
 case atStart=>exact⟨0,by omega,rfl,(fun j hj=>absurd hj (by omega)),rfl⟩
 case round=>
  obtain⟨k,hk,rfl,hgo,rfl⟩:=hrel
  by_cases hlt:k<s.size
  case neg=>
   have dk:decide ((k:Int)<(s.size:Int))=false:=zf
   have e:R=(decide (1<=(s.size:Int))&&decide ((s.size:Int)<=64)):=by
    rw[HR.out]
    unfold Own.BL
    by_cases h0:s.data.toList=[]
    ·have : s.size = 0 :=by
      have:=congrArg List.length h0
      rw[Array.length_toList] at this
      exact this
     rw[this];rfl
    ·have : Own.jE s.data.toList = true :=(Own.zeM _ h0).2 fun i hi => by
      by_cases hik:i<k
      ·exact hgo i hik hi
      ·have:=hi.1
       rw[zeN (by omega)] at this
       cases this
     rw[this,Bool.and_true,show decide (1<=s.size)=decide (1<=(s.size:Int)) from decide_eq_decide.2 (by omega),show decide (s.size<=64)=decide ((s.size:Int)<=64) from decide_eq_decide.2 (by omega)]
   have HE:=zh e;clear e hgo
   by_cases h1:1<=(s.size:Int)
   ·have d1:decide (1<=(s.size:Int))=true:=decide_eq_true h1
    go_wp2_with fail
    go_ret
    exact⟨by rw[HE.out,d1]<;>rfl,rfl⟩
   ·have d1:decide (1<=(s.size:Int))=false:=decide_eq_false h1
    go_wp2_with fail
    go_ret
    exact⟨by rw[HE.out,d1]<;>rfl,rfl⟩
  have dk:decide ((k:Int)<(s.size:Int))=true:=zt
  have hbad:Own.zeS s.data.toList k->R=false:=fun hb=>by
   rw[HR.out]
   unfold Own.BL
   have:Own.jE s.data.toList=false:=by
    cases hp:Own.jE s.data.toList with
    | false=>rfl
    | true=>exact absurd hb ((Own.zeM _ (fun e=>by have:=hb.1;rw[e] at this;cases this)).1 hp k)
   rw[this,Bool.and_false]
  have hnx:¬ Own.zeS s.data.toList k->∀ j,j<k+1->¬ Own.zeS s.data.toList j:=fun h j hj=>by
   rcases(by omega:j<k\/j=k) with h1|rfl
   ·exact hgo j h1
   ·exact h
  have h0:s.data.toList[k]? = some s[k]:=zfy hlt
  have HBAD:=zh hbad;have HNX:=zh hnx;have H0:=zh h0
  clear hbad hnx hgo h0
  by_cases h47:(s[k].toNat:Int)=47
  case neg=>
   have d47:((s[k].toNat:Int)==47)=false:=beq_eq_false_iff_ne.2 h47
   have hn:=HNX.out (by intro hb;have:=hb.1;rw[H0.out] at this;exact h47 (by rw[Option.some.inj this]<;>rfl))
   have HN:=zh hn;clear hn
   go_wp2_with fail
   exact⟨⟨k+1,by omega,by go_num,HN.out,(by first|rfl|trivial)⟩,by simp[intOf];omega⟩
  have d47:((s[k].toNat:Int)==47)=true:=beq_iff_eq.2 h47
  have hc:s[k]=47:=zft 47 (by omega) h47
  have HC:=zh hc;clear hc
  by_cases hk0:k=0
  ·have dk0:((k:Int)==0)=true:=beq_iff_eq.2 (by omega)
   have HK0:=zh hk0;clear hk0
   have e:R=false:=HBAD.out (by exact⟨by rw[H0.out,HC.out],.inl HK0.out⟩)
   have HE:=zh e;clear e
   go_wp2_with fail
   go_ret
   exact⟨by rw[HE.out]<;>rfl,rfl⟩
  have dk0:((k:Int)==0)=false:=beq_eq_false_iff_ne.2 (by omega)
  by_cases hkl:(k:Int)=(s.size:Int)-1
  ·have dkl:((k:Int)==(s.size:Int)-1)=true:=beq_iff_eq.2 hkl
   have HKL:=zh hkl;clear hkl
   have e:R=false:=HBAD.out (by exact⟨by rw[H0.out,HC.out],.inr (fun c hc=>by have:=HKL.out;rw[zeN (by omega)] at hc;cases hc)⟩)
   have HE:=zh e;clear e
   go_wp2_with fail
   go_ret
   exact⟨by rw[HE.out]<;>rfl,rfl⟩
  have dkl:((k:Int)==(s.size:Int)-1)=false:=beq_eq_false_iff_ne.2 hkl
  have hk1:k+1<s.size:=by omega
  have h1:s.data.toList[k+1]? = some s[k+1]:=zfy hk1
  have H1:=zh h1;clear h1
  by_cases h48:(s[k+1].toNat:Int)=47
  ·have d48:((s[k+1].toNat:Int)==47)=true:=beq_iff_eq.2 h48
   have e:R=false:=HBAD.out (by exact⟨by rw[H0.out,HC.out],.inr (fun c hc=>by rw[H1.out] at hc;rw[<- Option.some.inj hc];exact zft 47 (by omega) h48)⟩)
   have HE:=zh e;clear e
   go_wp2_with fail
   go_ret
   exact⟨by rw[HE.out]<;>rfl,rfl⟩
  ·have d48:((s[k+1].toNat:Int)==47)=false:=beq_eq_false_iff_ne.2 h48
   have hn:=HNX.out (by intro hb;exact hb.2.elim hk0 (fun h=>h48 (by rw[h _ H1.out]<;>rfl)))
   have HN:=zh hn;clear hn
   go_wp2_with fail
   exact⟨⟨k+1,by omega,by go_num,HN.out,(by first|rfl|trivial)⟩,by simp[intOf];omega⟩
end
section
open Go
namespace Lex
section
variable {P:Program} {Q:Exit->Act->World->Prop}
def Ord (ops:Array Oper):Nat->Array Bool->List Nat->Prop
 | 0,_,l=>l=[]
 | n+1,listed,l=>(Region.ready .any ops listed=[]/\l=[])\/∃ i l',i∈Region.ready .any ops listed/\l=i::l' /\ Ord ops n (listed.setIfInBounds i true) l'
def zeE (P:Program)(ops:Array Oper)(Q:Exit->Act->World->Prop)(a:Act)(w:World):Prop:=∀ l,Ord ops ops.size (Array.replicate ops.size false) l->wpOps P ops Q l a w
theorem zfi (ops:Array Oper):∀ (n t:Nat) (listed:Array Bool),Ord ops n listed (Region.linearise.go .any ops n t listed [])
 | 0,t,listed=>by simp[Region.linearise.go,Ord]
 | n + 1,t,listed => by
   simp only[Region.linearise.go]
   change Ord ops (n+1) listed (match (Region.ready .any ops listed)[t%(Region.ready .any ops listed).length]? with
    | some i=>Region.linearise.go .any ops n (t/(Region.ready .any ops listed).length) (listed.setIfInBounds i true) [i]
    | none=>[].reverse)
   cases hi:(Region.ready .any ops listed)[t%(Region.ready .any ops listed).length]? with
   | none =>
     have hnil:Region.ready .any ops listed=[]:=by
      cases hr:Region.ready .any ops listed with
      | nil=>rfl
      | cons x xs =>
        rw[hr] at hi
        have hlt:t%(x::xs).length<(x::xs).length:=Nat.mod_lt _ (by simp)
        simp at hi
        simp at hlt
        omega
     exact .inl ⟨hnil,rfl⟩
   | some i =>
     simp only[]
     rw[linearise_go_acc,List.reverse_singleton,List.singleton_append]
     exact .inr ⟨i,_,List.mem_of_getElem? hi,rfl,zfi ops n _ _⟩
theorem zeF {id:Nat}{l:List Oper}{a:Act}{w:World}(hm:P.follows .mixedOrders=true)(h:zeE P l.toArray Q a w.drew):(Code.region id l.toArray true).wp P Q a w:=
 wp_region_draw fun t=>by
  simp only[Region.schedule,hm,Bool.true_or,if_true]
  exact h _ (zfi _ _ _ _)
theorem zfd {ops:Array Oper} : ∀ (n:Nat) (listed:Array Bool) (l:List Nat) (a:Act) (w:World),wpAny P .any ops Q n listed a w->Ord ops n listed l->wpOps P ops Q l a w
 | 0,_,l,a,w,h,ho => by
   have ho:l=[]:=ho
   subst ho
   exact h.2
 | n + 1,listed,l,a,w,h,ho => by
   rcases ho with ⟨hr,rfl⟩|⟨i,l',hi,rfl,ho⟩
   ·exact h.1 hr
   ·rw[wpOps_cons]
    exact wpOp_mono (fun a w hh=>zfd n _ _ a w hh ho) (h.2 i hi)
theorem zeE.post {ops:Array Oper}{Q1 Q2:Exit->Act->World->Prop}{a:Act}{w:World}(hQ:∀ e a w,Q1 e a w->Q2 e a w)(h:zeE P ops Q1 a w):zeE P ops Q2 a w:=fun l hl=>Cg hQ l a w (h l hl)
/-! ### Operations that differ in their places alone -/
def Alike (f:Nat->Nat)(n:Nat)(ops ops' : Array Oper):Prop:=∀ i,i<n->∃ o o' : Oper,ops[i]? = some o/\ops'[f i]? = some o' /\ o'.dst=o.dst/\o'.op=o.op/\o'.type=o.type/\o'.pos=o.pos/\(match o.guard with|none=>o'.guard=none|some (j,b)=>j<n/\o'.guard=some (f j,b))
theorem zfp {o o' : Oper}(h1:o'.dst=o.dst)(h2:o'.op=o.op)(h3:o'.type=o.type)(h4:o'.pos=o.pos){a:Act}{w:World}{K:Act->World->Prop} : (o'.wp P a w K Q↔o.wp P a w K Q)/\(o'.asks P a w↔o.asks P a w):=by
 obtain⟨d,op,ty,ps,af,gd⟩:=o
 obtain⟨d',op',ty',ps',af',gd'⟩:=o'
 dsimp only at h1 h2 h3 h4
 subst h1 h2 h3 h4
 exact⟨Iff.rfl,Iff.rfl⟩
theorem zfj {f:Nat->Nat}{n:Nat}{ops ops' : Array Oper}(hA:Alike f n ops ops'){i:Nat}(hi:i<n){K:Act->World->Prop}{a:Act}{w:World}(h:wpOp P ops' Q (f i) K a w):wpOp P ops Q i K a w:=by
 obtain⟨o,o',h1,h2,h3,h4,h5,h6,h7⟩:=hA i hi
 unfold wpOp at h ⊢
 rw[h2] at h
 rw[h1]
 dsimp only at h ⊢
 have hw:Region.wanted o' (yielded ops' a.tmps)=Region.wanted o (yielded ops a.tmps):=by
  unfold Region.wanted
  cases hg:o.guard with
  | none=>rw[hg] at h7;dsimp only at h7;rw[h7]
  | some g =>
    obtain⟨j,b⟩:=g
    rw[hg] at h7
    dsimp only at h7
    rw[h7.2]
    dsimp only
    obtain⟨u,u',g1,g2,g3,_⟩:=hA j h7.1
    unfold yielded
    rw[g1,g2]
    dsimp only[Option.bind_some]
    rw[g3]
 rw[hw,h3] at h
 obtain⟨q1,q2⟩:=zfp (P:=P) (Q:=Q) h3 h4 h5 h6 (a:=a) (w:=w) (K:=K)
 split
 ·rename_i hc
  rw[if_pos hc] at h
  exact h.imp q1.1 (fun h=>⟨q2.1 h.1,h.2⟩)
 ·rename_i hc
  rw[if_neg hc] at h
  exact h
theorem ze7 {f:Nat->Nat}{n:Nat}{ops ops' : Array Oper}(hA:Alike f n ops ops'):∀ (l:List Nat) (a:Act) (w:World),(∀ i∈l,i<n)->wpOps P ops' Q (l.map f) a w->wpOps P ops Q l a w
 | [],_,_,_,h=>h
 | i :: l,a,w,hl,h => by
   rw[List.map_cons,wpOps_cons] at h
   rw[wpOps_cons]
   exact wpOp_mono (fun a w hh=>ze7 hA l a w (fun j hj=>hl j (List.mem_cons_of_mem _ hj)) hh) (zfj hA (hl i List.mem_cons_self) h)
/-! ### Which of two comes first -/
def late:Nat->Nat->List Oper->List Oper
 | _,_,[]=>[]
 | 0,a,o::l => { o with after:=o.after.push ⟨a,.phase⟩ } :: l
 | b+1,a,o::l=>o::late b a l
theorem zeG (a:Nat):∀ (l:List Oper) (b i:Nat),(late b a l)[i]? = (l[i]?).map fun o=>if i=b then { o with after:=o.after.push ⟨a,.phase⟩ } else o
 | [],b,i=>by cases b<;>simp[late]
 | o::l,0,0=>by simp[late]
 | o::l,0,i+1=>by simp[late]
 | o::l,b+1,0=>by simp[late]
 | o :: l,b + 1,i + 1 => by
   show(late b a l)[i]? = _
   rw[zeG a l b i]
   simp
theorem zeU (a:Nat):∀ (l:List Oper) (b:Nat),(late b a l).length=l.length
 | [],b=>by cases b<;>rfl
 | o::l,0=>rfl
 | o::l,b+1=>by show(late b a l).length+1=_;rw[zeU a l b];rfl
def ze9 (a b:Nat):List Nat->Bool
 | []=>true
 | x::l=>if x=a then true else if x=b then false else ze9 a b l
theorem zeV {a b:Nat}(h:a≠b):∀ l:List Nat,ze9 a b l=true\/ze9 b a l=true
 | []=>.inl rfl
 | x :: l => by
   unfold ze9
   by_cases h1:x=a
   ·exact .inl (by rw[if_pos h1])
   ·by_cases h2:x=b
    ·exact .inr (by rw[if_pos h2])
    ·rw[if_neg h1,if_neg h2,if_neg h2,if_neg h1]
     exact zeV h l
theorem zeH {a b:Nat}{l:List Oper}{listed:Array Bool}{i:Nat} : i∈Region.ready .any (late b a l).toArray listed↔i∈Region.ready .any l.toArray listed/\(i=b->listed.getD a false=true):=by
 rw[mem_ready,mem_ready]
 simp only[List.getElem?_toArray,zeG]
 constructor
 ·rintro⟨h0,o',ho,hall⟩
  obtain⟨o,ho1,rfl⟩:=Option.map_eq_some_iff.1 ho
  refine⟨⟨h0,o,ho1,fun e he hb=>?_⟩,fun hib=>?_⟩
  ·refine hall e ?_ hb
   split
   ·exact Array.mem_push.2 (.inl he)
   ·exact he
  ·refine hall ⟨a,.phase⟩ ?_ rfl
   rw[if_pos hib]
   exact Array.mem_push.2 (.inr rfl)
 ·rintro⟨⟨h0,o,ho,hall⟩,hb2⟩
  refine⟨h0,_,by rw[ho]<;>rfl,fun e he hb=>?_⟩
  split at he
  ·rename_i hib
   rcases Array.mem_push.1 he with he|rfl
   ·exact hall e he hb
   ·exact hb2 hib
  ·exact hall e he hb
theorem zeA {ops:Array Oper}{listed:Array Bool}{i:Nat}(h:i∈Region.ready .any ops listed):i<listed.size/\i<ops.size:=by
 obtain⟨h0,o,ho,_⟩:=mem_ready.1 h
 refine⟨?_,(Array.getElem?_eq_some_iff.1 ho).1⟩
 apply Classical.byContradiction
 intro hn
 rw[Array.getD_eq_getD_getElem?,Array.getElem?_eq_none (by omega)] at h0
 cases h0
theorem ze5 {listed:Array Bool}{i:Nat}(h:i<listed.size):(listed.setIfInBounds i true).getD i false=true:=by
 rw[Array.getD_eq_getD_getElem?]
 simp[h]
theorem zeI {a b:Nat}{l:List Oper}(hab:a≠b):∀ (n:Nat) (listed:Array Bool) (o:List Nat),Ord l.toArray n listed o->(listed.getD a false=true\/ze9 a b o=true)->Ord (late b a l).toArray n listed o
 | 0,_,_,h,_=>h
 | n + 1,listed,o,h,hc => by
   rcases h with ⟨hr,rfl⟩|⟨i,l',hi,rfl,h⟩
   ·refine .inl ⟨?_,rfl⟩
    refine List.eq_nil_iff_forall_not_mem.2 fun j hj=>?_
    have:=(zeH.1 hj).1
    rw[hr] at this
    cases this
   ·have hib : i = b → listed.getD a false = true :=fun e => by
     rcases hc with hc|hc
     ·exact hc
     ·subst e
      unfold ze9 at hc
      rw[if_neg (fun e=>hab e.symm),if_pos rfl] at hc
      cases hc
    refine .inr ⟨i,l',zeH.2 ⟨hi,hib⟩,rfl,zeI hab n _ l' h ?_⟩
    rcases hc with hc|hc
    ·exact .inl (getD_set_true hc)
    ·unfold ze9 at hc
     by_cases h1:i=a
     ·subst h1
      exact .inl (ze5 (zeA hi).1)
     ·rw[if_neg h1] at hc
      by_cases h2:i=b
      ·exact .inl (getD_set_true (hib h2))
      ·rw[if_neg h2] at hc
       exact .inr hc
theorem zfb {ops:Array Oper} : ∀ (n:Nat) (listed:Array Bool) (o:List Nat),Ord ops n listed o->∀ i∈o,i<ops.size
 | 0,_,o,h,i,hi => by
   have h:o=[]:=h
   subst h
   cases hi
 | n + 1,listed,o,h,i,hi => by
   rcases h with ⟨_,rfl⟩|⟨j,l',hj,rfl,h⟩
   ·cases hi
   ·rcases List.mem_cons.1 hi with rfl|hi
    ·exact(zeA hj).2
    ·exact zfb n _ l' h i hi
def zeJ (l:List Oper):Bool:=l.all fun o=>match o.guard with|none=>true|some g=>decide (g.1<l.length)
theorem zeK (a b:Nat)(l:List Oper)(hg:zeJ l=true):Alike id l.length l.toArray (late b a l).toArray:=by
 intro i hi
 have ho:l[i]? = some l[i]:=List.getElem?_eq_getElem hi
 refine⟨l[i],_,by simp[ho],by simp only[List.getElem?_toArray,id_eq,zeG,ho,Option.map_some];rfl,?_⟩
 have hg2:=List.all_eq_true.1 hg l[i] (List.getElem_mem hi)
 have key:∀ o' : Oper,o'.guard=l[i].guard->(match l[i].guard with|none=>o'.guard=none|some (j,b)=>j<l.length/\o'.guard=some (id j,b)):=by
  intro o' e
  cases hgu:l[i].guard with
  | none=>rw[hgu] at e;exact e
  | some g =>
    rw[hgu] at e hg2
    obtain⟨j,b⟩:=g
    exact⟨of_decide_eq_true hg2,e⟩
 by_cases hib:i=b
 ·rw[if_pos hib]
  exact⟨rfl,rfl,rfl,rfl,key _ rfl⟩
 ·rw[if_neg hib]
  exact⟨rfl,rfl,rfl,rfl,key _ rfl⟩
theorem zfc {l:List Oper}{c:Act}{w:World}(a b:Nat)(hab:a≠b)(hg:zeJ l=true)(h1:zeE P (late b a l).toArray Q c w)(h2:zeE P (late a b l).toArray Q c w):zeE P l.toArray Q c w:=by
 intro o ho
 have hlt:=zfb _ _ _ ho
 have hsz:∀ x y,(late x y l).toArray.size=l.toArray.size:=fun x y=>by simp[zeU]
 rcases zeV hab o with hf|hf
 ·have h:=h1 o (by rw[hsz];exact zeI hab _ _ _ ho (.inr hf))
  refine ze7 (zeK a b l hg) o c w (fun i hi=>by simpa using hlt i hi) ?_
  rwa [List.map_id]
 ·have h:=h2 o (by rw[hsz];exact zeI (Ne.symm hab) _ _ _ ho (.inr hf))
  refine ze7 (zeK b a l hg) o c w (fun i hi=>by simpa using hlt i hi) ?_
  rwa [List.map_id]
/-! ### The operations in another row -/
def ze3:List Nat->Nat->Nat
 | [],_=>0
 | x::q,i=>if x=i then 0 else ze3 q i+1
def zeB (f:Nat->Nat)(o:Oper):Oper :={ dst:=o.dst,op:=o.op,type:=o.type,pos:=o.pos,after:=o.after.map fun e=>⟨f e.on,e.ground⟩,guard:=o.guard.map fun g=>(f g.1,g.2) }
def ze6 (q:List Nat)(l:List Oper):List Oper:=q.map fun i=>zeB (ze3 q) (l.getD i default)
def zfk (q:List Nat)(l:List Oper):Bool:=decide (q.length=l.length)&&zeJ l&&(l.all fun o=>o.after.all fun e=>decide (e.on<l.length))&&((List.range l.length).all fun i=>decide (ze3 q i<l.length)&&decide (q.getD (ze3 q i) 0=i)&&decide (ze3 q (q.getD i 0)=i)&&decide (q.getD i 0<l.length))
theorem zeO {l:List Oper}{c:Act}{w:World}(q:List Nat)(hq:zfk q l=true)(h:zeE P (ze6 q l).toArray Q c w):zeE P l.toArray Q c w:=by
 unfold zfk at hq
 simp only[Bool.and_eq_true,decide_eq_true_eq] at hq
 obtain⟨⟨⟨hlen,hg⟩,he⟩,hr⟩:=hq
 have hr' : ∀ i,i<l.length->ze3 q i<l.length/\q.getD (ze3 q i) 0=i/\ze3 q (q.getD i 0)=i/\q.getD i 0<l.length:=fun i hi=>by
  have:=List.all_eq_true.1 hr i (List.mem_range.2 hi)
  simp only[Bool.and_eq_true,decide_eq_true_eq] at this
  exact⟨this.1.1.1,this.1.1.2,this.1.2,this.2⟩
 have hpl:(ze6 q l).length=l.length:=by unfold ze6;rw[List.length_map,hlen]
 have hget:∀ i (hi:i<l.length),(ze6 q l)[ze3 q i]? = some (zeB (ze3 q) l[i]):=fun i hi=>by
  obtain⟨h1,h2,_,_⟩:=hr' i hi
  unfold ze6
  rw[List.getElem?_map,List.getElem?_eq_getElem (by omega),Option.map_some]
  rw[List.getD_eq_getElem?_getD,List.getElem?_eq_getElem (by omega)] at h2
  have h2:q[ze3 q i]'(by omega)=i:=h2
  rw[h2,List.getD_eq_getElem?_getD,List.getElem?_eq_getElem hi]
  rfl
 have hA:Alike (ze3 q) l.length l.toArray (ze6 q l).toArray:=by
  intro i hi
  refine⟨l[i],zeB (ze3 q) l[i],by simp[hi],by rw[List.getElem?_toArray];exact hget i hi,rfl,rfl,rfl,rfl,?_⟩
  have hg2:=List.all_eq_true.1 hg l[i] (List.getElem_mem hi)
  cases hgu:l[i].guard with
  | none =>
    show(zeB (ze3 q) l[i]).guard=none
    unfold zeB
    dsimp only
    rw[hgu]
    rfl
  | some g =>
    rw[hgu] at hg2
    obtain⟨j,b⟩:=g
    refine⟨of_decide_eq_true hg2,?_⟩
    show(zeB (ze3 q) l[i]).guard=_
    unfold zeB
    dsimp only
    rw[hgu]
    rfl
 have key:∀ (n:Nat) (listed listed' : Array Bool) (o:List Nat),listed.size=l.length->listed'.size=l.length->(∀ i,i<l.length->listed'.getD (ze3 q i) false=listed.getD i false)->Ord l.toArray n listed o->Ord (ze6 q l).toArray n listed' (o.map (ze3 q)):=by
  intro n
  induction n with
  | zero =>
    intro listed listed' o _ _ _ ho
    have ho:o=[]:=ho
    subst ho
    rfl
  | succ n ih =>
    intro listed listed' o hs hs' hrel ho
    have hsw:∀ i,i<l.length->listed'.getD (ze3 q i) true=listed.getD i true:=fun i hi=>by
     have h1:=hrel i hi
     obtain⟨h2,_⟩:=hr' i hi
     rw[Array.getD_eq_getD_getElem?,Array.getElem?_eq_getElem (by omega),Array.getD_eq_getD_getElem?,Array.getElem?_eq_getElem (by omega)] at h1 ⊢
     exact h1
    have zfl:∀ i,i<l.length->(ze3 q i∈Region.ready .any (ze6 q l).toArray listed' ↔ i∈Region.ready .any l.toArray listed):=fun i hi=>by
     rw[mem_ready,mem_ready,List.getElem?_toArray,List.getElem?_toArray,hget i hi,List.getElem?_eq_getElem hi,hsw i hi]
     have heo:=List.all_eq_true.1 he l[i] (List.getElem_mem hi)
     refine and_congr_right fun _=>⟨?_,?_⟩
     ·rintro⟨o',ho',hall⟩
      cases ho'
      refine⟨l[i],rfl,fun e hem hb=>?_⟩
      have hlt:e.on<l.length:=of_decide_eq_true (Array.all_eq_true_iff_forall_mem.1 heo e hem)
      have:=hall ⟨ze3 q e.on,e.ground⟩ (Array.mem_map.2 ⟨e,hem,rfl⟩) hb
      rwa [hrel e.on hlt] at this
     ·rintro⟨o',ho',hall⟩
      cases ho'
      refine⟨_,rfl,fun e hem hb=>?_⟩
      obtain⟨e0,he0,rfl⟩:=Array.mem_map.1 hem
      have hlt:e0.on<l.length:=of_decide_eq_true (Array.all_eq_true_iff_forall_mem.1 heo e0 he0)
      show listed'.getD (ze3 q e0.on) false=true
      rw[hrel e0.on hlt]
      exact hall e0 he0 hb
    rcases ho with ⟨hnil,rfl⟩|⟨i,l',hi,rfl,ho⟩
    ·refine .inl ⟨?_,rfl⟩
     refine List.eq_nil_iff_forall_not_mem.2 fun j hj=>?_
     have hjl:j<l.length:=by have:=(zeA hj).1;omega
     obtain⟨_,_,h3,h4⟩:=hr' j hjl
     have:=(zfl _ h4).1 (by rw[h3];exact hj)
     rw[hnil] at this
     cases this
    ·have hil:i<l.length:=by have:=(zeA hi).1;omega
     refine .inr ⟨ze3 q i,l'.map (ze3 q),(zfl i hil).2 hi,rfl,ih _ _ l' (by simp[hs]) (by simp[hs']) (fun k hk=>?_) ho⟩
     by_cases hki:k=i
     ·subst hki
      rw[ze5 (i:=ze3 q k) (by have:=(hr' k hk).1;omega),ze5 (by omega)]
     ·have hne : ze3 q i ≠ ze3 q k :=fun e => hki (by
       have h1:=(hr' i hil).2.1
       have h2:=(hr' k hk).2.1
       rw[e] at h1
       rw[<- h2,h1])
      rw[getD_set_ne false hne,getD_set_ne false (Ne.symm hki)]
      exact hrel k hk
 intro o ho
 have hlt:=zfb _ _ _ ho
 have hsz:(ze6 q l).toArray.size=l.toArray.size:=by simp[hpl]
 refine ze7 hA o c w (fun i hi=>by simpa using hlt i hi) (h _ ?_)
 rw[hsz]
 refine key _ _ _ o (by simp) (by simp) (fun i hi=>?_) ho
 rw[getD_replicate_false,getD_replicate_false]
end
end Lex
end
section
open Go Go.RowKit Go.Maps
namespace Lex
section
variable {P:Program} {ops:Array Oper} {Q:Exit->Act->World->Prop}
section
variable {S:World->Prop} {m:Nat} {fa:List Nat} {st:Nat} {i:Nat} {l:List Nat} {iv:List (Nat × Nat)} {wr w:World} {a:Act}
end
/-! ### The walk comes to an end -/
section
variable {B:Nat->Prop} {wS:World} {fl fa:List Nat} {m st:Nat}
end
section
variable {B:Nat->Prop} {wS:World} {fl fa:List Nat} {m st:Nat}
end
theorem zeW {l:List Oper}{a:Act}{w:World}(B:Nat->Prop)(fl fa:List Nat)(m:Nat)(ps:List Pc)(cs:List Nat)(hA:Yp P l.toArray fl fa m=true)(hC:Mr P l.toArray m fa cs ps l.length 0=true)
 (h:Jd P l.toArray (Ac P l.toArray B w fl Q) (Same B w) w.heap.size cs ps l [] a w):zeE P l.toArray Q a w:=
 zeE.post (Q1:=Ac P l.toArray B w fl Q) (fun e a' w' he=>by obtain⟨rfl,_,_,h⟩:=he;exact h) (fun o ho=>zfd _ _ _ a w (vT B fl fa m ps cs hA hC h) ho)
end
end Lex
end
section
open Go
namespace Own
theorem zeX (x y:Space)(hx:x.pre=sA)(hy:y.pre=sAB)(op:Op)(hk:op.kind=2)(hp:op.pre=nK):FZ [x,y] op=.ok (y,Du Space.pre (AY op) [x,y]):=by
 have h1:Ia [x,y] op.pre=none:=by
  unfold Ia
  rw[List.find?_cons_of_neg (by rw[hx,hp];decide),List.find?_cons_of_neg (by rw[hy,hp];decide)]
  rfl
 have h2:CW op.pre none [x,y]=some y:=by
  have:belongs nK sAB=true:=rfl
  rw[zcG _ x y hx hy,hp,this,if_pos rfl]
 unfold FZ
 rw[if_neg (by omega),if_neg (by omega),if_pos hk,h1,h2]
 rfl
theorem zfz {f:Nat}(hf:f<256){b:Nat}(hb:b<256)(S:List Space)(s:Nat):Bj (LU f s).keys (Gg b)=if b=f then 2 else 0:=by
 show Bj ([f].foldl (JM 1) ([f].foldl (JM 0) [])) (Gg b)=_
 have hl:∀ x∈[f],x<256:=(I6.one hf).lt
 rw[Wq (by omega) hb (KB.fold (by omega) KB.nil hl) hl,Wq (by omega) hb KB.nil hl,iA]
 by_cases e:b=f
 ·subst e;simp
 ·simp[e]
theorem zfq {f:Nat}(hf:f<256)(s:Nat):KB (LU f s).keys:=KB.fold (by omega) (KB.fold (by omega) KB.nil (I6.one hf).lt) (I6.one hf).lt
theorem zff {f s:Nat}(hf:f<256)(hs:s<256)(hne:f≠s):(Co (LU f s) (Bl (LU f s) (Uy nK [f]) 1 [s])).2=0:=by
 have hop:Ew (opW (Uy nK [f]) [])=true:=Nk rfl (I6.one hf) (th:=1) (Nat.le_refl 1) (by simp) (by omega) (by simp) 2 (by omega) (by omega)
 have hc:(LU f s).count≠late:=by show(2:Int)≠late;decide
 have hw:=zeX ⟨sA,Bo [f],1⟩ ⟨sAB,Bo [s],1⟩ rfl rfl (Uy nK [f]) rfl rfl
 rw[OM (i:=1) (ks:=[s]) (wI hf hs) hop hc hw (by omega) (zfq hf s) (Ux (I6.one hs)) (I6.one hs).lt (by simp) (fun b hb=>by
  rw[List.mem_singleton.1 hb]
  refine⟨ZU (I6.one hs).lt (by simp),?_⟩
  rw[zfz hf hs [] s,if_neg (Ne.symm hne)]
  decide) (by simp)]
theorem zfm {f s:Nat}(hf:f<256)(hs:s<256)(hne:f≠s):Co (LU f s) (Bl (LU f s) (Uy nK [f]) 1 [f])=(.none,6):=by
 have hop:Ew (opW (Uy nK [f]) [])=true:=Nk rfl (I6.one hf) (th:=1) (Nat.le_refl 1) (by simp) (by omega) (by simp) 2 (by omega) (by omega)
 have hw:=zeX ⟨sA,Bo [f],1⟩ ⟨sAB,Bo [s],1⟩ rfl rfl (Bl (LU f s) (Uy nK [f]) 1 [f]) rfl rfl
 have hop' : Ew (Bl (LU f s) (Uy nK [f]) 1 [f])=true:=by unfold Bl;rw[iy (by simp)];exact hop
 have ha:∀ msg K,AX ⟨sAB,Bo [s],1⟩ msg K [Dw 1 (Bc (LU f s) (opW (Uy nK [f]) [])).1 f]=.error 6:=fun msg K=>by
  unfold AX Bp
  rw[show(Dw 1 (Bc (LU f s) (opW (Uy nK [f]) [])).1 f).name=CX f from rfl,zfh (I6.one hs).lt hf (by simpa using hne)]
 unfold Co
 rw[if_neg (by rw[wI hf hs,hop'];simp),if_neg (by show ¬ (2:Int)=late;decide),show(LU f s).spaces=[⟨sA,Bo [f],1⟩,⟨sAB,Bo [s],1⟩] from rfl,hw]
 dsimp only
 rw[show(Bl (LU f s) (Uy nK [f]) 1 [f]).Aa=[Dw 1 (Bc (LU f s) (opW (Uy nK [f]) [])).1 f] from rfl,ha]
end Own
end
section
open Go Go.RowKit Go.Maps
structure OwB (w:World) (b:Nat) (n:Int) (S:List Own.Space) (K:List Own.KeyUse) (sv kv:Value):Prop where
 at_:At w b 25 #[.int .i64 n,sv,kv]
 sp:Own.BH w sv S
 ks:Own.D9 w kv K
section
variable {w w' : World} {b:Nat} {n:Int} {S:List Own.Space} {K:List Own.KeyUse} {sv kv cv pv:Value} {a:Own.Aj}
theorem OwB.below (h:OwB w b n S K sv kv)(hb:Below w.heap.size w w'):OwB w' b n S K sv kv:=⟨h.at_.below hb h.at_.lt,h.sp.below hb,h.ks.below hb⟩
theorem OwB.new (hs:Own.BH w sv S)(hk:Own.D9 w kv K)(n:Int):OwB (w.alloc (.cells #[.int .i64 n,sv,kv] 25)) w.heap.size n S K sv kv:=
 have hb:=(Below.refl w.heap.size w).alloc (Nat.le_refl _) (.cells #[.int .i64 n,sv,kv] 25)
 ⟨At.new w _ _,hs.below hb,hk.below hb⟩
theorem OwB.put (h:OwB w b n S K sv kv){n' : Int}{S' : List Own.Space}{K' : List Own.KeyUse}{sv' kv' : Value}(hs:Au 3 Own.Fu (fun k=>k≠b) w sv' S')(hk:Au 2 Own.fG (fun k=>k≠b) w kv' K'):
 OwB (((w.setCell ⟨b,0,none⟩ (.int .i64 n')).setCell ⟨b,1,none⟩ sv').setCell ⟨b,2,none⟩ kv') b n' S' K' sv' kv':=by
 have IZ:∀ k,k≠b->(((w.setCell ⟨b,0,none⟩ (.int .i64 n')).setCell ⟨b,1,none⟩ sv').setCell ⟨b,2,none⟩ kv').heap[k]? = w.heap[k]? :=fun k hk=>by rw[zo hk,zo hk,zo hk]
 have hsz:(((w.setCell ⟨b,0,none⟩ (.int .i64 n')).setCell ⟨b,1,none⟩ sv').setCell ⟨b,2,none⟩ kv').heap.size=w.heap.size:=by simp[World.setCell]
 refine⟨?_,(hs.keep (Nat.le_of_eq hsz.symm) (fun k hk _=>IZ k hk)).mono (fun _ _ _=>trivial),(hk.keep (Nat.le_of_eq hsz.symm) (fun k hk _=>IZ k hk)).mono (fun _ _ _=>trivial)⟩
 have ht:=((h.at_.set 0 (.int .i64 n')).set 1 sv').set 2 kv'
 simpa using ht
end
theorem zeP (o:Own.Ar)(op:Own.Op)(sv kv mv av:Value)(w:World)(hM:IW w)(hS:Own.BH w sv o.spaces)(hK:Own.D9 w kv o.keys)(hm:Own.Ag w mv op.members)(hA:Own.Iy w av op.Aa)
 (hl:o.spaces.length<=10/\o.keys.length<=10/\∀ s∈o.spaces,s.members.length<=10) (hml:op.members.length<=10)
 (hal:∀ a∈op.Aa,a.name.size<=140737488355328/\a.sig.chains.length<=140737488355328/\a.sig.path.length<=140737488355328):
 Calls Tryz.prog 14 #[.agg #[.int .i64 o.count,sv,kv],Own.opV op mv av] w (Own.zcI w (Own.Co o op)):=
 (QS o op sv kv mv av w hM hS hK hm hA (by have:=hl.1;omega) (by have:=hl.2.1;omega) (fun s hs=>by have:=hl.2.2 s hs;omega) (by omega) hal).mono (fun _ _ h=>h.val)
theorem ay.val {w:World}{r:Option Own.Space}{e:Ending}{w' : World}(h:ay w r e w'):∃ a n c,e=.returned (.tuple #[.agg #[.string ((r.map Own.Space.pre).getD ⟨#[]⟩),.slice a n c,.int .i64 ((r.map Own.Space.threshold).getD 0)],.bool r.isSome])/\Below w.heap.size w w':=by
 obtain⟨h,hb⟩:=h
 cases r with
 | none=>exact⟨_,_,_,h,hb⟩
 | some sp =>
   obtain⟨v',rfl,hr⟩:=h
   obtain⟨a,n,c,rfl⟩:=Ad hr
   exact⟨_,_,_,rfl,hb⟩
theorem zeY (o:Own.Ar)(s:ByteArray)(sv kv:Value)(w:World)(hM:IW w)(hS:Own.BH w sv o.spaces)(hK:Own.D9 w kv o.keys)(hl:o.spaces.length<=10/\o.keys.length<=10/\∀ s∈o.spaces,s.members.length<=10):
 Calls Tryz.prog 18 #[.agg #[.int .i64 o.count,sv,kv],.string s] w fun e w' => ∃ a n c,e=.returned (.tuple #[.agg #[.string (((Own.authority o s).map Own.Space.pre).getD ⟨#[]⟩),.slice a n c,.int .i64 (((Own.authority o s).map Own.Space.threshold).getD 0)],.bool (Own.authority o s).isSome])/\Below w.heap.size w w' :=
 (PX o s sv kv w hM hS hK (by have:=hl.1;omega) (by have:=hl.2.1;omega) (fun s hs=>by have:=hl.2.2 s hs;omega)).mono (fun _ _ h=>h.val)
end
section
open Go Go.Maps
namespace Own
theorem zfu (f:Nat)(hf:f<256):Bo (keysOf [f])=Bo [f]:=by rw[Wu (I6.one hf)]
theorem zfv {f:Nat}(hf:f<256):Co .none (Bl .none (FJ sA 1 (keysOf [f])) 0 (keysOf [f]))=(Eb f,0):=by
 rw[Wu (I6.one hf)]
 exact iB hf
structure zf0 (f s:Nat) (p:ByteArray) (o1 o2 o3:Ar) (M2 M3:List Member) (aps apA apB:List Aj) (px:ByteArray) (tx:Int) (ok:Bool):Prop where
 claim:Co .none (Bl .none (FJ sA 1 (keysOf [f])) 0 (keysOf [f]))=(o1,0)
 m2:Bo (keysOf [s])=M2
 m3:Bo (keysOf [f])=M3
 l2:M2.length=1
 l3:M3.length=1
 apd:[f].map (Dw 1 (Bc o1 ⟨2,sAB,M2,1,⟨#[]⟩,⟨#[]⟩,[]⟩).1)=aps
 adA:[s].map (Dw 1 (Bc o2 ⟨2,nK,M3,1,⟨#[]⟩,⟨#[]⟩,[]⟩).1)=apA
 adB:[f].map (Dw 1 (Bc o2 ⟨2,nK,M3,1,⟨#[]⟩,⟨#[]⟩,[]⟩).1)=apB
 al:aps.length=1
 ze0:apA.length=1
 ze1:apB.length=1
 all:∀ a∈aps,a.name.size<=140737488355328/\a.sig.chains.length<=140737488355328/\a.sig.path.length<=140737488355328
 allA:∀ a∈apA,a.name.size<=140737488355328/\a.sig.chains.length<=140737488355328/\a.sig.path.length<=140737488355328
 zf3:∀ a∈apB,a.name.size<=140737488355328/\a.sig.chains.length<=140737488355328/\a.sig.path.length<=140737488355328
 app:Co o1 ⟨2,sAB,M2,1,⟨#[]⟩,⟨#[]⟩,aps⟩=(o2,0)
 apA:Co o2 ⟨2,nK,M3,1,⟨#[]⟩,⟨#[]⟩,apA⟩=(o3,0)
 apB:Co o2 ⟨2,nK,M3,1,⟨#[]⟩,⟨#[]⟩,apB⟩=(.none,6)
 s1:o1.spaces.length<=10/\o1.keys.length<=10/\∀ s∈o1.spaces,s.members.length<=10
 s2:o2.spaces.length<=10/\o2.keys.length<=10/\∀ s∈o2.spaces,s.members.length<=10
 ze2:((authority o2 p).map Space.pre).getD ⟨#[]⟩=px/\((authority o2 p).map Space.threshold).getD 0=tx/\(authority o2 p).isSome=ok
 okE:ok=(BL p&&belongs p sA)
 pxE:ok=true->px=if belongs p sAB then sAB else sA
theorem zfn {f s:Nat}(hf:f<256)(hs:s<256)(hne:f≠s)(p:ByteArray):∃ o1 o2 o3 M2 M3 aps apA apB px tx ok,zf0 f s p o1 o2 o3 M2 M3 aps apA apB px tx ok:=by
 have h1:=zfv hf
 have h2:=bJ hf hs
 have h3:=zff hf hs hne
 have h4:=zfm hf hs hne
 have h5:=nP f
 have h6:=nO f s
 have h7:=tN hf hs p
 have hq1:=fun m=>tQ 1 (by omega) m [f]
 have hq2:=fun m=>tQ 1 (by omega) m [s]
 have k2:=zfu s hs
 have k3:=zfu f hf
 have l2:=OQ [s]
 have l3:=OQ [f]
 have hd :=@Y9 p
 unfold Uy at h2 h3 h4
 rw[nM] at h2 h3 h4
 generalize Bo [s]=M2 at*
 generalize Bo [f]=M3 at*
 generalize LU f s=o2 at*
 generalize Eb f=o1 at*
 obtain⟨o3,ho3⟩:∃ o3,Co o2 ⟨2,nK,M3,1,⟨#[]⟩,⟨#[]⟩,[s].map (Dw 1 (Bc o2 ⟨2,nK,M3,1,⟨#[]⟩,⟨#[]⟩,[]⟩).1)⟩=(o3,0):=by
  refine⟨(Co o2 ⟨2,nK,M3,1,⟨#[]⟩,⟨#[]⟩,[s].map (Dw 1 (Bc o2 ⟨2,nK,M3,1,⟨#[]⟩,⟨#[]⟩,[]⟩).1)⟩).1,?_⟩
  generalize Co o2 ⟨2,nK,M3,1,⟨#[]⟩,⟨#[]⟩,[s].map (Dw 1 (Bc o2 ⟨2,nK,M3,1,⟨#[]⟩,⟨#[]⟩,[]⟩).1)⟩=z at*
  obtain⟨z1,z2⟩:=z
  have h3:z2=0:=h3
  rw[h3]
 refine⟨o1,o2,o3,M2,M3,_,_,_,_,_,_,⟨h1,k2,k3,l2,l3,rfl,rfl,rfl,by rw[List.length_map]<;>rfl,by rw[List.length_map]<;>rfl,by rw[List.length_map]<;>rfl,hq1 _,hq2 _,hq1 _,h2,ho3,h4,h5,h6,⟨rfl,rfl,rfl⟩,?_,?_⟩⟩
 ·rw[h7]
  cases BL p with
  | false=>rfl
  | true =>
    cases hb:belongs p sAB with
    | true=>rw[hd hb];rfl
    | false=>cases belongs p sA<;>rfl
 ·rw[h7]
  cases BL p with
  | false=>intro h;cases h
  | true =>
    cases hb:belongs p sAB with
    | true=>intro _;rfl
    | false =>
      cases belongs p sA with
      | true=>intro _;rfl
      | false=>intro h;cases h
end Own
end
section
open Go Go.RowKit Go.Maps
theorem zfe {p:ByteArray} : p.toList=[97,47,98]↔p=Own.sAB:=by
 have e:(p.toList==Own.sAB.toList)=decide (p=Own.sAB):=bytes_beq
 rw[show Own.sAB.toList=[97,47,98] by unfold Own.sAB;rw[ByteArray.toList_eq]] at e
 rw[<- decide_eq_true_iff (p:=p=Own.sAB),<- e,beq_iff_eq]
theorem zfw {p:ByteArray} : p.toList=[97]↔p=Own.sA:=by
 have e:(p.toList==Own.sA.toList)=decide (p=Own.sA):=bytes_beq
 rw[show Own.sA.toList=[97] by unfold Own.sA;rw[ByteArray.toList_eq]] at e
 rw[<- decide_eq_true_iff (p:=p=Own.sA),<- e,beq_iff_eq]
theorem zeQ (x0 x1:Int)(path:ByteArray)(w:World)(hM:IW w)(hx0:0<=x0/\x0<256)(hx1:0<=x1/\x1<256)(hms:path.size<=140737488355328):
 Calls Tryz.prog 5 #[.int .u8 x0,.int .u8 x1,.string path] w fun e w' => e=.returned (.bool true)/\Below w.heap.size w w':=by
 obtain⟨f,rfl⟩:∃ f:Nat,x0=f:=⟨x0.toNat,by omega⟩
 obtain⟨n,rfl⟩:∃ f:Nat,x1=f:=⟨x1.toNat,by omega⟩
 have hf:f<256:=by omega
 have hn:n<256:=by omega
 clear hx0 hx1
 have HM:=zh hM;clear hM
 go_enter Tryz.func5,Tryz.ntmps5
 go_wp2_with fail
 refine(awake53_any w HM.out).mono ?_
 rintro e w1 ⟨rfl,hb⟩
 have B1:=zh hb;clear hb
 by_cases hfn:f=n
 ·subst hfn
  go_wp2_with fail
  go_ret
  exact⟨rfl,B1.out⟩
 have dfn:((f:Int)==(n:Int))=false:=by rw[beq_eq_false_iff_ne];omega
 have zf5 : (f==n)=false:=by rw[beq_eq_false_iff_ne];exact hfn
 by_cases h2:200<path.size
 ·have d1:decide (200<(path.size:Int))=true:=zt
  have d1' : decide (200<path.size)=true:=decide_eq_true h2
  go_wp2_with fail
  go_ret
  exact⟨rfl,B1.out⟩
 have d1:decide (200<(path.size:Int))=false:=zf
 have d1' : decide (200<path.size)=false:=decide_eq_false h2
 obtain⟨o1,o2,o3,M2,M3,aps,apA,apB,px,tx,ok,hN⟩:=Own.zfn hf hn hfn path
 have hcl:=fun(b:Nat) W (hM:IW W) (ha:At W b 5 #[.int .u8 (f:Int)])=>U0 Own.sA 1 [f] (some ⟨b,0,none⟩) 1 W hM (D8.at1 ha) (by simpa using hf) (by simp) (by simp)
 rw[hN.claim] at hcl
 have hm2:=fun(b:Nat) W (ha:At W b 5 #[.int .u8 (n:Int)])=>Jb [n] (some ⟨b,0,none⟩) 1 W (D8.at1 ha) (by simpa using hn) (by simp) (by simp)
 rw[hN.m2,hN.l2] at hm2
 have hm3:=fun(b:Nat) W (ha:At W b 5 #[.int .u8 (f:Int)])=>Jb [f] (some ⟨b,0,none⟩) 1 W (D8.at1 ha) (by simpa using hf) (by simp) (by simp)
 rw[hN.m3,hN.l3] at hm3
 have hs1:=fun(sv kv mv:Value) (b:Nat) W (hM:IW W) hs hk (hm:Own.Ag W mv M2) (ha:At W b 5 #[.int .u8 (f:Int)])=>JK o1 ⟨2,Own.sAB,M2,1,⟨#[]⟩,⟨#[]⟩,[]⟩ 1 [f] sv kv mv (.slice none 0 0) (some ⟨b,0,none⟩) 1 W hM (by omega) hs hk hm ⟨_,_,rfl⟩ (by rw[hN.l2];omega) (D8.at1 ha) (by simpa using hf) (by simp)
 rw[hN.apd] at hs1
 have hs2:=fun(sv kv mv:Value) (b:Nat) W (hM:IW W) hs hk (hm:Own.Ag W mv M3) (ha:At W b 5 #[.int .u8 (n:Int)])=>JK o2 ⟨2,Own.nK,M3,1,⟨#[]⟩,⟨#[]⟩,[]⟩ 1 [n] sv kv mv (.slice none 0 0) (some ⟨b,0,none⟩) 1 W hM (by omega) hs hk hm ⟨_,_,rfl⟩ (by rw[hN.l3];omega) (D8.at1 ha) (by simpa using hn) (by simp)
 rw[hN.adA] at hs2
 have hs3:=fun(sv kv mv:Value) (b:Nat) W (hM:IW W) hs hk (hm:Own.Ag W mv M3) (ha:At W b 5 #[.int .u8 (f:Int)])=>JK o2 ⟨2,Own.nK,M3,1,⟨#[]⟩,⟨#[]⟩,[]⟩ 1 [f] sv kv mv (.slice none 0 0) (some ⟨b,0,none⟩) 1 W hM (by omega) hs hk hm ⟨_,_,rfl⟩ (by rw[hN.l3];omega) (D8.at1 ha) (by simpa using hf) (by simp)
 rw[hN.adB] at hs3
 have ha1:=fun(sv kv mv av:Value) W (hM:IW W) hS hK (hm:Own.Ag W mv M2) hA=>zeP o1 ⟨2,Own.sAB,M2,1,⟨#[]⟩,⟨#[]⟩,aps⟩ sv kv mv av W hM hS hK hm hA hN.s1 (by show M2.length<=_;rw[hN.l2];omega) hN.all
 rw[hN.app] at ha1
 have ha2:=fun(sv kv mv av:Value) W (hM:IW W) hS hK (hm:Own.Ag W mv M3) hA=>zeP o2 ⟨2,Own.nK,M3,1,⟨#[]⟩,⟨#[]⟩,apA⟩ sv kv mv av W hM hS hK hm hA hN.s2 (by show M3.length<=_;rw[hN.l3];omega) hN.allA
 rw[hN.apA] at ha2
 have ha3:=fun(sv kv mv av:Value) W (hM:IW W) hS hK (hm:Own.Ag W mv M3) hA=>zeP o2 ⟨2,Own.nK,M3,1,⟨#[]⟩,⟨#[]⟩,apB⟩ sv kv mv av W hM hS hK hm hA hN.s2 (by show M3.length<=_;rw[hN.l3];omega) hN.zf3
 rw[hN.apB] at ha3
 unfold Own.opV Own.Yz at hs1 hs2 hs3
 unfold Own.opV at ha1 ha2 ha3
 dsimp only at hs1 hs2 hs3 ha1 ha2 ha3
 have hau:=fun(sv kv:Value) W (hM:IW W) hS hK=>zeY o2 path sv kv W hM hS hK hN.s2
 rw[hN.ze2.1,hN.ze2.2.1,hN.ze2.2.2] at hau
 have hpp:=fun W=>zeT path W (by omega)
 have hok:=hN.okE;have hpx:=hN.pxE
 have hl2:=hN.l2;have hl3:=hN.l3;have hal:=hN.al;have haA:=hN.ze0;have haB:=hN.ze1
 obtain⟨c1,S1,K1⟩:=o1
 obtain⟨c2,S2,K2⟩:=o2
 obtain⟨c3,S3,K3⟩:=o3
 dsimp only at ha1 ha2 ha3 hau
 have HCL:=zh hcl;have HM2:=zh hm2;have HM3:=zh hm3;have HS1:=zh hs1;have HS2:=zh hs2;have HS3:=zh hs3;have HA1:=zh ha1;have HA2:=zh ha2;have HA3:=zh ha3;have HAU:=zh hau;have HPP:=zh hpp;have HOK:=zh hok;have HPX:=zh hpx;have HL2:=zh hl2;have HL3:=zh hl3;have HAL:=zh hal;have HAA:=zh haA;have HAB:=zh haB
 clear hcl hm2 hm3 hs1 hs2 hs3 ha1 ha2 ha3 hau hpp hok hpx hl2 hl3 hal haA haB hN hfn h2 hf hn
 unfold Own.sA at HCL
 unfold Own.sAB at HS1 HA1
 unfold Own.nK at HS2 HS3 HA2 HA3
 go_wp2_with fail
 have hb:=(Below.refl w1.heap.size w1).alloc (Nat.le_refl _) (.cells #[.int .u8 (f:Int)] 5)
 have T2:=zh (At.new w1 5 #[.int .u8 (f:Int)]);have B2:=zh (B1.out.trans (hb.mono B1.out.size))
 clear hb
 generalize w1.alloc (.cells #[.int .u8 (f:Int)] 5)=w2 at*
 refine(HCL.out w1.heap.size w2 (HM.out.below B2.out) T2.out).mono ?_
 rintro e w3 ⟨sv,kv,rfl,hs3,hk3,hb3⟩
 have hs3:Own.BH w3 sv S1:=hs3.mono (fun _ _ _=>trivial)
 have hk3:Own.D9 w3 kv K1:=hk3.mono (fun _ _ _=>trivial)
 obtain⟨sa,sc,rfl⟩:=hs3.len
 obtain⟨ka,kc,rfl⟩:=hk3.len
 have B3:=zh (B2.out.trans (hb3.mono B2.out.size));have S3:=zh hs3;have K3:=zh hk3
 clear hs3 hk3 hb3 T2 HCL
 dsimp only
 go_upto_region 6 with fail
 have O4:=zh (OwB.new S3.out K3.out c1)
 have hb:=(Below.refl w3.heap.size w3).alloc (Nat.le_refl _) (.cells #[.int .i64 c1,.slice sa S1.length sc,.slice ka K1.length kc] 25)
 have B4:=zh (B3.out.trans (hb.mono B3.out.size))
 have hwb:w.heap.size<=w3.heap.size:=B3.out.size
 clear hb
 generalize w3.alloc (.cells #[.int .i64 c1,.slice sa S1.length sc,.slice ka K1.length kc] 25)=w4 at*
 obtain⟨b,hbe⟩:∃ b,b=w3.heap.size:=⟨_,rfl⟩
 rw[<- hbe] at O4 hwb ⊢
 clear hbe S3 K3
 have c0:=O4.out.at_.cell 0;have c1':=O4.out.at_.cell 1;have c2':=O4.out.at_.cell 2
 simp only[zg] at c0 c1' c2'
 have Y0:=zh (show(w4.cell? ⟨b,0,none⟩).isSome=true by rw[c0]<;>rfl)
 have zas:b<w4.heap.size:=O4.out.at_.lt
 have BD:=zh (show Below w4.heap.size w4 w4.drew from(Below.refl _ _).drew)
 go_cut [9] (fun v9 wx=>v9=.int .i64 0/\∃ sb sd kb kd,OwB wx b c2 S2 K2 (.slice sb S2.length sd) (.slice kb K2.length kd)/\Below w.heap.size w wx)
 case first=>
  refine Lex.zeF (by kernel_rfl) ?_
  refine Lex.zfc 12 13 (by decide) (by kernel_rfl) ?_ ?_
  ·refine Lex.zeO [0,1,2,6,3,4,5,7,8,9,10,11,12,13,14] (by kernel_rfl) ?_
   refine Lex.zeW (fun k=>k=b) [0,1] [4,7] 13 [.pure 4,.new,.call,.pure 1,.new] [1,1] (by kernel_rfl) (by kernel_rfl) ?_
   simp only[Lex.late,Lex.ze6,Lex.zeB,List.map_cons,List.map_nil,List.getD_cons_zero,List.getD_cons_succ,Option.map_none,Nat.reduceEqDiff,if_false,Nat.reduceAdd,Nat.zero_add]
   simp only[Lex.Jd,Lex.Br,zd]
   go_wp2_with fail
   refine Lex.Qg.intro ?_
   intro w5 hw5
   go_wp2_with fail
   refine Lex.Qh.intro (fun w6 hg6 hk6 ho6=>?_)
   have hs6:=hk6.at_
   obtain⟨g6,hg⟩:∃ g,g=w5.heap.size:=⟨_,rfl⟩
   rw[World.size_alloc]
   rw[<- hg] at hs6 ⊢
   have X6:=zh (BD.out.trans (hg6.mono BD.out.size));have P6:=zh hs6
   clear hg6 hk6 ho6 hs6 hg hw5
   intro w7 hg7
   have X7:=zh (X6.out.trans (hg7.mono X6.out.size));have P7:=zh (P6.out.below hg7 P6.out.lt)
   clear hg7 X6 P6
   go_wp2_with fail
   refine(HM2.out g6 w7 P7.out).mono ?_
   rintro e w8 ⟨mv,rfl,hm8,hb8⟩
   obtain⟨ma,mn,mc,rfl⟩:=Ad hm8
   obtain rfl:=Bf hm8
   have X8:=zh (X7.out.trans (hb8.mono X7.out.size));have BB8:=zh hb8
   have M8:=zh (show Own.Ag w8 (.slice ma 1 mc) M2 from Own.Ag.of (Bh.own hm8) HL2.out.symm)
   clear hm8 hb8 X7 P7
   go_wp2_with fail
   refine Lex.Vp.intro (fun j hj hjl=>by rw[hj];exact X8.out.block _ zas) (Lex.Kept.of_below BB8.out) ?_
   go_wp2_with fail
   refine Lex.Qg.intro ?_
   intro w9 hw9
   go_wp2_with fail
   refine Lex.Qh.intro (fun w10 wP hk10 zdU=>?_)
   have nJ:=hk10.at_
   obtain⟨g10,hg⟩:∃ g,g=w9.heap.size:=⟨_,rfl⟩
   rw[<- hg] at nJ ⊢
   have X10:=zh (X8.out.trans (wP.mono X8.out.size));have P10:=zh nJ;have M10:=zh (M8.out.below wP)
   have B10:=zh (B4.out.trans (X10.out.mono B4.out.size))
   clear wP hk10 zdU nJ hg hw9 X8 BB8 M8
   go_wp2_with fail
   refine(HS1.out (.slice sa S1.length sc) (.slice ka K1.length kc) (.slice ma 1 mc) g10 w10 (HM.out.below B10.out) ⟨_,_,_,rfl⟩ ⟨_,_,_,rfl⟩ M10.out P10.out).mono ?_
   rintro e w12 ⟨av,rfl,zat,wQ⟩
   obtain⟨aa,ac,hav⟩:=zat.len
   rw[HAL.out] at hav
   subst hav
   have X12:=zh (X10.out.trans (wQ.mono X10.out.size));have A12:=zh zat;have M12:=zh (M10.out.below wQ)
   have B12:=zh (B4.out.trans (X12.out.mono B4.out.size))
   clear zat wQ X10 P10 B10 M10
   go_wp2_with fail
   refine Lex.Mid.intro (fun j hj hjl=>by rw[hj];exact X12.out.block _ zas) ?_
   go_wp2_with fail
   refine(HA1.out _ _ _ _ w12 (HM.out.below B12.out) (O4.out.sp.below X12.out) (O4.out.ks.below X12.out) M12.out A12.out.rX.out).mono ?_
   rintro e w20 ⟨sv2,kv2,rfl,hs2,hk2,zfo⟩
   have zf1:b<w12.heap.size:=Nat.lt_of_lt_of_le zas X12.out.size
   have hs2:Au 3 Own.Fu (fun k=>k≠b) w20 sv2 S2:=hs2.mono (fun k hk _=>by omega)
   have hk2:Au 2 Own.fG (fun k=>k≠b) w20 kv2 K2:=hk2.mono (fun k hk _=>by omega)
   obtain⟨sb,sd,rfl⟩:=hs2.len
   obtain⟨kb,kd,rfl⟩:=hk2.len
   have X20:=zh (X12.out.trans (zfo.mono X12.out.size));have S20:=zh hs2;have K20:=zh hk2
   clear hs2 hk2 zfo M12 A12 B12 X12
   dsimp only
   go_wp2_with fail
   refine Lex.Mid.intro (fun j hj hjl=>by rw[hj];exact X20.out.block _ zas) ?_
   have O20:=zh (O4.out.below X20.out);have B20:=zh (B4.out.trans (X20.out.mono B4.out.size))
   clear c0 c1' c2'
   have c0:=O20.out.at_.cell 0;have c1':=O20.out.at_.cell 1;have c2':=O20.out.at_.cell 2;have c0f:=O20.out.at_.free 0;have c1f:=O20.out.at_.free 1;have c2f:=O20.out.at_.free 2
   simp only[zg] at c0 c1' c2'
   go_wp2_with fail
   refine Lex.zk ⟨⟨rfl,Y0.out⟩,⟨rfl,Y0.out⟩,trivial⟩ ?_
   go_wp2_with fail
   go_meet
   exact⟨rfl,_,_,_,_,O20.out.put S20.out K20.out,((B20.out.setCell (p:=⟨b,0,none⟩) hwb _).setCell (p:=⟨b,1,none⟩) hwb _).setCell (p:=⟨b,2,none⟩) hwb _⟩
  ·refine Lex.zeO [0,1,2,6,3,4,5,7,8,9,10,11,13,12,14] (by kernel_rfl) ?_
   refine Lex.zeW (fun k=>k=b) [0,1] [4,7] 12 [.pure 4,.new,.call,.pure 1,.new] [1,1] (by kernel_rfl) (by kernel_rfl) ?_
   simp only[Lex.late,Lex.ze6,Lex.zeB,List.map_cons,List.map_nil,List.getD_cons_zero,List.getD_cons_succ,Option.map_none,Nat.reduceEqDiff,if_false,Nat.reduceAdd,Nat.zero_add]
   simp only[Lex.Jd,Lex.Br,zd]
   go_wp2_with fail
   refine Lex.Qg.intro ?_
   intro w5 hw5
   go_wp2_with fail
   refine Lex.Qh.intro (fun w6 hg6 hk6 ho6=>?_)
   have hs6:=hk6.at_
   obtain⟨g6,hg⟩:∃ g,g=w5.heap.size:=⟨_,rfl⟩
   rw[World.size_alloc]
   rw[<- hg] at hs6 ⊢
   have X6:=zh (BD.out.trans (hg6.mono BD.out.size));have P6:=zh hs6
   clear hg6 hk6 ho6 hs6 hg hw5
   intro w7 hg7
   have X7:=zh (X6.out.trans (hg7.mono X6.out.size));have P7:=zh (P6.out.below hg7 P6.out.lt)
   clear hg7 X6 P6
   go_wp2_with fail
   refine(HM2.out g6 w7 P7.out).mono ?_
   rintro e w8 ⟨mv,rfl,hm8,hb8⟩
   obtain⟨ma,mn,mc,rfl⟩:=Ad hm8
   obtain rfl:=Bf hm8
   have X8:=zh (X7.out.trans (hb8.mono X7.out.size));have BB8:=zh hb8
   have M8:=zh (show Own.Ag w8 (.slice ma 1 mc) M2 from Own.Ag.of (Bh.own hm8) HL2.out.symm)
   clear hm8 hb8 X7 P7
   go_wp2_with fail
   refine Lex.Vp.intro (fun j hj hjl=>by rw[hj];exact X8.out.block _ zas) (Lex.Kept.of_below BB8.out) ?_
   go_wp2_with fail
   refine Lex.Qg.intro ?_
   intro w9 hw9
   go_wp2_with fail
   refine Lex.Qh.intro (fun w10 wP hk10 zdU=>?_)
   have nJ:=hk10.at_
   obtain⟨g10,hg⟩:∃ g,g=w9.heap.size:=⟨_,rfl⟩
   rw[<- hg] at nJ ⊢
   have X10:=zh (X8.out.trans (wP.mono X8.out.size));have P10:=zh nJ;have M10:=zh (M8.out.below wP)
   have B10:=zh (B4.out.trans (X10.out.mono B4.out.size))
   clear wP hk10 zdU nJ hg hw9 X8 BB8 M8
   go_wp2_with fail
   refine(HS1.out (.slice sa S1.length sc) (.slice ka K1.length kc) (.slice ma 1 mc) g10 w10 (HM.out.below B10.out) ⟨_,_,_,rfl⟩ ⟨_,_,_,rfl⟩ M10.out P10.out).mono ?_
   rintro e w12 ⟨av,rfl,zat,wQ⟩
   obtain⟨aa,ac,hav⟩:=zat.len
   rw[HAL.out] at hav
   subst hav
   have X12:=zh (X10.out.trans (wQ.mono X10.out.size));have A12:=zh zat;have M12:=zh (M10.out.below wQ)
   have B12:=zh (B4.out.trans (X12.out.mono B4.out.size))
   clear zat wQ X10 P10 B10 M10
   go_wp2_with fail
   refine Lex.Mid.intro (fun j hj hjl=>by rw[hj];exact X12.out.block _ zas) ?_
   go_wp2_with fail
   refine(HA1.out _ _ _ _ w12 (HM.out.below B12.out) (O4.out.sp.below X12.out) (O4.out.ks.below X12.out) M12.out A12.out.rX.out).mono ?_
   rintro e w20 ⟨sv2,kv2,rfl,hs2,hk2,zfo⟩
   have zf1:b<w12.heap.size:=Nat.lt_of_lt_of_le zas X12.out.size
   have hs2:Au 3 Own.Fu (fun k=>k≠b) w20 sv2 S2:=hs2.mono (fun k hk _=>by omega)
   have hk2:Au 2 Own.fG (fun k=>k≠b) w20 kv2 K2:=hk2.mono (fun k hk _=>by omega)
   obtain⟨sb,sd,rfl⟩:=hs2.len
   obtain⟨kb,kd,rfl⟩:=hk2.len
   have X20:=zh (X12.out.trans (zfo.mono X12.out.size));have S20:=zh hs2;have K20:=zh hk2
   clear hs2 hk2 zfo M12 A12 B12 X12
   dsimp only
   go_wp2_with fail
   refine Lex.Mid.intro (fun j hj hjl=>by rw[hj];exact X20.out.block _ zas) ?_
   have O20:=zh (O4.out.below X20.out);have B20:=zh (B4.out.trans (X20.out.mono B4.out.size))
   clear c0 c1' c2'
   have c0:=O20.out.at_.cell 0;have c1':=O20.out.at_.cell 1;have c2':=O20.out.at_.cell 2;have c0f:=O20.out.at_.free 0;have c1f:=O20.out.at_.free 1;have c2f:=O20.out.at_.free 2
   simp only[zg] at c0 c1' c2'
   go_wp2_with fail
   refine Lex.zk ⟨⟨rfl,Y0.out⟩,⟨rfl,Y0.out⟩,trivial⟩ ?_
   go_wp2_with fail
   go_meet
   exact⟨rfl,_,_,_,_,O20.out.put S20.out K20.out,((B20.out.setCell (p:=⟨b,0,none⟩) hwb _).setCell (p:=⟨b,1,none⟩) hwb _).setCell (p:=⟨b,2,none⟩) hwb _⟩
 obtain⟨rfl,sb,sd,kb,kd,O6,B6⟩:=hcut
 have O7:=zh O6;have B7:=zh B6
 clear O6 B6 hs3 hk3 Y0 zas BD c0 c1' c2' O4 B4 B3 B2 hwb HM2 HS1 HA1
 have c0:=O7.out.at_.cell 0;have c1':=O7.out.at_.cell 1;have c2':=O7.out.at_.cell 2
 simp only[zg] at c0 c1' c2'
 go_wp2_with fail
 refine(HAU.out _ _ wc (HM.out.below B7.out) O7.out.sp O7.out.ks).mono ?_
 rintro e w22 ⟨xa,xn,xc,rfl,hb⟩
 have O22:=zh (O7.out.below hb);have B22:=zh (B7.out.trans (hb.mono B7.out.size))
 clear hb O7 B7 c0 c1' c2' HAU
 go_upto_region 10 with fail
 have hb:=(Below.refl w22.heap.size w22).alloc (Nat.le_refl _) (.cells #[.string px,.slice xa xn xc,.int .i64 tx] 39)
 have T23:=zh (At.new w22 39 #[.string px,.slice xa xn xc,.int .i64 tx])
 have O23:=zh (O22.out.below hb);have B23:=zh (B22.out.trans (hb.mono B22.out.size))
 clear hb O22 B22
 generalize w22.alloc (.cells #[.string px,.slice xa xn xc,.int .i64 tx] 39)=w23 at*
 obtain⟨x,hx⟩:∃ x,x=w22.heap.size:=⟨_,rfl⟩
 rw[<- hx] at T23 ⊢
 clear hx
 obtain⟨D,hD⟩:∃ D,D=Own.belongs path Own.sAB:=⟨_,rfl⟩
 obtain⟨A,hA⟩:∃ A,A=Own.belongs path Own.sA:=⟨_,rfl⟩
 obtain⟨Q,hQ⟩:∃ Q,Q=Own.BL path:=⟨_,rfl⟩
 have hok:=HOK.out;have hpx:=HPX.out;have hpp:=HPP.out
 rw[<- hD] at hpx
 rw[<- hA,<- hQ] at hok
 simp only[<- hQ] at hpp
 have HDE:=zh hD;have HAE:=zh hA
 have zfg:=zh hpp;have zfr:=zh hok;have zf2:=zh hpx
 clear hD hA hQ hok hpx hpp HPP HOK HPX
 go_cut [12] (fun v12 wx=>v12=.bool D/\wx=w23)
 case first=>
  by_cases h1:path=Own.sAB
  ·have d:path.toList=[97,47,98]:=zfe.2 h1
   have db:(path.toList==[97,47,98])=true:=beq_iff_eq.2 d
   have hd:D=true:=by rw[HDE.out,Own.belongs,decide_eq_true h1]<;>rfl
   have HD:=zh hd
   clear hd h1
   go_wp2_with fail
   go_meet
   exact⟨by rw[HD.out],rfl⟩
  ·have d:¬ path.toList=[97,47,98]:=fun h=>h1 (zfe.1 h)
   have db:(path.toList==[97,47,98])=false:=beq_eq_false_iff_ne.2 d
   have hd:D=Lib.hasPrefix path.data.toList (⟨#[97,47,98,47]⟩:ByteArray).data.toList:=by rw[HDE.out,Own.belongs,decide_eq_false h1]<;>rfl
   have HD:=zh hd
   clear hd h1
   go_wp2_with fail
   refine(Tryz.strings_HasPrefix path _ w23).mono ?_
   rintro e w24 ⟨rfl,rfl⟩
   rw[<- HD.out]
   go_wp2_with fail
   go_meet
   exact⟨rfl,rfl⟩
 obtain⟨rfl,rfl⟩:=hcut
 have x0:=At.cell T23.out 0
 simp only[zg] at x0
 cases Q with
 | false =>
   have he:ok=false:=by rw[zfr.out]<;>rfl
   subst he
   go_wp2_with fail
   refine(zfg.out _).mono ?_
   rintro e w24 ⟨rfl,rfl⟩
   go_wp2_with fail
   go_ret
   exact⟨rfl,B23.out⟩
 | true=>
 by_cases hDA:D=false/\A=false
 ·obtain⟨rfl,rfl⟩:=hDA
  have he:ok=false:=by rw[zfr.out]<;>rfl
  subst he
  have h1:¬ path=Own.sA:=fun h=>by have:=HAE.out;rw[Own.belongs,decide_eq_true h] at this;cases this
  have d:¬ path.toList=[97]:=fun h=>h1 (zfw.1 h)
  have db:(path.toList==[97])=false:=beq_eq_false_iff_ne.2 d
  have hd:false=Lib.hasPrefix path.data.toList (⟨#[97,47]⟩:ByteArray).data.toList:=by rw[HAE.out,Own.belongs,decide_eq_false h1]<;>rfl
  have HD:=zh hd
  clear hd h1
  go_wp2_with fail
  refine(zfg.out _).mono ?_
  rintro e w24 ⟨rfl,rfl⟩
  go_wp2_with fail
  refine(Tryz.strings_HasPrefix path _ _).mono ?_
  rintro e w24 ⟨rfl,rfl⟩
  rw[<- HD.out]
  go_wp2_with fail
  go_ret
  exact⟨rfl,B23.out⟩
 have hok2:ok=true:=by
  rw[zfr.out,Bool.true_and]
  cases A with
  | true=>rfl
  | false =>
    cases D with
    | false=>exact absurd ⟨rfl,rfl⟩ hDA
    | true=>have:=Own.Y9 (p:=path) HDE.out.symm;rw[<- HAE.out] at this;cases this
 subst hok2
 have hpx:=zf2.out rfl
 have hpd:(px.toList==[97,47,98])=D:=by
  rw[hpx]
  cases D with
  | true=>exact beq_iff_eq.2 (zfe.2 rfl)
  | false=>exact beq_eq_false_iff_ne.2 (fun h=>by have:=zfe.1 h;cases this)
 have HPD:=zh hpd
 clear hpx zf2 zfr hpd
 go_upto_region 11 with fail
 go_cut [76] (fun v76 wx=>v76=.bool false/\wx=wc)
 case first=>
  cases D with
  | true =>
    go_wp2_with fail
    refine(zfg.out _).mono ?_
    rintro e w24 ⟨rfl,rfl⟩
    go_wp2_with fail
    go_meet
    exact⟨rfl,rfl⟩
  | false =>
    have hA1:A=true:=by cases A with|true=>rfl|false=>exact absurd ⟨rfl,rfl⟩ hDA
    subst hA1
    by_cases h1:path=Own.sA
    ·have d:path.toList=[97]:=zfw.2 h1
     have db:(path.toList==[97])=true:=beq_iff_eq.2 d
     clear h1
     go_wp2_with fail
     refine(zfg.out _).mono ?_
     rintro e w24 ⟨rfl,rfl⟩
     go_wp2_with fail
     go_meet
     exact⟨rfl,rfl⟩
    ·have d:¬ path.toList=[97]:=fun h=>h1 (zfw.1 h)
     have db:(path.toList==[97])=false:=beq_eq_false_iff_ne.2 d
     have hd:true=Lib.hasPrefix path.data.toList (⟨#[97,47]⟩:ByteArray).data.toList:=by rw[HAE.out,Own.belongs,decide_eq_false h1]<;>rfl
     have HD:=zh hd
     clear hd h1
     go_wp2_with fail
     refine(zfg.out _).mono ?_
     rintro e w24 ⟨rfl,rfl⟩
     go_wp2_with fail
     refine(Tryz.strings_HasPrefix path _ _).mono ?_
     rintro e w24 ⟨rfl,rfl⟩
     rw[<- HD.out]
     go_wp2_with fail
     go_meet
     exact⟨rfl,rfl⟩
 obtain⟨rfl,rfl⟩:=hcut
 clear hDA HDE HAE zfg x0
 have x0:=At.cell T23.out 0
 simp only[zg] at x0
 go_upto_region 13 with fail
 go_cut [87] (fun v87 wx=>v87=.bool false/\wx=wc)
 case first=>
  have hpd:=HPD.out
  cases D with
  | true =>
    have hpe:=beq_iff_eq.1 hpd
    go_wp2_with fail
    go_meet
    exact⟨rfl,rfl⟩
  | false =>
    have hpe:=beq_eq_false_iff_ne.1 hpd
    go_wp2_with fail
    go_meet
    exact⟨rfl,rfl⟩
 obtain⟨rfl,rfl⟩:=hcut
 clear HPD x0 T23
 go_wp2_with fail
 have hb:=(Below.refl wc.heap.size wc).alloc (Nat.le_refl _) (.cells #[.int .u8 (f:Int)] 5)
 have T25:=zh (At.new wc 5 #[.int .u8 (f:Int)]);have O25:=zh (O23.out.below hb);have B25:=zh (B23.out.trans (hb.mono B23.out.size))
 clear hb O23 B23
 generalize wc.alloc (.cells #[.int .u8 (f:Int)] 5)=w25 at*
 refine(HM3.out wc.heap.size w25 T25.out).mono ?_
 rintro e w26 ⟨mv,rfl,hm,hb⟩
 obtain⟨ma,mn,mc,rfl⟩:=Ad hm
 obtain rfl:=Bf hm
 have O26:=zh (O25.out.below hb);have B26:=zh (B25.out.trans (hb.mono B25.out.size))
 have M26:=zh (show Own.Ag w26 (.slice ma 1 mc) M3 from Own.Ag.of (Bh.own hm) HL3.out.symm)
 clear hm hb O25 B25 T25
 go_upto_region 16 with fail
 have hb:=(Below.refl w26.heap.size w26).alloc (Nat.le_refl _) (.cells #[.int .i64 2,.string ⟨#[97,47,98,47,99]⟩,.slice ma 1 mc,.int .i64 1,.string ⟨#[]⟩,.string ⟨#[]⟩,.slice none 0 0] 29)
 have Q27:=zh (At.new w26 29 #[.int .i64 2,.string ⟨#[97,47,98,47,99]⟩,.slice ma 1 mc,.int .i64 1,.string ⟨#[]⟩,.string ⟨#[]⟩,.slice none 0 0])
 have O27:=zh (O26.out.below hb);have B27:=zh (B26.out.trans (hb.mono B26.out.size));have M27:=zh (M26.out.below hb)
 clear hb O26 B26 M26
 generalize w26.alloc (.cells #[.int .i64 2,.string ⟨#[97,47,98,47,99]⟩,.slice ma 1 mc,.int .i64 1,.string ⟨#[]⟩,.string ⟨#[]⟩,.slice none 0 0] 29)=w27 at*
 obtain⟨q,hq⟩:∃ x,x=w26.heap.size:=⟨_,rfl⟩
 rw[<- hq] at Q27 ⊢
 clear hq
 have c0:=O27.out.at_.cell 0;have c1':=O27.out.at_.cell 1;have c2':=O27.out.at_.cell 2
 have s0:=Q27.out.cell 0;have s1:=Q27.out.cell 1;have s2:=Q27.out.cell 2;have s3:=Q27.out.cell 3;have s4:=Q27.out.cell 4;have s5:=Q27.out.cell 5;have s6:=Q27.out.cell 6
 simp only[zg] at s0 s1 s2 s3 s4 s5 s6 c0 c1' c2'
 have Y0:=zh (show(w27.cell? ⟨b,0,none⟩).isSome=true by rw[c0]<;>rfl)
 have hbl:=O27.out.at_.lt
 refine Lex.zn (fun k=>k=b) [0] 10 [6,1] ?_
 simp only[Lex.Br,zd]
 go_wp2_with fail
 have X28:=zh (show Below w27.heap.size w27 (w27.alloc (.cells #[.int .u8 (n:Int)] 5)).drew from zb.drew)
 have T28:=zh (show At (w27.alloc (.cells #[.int .u8 (n:Int)] 5)).drew w27.heap.size 5 #[.int .u8 (n:Int)] from At.new w27 5 _)
 generalize (w27.alloc (.cells #[.int .u8 (n:Int)] 5)).drew=w28 at*
 have B28:=zh (B27.out.trans (X28.out.mono B27.out.size))
 refine(HS2.out (.slice sb S2.length sd) (.slice kb K2.length kd) (.slice ma 1 mc) w27.heap.size w28 (HM.out.below B28.out) ⟨_,_,_,rfl⟩ ⟨_,_,_,rfl⟩ (M27.out.below X28.out) T28.out).mono ?_
 rintro e w29 ⟨av,rfl,ha,hb⟩
 obtain⟨aa,ac,hav⟩:=ha.len
 rw[HAA.out] at hav
 subst hav
 have X29:=zh (X28.out.trans (hb.mono X28.out.size));have A29:=zh ha
 have B29:=zh (B27.out.trans (X29.out.mono B27.out.size))
 clear ha hb T28 X28 B28
 go_wp2_with fail
 refine Lex.Mid.intro (fun j hj hjl=>by rw[hj];exact X29.out.block _ hbl) ?_
 go_wp2_with fail
 refine(HA2.out _ _ _ _ w29 (HM.out.below B29.out) (O27.out.sp.below X29.out) (O27.out.ks.below X29.out) (M27.out.below X29.out) A29.out.rX.out).mono ?_
 rintro e w30 ⟨sv2,kv2,rfl,hs2,hk2,hb⟩
 have X30:=zh (X29.out.trans (hb.mono X29.out.size))
 clear hs2 hk2 hb A29 B29 X29
 dsimp only
 go_wp2_with fail
 refine Lex.Mid.intro (fun j hj hjl=>by rw[hj];exact X30.out.block _ hbl) ?_
 go_wp2_with fail
 refine Lex.zk ⟨⟨rfl,Y0.out⟩,trivial⟩ ?_
 have O30:=zh (O27.out.below X30.out);have Q30:=zh (Q27.out.below X30.out Q27.out.lt);have M30:=zh (M27.out.below X30.out);have B30:=zh (B27.out.trans (X30.out.mono B27.out.size))
 clear X30 O27 Q27 M27 B27 Y0 hbl c0 c1' c2' s0 s1 s2 s3 s4 s5 s6
 go_upto_region 17 with fail
 have c0:=O30.out.at_.cell 0;have c1':=O30.out.at_.cell 1;have c2':=O30.out.at_.cell 2
 have s0:=Q30.out.cell 0;have s1:=Q30.out.cell 1;have s2:=Q30.out.cell 2;have s3:=Q30.out.cell 3;have s4:=Q30.out.cell 4;have s5:=Q30.out.cell 5;have s6:=Q30.out.cell 6
 simp only[zg] at s0 s1 s2 s3 s4 s5 s6 c0 c1' c2'
 have Y0:=zh (show(w30.cell? ⟨b,0,none⟩).isSome=true by rw[c0]<;>rfl)
 have hbl:=O30.out.at_.lt
 refine Lex.zn (fun k=>k=b) [0] 10 [6,1] ?_
 simp only[Lex.Br,zd]
 go_wp2_with fail
 have X31:=zh (show Below w30.heap.size w30 (w30.alloc (.cells #[.int .u8 (f:Int)] 5)).drew from zb.drew)
 have T31:=zh (show At (w30.alloc (.cells #[.int .u8 (f:Int)] 5)).drew w30.heap.size 5 #[.int .u8 (f:Int)] from At.new w30 5 _)
 generalize (w30.alloc (.cells #[.int .u8 (f:Int)] 5)).drew=w31 at*
 have B31:=zh (B30.out.trans (X31.out.mono B30.out.size))
 refine(HS3.out (.slice sb S2.length sd) (.slice kb K2.length kd) (.slice ma 1 mc) w30.heap.size w31 (HM.out.below B31.out) ⟨_,_,_,rfl⟩ ⟨_,_,_,rfl⟩ (M30.out.below X31.out) T31.out).mono ?_
 rintro e w32 ⟨av,rfl,ha,hb⟩
 obtain⟨aa,ac,hav⟩:=ha.len
 rw[HAB.out] at hav
 subst hav
 have X32:=zh (X31.out.trans (hb.mono X31.out.size));have A32:=zh ha
 have B32:=zh (B30.out.trans (X32.out.mono B30.out.size))
 clear ha hb T31 X31 B31
 go_wp2_with fail
 refine Lex.Mid.intro (fun j hj hjl=>by rw[hj];exact X32.out.block _ hbl) ?_
 go_wp2_with fail
 refine(HA3.out _ _ _ _ w32 (HM.out.below B32.out) (O30.out.sp.below X32.out) (O30.out.ks.below X32.out) (M30.out.below X32.out) A32.out.rX.out).mono ?_
 rintro e w33 ⟨sv2,kv2,rfl,hs2,hk2,hb⟩
 have X33:=zh (X32.out.trans (hb.mono X32.out.size))
 clear hs2 hk2 hb A32 B32 X32
 dsimp only
 go_wp2_with fail
 refine Lex.Mid.intro (fun j hj hjl=>by rw[hj];exact X33.out.block _ hbl) ?_
 go_wp2_with fail
 refine Lex.zk ⟨⟨rfl,Y0.out⟩,trivial⟩ ?_
 have O33:=zh (O30.out.below X33.out);have Q33:=zh (Q30.out.below X33.out Q30.out.lt);have M33:=zh (M30.out.below X33.out);have B33:=zh (B30.out.trans (X33.out.mono B30.out.size))
 clear X33 O30 Q30 M30 B30 Y0 hbl c0 c1' c2' s0 s1 s2 s3 s4 s5 s6
 go_wp2_with fail
 go_ret
 exact⟨rfl,B33.out⟩
end
section
open Go Go.ChangeShapes Go.WideShapes Go.RowKit Go.Maps
section
variable {H:Type} {enc:TypeId × Value->H}
theorem ze4 {a:Assume}{C:Checked}{os:Os}{f:FuncId}{fn:Func}{s:ChangeSpec}{conds:List PathCond}{apart fresh handsOn again:Bool}{X:World->Array Value->Prop}
 (hX:∀ (w w' : World) (args:Array Value),w.heap=w'.heap->X w args->X w' args)
 (own:ownKnob C.prog.godebug=none) (started:os.Started) (noInit:C.prog.inits.idxOf? f=none) (hfn:C.prog.funcs[f]? = some fn)
 (witness : ∃ (w : World) (tape : Tape) (i : Input),w.os = os ∧ (w.forCall tape i).Shaped C.prog ∧ i.vars = [] ∧ Input.okWide C.prog (w.forCall tape i) .any w.heap.size f i ∧
   ((s.pre enc C.prog fn conds apart (w.forCall tape i).memory i.args/\X (w.forCall tape i).memory i.args)/\sizedMet enc C.prog fn (OpenSpec.ofChange s) apart (w.forCall tape i).memory i.args)/\a.holds C.prog (lone (Frame.enter C.prog f i.args .normal) [] (w.forCall tape i)))
 (contract : ∀ (W : World) (base : Nat) (args : Array Value) (ds gs : List (DataW H)) (before : List MemPlace),
   (∀ (j:Nat) t v,fn.params[j]? = some t->args[j]? = some v->Value.okWide C.prog W .any base t v)->
   DataW.Whole enc C.prog fn.params.toList s.vars apart W args.toList ds gs before->
   conds.all (PathCond.test C.prog ⟨fn.params.toList,ds,s.plain.varTypes C.prog,gs⟩)=true->
   (DataW.weightsEach C.prog (fn.params.toList++s.plain.varTypes C.prog) (ds++gs)).all (· <= reachBytes)=true->X W args->W.ShapedOpen C.prog->
   a.holds C.prog (lone (Frame.enter C.prog f args .normal) [] W)->
   Calls C.prog f args W fun e W' => ∃ v,e=.returned v/\s.post enc C.prog fn apart fresh handsOn again W args v W'):
 ReturnsInHanded a C os f .any (fun w args=>(s.pre enc C.prog fn conds apart w args/\X w args)/\sizedMet enc C.prog fn (OpenSpec.ofChange s) apart w args) (s.post enc C.prog fn apart fresh handsOn again):=by
 refine returnsInHanded_of_calls own started noInit witness ?_
 intro w tape i _ hsh _ hok hpre hholds
 obtain⟨_,_,_,fn',hfn',_,_,_,_,hval⟩:=hok
 have e:fn' = fn:=Option.some.inj (hfn'.symm.trans hfn)
 subst e
 obtain⟨⟨⟨ds,gs,before,hw,hc⟩,hx⟩,hz⟩:=hpre
 have hw':=DataW.Whole.of_heap (w':=w.forCall tape i) (by rfl) hw
 refine(contract (w.forCall tape i) w.heap.size i.args ds gs before hval hw' hc (hz.weights hw) (hX _ _ _ (by rfl) hx) hsh hholds).mono fun e W' ⟨v,he,hp⟩=>?_
 subst he
 exact ChangeSpec.post_blind hp
theorem zfs {W:World}(h:W.ShapedOpen Tryz.prog):IW W:=
 Go.Proofs.cell_of_shapedOpen_int (zero:=#[.int .i64 0]) (t:=3) h (of_decide_eq_true (by kernel_rfl)) (by kernel_rfl) rfl (by kernel_rfl) (by kernel_rfl) Tryz.underlying3
end
end
section
open Go Go.ChangeShapes Go.WideShapes Go.RowKit Go.Maps
section
variable {H:Type} {enc:TypeId × Value->H}
theorem zfx {W:World}{base:Nat}{sp:Nat->Bool}{v:Value}{d:DataW H}{ps:List MemPlace}(hval:Value.okWide Tryz.prog W .any base 9 v)(h:DataW.Trod enc Tryz.prog W 0 sp true 9 v d ps)(hz:(d.weights Tryz.prog 9).all (· <= reachBytes)=true):
 ∃ s:ByteArray,v=.string s/\s.size<=140737488355328:=by
 obtain⟨s,rfl,rfl,_,_⟩:=ChangeMaps.open_string Tryz.underlying9 hval h
 refine⟨s,rfl,?_⟩
 simp only[DataW.weights,List.all_cons,List.all_nil,Bool.and_true,decide_eq_true_eq,Array.length_toList] at hz
 unfold reachBytes at hz
 have e:s.size=s.data.size:=rfl
 omega
end
end
section
open Go Go.ChangeShapes Go.WideShapes Go.ChangeAt Go.RowKit
theorem zeZ:ownKnob Tryz.prog.godebug=none:=by kernel_rfl
theorem zfa:laidOutB Tryz.prog=true:=by kernel_rfl
theorem zeD (os:Os)(started:os.Started)(H:Type)(enc:TypeId × Value->H):
 ReturnsInHanded {} Tryz.checked os 5 .any (fun w args=>(Rows.ownersNearestSpec.pre enc Tryz.prog Tryz.f5 Rows.ownersNearestRow.domain false w args/\laidMetH Tryz.prog Rows.ownersNearestRow.laid w)/\sizedMet enc Tryz.prog Tryz.f5 (OpenSpec.ofChange Rows.ownersNearestSpec) false w args)
  (Rows.ownersNearestSpec.post enc Tryz.prog Tryz.f5 false true false false):=by
 refine ze4 (C:=Tryz.checked) (X:=fun w _=>laidMetH Tryz.prog Rows.ownersNearestRow.laid w) (fun _ _ _ hh h=>h.of_heap hh) zeZ started (by kernel_rfl) Tryz.func5
  (ChangeSpec.witness_shaped (enc :=enc) (C :=Tryz.checked) (os :=os) (X :=fun w _ => laidMetH Tryz.prog Rows.ownersNearestRow.laid w) false (World.laidAll Tryz.prog os Rows.ownersNearestRow.laid) #[.int .u8 0,.int .u8 0,.string ⟨#[]⟩] 8 (World.laidAll_os _ _ _)
    (World.shaped_of_ZipB (by kernel_rfl) (by kernel_rfl)) (by kernel_rfl) (by kernel_rfl) (by kernel_rfl)
    (by rw[MakeChecks.laidMetH_plain _ _ _ (by kernel_rfl)];exact laidMet_laidAll _ (by kernel_rfl) (by kernel_rfl))) ?_
 intro W base args ds gs before hval0 hW _ hz0 _ hsh _
 have hM:=zfs hsh
 have hval:∀ (j:Nat) t v,Tryz.f5.params[j]? = some t->args[j]? = some v->Value.okWide Tryz.prog W .any base t v:=hval0
 have hW':=hW
 obtain⟨p,q,hA0,hV,rfl,_,_⟩:=hW
 have hA:DataW.TrodAll enc Tryz.prog W 0 (fun _=>true) true Tryz.f5.params.toList args.toList ds p:=hA0
 rw[Tryz.params5] at hA hval
 obtain⟨v0,v1,v2,d0,d1,d2,p0,p1,p2,rfl,rfl,rfl,h0,h1,h2⟩:=trodAll_three hA
 obtain⟨rfl,rfl⟩:=trodVars_none hV
 obtain⟨x0,rfl,rfl,rfl,wx0⟩:=open_int Tryz.underlying5 (hval 0 5 v0 rfl rfl) h0
 have hx0:0<=x0/\x0<256:=by
  have:=wx0
  simp[Lit.wf,IntKind.has] at this
  have h1:IntKind.u8.min=0:=by decide
  have h2:IntKind.u8.max=255:=by decide
  omega
 obtain⟨x1,rfl,rfl,rfl,wx1⟩:=open_int Tryz.underlying5 (hval 1 5 v1 rfl rfl) h1
 have hx1:0<=x1/\x1<256:=by
  have:=wx1
  simp[Lit.wf,IntKind.has] at this
  have h1:IntKind.u8.min=0:=by decide
  have h2:IntKind.u8.max=255:=by decide
  omega
 have e0:DataW.weightsEach Tryz.prog (Tryz.f5.params.toList++Rows.ownersNearestSpec.plain.varTypes Tryz.prog) ([DataW.lit (.int .u8 x0),DataW.lit (.int .u8 x1),d2]++[])=d2.weights Tryz.prog 9++[]:=by
  rw[Tryz.params5]
  rfl
 have hz0:=e0 ▸ hz0
 simp only[List.all_append,List.all_nil,Bool.and_true,Bool.and_eq_true] at hz0
 obtain⟨s2,rfl,zf4⟩:=zfx (hval 2 9 v2 rfl rfl) h2 hz0
 have e1:Rows.ownersNearestSpec.fn H ([.lit (.int .u8 x0),.lit (.int .u8 x1),d2]++[]) = { results:=[.lit (.bool true)],args:=[.lit (.int .u8 x0),.lit (.int .u8 x1),d2] } :=by simp[Rows.ownersNearestSpec]
 refine(zeQ x0 x1 s2 W hM hx0 hx1 zf4).mono fun e W' ⟨he,hb⟩=>?_
 subst he
 refine⟨_,rfl,_,_,_,[],[]++([]++(p2++[])),[],by simpa using hW',?_,?_,?_,hb.frame _,fun h=>by cases h⟩
 ·rw[e1];exact trodAll_mk1 (shut_bool Tryz.underlying4 true)
 ·rw[e1];exact(trodAll_cons_mk (shut_int Tryz.underlying5 wx0) (trodAll_cons_mk (shut_int Tryz.underlying5 wx1) (trodAll_cons_mk (Below.trod zfa (by kernel_rfl) (of_decide_eq_true (by kernel_rfl)) h2 hb (fun z hz=>hW'.lt z (by simp[hz]))) trodAll_mk0)))
 ·rw[e1];rfl
theorem zeL:Rows.OwnersNearestSaid:=
 OpenClaim.holds_of_wide 5 Tryz.f5 rfl rfl rfl rfl rfl rfl rfl ⟨rfl,rfl,rfl,rfl,rfl⟩ rfl rfl rfl rfl rfl (by kernel_rfl) Tryz.func5 (by kernel_rfl)
  (of_decide_eq_true (by kernel_rfl)) (by unfold Func.isWrapper;first|(rw[if_pos (by decide +kernel)];kernel_rfl)|(rw[if_neg (by decide +kernel)];exact⟨rfl,rfl⟩))
  (fun os started H enc _=>zeD os started H enc)
theorem onearest_card:Rows.OwnersNearestCardSaid:=
 Claim7.holds_tied_plain_at .later [] [.data,.pinned] true Rows.ownersNearestCard.stood.harness false zeL (fun _ h=>by cases h) (by kernel_rfl) (fun _ h=>by cases h) ownersNearest_row_tie rfl ⟨rfl,rfl⟩ (by kernel_rfl) rfl
  (fun f fn hf hfn => by
    obtain rfl : f = 5 := Option.some.inj ((show Tryz.prog.funcNamed "modcert/modcertlaw53.OwnersNearest" = some 5 by kernel_rfl).symm.trans hf) |>.symm
    obtain rfl:fn=Tryz.f5:=(Option.some.inj (Tryz.func5.symm.trans hfn)).symm
    exact⟨by kernel_rfl,fun j t ht=>by
     rw[Tryz.params5] at ht
     have hm:t∈[5,5,9]:=by simpa using Array.mem_of_getElem? ht
     have hall:([5,5,9].all fun u => !Tryz.prog.wantsStandIn u)=true:=by kernel_rfl
     exact(show Tryz.prog.wantsStandIn t=false by simpa using List.all_eq_true.1 hall t hm)⟩)
  (by kernel_rfl)
end
end Go.Proofs.YtjlmglgmcekmhaaGreatDoor
