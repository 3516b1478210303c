/- Regions whose operations that make memory or call stand in no fixed order: a tree of the orders that are left. -/
import Derived.Lib.Split
import Derived.Lib.SplitLaws
import Derived.Laws.EntriesVeiled
import Derived.OwnWalk
import Derived.Laws.BitsLemmas
import Derived.Lib.EndianBits
import Derived.Laws.AppendOwn
import Derived.Deep.AppendSrc
import Derived.Lib.ConvBytes
import Derived.Test.YtdiiafgoccakkaaGreatDoorShkB2
set_option linter.unusedVariables false
set_option linter.unusedSimpArgs false
set_option maxRecDepth 100000
set_option maxHeartbeats 40000000
namespace Go.Proofs.YtdiiafgoccakkaaGreatDoor
section
namespace Lex
open Go
section
variable {P:Program} {ops:Array Oper} {Q:Exit->Act->World->Prop}
def gM (P:Program)(ops:Array Oper)(ld:Nat->Bool):Bool:=(List.range ops.size).all fun k=>match ops[k]? with|some o=>(ld k || decide (kind P o<=1))&&(!ld k || decide (1<=kind P o))|none=>true
theorem Wz {ld:Nat->Bool}(h:gM P ops ld=true){k:Nat}{o:Oper}(hk:ops[k]? = some o):(ld k=false->kind P o<=1)/\(kind P o=0->ld k=false):=by
 have hkl:k<ops.size:=(Array.getElem?_eq_some_iff.1 hk).1
 have:=(List.all_eq_true.1 h) k (List.mem_range.2 hkl)
 rw[hk] at this
 simp only[Bool.and_eq_true,Bool.or_eq_true,decide_eq_true_eq,Bool.not_eq_true'] at this
 refine⟨fun h1=>?_,fun h1=>?_⟩
 ·rcases this.1 with h2|h2
  ·rw[h1] at h2;cases h2
  ·exact h2
 ·rcases this.2 with h2|h2
  ·exact h2
  ·omega
def Ng (P:Program)(ops:Array Oper)(ld:Nat->Bool):Bool:=
 Region.noSelect ops&&MW ops (fun a b=>MN P ops a b || (ld a&&ld b)) ops.size ops.size 0 0&&gM P ops ld&&
 ((List.range ops.size).all fun k => match ops[k]? with
   | some o => !needs o || (List.range ops.size).all fun i=>decide (i<k) || (match ops[i]? with|some o' => (match o'.dst with|some t => !(o.looksAt ops).contains t|none=>true)|none=>true)
   | none=>true)
def xY (ms:List Nat)(o:Oper):Nat:=o.after.toList.foldl (fun m e=>if Region.binds .any e then m ||| (1 <<< e.on) ||| ms.getD e.on 0 else m) 0
def uM (ms:List Nat)(ops:Array Oper):Bool:=(List.range ops.size).all fun b=>match ops[b]? with|some o=>xY ms o==ms.getD b 0|none=>true
def M (ms:List Nat)(b a:Nat):Bool:=(ms.getD b 0).testBit a
def Vy (ms:List Nat)(ld:Nat->Bool)(m:List Nat):List Nat:=m.filter fun k => !ld k&&m.all fun y => !(ld y&&M ms k y)
def EG (ms:List Nat)(ld:Nat->Bool)(m:List Nat):List Nat:=m.filter fun k => !(!ld k&&m.all fun y => !(ld y&&M ms k y))
def Nh (ms:List Nat)(ld:Nat->Bool)(m:List Nat):List Nat:=m.filter fun x=>ld x&&m.all fun y => !(ld y&&M ms x y)
inductive Tr where
 | nil:Tr
 | alt (x:Nat) (p:List Nat) (sub next:Tr):Tr
def RB (ms:List Nat)(p m:List Nat):Bool:=p.all fun k=>m.all fun x => !M ms k x
def okT (ms:List Nat)(ld:Nat->Bool):Tr->List Nat->List Nat->Bool
 | .nil,_,cs=>cs==[]
 | .alt x p sub next,m,cs => match cs with
   | []=>false
   | c :: cs' => x == c && m.contains x && p == Vy ms ld (m.erase x) && RB ms p (EG ms ld (m.erase x)) &&
     (match sub with
       | .nil=>EG ms ld (m.erase x)==[]
       | .alt .. => (Nh ms ld (EG ms ld (m.erase x)) != [])&&okT ms ld sub (EG ms ld (m.erase x)) (Nh ms ld (EG ms ld (m.erase x))))&&okT ms ld next m cs'
def EO (P:Program)(ops:Array Oper)(Q:Exit->Act->World->Prop):List Nat->(Act->World->Prop)->Act->World->Prop
 | [],K=>K
 | i::l,K=>wpOp P ops Q i (EO P ops Q l K)
def End (P:Program)(ops:Array Oper)(Q:Exit->Act->World->Prop)(a:Act)(w:World):Prop:=Ends P ops Q .normal a w
def run (P:Program)(ops:Array Oper)(Q:Exit->Act->World->Prop):(Act->World->Prop)->Tr->Act->World->Prop
 | E,.nil=>E
 | _,.alt x p sub next=>fun a w=>wpOp P ops (Ends P ops Q) x (EO P ops (Ends P ops Q) p (run P ops Q (End P ops Q) sub)) a w/\run P ops Q (fun _ _=>True) next a w
def Fin (P:Program)(ops:Array Oper)(Q:Exit->Act->World->Prop)(l:List Nat)(K:Act->World->Prop):Prop:=
 ∀ a w,K a w->∃ a' w',Ends P ops Q .normal a' w' /\ ∀ t,(∀ i∈l,∀ o,ops[i]? = some o->o.dst≠some t)->a'.tmps[t]? = a.tmps[t]?
theorem Fin.mono {l l' : List Nat}{K:Act->World->Prop}(h:Fin P ops Q l K)(hl:∀ i∈l,i∈l'):Fin P ops Q l' K:=fun a w hk=>by
 obtain⟨a',w',he,ht⟩:=h a w hk
 exact⟨a',w',he,fun t hn=>ht t fun i hi=>hn i (hl i hi)⟩
theorem XZ {l:List Nat}{K:Act->World->Prop}{i:Nat}(hi:i<ops.size)(h:Fin P ops Q l K):Fin P ops Q (i::l) (fun a w=>wpOp P ops (Ends P ops Q) i K a w):=by
 intro a w hk
 obtain⟨o,ho⟩:∃ o,ops[i]? = some o:=⟨_,Array.getElem?_eq_getElem hi⟩
 obtain⟨a1,w1,⟨v,ds,rfl⟩,h1⟩:=Gn (Ends.Bu P ops Q) ho hk
 obtain⟨a2,w2,he,ht⟩:=h _ _ h1
 refine⟨a2,w2,he,fun t hn=>?_⟩
 rw[ht t fun j hj o ho=>hn j (by simp[hj]) o ho]
 have:=hn i (by simp) _ ho
 cases hd:o.dst with
 | none=>rfl
 | some d =>
   have hne:d≠t:=fun e=>this (by rw[hd,e])
   simp[Act.put,Array.getElem?_setIfInBounds_ne hne]
theorem NZ {m:List Nat}{K:Act->World->Prop}(h:Fin P ops Q m K):∀ l:List Nat,(∀ i∈l,i<ops.size)->Fin P ops Q (l++m) (EO P ops (Ends P ops Q) l K)
 | [],_=>h
 | i::l,hl=>XZ (hl i (by simp)) (NZ h l (fun j hj=>hl j (by simp[hj])))
theorem ZF {l:List Nat}{K:Act->World->Prop}{a:Act}{w:World}(hF:Fin P ops Q l K)(h:K a w){k:Nat}{o:Oper}(hk:ops[k]? = some o)(hkd:kind P o=0)
 (hf:needs o=true->∀ i∈l,∀ o',ops[i]? = some o' -> ∀ t,o'.dst=some t->t ∉ o.looksAt ops):Region.wanted o (yielded ops a.tmps)=true->Quiet P (execOp a.eval o):=by
 intro hw
 refine quiet_of hkd ?_
 cases hn:needs o with
 | false=>exact Pt hn _
 | true =>
   obtain⟨a',w',⟨_,hg,_⟩,ht⟩:=hF a w h
   have hg1:=Array.all_eq_true_iff_forall_mem.1 hg o (Array.mem_of_getElem? hk)
   have hsame:∀ t,t∈o.looksAt ops->a'.tmps[t]? = a.tmps[t]? :=fun t hm=>ht t fun i hi o' ho' e=>hf hn i hi o' ho' t e hm
   have hev:∀ x∈o.op.operands,a'.eval x=a.eval x:=fun x hx=>IU fun t e=>hsame t (by
    subst e
    exact List.mem_append_left _ (List.mem_filterMap.2 ⟨.tmp t,by simpa using hx,rfl⟩))
   have hwn:Region.wanted o (yielded ops a'.tmps)=Region.wanted o (yielded ops a.tmps):=by
    unfold Region.wanted
    cases hgd:o.guard with
    | none=>rfl
    | some gw =>
      obtain⟨g,want⟩:=gw
      have:yielded ops a'.tmps g=yielded ops a.tmps g:=by
       unfold yielded
       cases hd:(ops[g]?).bind (·.dst) with
       | none=>rfl
       | some t =>
         have:=hsame t (by simp[Oper.looksAt,hgd,hd])
         simp[this]
      simp only[this]
   rw[hkd,hwn,hw] at hg1
   simp at hg1
   rw[<- MK o hev]
   exact hg1
theorem gT {x y:Oper}(h:x.apart ops y=true):y.apart ops x=true:=by
 unfold Oper.apart at*
 cases hx:x.dst with
 | none =>
   cases hy:y.dst with
   | none=>rfl
   | some e=>simp[hx,hy] at h ⊢;exact h
 | some d =>
   cases hy:y.dst with
   | none=>simp[hx,hy] at h ⊢;exact h
   | some e =>
     simp[hx,hy] at h ⊢
     exact⟨⟨h.2,fun he=>h.1.2 he.symm⟩,h.1.1⟩
theorem Tf (hdn:∀ (b:Nat) (ob:Oper),ops[b]? = some ob->∀ e∈ob.after,Region.binds .any e=true->e.on<b):∀ (f b a:Nat),waits ops f b a=true->a<b
 | 0,_,_,h=>by cases h
 | f + 1,b,a,h => by
   unfold waits at h
   split at h
   ·rename_i ob hb
    obtain⟨e,he,hx⟩:=Array.any_eq_true'.1 h
    simp only[Bool.and_eq_true,Bool.or_eq_true,beq_iff_eq] at hx
    have h1:=hdn b ob hb e he hx.1
    rcases hx.2 with rfl|h2
    ·exact h1
    ·have:=Tf hdn f e.on a h2;omega
   ·cases h
theorem Qv {ld:Nat->Bool}(h:Ng P ops ld=true):gM P ops ld=true:=by
 simp only[Ng,Bool.and_eq_true] at h
 exact h.1.2
theorem Kw {ld:Nat->Bool}(h:Ng P ops ld=true):
 (∀ (j:Nat) (o:Oper) (cs:Array SelectCase) (b:Bool),ops[j]? = some o->o.op≠.select cs b)/\
 (∀ (b:Nat) (ob:Oper),ops[b]? = some ob->∀ e∈ob.after,Region.binds .any e=true->e.on<b)/\
 (∀ b a,b<ops.size->a<b->waits ops ops.size b a=true\/MN P ops a b=true\/(ld a=true/\ld b=true))/\
 (∀ (k:Nat) (o:Oper),ops[k]? = some o->needs o=true->∀ i,k<=i->∀ (o' : Oper),ops[i]? = some o' -> ∀ t,o'.dst=some t->t ∉ o.looksAt ops):=by
 simp only[Ng,Bool.and_eq_true,List.all_eq_true,List.mem_range] at h
 obtain⟨⟨⟨h1,h2⟩,h4⟩,h3⟩:=h
 refine⟨fun j o cs b hj=>Region.noSelect_spec h1 j o cs b hj,fun b ob hb e he hbi=>(DW h2 hb).1 e he hbi,fun b a hb ha=>?_,fun k o hk hn i hki o' hi t ht=>?_⟩
 ·have:=(DW h2 (Array.getElem?_eq_getElem hb)).2 a ha
  simpa using this
 ·have hkl:k<ops.size:=(Array.getElem?_eq_some_iff.1 hk).1
  have hil:i<ops.size:=(Array.getElem?_eq_some_iff.1 hi).1
  have:=h3 k hkl
  rw[hk] at this
  simp only[hn,Bool.not_true,Bool.false_or,List.all_eq_true,List.mem_range] at this
  have:=this i hil
  rw[hi] at this
  simp only[ht,Bool.or_eq_true,decide_eq_true_eq] at this
  rcases this with this|this
  ·omega
  ·simpa using this
theorem mQ {ms:List Nat}{o:Oper}{t:Nat}(h:(xY ms o).testBit t=true):∃ e∈o.after,Region.binds .any e=true/\(e.on=t\/(ms.getD e.on 0).testBit t=true):=by
 have key:∀ (l:List _) (m:Nat),(l.foldl (fun m e=>if Region.binds .any e then m ||| (1 <<< e.on) ||| ms.getD e.on 0 else m) m).testBit t=true->m.testBit t=true\/∃ e∈l,Region.binds .any e=true/\(e.on=t\/(ms.getD e.on 0).testBit t=true):=by
  intro l
  induction l with
  | nil=>exact fun m h=>.inl h
  | cons e l ih =>
    intro m h
    rcases ih _ h with h|⟨e',he',h'⟩
    ·simp only at h
     split at h
     ·rename_i hb
      simp only[Nat.testBit_or,Bool.or_eq_true] at h
      rcases h with (h|h)|h
      ·exact .inl h
      ·refine .inr ⟨e,List.mem_cons_self,hb,.inl ?_⟩
       rw[Nat.testBit_shiftLeft] at h
       simp only[Bool.and_eq_true,decide_eq_true_eq] at h
       have h2:=h.2
       rw[Nat.testBit_one_eq_true_iff_self_eq_zero] at h2
       omega
      ·exact .inr ⟨e,List.mem_cons_self,hb,.inr h⟩
     ·exact .inl h
    ·exact .inr ⟨e',List.mem_cons_of_mem _ he',h'⟩
 rcases key _ _ h with h|⟨e,he,h⟩
 ·simp at h
 ·exact⟨e,Array.mem_toList_iff.1 he,h⟩
theorem Ya {ms:List Nat}(hms:uM ms ops=true)(hdn:∀ (b:Nat) (ob:Oper),ops[b]? = some ob->∀ e∈ob.after,Region.binds .any e=true->e.on<b):
 ∀ (b a:Nat),b<ops.size->M ms b a=true->waits ops (b+1) b a=true:=by
 intro b
 induction b using Nat.strongRecOn with
 | ind b ih =>
   intro a hb h
   have hb':=Array.getElem?_eq_getElem hb
   have h1:=(List.all_eq_true.1 hms) b (List.mem_range.2 hb)
   rw[hb'] at h1
   simp only[beq_iff_eq] at h1
   unfold M at h
   rw[<- h1] at h
   obtain⟨e,he,hbi,hc⟩:=mQ h
   have hlt:=hdn b _ hb' e he hbi
   unfold waits
   rw[hb']
   simp only
   rw[Array.any_eq_true']
   refine⟨e,he,?_⟩
   simp only[Bool.and_eq_true,Bool.or_eq_true,beq_iff_eq]
   refine⟨hbi,hc.imp id fun h2=>?_⟩
   exact IW (by omega) (ih e.on hlt a (by omega) h2)
theorem PI {ld:Nat->Bool}(hA:Ng P ops ld=true){i:Nat}{m:List Nat}{K:Act->World->Prop}(hil:i<ops.size)(hF:Fin P ops Q m K)(hm:∀ x∈m,x<ops.size):∀ (p:List Nat),(∀ k∈p,k<ops.size)->
 (∀ k∈p,ld k=false)->(∀ k∈p,k≠i/\waits ops ops.size k i=false/\waits ops ops.size i k=false)->
 p.Pairwise (fun k x=>waits ops ops.size k x=false)->(∀ k∈p,∀ x∈m,waits ops ops.size k x=false)->(∀ x∈m,waits ops ops.size i x=false)->
 ∀ (a:Act) (w:World),EO P ops (Ends P ops Q) p (fun a w=>wpOp P ops (Ends P ops Q) i K a w) a w->wpOp P ops (Ends P ops Q) i (EO P ops (Ends P ops Q) p K) a w
 | [],_,_,_,_,_,_,a,w,h=>h
 | k :: p,hp,hq,hu,hpw,hpm,him,a,w,h => by
   obtain⟨hsel,hdn,Zq,hkeep⟩:=Kw hA
   have za0:=List.pairwise_cons.1 hpw
   have hkl:k<ops.size:=hp k (by simp)
   obtain⟨ok,hk⟩:∃ o,ops[k]? = some o:=⟨_,Array.getElem?_eq_getElem hkl⟩
   obtain⟨oi,hi⟩:∃ o,ops[i]? = some o:=⟨_,Array.getElem?_eq_getElem hil⟩
   obtain⟨hki,hw1,hw2⟩:=hu k (by simp)
   have hqk:=hq k (by simp)
   have zbM:MN P ops k i=true\/MN P ops i k=true:=by
    by_cases hlt:k<i
    ·rcases Zq i k hil hlt with h1|h1|h1
     ·rw[hw2] at h1;cases h1
     ·exact .inl h1
     ·rw[hqk] at h1;cases h1.1
    ·rcases Zq k i hkl (by omega) with h1|h1|h1
     ·rw[hw1] at h1;cases h1
     ·exact .inr h1
     ·rw[hqk] at h1;cases h1.2
   have hkk:kind P ok=0\/kind P ok=1:=by
    have:=(Wz (Qv hA) hk).1 hqk
    omega
   have hboth:ok.apart ops oi=true/\(kind P oi=0\/kind P ok=0\/kind P ok=1/\(kind P oi=1\/kind P oi=2)):=by
    rcases zbM with h1|h1
    ·simp only[MN,hk,hi,Bool.and_eq_true,Bool.or_eq_true,beq_iff_eq] at h1
     exact⟨h1.1,by rcases h1.2 with (h2|h2)|h2<;>simp[h2]⟩
    ·simp only[MN,hk,hi,Bool.and_eq_true,Bool.or_eq_true,beq_iff_eq] at h1
     refine⟨gT h1.1,?_⟩
     rcases h1.2 with (h2|h2)|⟨h2,h3⟩
     ·exact .inr (.inl h2)
     ·exact .inl h2
     ·rcases hkk with h4|h4
      ·exact .inr (.inl h4)
      ·exact .inr (.inr ⟨h4,.inl h2⟩)
   obtain⟨hap,hc⟩:=hboth
   have hF1:Fin P ops Q (k::(p++i::m)) (fun a w=>wpOp P ops (Ends P ops Q) k (EO P ops (Ends P ops Q) p (fun a w=>wpOp P ops (Ends P ops Q) i K a w)) a w):=
    XZ hkl (NZ (XZ hil hF) p (fun x hx=>hp x (by simp[hx])))
   have h2:wpOp P ops (Ends P ops Q) k (fun a' w' => wpOp P ops (Ends P ops Q) i (EO P ops (Ends P ops Q) p K) a' w') a w:=
    wpOp_mono (fun a' w' hh=>PI hA hil hF hm p (fun x hx=>hp x (by simp[hx])) (fun x hx=>hq x (by simp[hx])) (fun x hx=>hu x (by simp[hx])) za0.2 (fun x hx=>hpm x (by simp[hx])) him a' w' hh) h
   have hall:∀ x∈k::(p++i::m),x<ops.size:=by
    intro x hx
    simp at hx
    rcases hx with rfl|hx|rfl|hx
    ·exact hkl
    ·exact hp x (by simp[hx])
    ·exact hil
    ·exact hm x hx
   have qL:∀ (j:Nat) (oj:Oper),ops[j]? = some oj->j<ops.size->ld j=false->(∀ x∈k::(p++i::m),x=j\/waits ops ops.size j x=false)->needs oj=true->∀ x∈k::(p++i::m),∀ o',ops[x]? = some o' -> ∀ t,o'.dst=some t->t ∉ oj.looksAt ops:=by
    intro j oj hj hjl hjq hwt hn x hx o' ho' t ht
    by_cases hjx:j<=x
    ·exact hkeep j oj hj hn x hjx o' ho' t ht
    ·rcases hwt x hx with rfl|hwx
     ·omega
     ·rcases Zq j x hjl (by omega) with h1|h1|h1
      ·rw[hwx] at h1;cases h1
      ·simp only[MN,ho',hj,Bool.and_eq_true] at h1
       exact(Oper.apart_spec h1.1).1 t ht
      ·rw[hjq] at h1;cases h1.2
   show wpOp P ops (Ends P ops Q) i (fun a' w' => wpOp P ops (Ends P ops Q) k (EO P ops (Ends P ops Q) p K) a' w') a w
   refine swap (Ends.Bu P ops Q) hk hi hap (fun cs b=>hsel k ok cs b hk) (fun cs b=>hsel i oi cs b hi) ?_ h2
   rcases hc with hc|hc|⟨hc1,hc2⟩
   ·refine .inl (ZF hF1 h hi hc (qL i oi hi hil ?_ ?_))
    ·exact(Wz (Qv hA) hi).2 hc
    ·intro x hx
     simp at hx
     rcases hx with rfl|hx|rfl|hx
     ·exact .inr hw2
     ·exact .inr (hu x (by simp[hx])).2.2
     ·exact .inl rfl
     ·exact .inr (him x hx)
   ·refine .inr (.inl (ZF hF1 h hk hc (qL k ok hk hkl hqk ?_)))
    intro x hx
    simp at hx
    rcases hx with rfl|hx|rfl|hx
    ·exact .inl rfl
    ·exact .inr (za0.1 x hx)
    ·exact .inr hw1
    ·exact .inr (hpm k (by simp) x hx)
   ·exact .inr (.inr ⟨fun _=>FY hc1,fun _=>Fp hc2⟩)
theorem qM {ms:List Nat}{o:Oper}{t:Nat}(h:∃ e∈o.after,Region.binds .any e=true/\(e.on=t\/(ms.getD e.on 0).testBit t=true)):(xY ms o).testBit t=true:=by
 have key:∀ (l:List _) (m:Nat),(m.testBit t=true\/∃ e∈l,Region.binds .any e=true/\(e.on=t\/(ms.getD e.on 0).testBit t=true))->(l.foldl (fun m e=>if Region.binds .any e then m ||| (1 <<< e.on) ||| ms.getD e.on 0 else m) m).testBit t=true:=by
  intro l
  induction l with
  | nil =>
    intro m h
    rcases h with h|⟨e,he,_⟩
    ·exact h
    ·cases he
  | cons e l ih =>
    intro m h
    refine ih _ ?_
    simp only
    rcases h with h|⟨e',he',hb,hc⟩
    ·refine .inl ?_
     split
     ·simp[Nat.testBit_or,h]
     ·exact h
    ·rcases List.mem_cons.1 he' with rfl|he'
     ·refine .inl ?_
      rw[if_pos hb]
      rcases hc with rfl|hc
      ·simp[Nat.testBit_or,Nat.testBit_shiftLeft]
      ·simp only[Nat.testBit_or,hc,Bool.or_true]
     ·exact .inr ⟨e',he',hb,hc⟩
 obtain⟨e,he,h⟩:=h
 exact key _ _ (.inr ⟨e,Array.mem_toList_iff.2 he,h⟩)
theorem Yb {ms:List Nat}(hms:uM ms ops=true):∀ (f b a:Nat),waits ops f b a=true->M ms b a=true
 | 0,_,_,h=>by cases h
 | f + 1,b,a,h => by
   unfold waits at h
   split at h
   ·rename_i ob hb
    have hbl:=(Array.getElem?_eq_some_iff.1 hb).1
    have h1:=(List.all_eq_true.1 hms) b (List.mem_range.2 hbl)
    rw[hb] at h1
    simp only[beq_iff_eq] at h1
    obtain⟨e,he,hx⟩:=Array.any_eq_true'.1 h
    simp only[Bool.and_eq_true,Bool.or_eq_true,beq_iff_eq] at hx
    unfold M
    rw[<- h1]
    exact qM ⟨e,he,hx.1,hx.2.imp id (fun h2=>Yb hms f _ _ h2)⟩
   ·cases h
theorem Gu {K:Act->World->Prop} : ∀ p q:List Nat,EO P ops Q (p++q) K=EO P ops Q p (EO P ops Q q K)
 | [],_=>rfl
 | i :: p,q => by
   show(fun a w=>wpOp P ops Q i (EO P ops Q (p++q) K) a w)=_
   rw[Gu p q]
   rfl
theorem J4 {K K' : Act->World->Prop}(h:∀ a w,K a w->K' a w):∀ (p:List Nat) (a:Act) (w:World),EO P ops Q p K a w->EO P ops Q p K' a w
 | [],a,w,hk=>h a w hk
 | _::p,_,_,hk=>wpOp_mono (fun a' w' hh=>J4 h p a' w' hh) hk
def kI (ms:List Nat)(ld:Nat->Bool)(t:Tr)(m:List Nat):Prop:=(t=.nil/\m=[])\/(Nh ms ld m≠[]/\okT ms ld t m (Nh ms ld m)=true)
theorem kL {ms:List Nat}{ld:Nat->Bool}{x:Nat}{p:List Nat}{sub next:Tr}{m cs:List Nat}(h:okT ms ld (.alt x p sub next) m cs=true):
 ∃ cs',cs=x::cs' /\ x∈m/\p=Vy ms ld (m.erase x)/\RB ms p (EG ms ld (m.erase x))=true/\kI ms ld sub (EG ms ld (m.erase x))/\okT ms ld next m cs' = true:=by
 unfold okT at h
 cases cs with
 | nil=>cases h
 | cons c cs' =>
   simp only[Bool.and_eq_true,beq_iff_eq] at h
   obtain⟨⟨⟨⟨⟨rfl,h2⟩,h3⟩,h4⟩,h5⟩,h6⟩:=h
   refine⟨cs',rfl,by simpa using h2,h3,h4,?_,h6⟩
   cases sub with
   | nil=>exact .inl ⟨rfl,by simpa using h5⟩
   | alt y q s n =>
     simp only[Bool.and_eq_true,bne_iff_ne,ne_eq] at h5
     exact .inr h5
theorem LH {ms:List Nat}{ld:Nat->Bool}{m:List Nat}{x:Nat} : (∀ i∈Vy ms ld (m.erase x),i∈m)/\(∀ i∈EG ms ld (m.erase x),i∈m):=
 ⟨fun i hi=>List.mem_of_mem_erase (List.mem_filter.1 hi).1,fun i hi=>List.mem_of_mem_erase (List.mem_filter.1 hi).1⟩
theorem kM {ms:List Nat}{ld:Nat->Bool} : ∀ (t:Tr) (m cs:List Nat),okT ms ld t m cs=true->cs≠[]->(∀ x∈m,x<ops.size)->∀ E,Fin P ops Q m (run P ops Q E t)
 | .nil,m,cs,h,hc,_,E => by
   unfold okT at h
   simp at h
   exact absurd h hc
 | .alt x p sub next,m,cs,h,hc,hm,E => by
   obtain⟨cs',rfl,hx,hp,hcl,hs,hn⟩:=kL h
   have hsub:Fin P ops Q (EG ms ld (m.erase x)) (run P ops Q (End P ops Q) sub):=by
    rcases hs with ⟨rfl,h0⟩|⟨h1,h2⟩
    ·rw[h0]
     exact fun a w hk=>⟨a,w,hk,fun _ _=>rfl⟩
    ·exact kM sub _ _ h2 h1 (fun y hy=>hm y (LH.2 y hy)) _
   have h1:=XZ (P:=P) (Q:=Q) (hm x hx) (NZ hsub p (fun y hy=>hm y (by rw[hp] at hy;exact LH.1 y hy)))
   have h2:=h1.mono (l':=m) (fun y hy=>by
    rcases List.mem_cons.1 hy with rfl|hy
    ·exact hx
    ·rcases List.mem_append.1 hy with hy|hy
     ·rw[hp] at hy;exact LH.1 y hy
     ·exact LH.2 y hy)
   exact fun a w hk=>h2 a w hk.1
theorem kN {ms:List Nat}{ld:Nat->Bool}{t:Tr}{m:List Nat}(h:kI ms ld t m)(hm:∀ x∈m,x<ops.size):Fin P ops Q m (run P ops Q (End P ops Q) t):=by
 rcases h with ⟨rfl,h0⟩|⟨h1,h2⟩
 ·rw[h0]
  exact fun a w hk=>⟨a,w,hk,fun _ _=>rfl⟩
 ·exact kM t _ _ h2 h1 hm _
theorem ZG {ms:List Nat}{ld:Nat->Bool}{i:Nat} : ∀ (t:Tr) (m cs:List Nat),okT ms ld t m cs=true->i∈cs->∃ sub,RB ms (Vy ms ld (m.erase i)) (EG ms ld (m.erase i))=true/\kI ms ld sub (EG ms ld (m.erase i))/\
 ∀ E a w,run P ops Q E t a w->wpOp P ops (Ends P ops Q) i (EO P ops (Ends P ops Q) (Vy ms ld (m.erase i)) (run P ops Q (End P ops Q) sub)) a w
 | .nil,m,cs,h,hi => by
   unfold okT at h
   simp at h
   subst h
   cases hi
 | .alt x p sub next,m,cs,h,hi => by
   obtain⟨cs',rfl,hx,hp,hcl,hs,hn⟩:=kL h
   by_cases hix:i=x
   ·subst hix
    refine⟨sub,by rw[<- hp];exact hcl,hs,fun E a w hk=>?_⟩
    rw[<- hp]
    exact hk.1
   ·have hi' : i ∈ cs' :=by
     rcases List.mem_cons.1 hi with h1|h1
     ·exact absurd h1 hix
     ·exact h1
    obtain⟨s2,h1,h2,h3⟩:=ZG next m cs' hn hi'
    exact⟨s2,h1,h2,fun E a w hk=>h3 _ a w hk.2⟩
theorem Ko (f:Nat->Bool):∀ l:List Nat,(l.filter f).length+(l.filter fun k => !f k).length=l.length
 | []=>rfl
 | x :: l => by
   have:=Ko f l
   cases hf:f x<;>simp[hf]<;>omega
theorem Yc {listed:Array Bool}(hsz:listed.size=ops.size)(hdn:∀ (b:Nat) (ob:Oper),ops[b]? = some ob->∀ e∈ob.after,Region.binds .any e=true->e.on<b):∀ x,x<ops.size->listed.getD x false=false->∃ j,j∈Region.ready .any ops listed:=by
 intro x
 induction x using Nat.strongRecOn with
 | ind x ih =>
   intro hx hl
   by_cases hall:∀ e∈(ops[x]'hx).after,Region.binds .any e=true->listed.getD e.on false=true
   ·exact⟨x,mem_ready.2 ⟨getD_in (by omega) hl,_,Array.getElem?_eq_getElem hx,hall⟩⟩
   ·simp only[Classical.not_forall] at hall
    obtain⟨e,he,hb,hn⟩:=hall
    have hlt:=hdn x _ (Array.getElem?_eq_getElem hx) e he hb
    exact ih e.on hlt (by omega) (by simpa using hn)
theorem Ky {ms:List Nat}{ld:Nat->Bool}(hA:Ng P ops ld=true)(hms:uM ms ops=true):∀ (fuel:Nat) (p m:List Nat) (t:Tr) (listed:Array Bool) (a:Act) (w:World),(p++m).length=fuel->listed.size=ops.size->Closed ops listed->(p++m).Nodup->
 (∀ x,x∈p++m↔x<ops.size/\listed.getD x false=false)->(∀ k∈p,ld k=false)->p.Pairwise (fun k x=>waits ops ops.size k x=false)->m.Pairwise (· < ·)->(∀ k∈p,∀ x∈m,waits ops ops.size k x=false)->
 (∀ x∈m,ld x=false->∃ y∈m,ld y=true/\waits ops ops.size x y=true)->kI ms ld t m->
 EO P ops (Ends P ops Q) p (run P ops Q (End P ops Q) t) a w->wpAny P .any ops (Ends P ops Q) fuel listed a w
 | 0,p,m,t,listed,a,w,hlen,hsz,hcl,hnd,hmem,hq,hpw,hsrt,hpm,hcalm,hs,h => by
   have h0:p++m=[]:=List.eq_nil_of_length_eq_zero hlen
   obtain⟨rfl,rfl⟩:=List.append_eq_nil_iff.1 h0
   have ht:t=.nil:=by
    rcases hs with ⟨h1,_⟩|⟨h1,_⟩
    ·exact h1
    ·exact absurd rfl h1
   subst ht
   refine⟨?_,h⟩
   refine List.eq_nil_iff_forall_not_mem.2 fun j hj=>?_
   obtain⟨h0,o,ho,_⟩:=mem_ready.1 hj
   have hjl:j<ops.size:=(Array.getElem?_eq_some_iff.1 ho).1
   have:=(hmem j).2 ⟨hjl,getD_both h0⟩
   cases this
 | fuel + 1,p,m,t,listed,a,w,hlen,hsz,hcl,hnd,hmem,hq,hpw,hsrt,hpm,hcalm,hs,h => by
   obtain⟨_,hdn,_,_⟩:=Kw hA
   have hlt:∀ x∈p++m,x<ops.size:=fun x hx=>((hmem x).1 hx).1
   refine⟨fun hr=>?_,fun i hi=>?_⟩
   ·exfalso
    obtain⟨x,hx⟩:∃ x,x∈p++m:=by
     cases hc:p++m with
     | nil=>rw[hc] at hlen;cases hlen
     | cons x l=>exact⟨x,by simp⟩
    obtain⟨j,hj⟩:=Yc hsz hdn x (hlt x hx) ((hmem x).1 hx).2
    rw[hr] at hj
    cases hj
   ·obtain⟨hun,oi,hoi,hall⟩:=mem_ready.1 hi
    have hil:i<ops.size:=(Array.getElem?_eq_some_iff.1 hoi).1
    have hin:i∈p++m:=(hmem i).2 ⟨hil,getD_both hun⟩
    have hfree:∀ x∈p++m,waits ops ops.size i x=false:=by
     intro x hx
     cases hw:waits ops ops.size i x with
     | false=>rfl
     | true =>
       have h1:=Gq hcl ops.size i x oi hoi hall hw
       have h2:=((hmem x).1 hx).2
       rw[h2] at h1
       cases h1
    have hcl' : Closed ops (listed.setIfInBounds i true):=by
     intro j o ho hl e he hb
     by_cases hij:i=j
     ·subst hij
      have:o=oi:=Option.some.inj (ho.symm.trans hoi)
      subst this
      exact getD_set_true (hall e he hb)
     ·refine getD_set_true (hcl j o ho ?_ e he hb)
      rw[getD_set_ne false (by exact hij)] at hl
      exact hl
    have hmem' : ∀ l:List Nat,(∀ x,x∈l↔x∈p++m/\x≠i)->∀ x,x∈l↔x<ops.size/\(listed.setIfInBounds i true).getD x false=false:=by
     intro l hl x
     rw[hl x,hmem x]
     constructor
     ·rintro⟨⟨h1,h2⟩,h3⟩
      exact⟨h1,by rw[getD_set_ne false (Ne.symm h3)];exact h2⟩
     ·rintro⟨h1,h2⟩
      by_cases hix:i=x
      ·subst hix
       simp[hsz,h1] at h2
      ·rw[getD_set_ne false hix] at h2
       exact⟨⟨h1,h2⟩,Ne.symm hix⟩
    have hnd':=List.nodup_append.1 hnd
    rcases List.mem_append.1 hin with hip|him
    ·obtain⟨p1,p2,rfl⟩:=List.append_of_mem hip
     have hpa:=List.pairwise_append.1 hpw
     have hp2:=List.pairwise_cons.1 hpa.2.1
     have hn1:=List.nodup_append.1 hnd'.1
     rw[Gu] at h
     have hfr:=PI (Q:=Q) hA (i:=i) (m:=p2++m) (K:=EO P ops (Ends P ops Q) p2 (run P ops Q (End P ops Q) t)) hil
      (NZ (kN hs (fun x hx=>hlt x (by simp[hx]))) p2 (fun x hx=>hlt x (by simp[hx]))) (fun x hx=>hlt x (by simp at hx ⊢;rcases hx with hx|hx<;>simp[hx])) p1 (fun k hk=>hlt k (by simp[hk]))
      (fun k hk=>hq k (by simp[hk])) (fun k hk=>⟨fun e=>hn1.2.2 k hk i (by simp) e,hpa.2.2 k hk i (by simp),hfree k (by simp[hk])⟩) hpa.1
      (fun k hk x hx => by
        rcases List.mem_append.1 hx with hx|hx
        ·exact hpa.2.2 k hk x (by simp[hx])
        ·exact hpm k (by simp[hk]) x hx) (fun x hx=>hfree x (by simp at hx ⊢;rcases hx with hx|hx<;>simp[hx])) a w h
     refine wpOp_mono (fun a' w' hh=>?_) hfr
     rw[<- Gu] at hh
     have hni:∀ x,x∈p1++p2++m↔x∈p1++i::p2++m/\x≠i:=by
      intro x
      have e1:i ∉ p1:=fun hx=>hn1.2.2 i hx i (by simp) rfl
      have e2:i ∉ p2:=(List.nodup_cons.1 hn1.2.1).1
      have e3:i ∉ m:=fun hx=>hnd'.2.2 i (by simp) i hx rfl
      simp only[List.mem_append,List.mem_cons]
      constructor
      ·intro hx
       refine⟨by rcases hx with (hx|hx)|hx<;>simp[hx],?_⟩
       rintro rfl
       rcases hx with (hx|hx)|hx
       ·exact e1 hx
       ·exact e2 hx
       ·exact e3 hx
      ·rintro⟨(hx|hx|hx)|hx,hne⟩
       ·simp[hx]
       ·exact absurd hx hne
       ·simp[hx]
       ·simp[hx]
     refine Ky hA hms fuel (p1++p2) m t _ a' w' (by simp at hlen ⊢;omega) (by simp[hsz]) hcl' ?_ (hmem' _ hni) (fun k hk=>hq k (by simp at hk ⊢;rcases hk with hk|hk<;>simp[hk])) ?_ hsrt (fun k hk x hx=>hpm k (by simp at hk ⊢;rcases hk with hk|hk<;>simp[hk]) x hx) hcalm hs hh
     ·refine List.nodup_append.2 ⟨List.nodup_append.2 ⟨hn1.1,(List.nodup_cons.1 hn1.2.1).2,fun x hx y hy=>hn1.2.2 x hx y (by simp[hy])⟩,hnd'.2.1,fun x hx y hy=>hnd'.2.2 x (by simp at hx ⊢;rcases hx with hx|hx<;>simp[hx]) y hy⟩
     ·exact List.pairwise_append.2 ⟨hpa.1,hp2.2,fun x hx y hy=>hpa.2.2 x hx y (by simp[hy])⟩
    ·have hld : ld i = true :=by
      cases hl:ld i with
      | true=>rfl
      | false =>
        obtain⟨y,hy,_,hwy⟩:=hcalm i him hl
        rw[hfree y (by simp[hy])] at hwy
        cases hwy
     have hMi:∀ y∈m,M ms i y=false:=by
      intro y hy
      cases hM:M ms i y with
      | false=>rfl
      | true =>
        have h1:=IW (g:=ops.size) (by omega) (Ya hms hdn i y hil hM)
        rw[hfree y (by simp[hy])] at h1
        cases h1
     have hic:i∈Nh ms ld m:=by
      refine List.mem_filter.2 ⟨him,?_⟩
      rw[hld,Bool.true_and]
      refine List.all_eq_true.2 fun y hy=>?_
      rw[hMi y hy]
      simp
     rcases hs with ⟨_,rfl⟩|⟨_,hok⟩
     ·cases him
     ·obtain⟨sub,za1,hsub,hrun⟩:=ZG (P:=P) (ops:=ops) (Q:=Q) t m _ hok hic
      obtain⟨p',hp'⟩:∃ p',p' = Vy ms ld (m.erase i):=⟨_,rfl⟩
      obtain⟨m',hm'⟩:∃ m',m' = EG ms ld (m.erase i):=⟨_,rfl⟩
      rw[<- hp',<- hm'] at za1
      rw[<- hm'] at hsub
      simp only[<- hp'] at hrun
      have W9:∀ x∈p',x∈m:=fun x hx=>by rw[hp'] at hx;exact LH.1 x hx
      have Qw:∀ x∈m',x∈m:=fun x hx=>by rw[hm'] at hx;exact LH.2 x hx
      have hsize:∀ x∈m,x<ops.size:=fun x hx=>hlt x (by simp[hx])
      have hM0:∀ k∈p',∀ x∈m',waits ops ops.size k x=false:=by
       intro k hk x hx
       cases hw:waits ops ops.size k x with
       | false=>rfl
       | true =>
         have h1:=Yb hms _ _ _ hw
         have h2:=(List.all_eq_true.1 ((List.all_eq_true.1 za1) k hk)) x hx
         rw[h1] at h2
         cases h2
      have xu : (m.erase i).Pairwise (· < ·):=hsrt.sublist List.erase_sublist
      have hps:p'.Pairwise (· < ·):=by rw[hp'];exact xu.sublist List.filter_sublist
      have hfr:=PI (Q:=Q) hA (i:=i) (m:=p' ++ m') (K:=EO P ops (Ends P ops Q) p' (run P ops Q (End P ops Q) sub)) hil
       (NZ (kN hsub (fun x hx => hsize x (Qw x hx))) p' (fun x hx => hsize x (W9 x hx))) (fun x hx => hsize x (by
         rcases List.mem_append.1 hx with hx|hx
         ·exact W9 x hx
         ·exact Qw x hx)) p (fun k hk=>hlt k (by simp[hk])) hq
       (fun k hk=>⟨fun e=>hnd'.2.2 k hk i him e,hpm k hk i him,hfree k (by simp[hk])⟩) hpw
       (fun k hk x hx => hpm k hk x (by
         rcases List.mem_append.1 hx with hx|hx
         ·exact W9 x hx
         ·exact Qw x hx)) (fun x hx=>hfree x (by
         rcases List.mem_append.1 hx with hx|hx
         ·simp[W9 x hx]
         ·simp[Qw x hx])) a w (J4 (fun a' w' hk=>hrun _ a' w' hk) p a w h)
      refine wpOp_mono (fun a' w' hh=>?_) hfr
      rw[<- Gu] at hh
      have hme:∀ x,x∈m.erase i↔x≠i/\x∈m:=fun x=>hnd'.2.1.mem_erase_iff
      have hsplit:∀ x,x∈p' \/ x∈m' ↔ x∈m.erase i:=by
       intro x
       rw[hp',hm']
       simp only[Vy,EG,List.mem_filter]
       constructor
       ·rintro(h|h)<;>exact h.1
       ·intro hx
        cases hb:(!ld x&&(m.erase i).all fun y => !(ld y&&M ms x y)) with
        | true=>exact .inl ⟨hx,rfl⟩
        | false=>exact .inr ⟨hx,rfl⟩
      have hni:∀ x,x∈p++p' ++ m' ↔ x∈p++m/\x≠i:=by
       intro x
       have h1:=hsplit x
       have h2:=hme x
       have h3:x∈p->x≠i:=fun hx e=>hnd'.2.2 x hx i him e
       simp only[List.mem_append]
       constructor
       ·rintro((hx|hx)|hx)
        ·exact⟨.inl hx,h3 hx⟩
        ·have:=h2.1 (h1.1 (.inl hx));exact⟨.inr this.2,this.1⟩
        ·have:=h2.1 (h1.1 (.inr hx));exact⟨.inr this.2,this.1⟩
       ·rintro⟨hx|hx,hne⟩
        ·exact .inl (.inl hx)
        ·rcases h1.2 (h2.2 ⟨hne,hx⟩) with h|h
         ·exact .inl (.inr h)
         ·exact .inr h
      have za2:(m.erase i).Nodup:=hnd'.2.1.erase i
      have zcQ:p'.length+m'.length=(m.erase i).length:=by rw[hp',hm'];exact Ko _ _
      have hlen3:(m.erase i).length=m.length-1:=List.length_erase_of_mem him
      have zcR:0<m.length:=List.length_pos_of_mem him
      refine Ky hA hms fuel (p++p') m' sub _ a' w' (by simp at hlen ⊢;omega) (by simp[hsz]) hcl' ?_ (hmem' _ hni) ?_ ?_ ?_ ?_ ?_ hsub hh
      ·refine List.nodup_append.2 ⟨List.nodup_append.2 ⟨hnd'.1,by rw[hp'];exact za2.filter _,fun x hx y hy=>hnd'.2.2 x hx y (W9 y hy)⟩,by rw[hm'];exact za2.filter _,fun x hx y hy=>?_⟩
       rcases List.mem_append.1 hx with hx|hx
       ·exact hnd'.2.2 x hx y (Qw y hy)
       ·rintro rfl
        rw[hp'] at hx
        rw[hm'] at hy
        have h1:=(List.mem_filter.1 hx).2
        have h2:=(List.mem_filter.1 hy).2
        rw[h1] at h2
        cases h2
      ·intro k hk
       rcases List.mem_append.1 hk with hk|hk
       ·exact hq k hk
       ·rw[hp'] at hk
        have h1:=(List.mem_filter.1 hk).2
        simp only[Bool.and_eq_true,Bool.not_eq_true'] at h1
        exact h1.1
      ·refine List.pairwise_append.2 ⟨hpw,?_,fun x hx y hy=>hpm x hx y (W9 y hy)⟩
       refine hps.imp fun {x y} hxy=>?_
       cases hw:waits ops ops.size x y with
       | false=>rfl
       | true =>
         have:=Tf hdn _ _ _ hw
         omega
      ·rw[hm'];exact xu.sublist List.filter_sublist
      ·intro k hk x hx
       rcases List.mem_append.1 hk with hk|hk
       ·exact hpm k hk x (Qw x hx)
       ·exact hM0 k hk x hx
      ·intro x hx hl
       have hx':=hx
       rw[hm'] at hx
       have h1:=(List.mem_filter.1 hx).2
       simp only[hl,Bool.not_false,Bool.true_and,Bool.not_eq_true',List.all_eq_false] at h1
       obtain⟨y,hy,hyb⟩:=h1
       simp only[Bool.not_eq_true',Bool.not_eq_false',Bool.and_eq_true,Bool.not_eq_true,Bool.not_eq_false] at hyb
       refine⟨y,?_,hyb.1,IW (g:=ops.size) (by have:=hsize x (Qw x hx');omega) (Ya hms hdn x y (hsize x (Qw x hx')) hyb.2)⟩
       rw[hm']
       refine List.mem_filter.2 ⟨hy,?_⟩
       rw[hyb.1]
       rfl
def pick (l:List Oper)(is:List Nat):List Oper:=is.filterMap fun i=>l[i]?
theorem Kz {l:List Oper}{K:Act->World->Prop} : ∀ (is:List Nat) (a:Act) (w:World),(∀ i∈is,i<l.length)->wpList P l.toArray (Mid (fun _=>True) K) (pick l is) a w->EO P l.toArray Q is K a w
 | [],a,w,_,h=>h.2.2
 | i :: is,a,w,hl,h => by
   have hi:l.toArray[i]? = some (l[i]'(hl i (by simp))):=by simp[hl i (by simp)]
   have e:pick l (i::is)=l[i]'(hl i (by simp))::pick l is:=by
    unfold pick
    rw[List.filterMap_cons,List.getElem?_eq_getElem (hl i (by simp))]
   rw[e] at h
   have hh:=Fq (Q2:=Q) Mid.Bu (Gz hi h)
   exact wpOp_mono (fun a' w' h1=>Kz is a' w' (fun j hj=>hl j (by simp[hj])) h1) hh
def qN (P:Program)(l:List Oper)(Q:Exit->Act->World->Prop):(Act->World->Prop)->Tr->Act->World->Prop
 | E,.nil=>E
 | _,.alt x p sub next=>fun a w=>wpList P l.toArray (Mid (fun _=>True) (qN P l Q (fun a w=>Ends P l.toArray Q .normal a w) sub)) (pick l (x::p)) a w/\qN P l Q (fun _ _=>True) next a w
def inT (n:Nat):Tr->Bool
 | .nil=>true
 | .alt x p sub next=>decide (x<n)&&(p.all fun i=>decide (i<n))&&inT n sub&&inT n next
theorem Tg {l:List Oper} : ∀ (t:Tr) (E:Act->World->Prop) (a:Act) (w:World),inT l.length t=true->qN P l Q E t a w->run P l.toArray Q E t a w
 | .nil,_,_,_,_,h=>h
 | .alt x p sub next,E,a,w,hin,h => by
   simp only[inT,Bool.and_eq_true,decide_eq_true_eq,List.all_eq_true] at hin
   obtain⟨⟨⟨h1,h2⟩,h3⟩,h4⟩:=hin
   refine⟨?_,Tg next _ a w h4 h.2⟩
   have hs:=Kz (Q:=Ends P l.toArray Q) (x::p) a w (fun i hi=>by
    rcases List.mem_cons.1 hi with rfl|hi
    ·exact h1
    ·exact h2 i hi) h.1
   exact J4 (fun a' w' hk=>Tg sub _ a' w' h3 hk) (x::p) a w hs
def gU (P:Program)(l:List Oper)(ls ms:List Nat)(p:List Nat)(t:Tr):Bool:=
 Ng P l.toArray ls.contains&&uM ms l.toArray&&
 (p==Vy ms ls.contains (List.range l.length))&&RB ms p (EG ms ls.contains (List.range l.length))&&(Nh ms ls.contains (EG ms ls.contains (List.range l.length)) != [])&&
 okT ms ls.contains t (EG ms ls.contains (List.range l.length)) (Nh ms ls.contains (EG ms ls.contains (List.range l.length)))&&inT l.length t&&(p.all fun i=>decide (i<l.length))
theorem Ti {id:Nat}{l:List Oper}{a:Act}{w:World}(ls ms p:List Nat)(t:Tr)(hm:P.follows .mixedOrders=true)(hT:gU P l ls ms p t=true)
 (h:wpList P l.toArray (Mid (fun _=>True) (qN P l Q (fun a w=>Ends P l.toArray Q .normal a w) t)) (pick l p) a w.drew):(Code.region id l.toArray true).wp P Q a w:=by
 simp only[gU,Bool.and_eq_true,beq_iff_eq,bne_iff_ne,ne_eq] at hT
 obtain⟨⟨⟨⟨⟨⟨⟨hA,hms⟩,hp⟩,hc⟩,hcn⟩,hok⟩,hin⟩,hpl⟩:=hT
 have hsz:l.toArray.size=l.length:=by simp
 rw[<- hsz] at hp hc hcn hok
 obtain⟨_,hdn,_,_⟩:=Kw hA
 refine Code.wp_mono (Q:=Ends P l.toArray Q) (fun e a' w' he=>by obtain⟨rfl,_,h⟩:=he;exact h) (wp_region_any hm ?_)
 have hsrt:(List.range l.toArray.size).Pairwise (· < ·):=List.pairwise_lt_range
 obtain⟨m',hm'⟩:∃ m',m' = EG ms ls.contains (List.range l.toArray.size):=⟨_,rfl⟩
 rw[<- hm'] at hc hcn hok
 have hpm:∀ x∈p,x<l.toArray.size:=fun x hx=>by rw[hp] at hx;exact List.mem_range.1 (List.mem_filter.1 hx).1
 have hmm:∀ x∈m',x<l.toArray.size:=fun x hx=>by rw[hm'] at hx;exact List.mem_range.1 (List.mem_filter.1 hx).1
 have hps:p.Pairwise (· < ·):=by rw[hp];exact hsrt.sublist List.filter_sublist
 have hnr:(List.range l.toArray.size).Nodup:=List.nodup_range
 have hs:=J4 (Q:=Ends P l.toArray Q) (fun a' w' hk=>Tg t _ a' w' hin hk) p a w.drew (Kz p a w.drew (fun i hi=>by have:=(List.all_eq_true.1 hpl) i hi;simpa using this) h)
 refine Ky hA hms l.toArray.size p m' t _ a _ ?_ (by simp) ?_ ?_ ?_ ?_ ?_ ?_ ?_ ?_ (.inr ⟨hcn,hok⟩) hs
 ·have:=Ko (fun k => !ls.contains k&&(List.range l.toArray.size).all fun y => !(ls.contains y&&M ms k y)) (List.range l.toArray.size)
  rw[List.length_append,hp,hm']
  simp only[Vy,EG]
  rw[List.length_range] at this
  exact this
 ·intro j o ho hl
  rw[getD_replicate_false] at hl
  cases hl
 ·refine List.nodup_append.2 ⟨by rw[hp];exact hnr.filter _,by rw[hm'];exact hnr.filter _,fun x hx y hy=>?_⟩
  rintro rfl
  rw[hp] at hx
  rw[hm'] at hy
  have h1:=(List.mem_filter.1 hx).2
  have h2:=(List.mem_filter.1 hy).2
  rw[h1] at h2
  cases h2
 ·intro x
  rw[hp,hm',List.mem_append]
  simp only[Vy,EG,List.mem_filter,List.mem_range]
  constructor
  ·rintro(h|h)<;>exact⟨h.1,getD_replicate_false _ _⟩
  ·rintro⟨hx,_⟩
   cases hb:(!ls.contains x&&(List.range l.toArray.size).all fun y => !(ls.contains y&&M ms x y)) with
   | true=>exact .inl ⟨hx,rfl⟩
   | false=>exact .inr ⟨hx,rfl⟩
 ·intro k hk
  rw[hp] at hk
  have h1:=(List.mem_filter.1 hk).2
  simp only[Bool.and_eq_true,Bool.not_eq_true'] at h1
  exact h1.1
 ·refine hps.imp fun {x y} hxy=>?_
  cases hw:waits l.toArray l.toArray.size x y with
  | false=>rfl
  | true =>
    have:=Tf hdn _ _ _ hw
    omega
 ·rw[hm'];exact hsrt.sublist List.filter_sublist
 ·intro k hk x hx
  cases hw:waits l.toArray l.toArray.size k x with
  | false=>rfl
  | true =>
    have h1:=Yb hms _ _ _ hw
    have h2:=(List.all_eq_true.1 ((List.all_eq_true.1 hc) k hk)) x hx
    rw[h1] at h2
    cases h2
 ·intro x hx hl
  have hx':=hx
  rw[hm'] at hx
  have h1:=(List.mem_filter.1 hx).2
  simp only[hl,Bool.not_false,Bool.true_and,Bool.not_eq_true',List.all_eq_false] at h1
  obtain⟨y,hy,hyb⟩:=h1
  simp only[Bool.not_eq_true',Bool.not_eq_false',Bool.and_eq_true,Bool.not_eq_true,Bool.not_eq_false] at hyb
  refine⟨y,?_,hyb.1,IW (g:=l.toArray.size) (by have:=hmm x hx';omega) (Ya hms hdn x y (hmm x hx') hyb.2)⟩
  rw[hm']
  refine List.mem_filter.2 ⟨hy,?_⟩
  rw[hyb.1]
  rfl
def Tj (P:Program)(ops:Array Oper)(l:List Oper)(E:Act->World->Prop):(Act->World->Prop)->Tr->Act->World->Prop
 | F,.nil=>F
 | _,.alt x p sub next=>fun a w=>wpList P ops (Mid (fun _=>True) (Tj P ops l E E sub)) (pick l (x::p)) a w/\Tj P ops l E (fun _ _=>True) next a w
theorem qO {l:List Oper}{E F:Act->World->Prop}{x:Nat}{p:List Nat}{sub next:Tr}{a:Act}{w:World}
 (h1:wpList P ops (Mid (fun _=>True) (Tj P ops l E E sub)) (pick l (x::p)) a w) (h2:Tj P ops l E (fun _ _=>True) next a w):Tj P ops l E F (.alt x p sub next) a w:=⟨h1,h2⟩
theorem mR {l:List Oper}{E:Act->World->Prop}{a:Act}{w:World} : Tj P ops l E (fun _ _=>True) .nil a w:=trivial
theorem qP {l:List Oper}{E:Act->World->Prop}{a:Act}{w:World}(h:E a w):Tj P ops l E E .nil a w:=h
theorem Ni {ops ops' : Array Oper}{Q Q' : Exit->Act->World->Prop}(hN:Df Q)(hq:∀ a w,Q .normal a w->Q' .normal a w):∀ (is:List Oper) (a:Act) (w:World),(is.all fun o=>o.guard.isNone)=true->wpList P ops Q is a w->wpList P ops' Q' is a w
 | [],a,w,_,h=>hq _ _ h
 | o :: is,a,w,hg,h => by
   simp only[List.all_cons,Bool.and_eq_true,Option.isNone_iff_eq_none] at hg
   unfold wpList at h ⊢
   simp only[Region.wanted,hg.1,if_true] at h ⊢
   rcases h with h|h
   ·have h1:o.wp P a w (wpList P ops' Q' is) Q:=Oper.wp_mono (fun a' w' hh=>Ni hN hq is a' w' hg.2 hh) h
    have h2:wpOp P #[o] Q 0 (wpList P ops' Q' is) a w:=by
     unfold wpOp
     simp only[List.getElem?_toArray,List.getElem?_cons_zero,Region.wanted,hg.1,if_true]
     exact .inl h1
    have h3:=Fq (Q2:=Q') hN h2
    unfold wpOp at h3
    simp only[List.getElem?_toArray,List.getElem?_cons_zero,Region.wanted,hg.1,if_true] at h3
    exact h3
   ·exact absurd h.2 hN.out
theorem Tk {l:List Oper}(hg:(l.all fun o=>o.guard.isNone)=true)(is:List Nat):((pick l is).all fun o=>o.guard.isNone)=true:=by
 refine List.all_eq_true.2 fun o ho=>?_
 obtain⟨i,_,hi⟩:=List.mem_filterMap.1 ho
 exact(List.all_eq_true.1 hg) o (List.mem_of_getElem? hi)
theorem PK {ops:Array Oper}{l:List Oper}{E:Act->World->Prop}(hg:(l.all fun o=>o.guard.isNone)=true)(hE:∀ a w,E a w->Ends P l.toArray Q .normal a w):∀ (t:Tr) (F F' : Act->World->Prop),(∀ a w,F a w->F' a w)->∀ (a:Act) (w:World),Tj P ops l E F t a w->qN P l Q F' t a w
 | .nil,F,F',hF,a,w,h=>hF a w h
 | .alt x p sub next,F,F',hF,a,w,h =>
   ⟨Ni (Q:=Mid (fun _=>True) (Tj P ops l E E sub)) Mid.Bu (fun a w hh=>⟨rfl,trivial,PK hg hE sub E _ hE a w hh.2.2⟩) _ a w (Tk hg _) h.1,PK hg hE next _ _ (fun _ _ h=>h) a w h.2⟩
theorem Rp {id:Nat}{l:List Oper}{a:Act}{w:World}(ls ms p:List Nat)(t:Tr)(hm:P.follows .mixedOrders=true)(hT:gU P l ls ms p t=true)(hg:(l.all fun o=>o.guard.isNone)=true)
 (h:∀ (ops:Array Oper) (E:Act->World->Prop),(∀ a w,Gp P l.toArray a=true->Q .normal a w->E a w)->wpList P ops (Mid (fun _=>True) (Tj P ops l E E t)) (pick l p) a w.drew):(Code.region id l.toArray true).wp P Q a w:=by
 refine Ti ls ms p t hm hT ?_
 have h1:=h l.toArray (fun a w=>Ends P l.toArray Q .normal a w) (fun a w hg hq=>⟨rfl,hg,hq⟩)
 exact Ni (Q:=Mid (fun _=>True) (Tj P l.toArray l (fun a w=>Ends P l.toArray Q .normal a w) (fun a w=>Ends P l.toArray Q .normal a w) t)) Mid.Bu
  (fun a w hh=>⟨rfl,trivial,PK hg (fun _ _ h=>h) t _ _ (fun _ _ h=>h) a w hh.2.2⟩) _ a _ (Tk hg p) h1
end
end Lex
end
section
open Go Go.RowKit Go.Maps
def zeros (n:Nat):ByteArray:=⟨(Lib.repeatL [0] n).toArray⟩
def lastOf (r:ByteArray):Nat:=if min r.size 437=r.size then 1 else 0
def Av (epoch:Nat)(dg r:ByteArray):ByteArray:=
 big epoch 8++⟨#[(lastOf r).toUInt8]⟩++big (min r.size 437) 2++dg++r.extract 0 (min r.size 437)++zeros (437-min r.size 437)
def Af (epoch:Nat)(dg r chain:ByteArray):ByteArray:=Sha.sha (⟨#[8]⟩++chain++Av epoch dg r)
structure PSt where
 next:Nat
 chain:ByteArray
 c:Ac
def PSt.put (s:PSt)(epoch first:Nat)(dg r:ByteArray):PSt:=
 ⟨s.next+1,Af epoch dg r s.chain,(s.c.wrote (first+s.next) (Af epoch dg r s.chain++Av epoch dg r)).note ⟨(first+s.next:Nat),Af epoch dg r s.chain++Av epoch dg r,false⟩⟩
def Aw (epoch first:Nat)(dg:ByteArray):Nat->ByteArray->PSt->PSt
 | 0,_,s=>s
 | f+1,r,s=>if min r.size 437=r.size then s.put epoch first dg r else Aw epoch first dg f (r.extract 437 r.size) (s.put epoch first dg r)
theorem Mq (epoch first:Nat)(dg:ByteArray):∀ (f g:Nat) (r:ByteArray) (s:PSt),r.size<f->r.size<g->Aw epoch first dg f r s=Aw epoch first dg g r s
 | 0,_,_,_,h,_=>by omega
 | _,0,_,_,_,h=>by omega
 | f + 1,g + 1,r,s,h1,h2 => by
   unfold Aw
   split
   ·rfl
   ·rename_i hn
    have hs:(r.extract 437 r.size).size=r.size-437:=by rw[ByteArray.size_extract];omega
    exact Mq epoch first dg f g _ _ (by rw[hs];omega) (by rw[hs];omega)
def BU (epoch first:Nat)(data:ByteArray)(s:PSt):PSt:=Aw epoch first (Sha.sha data) (data.size+1) data s
theorem BI (n:Nat):(zeros n).size=n:=by
 show(Lib.repeatL [0] n).toArray.size=n
 simp[Lib.repeatL_length]
theorem FM (epoch:Nat)(dg r:ByteArray)(h:dg.size=32):(Av epoch dg r).size=480:=by
 unfold Av
 simp only[Sha.Ab,Bq,BI,ByteArray.size_extract,h]
 show 8+1+2+32+_+_=480
 omega
theorem Yd (j:Bg)(s:ByteArray)(w:World)(h:Cq w j)(hs:s.size<=65536)(hf:(j.count:Int)-j.next<Bb s.size):
 Calls Tryz.prog 72 #[.pointer (some ⟨j.jb,0,none⟩),.string s] w fun e w' => e=.returned (.int .i64 22)/\w' = w.drew:=by
 obtain⟨N,hN⟩:∃ N,N=Bb s.size:=⟨_,rfl⟩
 rw[<- hN] at hf
 have HN:=zh hN;clear hN
 have H:=zh h;clear h
 go_enter Tryz.func72,Tryz.ntmps72
 go_wp2_with fail
 refine(SH _ _).mono ?_
 rintro e w1 ⟨rfl,rfl⟩
 rw[<- HN.out]
 go_wp2_with fail
 refine(Pz j _ H.out).mono ?_
 rintro e w1 ⟨rfl,rfl⟩
 go_wp2
 go_ret
 exact⟨rfl,rfl⟩
theorem beq_toList {a b:ByteArray} : (a.toList==b.toList)=decide (a=b):=by
 rw[ByteArray.toList_eq,ByteArray.toList_eq]
 by_cases h:a=b
 ·subst h;simp
 ·have h2:a.data.toList≠b.data.toList:=fun e=>h (Sha.Bl e)
  simp only[h,decide_false]
  exact beq_eq_false_iff_ne.2 h2
theorem Ea (b:ByteArray):b.size=b.data.toList.length:=(Sha.Aq b).symm
theorem Fz (a b:ByteArray)(n:Nat)(h:n=a.size):(a++b).extract 0 n=a:=by
 apply Sha.Bl
 rw[Sha.Ba,Sha.Bf,h,Ea]
 simp
theorem EP (a b:ByteArray)(n m:Nat)(h:n=a.size)(hm:m=a.size+b.size):(a++b).extract n m=b:=by
 apply Sha.Bl
 rw[Sha.Ba,Sha.Bf,h,hm,Ea,Ea,List.drop_left,Nat.add_sub_cancel_left,List.take_length]
theorem EH (a b c:ByteArray)(n m:Nat)(h:n=a.size)(hm:m=a.size+b.size):(a++(b++c)).extract n m=b:=by
 apply Sha.Bl
 rw[Sha.Ba,Sha.Bf,Sha.Bf,h,hm,Ea,Ea,List.drop_left,Nat.add_sub_cancel_left,List.take_left]
theorem J5 (a b:ByteArray)(i:Nat)(h:i<b.size):AJ (a++b) (a.size+i)=AJ b i:=by
 unfold AJ
 rw[Sha.Bf,Ea]
 simp only[List.getD_eq_getElem?_getD]
 rw[List.getElem?_append_right (by omega),Nat.add_sub_cancel_left]
theorem KA (a b:ByteArray)(i:Nat)(h:i<a.size):AJ (a++b) i=AJ a i:=by
 unfold AJ
 rw[Sha.Bf]
 rw[Ea] at h
 simp only[List.getD_eq_getElem?_getD]
 rw[List.getElem?_append_left h]
theorem uN (n:Nat)(h:n<65536):AJ (big n 2) 0*256+AJ (big n 2) 1=n:=by
 have h0:AJ (big n 2) 0=n/256%256:=by
  show(UInt8.ofNat (n/2^(8*(2-1-0))%256)).toNat=_
  rw[UInt8.toNat_ofNat']
  show n/256%256%256=n/256%256
  omega
 have h1:AJ (big n 2) 1=n%256:=by
  show(UInt8.ofNat (n/2^(8*(2-1-1))%256)).toNat=_
  rw[UInt8.toNat_ofNat']
  show n/1%256%256=n%256
  omega
 rw[h0,h1]
 omega
theorem ZH (n:Nat):Lib.repeatL [0] n=List.replicate n (0:UInt8):=by
 induction n with
 | zero=>rfl
 | succ n ih=>simp[Lib.repeatL,List.replicate_succ] at ih ⊢;exact ih
theorem gW (n:Nat):Lib.trimB (List.replicate n (0:UInt8)) 0=[]:=by
 have h:Lib.trimRightB (List.replicate n (0:UInt8)) 0=[]:=by
  unfold Lib.trimRightB
  rw[List.reverse_replicate,List.dropWhile_replicate]
  simp
 unfold Lib.trimB
 rw[h]
 rfl
theorem WB (r:ByteArray):lastOf r<=1:=by unfold lastOf;split<;>omega
theorem Tn (ep:Nat)(dg r ch:ByteArray):Af ep dg r ch++Av ep dg r=
 Af ep dg r ch++(big ep 8++(⟨#[(lastOf r).toUInt8]⟩++(big (min r.size 437) 2++(dg++(r.extract 0 (min r.size 437)++zeros (437-min r.size 437)))))):=by
 unfold Av
 simp only[ByteArray.append_assoc]
theorem ZI (ep:Nat)(dg r ch:ByteArray)(hd:dg.size=32):Ju ep (Af ep dg r ch++Av ep dg r) ch=true:=by
 have h1:(Af ep dg r ch).size=32:=Sha.Bn _
 have h2:=FM ep dg r hd
 have e1:(Af ep dg r ch++Av ep dg r).extract 32 512=Av ep dg r:=EP _ _ _ _ h1.symm (by omega)
 have e2:(Af ep dg r ch++Av ep dg r).extract 0 32=Af ep dg r ch:=Fz _ _ _ h1.symm
 have e3:(Af ep dg r ch++Av ep dg r).extract 32 40=big ep 8:=by
  rw[Tn]
  exact EH _ _ _ _ _ h1.symm (by rw[h1,Bq])
 unfold Ju
 rw[e1,e2,e3,Sha.Ab,h1,h2]
 simp[Af]
theorem ZJ (ep:Nat)(dg r ch:ByteArray)(hd:dg.size=32):
 parsed ep (Af ep dg r ch++Av ep dg r) ch=some ⟨Af ep dg r ch,dg,r.extract 0 (min r.size 437),lastOf r==1⟩:=by
 have h1:(Af ep dg r ch).size=32:=Sha.Bn _
 have h8:(big ep 8).size=8:=Bq _ _
 have hx:(⟨#[(lastOf r).toUInt8]⟩:ByteArray).size=1:=rfl
 have h2:(big (min r.size 437) 2).size=2:=Bq _ _
 have hr:(r.extract 0 (min r.size 437)).size=min r.size 437:=by rw[ByteArray.size_extract];omega
 have hz:(zeros (437-min r.size 437)).size=437-min r.size 437:=BI _
 have hh:=ZI ep dg r ch hd
 have e2:(Af ep dg r ch++Av ep dg r).extract 0 32=Af ep dg r ch:=Fz _ _ _ h1.symm
 obtain⟨n,hn⟩:∃ n,n=min r.size 437:=⟨_,rfl⟩
 have hp:=Tn ep dg r ch
 rw[<- hn] at hp h2 hr hz ⊢
 have p40:AJ (Af ep dg r ch++Av ep dg r) 40=lastOf r:=by
  rw[hp,<- ByteArray.append_assoc]
  have h:(Af ep dg r ch++big ep 8).size=40:=by rw[Sha.Ab,h1,h8]
  have:=J5 (Af ep dg r ch++big ep 8) (⟨#[(lastOf r).toUInt8]⟩++(big n 2++(dg++(r.extract 0 n++zeros (437-n))))) 0 (by rw[Sha.Ab,hx];omega)
  rw[h] at this
  rw[this,KA _ _ _ (by rw[hx];omega)]
  show(UInt8.ofNat (lastOf r)).toNat=_
  rw[UInt8.toNat_ofNat']
  have:=WB r
  omega
 have hlen:Dx (Af ep dg r ch++Av ep dg r)=n:=by
  unfold Dx
  rw[hp,<- ByteArray.append_assoc,<- ByteArray.append_assoc]
  have h:(Af ep dg r ch++big ep 8++⟨#[(lastOf r).toUInt8]⟩).size=41:=by rw[Sha.Ab,Sha.Ab,h1,h8,hx]
  have a0:=J5 (Af ep dg r ch++big ep 8++⟨#[(lastOf r).toUInt8]⟩) (big n 2++(dg++(r.extract 0 n++zeros (437-n)))) 0 (by rw[Sha.Ab,h2];omega)
  have a1:=J5 (Af ep dg r ch++big ep 8++⟨#[(lastOf r).toUInt8]⟩) (big n 2++(dg++(r.extract 0 n++zeros (437-n)))) 1 (by rw[Sha.Ab,h2];omega)
  rw[h] at a0 a1
  rw[a0,a1,KA _ _ _ (by rw[h2];omega),KA _ _ _ (by rw[h2];omega)]
  exact uN n (by omega)
 have e43:(Af ep dg r ch++Av ep dg r).extract 43 75=dg:=by
  rw[hp,<- ByteArray.append_assoc,<- ByteArray.append_assoc,<- ByteArray.append_assoc]
  have h:(Af ep dg r ch++big ep 8++⟨#[(lastOf r).toUInt8]⟩++big n 2).size=43:=by rw[Sha.Ab,Sha.Ab,Sha.Ab,h1,h8,hx,h2]
  exact EH _ _ _ _ _ h.symm (by rw[h,hd])
 have e75:(Af ep dg r ch++Av ep dg r).extract 75 (75+n)=r.extract 0 n:=by
  rw[hp,<- ByteArray.append_assoc,<- ByteArray.append_assoc,<- ByteArray.append_assoc,<- ByteArray.append_assoc]
  have h:(Af ep dg r ch++big ep 8++⟨#[(lastOf r).toUInt8]⟩++big n 2++dg).size=75:=by rw[Sha.Ab,Sha.Ab,Sha.Ab,Sha.Ab,h1,h8,hx,h2,hd]
  exact EH _ _ _ _ _ h.symm (by rw[h,hr])
 have ez:(Af ep dg r ch++Av ep dg r).extract (75+n) 512=zeros (437-n):=by
  rw[hp,<- ByteArray.append_assoc,<- ByteArray.append_assoc,<- ByteArray.append_assoc,<- ByteArray.append_assoc,<- ByteArray.append_assoc]
  have h:(Af ep dg r ch++big ep 8++⟨#[(lastOf r).toUInt8]⟩++big n 2++dg++r.extract 0 n).size=75+n:=by rw[Sha.Ab,Sha.Ab,Sha.Ab,Sha.Ab,Sha.Ab,h1,h8,hx,h2,hd,hr]
  exact EP _ _ _ _ h.symm (by rw[h,hz];omega)
 have hb:Ed (Af ep dg r ch++Av ep dg r)=true:=by
  unfold Ed
  rw[p40,hlen,ez]
  have ht:(Lib.trimB (zeros (437-n)).data.toList 0)=[]:=by
   show Lib.trimB (Lib.repeatL [0] (437-n)).toArray.toList 0=[]
   rw[ZH]
   exact gW _
  rw[ht]
  have hl:lastOf r=0->n=437:=by
   intro h0
   unfold lastOf at h0
   rw[<- hn] at h0
   split at h0
   ·cases h0
   ·omega
  have:=WB r
  have zbN:n<=437:=by omega
  simp only[zbN,this,decide_true,Bool.true_and]
  by_cases h0:lastOf r=0
  ·simp[h0,hl h0]
  ·simp[h0]
 unfold parsed
 rw[hh,hb,e2,e43,hlen,e75,p40]
 rfl
structure JD (w:World) (j:Bg) (d:Au) (c:Ac):Prop where
 AV:Cq w j
 disk:Ak w d c
 da:d.a=j.da
 apart:∀ k,j.foot k->¬ d.foot k
 inn:j.first+j.count<=c.Aa.length
structure Ef (w w' : World) (j j' : Bg) (d d' : Au) (c' : Ac):Prop where
 at_:JD w' j' d' c'
 jb:j'.jb=j.jb
 first:j'.first=j.first
 count:j'.count=j.count
 epoch:j'.epoch=j.epoch
 a:d'.a=d.a
 bd:d'.bd=d.bd
 mp:d'.mp=d.mp
 Tp:∀ k,j'.foot k->j.foot k\/w.heap.size<=k
 Tq:∀ k,d'.foot k->d.foot k\/w.heap.size<=k
 fr:Fr (fun k=>j.foot k\/d.foot k) w w'
theorem Ef.refl {w:World}{j:Bg}{d:Au}{c:Ac}(h:JD w j d c):Ef w w j j d d c:=⟨h,rfl,rfl,rfl,rfl,rfl,rfl,rfl,fun _ hk=>.inl hk,fun _ hk=>.inl hk,Fr.refl _ _⟩
theorem Ef.trans {w w1 w2:World}{j j1 j2:Bg}{d d1 d2:Au}{c1 c2:Ac}(h:Ef w w1 j j1 d d1 c1)(k:Ef w1 w2 j1 j2 d1 d2 c2):Ef w w2 j j2 d d2 c2:=by
 refine⟨k.at_,k.jb.trans h.jb,k.first.trans h.first,k.count.trans h.count,k.epoch.trans h.epoch,k.a.trans h.a,k.bd.trans h.bd,k.mp.trans h.mp,fun i hi=>?_,fun i hi=>?_,h.fr.trans k.fr (fun i hi=>?_)⟩
 ·rcases k.Tp i hi with h1|h1
  ·exact h.Tp i h1
  ·exact .inr (Nat.le_trans h.fr.size h1)
 ·rcases k.Tq i hi with h1|h1
  ·exact h.Tq i h1
  ·exact .inr (Nat.le_trans h.fr.size h1)
 ·rcases hi with hi|hi
  ·exact(h.Tp i hi).imp .inl id
  ·exact(h.Tq i hi).imp .inr id
theorem JD.below {w w' : World}{j:Bg}{d:Au}{c:Ac}(h:JD w j d c)(hb:Below w.heap.size w w'):Ef w w' j j d d c:=
 ⟨⟨h.AV.below hb (Nat.le_refl _),h.disk.below hb (Nat.le_refl _),h.da,h.apart,h.inn⟩,rfl,rfl,rfl,rfl,rfl,rfl,rfl,fun _ hk=>.inl hk,fun _ hk=>.inl hk,Fr.of_below hb⟩
theorem Cq.kP {w:World}{j:Bg}(h:Cq w j):j.rv.ownBlock≠some j.jb:=h.self.own_ne h.recs (by decide)
theorem JD.ZK {w:World}{j:Bg}{d:Au}{c:Ac}(h:JD w j d c)(ch:ByteArray):Ef w (w.setCell ⟨j.jb,6,none⟩ (.string ch)) j { j with chain:=ch } d d c:=by
 have hne:∀ k,k≠j.jb->(w.setCell ⟨j.jb,6,none⟩ (.string ch)).heap[k]? = w.heap[k]? :=fun k hk=>zo hk
 refine⟨⟨⟨h.AV.self.set 6 _,Ar h.AV.recs (fun k hk=>hne k (fun e=>h.AV.kP (by rw[<- e];exact hk))),h.AV.few,h.AV.count,h.AV.next⟩,h.disk.keep (fun k hk=>hne k (fun e=>h.apart j.jb (.inl rfl) (by rw[<- e];exact hk))),h.da,h.apart,h.inn⟩,rfl,rfl,rfl,rfl,rfl,rfl,rfl,fun _ hk=>.inl hk,fun _ hk=>.inl hk,(Fr.refl _ _).setCell (.inl (.inl (.inl rfl))) _⟩
theorem JD.kQ {w:World}{j:Bg}{d:Au}{c:Ac}(h:JD w j d c)(n:Nat)(hn:n<=j.count):Ef w (w.setCell ⟨j.jb,5,none⟩ (.int .i64 (n:Int))) j { j with next:=n } d d c:=by
 have hne:∀ k,k≠j.jb->(w.setCell ⟨j.jb,5,none⟩ (.int .i64 (n:Int))).heap[k]? = w.heap[k]? :=fun k hk=>zo hk
 refine⟨⟨⟨h.AV.self.set 5 _,Ar h.AV.recs (fun k hk=>hne k (fun e=>h.AV.kP (by rw[<- e];exact hk))),h.AV.few,h.AV.count,hn⟩,h.disk.keep (fun k hk=>hne k (fun e=>h.apart j.jb (.inl rfl) (by rw[<- e];exact hk))),h.da,h.apart,h.inn⟩,rfl,rfl,rfl,rfl,rfl,rfl,rfl,fun _ hk=>.inl hk,fun _ hk=>.inl hk,(Fr.refl _ _).setCell (.inl (.inl (.inl rfl))) _⟩
theorem JD.iq {w w' : World}{j:Bg}{d d' : Au}{c c' : Ac}(h:JD w j d c)(hs:DStep w w' d d' c')(hl:c'.Aa.length=c.Aa.length):Ef w w' j j d d' c':=by
 refine⟨⟨h.AV.keep (fun k hk=>hs.fr.keep k (h.AV.lt k hk) (h.apart k hk)),hs.at_,hs.a.trans h.da,fun k hk hf=>?_,by rw[hl];exact h.inn⟩,rfl,rfl,rfl,rfl,hs.a,hs.bd,hs.mp,fun _ hk=>.inl hk,hs.foot,hs.fr.mono (fun _ hk=>.inr hk)⟩
 rcases hs.foot k hf with h1|h1
 ·exact h.apart k hk h1
 ·have:=h.AV.lt k hk;omega
theorem JD.recorded {w w1 w2:World}{j:Bg}{d:Au}{c:Ac}{v' : Value}{rs:List ByteArray}(h:JD w j d c)(hb:Below w.heap.size w w1)(hg:w1.grownBy w2 j.rv.ownBlock)
 (how:w2.ownsRow 0 9 1 v' rs.length (rs.map Value.string)) (hv:v'.ownBlock=j.rv.ownBlock\/∃ g,v'.ownBlock=some g/\w.heap.size<=g) (fO:rs.length<=1000000):
 Ef w (w2.setCell ⟨j.jb,4,none⟩ v') j { j with rv:=v',recs:=rs } d d c:=by
 have h1:=(h.below hb).at_
 have hj:=At.grown h1.AV.self hg (by intro e;exact h1.AV.kP e.symm)
 have hvj:v'.ownBlock≠some j.jb:=hj.own_ne how (by show 183≠9;decide)
 have za3:Ak (w2.setCell ⟨j.jb,4,none⟩ v') d c:=h1.disk.keep (fun k hk=>by
  have hne:k≠j.jb:=fun e=>h.apart j.jb (.inl rfl) (by rw[<- e];exact hk)
  refine(zo hne).trans (hg.block k (h1.disk.lt k hk) (fun e=>?_))
  exact h.apart k (.inr e.symm) hk)
 refine⟨⟨⟨hj.set 4 v',ownsRow_setCell_other how (fun e=>hvj e) _,fO,h.AV.count,h.AV.next⟩,za3,h.da,?_,h.inn⟩,rfl,rfl,rfl,rfl,rfl,rfl,rfl,?_,fun _ hk=>.inl hk,?_⟩
 ·intro k hk hf
  rcases hk with hk|hk
  ·exact h.apart k (.inl hk) hf
  ·rcases hv with hv|⟨g,hv,hgl⟩
   ·exact h.apart k (.inr (hv.symm.trans hk)) hf
   ·have : g = k :=by
     have hk' : v'.ownBlock=some k:=hk
     rw[hv] at hk'
     simpa using hk'
    have:=h.disk.lt k hf
    omega
 ·intro k hk
  rcases hk with hk|hk
  ·exact .inl (.inl hk)
  ·rcases hv with hv|⟨g,hv,hgl⟩
   ·exact .inl (.inr (hv.symm.trans hk))
   ·have : g = k :=by
     have hk' : v'.ownBlock=some k:=hk
     rw[hv] at hk'
     simpa using hk'
    exact .inr (by omega)
 ·exact((Fr.of_below hb).grown hg (fun k hk=>.inl (.inl (.inr hk)))).setCell (.inl (.inl (.inl rfl))) _
theorem ET (c:Ac)(o:POp):(c.note o).Aa=c.Aa:=by unfold Ac.note;split<;>rfl
theorem Oa (c:Ac)(o:POp):(c.note o).pending=c.pending:=by unfold Ac.note;split<;>rfl
theorem Vz (c:Ac)(o:POp):(c.note o).recorded.length<=c.recorded.length+1:=by unfold Ac.note;split<;>simp
theorem Db (s:PSt)(e f:Nat)(dg r:ByteArray):(s.put e f dg r).c.Aa=s.c.Aa:=ET _ _
theorem Qx (s:PSt)(e f:Nat)(dg r:ByteArray):(s.put e f dg r).c.pending.length=s.c.pending.length+1:=by
 show((s.c.wrote _ _).note _).pending.length=_
 rw[Oa]
 simp[Ac.wrote]
theorem Ob (s:PSt)(e f:Nat)(dg r:ByteArray):(s.put e f dg r).c.recorded.length<=s.c.recorded.length+1:=Vz _ _
inductive Run (e:Nat) (rd:Nat->ByteArray × Int):Nat->ByteArray->OSt->Nat->ByteArray->OSt->Prop
 | refl (k:Nat) (ch:ByteArray) (s:OSt):Run e rd k ch s k ch s
 | step {k k' : Nat} {ch ch' : ByteArray} {s s1 s' : OSt} {p:Pg} : (rd k).2=0->parsed e (rd k).1 ch=some p->s.step p=some s1->Run e rd (k+1) p.check s1 k' ch' s' -> Run e rd k ch s k' ch' s'
section
variable {e:Nat} {rd rd' : Nat->ByteArray × Int}
theorem Run.le {k k' : Nat}{ch ch' : ByteArray}{s s' : OSt}(h:Run e rd k ch s k' ch' s'):k<=k':=by
 induction h with
 | refl=>exact Nat.le_refl _
 | step _ _ _ _ ih=>omega
theorem Run.trans {k k1 k2:Nat}{c0 c1 c2:ByteArray}{s0 s1 s2:OSt}(h:Run e rd k c0 s0 k1 c1 s1)(h2:Run e rd k1 c1 s1 k2 c2 s2):Run e rd k c0 s0 k2 c2 s2:=by
 induction h with
 | refl=>exact h2
 | step a b c _ ih=>exact .step a b c (ih h2)
theorem Run.congr {k k' : Nat}{ch ch' : ByteArray}{s s' : OSt}(h:Run e rd k ch s k' ch' s')(hr:∀ i,k<=i->i<k' -> rd' i=rd i):Run e rd' k ch s k' ch' s':=by
 induction h with
 | refl=>exact .refl _ _ _
 | step a b c hh ih =>
   have hle:=hh.le
   have e0:=hr _ (Nat.le_refl _) (by omega)
   exact .step (by rw[e0];exact a) (by rw[e0];exact b) c (ih fun i h1 h2=>hr i (by omega) h2)
theorem Run.opens {count k k' : Nat}{ch ch' : ByteArray}{s s' : OSt}(h:Run e rd k ch s k' ch' s')(hk:k' <= count):opens e rd (count-k) k ch s=opens e rd (count-k') k' ch' s':=by
 induction h with
 | refl=>rfl
 | step a b c hh ih =>
   have hle:=hh.le
   rw[Hl (by omega) a b c]
   exact ih hk
end
def Ye (e:Nat)(x:ByteArray × Int):Prop:=x.2≠0\/∀ ch,parsed e x.1 ch=none
def FE (c:Ac)(first:Nat)(k:Nat):ByteArray × Int:=c.read ((first:Int)+k)
structure Holds (j:Bg) (c:Ac):Prop where
 run:Run j.epoch (FE c j.first) 0 (Hf j.epoch) (OSt.zero j.epoch) j.next j.chain ⟨[],j.recs,j.next,j.chain⟩
 rest:∀ i,j.next<=i->i<j.count->Ye j.epoch (FE c j.first i)
theorem Holds.opened {j:Bg}{c:Ac}(h:Holds j c)(hn:j.next<=j.count):opened j.epoch j.count (FE c j.first)=⟨[],j.recs,j.next,j.chain⟩:=by
 unfold Go.Proofs.YtdiiafgoccakkaaGreatDoor.opened
 have:=h.run.opens hn
 rw[Nat.sub_zero] at this
 rw[this]
 refine Wy ?_
 by_cases hlt:j.next<j.count
 ·refine .inr ⟨hlt,?_⟩
  rcases h.rest j.next (Nat.le_refl _) hlt with h1|h1
  ·exact .inl h1
  ·exact .inr (h1 _)
 ·exact .inl (by omega)
/-! ### What is read of a disk -/
theorem PW (c:Ac)(o:POp)(p:Int):(c.note o).read p=c.read p:=by unfold Ac.note;split<;>rfl
theorem Tt (c:Ac)(p q:Nat)(s:ByteArray)(hq:q<c.Aa.length):(c.wrote p s).read q=if p=q then (s,0) else c.read q:=by
 have hin:0<=(q:Int)/\(q:Int)<c.Aa.length:=⟨by omega,by omega⟩
 have e1:(c.wrote p s).read q=match lastIdx (c.pending++[(p,s)]) q with
  | some i=>(((c.pending++[(p,s)]).getD i (0,⟨#[]⟩)).2,0)
  | none=>if (c.Aa.getD q ⟨#[]⟩).toList==Nb.toList then (⟨#[]⟩,21) else (c.Aa.getD q ⟨#[]⟩,0):=by
  unfold Ac.read Ac.wrote
  simp only
  rw[if_pos hin]
  rfl
 have e2:c.read q=match lastIdx c.pending q with
  | some i=>((c.pending.getD i (0,⟨#[]⟩)).2,0)
  | none=>if (c.Aa.getD q ⟨#[]⟩).toList==Nb.toList then (⟨#[]⟩,21) else (c.Aa.getD q ⟨#[]⟩,0):=by
  unfold Ac.read
  rw[if_pos hin]
  rfl
 rw[e1,e2,Js]
 by_cases hpq:p=q
 ·rw[if_pos hpq,if_pos hpq]
  simp[List.getD_eq_getElem?_getD]
 ·rw[if_neg hpq,if_neg hpq]
  cases hl:lastIdx c.pending q with
  | none=>rfl
  | some i =>
    have hil:=lastIdx_lt _ _ _ hl
    simp only[List.getD_eq_getElem?_getD]
    rw[List.getElem?_append_left hil]
theorem Oc (st:PSt)(e f:Nat)(dg r:ByteArray)(i:Nat)(hi:f+i<st.c.Aa.length):
 FE (st.put e f dg r).c f i=if i=st.next then (Af e dg r st.chain++Av e dg r,0) else FE st.c f i:=by
 unfold FE
 show((st.c.wrote _ _).note _).read _=_
 rw[PW,show((f:Int)+(i:Nat))=((f+i:Nat):Int) by omega,Tt _ _ _ _ hi]
 by_cases h:i=st.next
 ·rw[if_pos (by omega),if_pos h]
 ·rw[if_neg (by omega),if_neg h]
theorem Jc (e f:Nat)(dg:ByteArray):∀ (n:Nat) (r:ByteArray) (st:PSt),(Aw e f dg n r st).c.Aa=st.c.Aa
 | 0,_,_=>rfl
 | n + 1,r,st => by
   unfold Aw
   split
   ·exact Db _ _ _ _ _
   ·rw[Jc e f dg n];exact Db _ _ _ _ _
theorem FP (e f:Nat)(dg:ByteArray):∀ (n:Nat) (r:ByteArray) (st:PSt),r.size<n->st.next<(Aw e f dg n r st).next
 | 0,_,_,h=>by omega
 | n + 1,r,st,h => by
   unfold Aw
   split
   ·show st.next<st.next+1;omega
   ·have:=FP e f dg n (r.extract 437 r.size) (st.put e f dg r) (by rw[ByteArray.size_extract];omega)
    have h2:(st.put e f dg r).next=st.next+1:=rfl
    omega
theorem I9 (e f:Nat)(dg:ByteArray):∀ (n:Nat) (r:ByteArray) (st:PSt),r.size<n->∀ i,f+i<st.c.Aa.length->i<st.next\/(Aw e f dg n r st).next<=i->FE (Aw e f dg n r st).c f i=FE st.c f i
 | 0,_,_,h,_,_,_=>by omega
 | n + 1,r,st,h,i,hi,hc => by
   have h2:(st.put e f dg r).next=st.next+1:=rfl
   unfold Aw at hc ⊢
   split at hc
   ·rename_i hm
    rw[if_pos hm,Oc _ _ _ _ _ _ hi,if_neg (by omega)]
   ·rename_i hm
    rw[if_neg hm]
    have hs:(r.extract 437 r.size).size<n:=by rw[ByteArray.size_extract];omega
    have hnx:=FP e f dg n (r.extract 437 r.size) (st.put e f dg r) hs
    rw[I9 e f dg n (r.extract 437 r.size) (st.put e f dg r) hs i (by rw[Db];exact hi) (by omega),Oc _ _ _ _ _ _ hi,if_neg (by omega)]
theorem Od (e f:Nat)(data:ByteArray):∀ (n:Nat) (r:ByteArray) (st:PSt) (s:OSt),r.size<n->(∀ i,st.next<=i->i<(Aw e f (Sha.sha data) n r st).next->f+i<st.c.Aa.length)->
 (∀ q∈s.open_,q.digest=Sha.sha data)->EK s.open_++r.data.toList=data.data.toList->s.next+s.open_.length=st.next->
 Run e (FE (Aw e f (Sha.sha data) n r st).c f) st.next st.chain s (Aw e f (Sha.sha data) n r st).next (Aw e f (Sha.sha data) n r st).chain
  ⟨[],s.recs++[data],(Aw e f (Sha.sha data) n r st).next,(Aw e f (Sha.sha data) n r st).chain⟩
 | 0,_,_,_,h,_,_,_,_=>by omega
 | n + 1,r,st,s,h,hin,hdg,XT,hnx => by
   have h2:(st.put e f (Sha.sha data) r).next=st.next+1:=rfl
   have hoff:∀ p:Pg,p.digest=Sha.sha data->DY s p=false:=by
    intro p hp
    unfold DY
    split
    ·rfl
    ·rename_i q l hq
     rw[hp,hdg q (by rw[hq];simp)]
     simp
   have hpar:=ZJ e (Sha.sha data) r st.chain (Sha.Bn _)
   unfold Aw at hin ⊢
   by_cases hm:min r.size 437=r.size
   ·rw[if_pos hm] at hin ⊢
    have hi:=hin st.next (Nat.le_refl _) (by omega)
    have hrd:FE (st.put e f (Sha.sha data) r).c f st.next=(Af e (Sha.sha data) r st.chain++Av e (Sha.sha data) r,0):=by
     rw[Oc _ _ _ _ _ _ hi,if_pos rfl]
    have hlast:lastOf r=1:=by unfold lastOf;rw[if_pos hm]
    have hex:r.extract 0 (min r.size 437)=r:=by
     rw[hm]
     apply Sha.Bl
     rw[Sha.Ba,List.drop_zero,Nat.sub_zero,List.take_of_length_le (by rw[<- Ea];exact Nat.le_refl _)]
    have hc:BS (s.open_++[⟨Af e (Sha.sha data) r st.chain,Sha.sha data,r.extract 0 (min r.size 437),lastOf r==1⟩])=data:=by
     apply Sha.Bl
     show(EK _).toArray.toList=_
     rw[hex]
     unfold EK at XT ⊢
     rw[List.flatMap_append]
     simpa using XT
    refine .step (by rw[hrd]) (by rw[hrd];exact hpar) (s1:=⟨[],s.recs++[data],s.next+(s.open_.length+1),Af e (Sha.sha data) r st.chain⟩) ?_ ?_
    ·unfold OSt.step
     rw[hoff _ rfl,hc]
     simp[hlast]
    ·have he:s.next+(s.open_.length+1)=st.next+1:=by omega
     rw[he]
     exact .refl _ _ _
   ·rw[if_neg hm] at hin ⊢
    have hs:(r.extract 437 r.size).size<n:=by rw[ByteArray.size_extract];omega
    have hnx2:=FP e f (Sha.sha data) n (r.extract 437 r.size) (st.put e f (Sha.sha data) r) hs
    have hi:=hin st.next (Nat.le_refl _) (by omega)
    have hrd:FE (Aw e f (Sha.sha data) n (r.extract 437 r.size) (st.put e f (Sha.sha data) r)).c f st.next=(Af e (Sha.sha data) r st.chain++Av e (Sha.sha data) r,0):=by
     rw[I9 e f (Sha.sha data) n _ _ hs st.next (by rw[Db];exact hi) (.inl (by omega)),Oc _ _ _ _ _ _ hi,if_pos rfl]
    have hlast:(lastOf r==1)=false:=by unfold lastOf;rw[if_neg hm];rfl
    have hmin:min r.size 437=437:=by omega
    refine .step (by rw[hrd]) (by rw[hrd];exact hpar) (s1 :={ s with open_:=s.open_++[⟨Af e (Sha.sha data) r st.chain,Sha.sha data,r.extract 0 (min r.size 437),lastOf r==1⟩] }) ?_ ?_
    ·unfold OSt.step
     rw[hoff _ rfl]
     simp[hlast]
    ·refine Od e f data n (r.extract 437 r.size) (st.put e f (Sha.sha data) r) _ hs (fun i h1 h3=>by rw[Db];exact hin i (by omega) h3) ?_ ?_ ?_
     ·intro q hq
      rcases List.mem_append.1 hq with hq|hq
      ·exact hdg q hq
      ·simp at hq;subst hq;rfl
     ·show EK (s.open_++[_])++_=_
      rw[<- XT]
      unfold EK
      rw[List.flatMap_append,List.append_assoc]
      congr 1
      show((r.extract 0 (min r.size 437)).data.toList++[])++(r.extract 437 r.size).data.toList=_
      rw[hmin,List.append_nil,Sha.Ba,Sha.Ba,List.drop_zero,Nat.sub_zero,List.take_of_length_le (l:=r.data.toList.drop 437) (by rw[List.length_drop,<- Ea];exact Nat.le_refl _)]
      exact List.take_append_drop _ _
     ·show s.next+(s.open_++[_]).length=st.next+1
      rw[List.length_append]
      show _+(_+1)=_
      omega
end
section
open Go Go.RowKit Go.Maps
def opsOf (id:Nat):Code->Option (List Oper)
 | .region i ops _=>if i=id then some ops.toList else none
 | .seq a b => match opsOf id a with
   | some l=>some l
   | none=>opsOf id b
 | .cond _ a b => match opsOf id a with
   | some l=>some l
   | none=>opsOf id b
 | .block _ c=>opsOf id c
 | .loop c=>opsOf id c
 | _=>none
theorem Tv (n:Nat)(w:World)(hn:n<9223372036854775808){w0:World}(hB:Below w0.heap.size w0 w):
 Calls Tryz.prog 133 #[.int .i64 n,.int .i64 8] w fun e w' => e=.returned (.string (big n 8))/\Below w0.heap.size w0 w' /\ (∀ b o,b<w.heap.size->w'.cell? ⟨b,o,none⟩=w.cell? ⟨b,o,none⟩)/\(∀ b o,b<w.heap.size->w'.frozen? ⟨b,o,none⟩=w.frozen? ⟨b,o,none⟩)/\w.heap.size<=w'.heap.size:=
 (NP n 8 w hn (by omega) (by omega)).mono fun e w' ⟨he,hb⟩=>⟨he,hB.trans (hb.mono hB.size),fun b o h=>hb.cell (p:=⟨b,o,none⟩) h,fun b o h=>hb.frozen (p:=⟨b,o,none⟩) h,hb.size⟩
theorem Tx (n:Nat)(w:World)(hn:n<9223372036854775808){w0:World}(hB:Below w0.heap.size w0 w):
 Calls Tryz.prog 133 #[.int .i64 n,.int .i64 2] w fun e w' => e=.returned (.string (big n 2))/\Below w0.heap.size w0 w' /\ (∀ b o,b<w.heap.size->w'.cell? ⟨b,o,none⟩=w.cell? ⟨b,o,none⟩)/\(∀ b o,b<w.heap.size->w'.frozen? ⟨b,o,none⟩=w.frozen? ⟨b,o,none⟩)/\w.heap.size<=w'.heap.size:=
 (NP n 2 w hn (by omega) (by omega)).mono fun e w' ⟨he,hb⟩=>⟨he,hB.trans (hb.mono hB.size),fun b o h=>hb.cell (p:=⟨b,o,none⟩) h,fun b o h=>hb.frozen (p:=⟨b,o,none⟩) h,hb.size⟩
theorem Oe (z:Int)(w:World)(h0:0<=z)(hn:z<=140737488355328){w0:World}(hB:Below w0.heap.size w0 w):
 Calls Tryz.prog 65 #[.string ⟨#[0]⟩,.int .i64 z] w fun e w' => e=.returned (.string (zeros z.toNat))/\Below w0.heap.size w0 w' /\ (∀ b o,b<w.heap.size->w'.cell? ⟨b,o,none⟩=w.cell? ⟨b,o,none⟩)/\(∀ b o,b<w.heap.size->w'.frozen? ⟨b,o,none⟩=w.frozen? ⟨b,o,none⟩)/\w.heap.size<=w'.heap.size:=by
 obtain⟨n,rfl⟩:∃ n:Nat,z=n:=⟨z.toNat,by omega⟩
 exact(Tryz.strings_Repeat ⟨#[0]⟩ n w (by omega) (by show 1*_<=_;omega)).mono fun e w' ⟨he,hb⟩=>⟨he,hB.trans (hb.mono hB.size),fun b o h=>hb.cell (p:=⟨b,o,none⟩) h,fun b o h=>hb.frozen (p:=⟨b,o,none⟩) h,hb.size⟩
theorem Qy {l:List Oper}(hl:(Tryz.f72.body).bind (opsOf 11)=some l){Q:Exit->Act->World->Prop}(jb ep n:Nat)(dg r:ByteArray)(x:UInt8)(w:World){t1 t2 t3 t4 t9 t10 t11 t12 t13 t14 t15 t16 t17 t18 t19 t20 t21 t22 t23 t24 t25 t26 t27 t28 t29 t30 t31 t32 t33 t34 t35 t36 t37 t38 t39 t40 t41 t42 t43 t44 t45 t46 t47 t48 t49 t50 t51 t52 t53 t54 t55 t56 t57 t58 t59 t60 t61 t62 t63 t64 t65 t66 t67 t68 t69 t70 t71 t72 t73 t74 t75 t76 t77 t78 t79 t80 t81 t82 t83 t84 t85 t86 t87 t88 t89 t90 t91 t92 t93 t94 t95 t96 t97 t98 t99 za4 za5 za6 za7 za8 t105 za9 t107 zaA t109 zaB zaC:Value}(he:ep<9223372036854775808)(hn:n<=437)(hr:n<=r.size)(hrm:r.size<=65536)(hd:dg.size<=32)
 (hjl:jb<w.heap.size) (h3:w.cell? ⟨jb,3,none⟩=some (.int .i64 ep))
 (hK:∀ v w',Below w.heap.size w w' -> Q .normal { tmps:=#[.pointer (some ⟨jb,0,none⟩),t1,t2,t3,t4,.string dg,.string r,.int .i64 n,.int .u8 (x.toNat:Int),.string (big ep 8++⟨#[x]⟩++big n 2++dg++r.extract 0 n++zeros (437-n)),t10,t11,t12,t13,t14,t15,t16,t17,t18,t19,t20,t21,t22,t23,t24,t25,t26,t27,t28,t29,t30,.pointer (some ⟨jb,0,none⟩),.pointer (some ⟨jb,0,none⟩),.pointer (some ⟨jb,3,none⟩),.int .i64 ep,.string (big ep 8),.int .u8 (x.toNat:Int),v,.string ⟨#[x]⟩,.string (big ep 8++⟨#[x]⟩),.int .i64 n,.string (big n 2),.string (big ep 8++⟨#[x]⟩++big n 2),.string dg,.string (big ep 8++⟨#[x]⟩++big n 2++dg),.string r,.int .i64 n,.string (r.extract 0 n),.string (big ep 8++⟨#[x]⟩++big n 2++dg++r.extract 0 n),.int .i64 n,.int .i64 (437-(n:Int)),.string (zeros (437-n)),.string (big ep 8++⟨#[x]⟩++big n 2++dg++r.extract 0 n++zeros (437-n)),t53,t54,t55,t56,t57,t58,t59,t60,t61,t62,t63,t64,t65,t66,t67,t68,t69,t70,t71,t72,t73,t74,t75,t76,t77,t78,t79,t80,t81,t82,t83,t84,t85,t86,t87,t88,t89,t90,t91,t92,t93,t94,t95,t96,t97,t98,t99,za4,za5,za6,za7,za8,t105,za9,t107,zaA,t109,zaB,zaC],defers:=[] } w'):
 (Code.region 11 l.toArray true).wp Tryz.prog Q { tmps:=#[.pointer (some ⟨jb,0,none⟩),t1,t2,t3,t4,.string dg,.string r,.int .i64 n,.int .u8 (x.toNat:Int),t9,t10,t11,t12,t13,t14,t15,t16,t17,t18,t19,t20,t21,t22,t23,t24,t25,t26,t27,t28,t29,t30,t31,t32,t33,t34,t35,t36,t37,t38,t39,t40,t41,t42,t43,t44,t45,t46,t47,t48,t49,t50,t51,t52,t53,t54,t55,t56,t57,t58,t59,t60,t61,t62,t63,t64,t65,t66,t67,t68,t69,t70,t71,t72,t73,t74,t75,t76,t77,t78,t79,t80,t81,t82,t83,t84,t85,t86,t87,t88,t89,t90,t91,t92,t93,t94,t95,t96,t97,t98,t99,za4,za5,za6,za7,za8,t105,za9,t107,zaA,t109,zaB,zaC],defers:=[] } w:=by
 injection ((rfl:(Tryz.f72.body).bind (opsOf 11)=some _).symm.trans hl) with e
 subst e
 refine Lex.Rp [3,4,6,7,10,20]
  [0,1,3,7,15,0,32,96,255,0,543,2047,0,8191,0,0,49152,131071,0,262144,787999,2097151,4194303] [0,1,2,5,9,12,14,15,16,18,19]
  (.alt 3 [] (.alt 4 [] (.alt 6 [] (.alt 7 [8] (.alt 10 [11,13,17] (.alt 20 [21,22] .nil .nil) .nil) (.alt 10 [] (.alt 7 [8,11,13,17] (.alt 20 [21,22] .nil .nil) (.alt 20 [] (.alt 7 [8,11,13,17,21,22] .nil .nil) .nil)) .nil)) (.alt 10 [] (.alt 6 [] (.alt 7 [8,11,13,17] (.alt 20 [21,22] .nil .nil) (.alt 20 [] (.alt 7 [8,11,13,17,21,22] .nil .nil) .nil)) (.alt 20 [] (.alt 6 [] (.alt 7 [8,11,13,17,21,22] .nil .nil) .nil) .nil)) .nil)) (.alt 6 [] (.alt 4 [] (.alt 7 [8] (.alt 10 [11,13,17] (.alt 20 [21,22] .nil .nil) .nil) (.alt 10 [] (.alt 7 [8,11,13,17] (.alt 20 [21,22] .nil .nil) (.alt 20 [] (.alt 7 [8,11,13,17,21,22] .nil .nil) .nil)) .nil)) (.alt 7 [] (.alt 4 [8] (.alt 10 [11,13,17] (.alt 20 [21,22] .nil .nil) .nil) .nil) .nil)) .nil)) (.alt 6 [] (.alt 3 [] (.alt 4 [] (.alt 7 [8] (.alt 10 [11,13,17] (.alt 20 [21,22] .nil .nil) .nil) (.alt 10 [] (.alt 7 [8,11,13,17] (.alt 20 [21,22] .nil .nil) (.alt 20 [] (.alt 7 [8,11,13,17,21,22] .nil .nil) .nil)) .nil)) (.alt 7 [] (.alt 4 [8] (.alt 10 [11,13,17] (.alt 20 [21,22] .nil .nil) .nil) .nil) .nil)) (.alt 7 [] (.alt 3 [] (.alt 4 [8] (.alt 10 [11,13,17] (.alt 20 [21,22] .nil .nil) .nil) .nil) .nil) .nil)) .nil))
  (by kernel_rfl) (by kernel_rfl) (by kernel_rfl) ?_
 intro ops E hE
 simp only[Lex.pick,List.filterMap_cons,List.filterMap_nil,List.getElem?_cons_succ,List.getElem?_cons_zero]
 have hB:Below w.heap.size w w.drew:=(Below.refl _ _).drew
 have HB:=zh hB;clear hB
 have hjl:jb<w.drew.heap.size:=hjl
 have h3:w.drew.cell? ⟨jb,3,none⟩=some (.int .i64 ep):=h3
 have q8:(big ep 8).size<=8:=by rw[Bq];omega
 have q2:(big n 2).size<=2:=by rw[Bq];omega
 have qz:(zeros (437-n)).size<=437:=by rw[BI];omega
 have HE:=zh hE;clear hE
 have HK:=zh hK;clear hK hl
 generalize w.drew=w3 at*
 go_wp2
 refine Lex.Mid.intro trivial ?_
 iterate 26 (try any_goals (first
  | exact Lex.mR
  | (refine Lex.qO ?_ ?_)
  | (refine Lex.qP ?_)
  | (refine Lex.Mid.intro trivial ?_)
  | (refine HE.out _ _ (by kernel_rfl) (HK.out _ _ HB.out))
  | (refine HE.out _ _ (by kernel_rfl) (HK.out _ _ (HB.out.alloc HB.out.size _)))
  | (simp only [Lex.pick,List.filterMap_cons,List.filterMap_nil,List.getElem?_cons_succ,List.getElem?_cons_zero]
     go_wp2_with (first
      | (go_at_call 133;((first|with_reducible refine(Tv _ _ he HB.out).mono ?_|with_reducible refine(Tv _ _ he (HB.out.alloc HB.out.size _)).mono ?_|with_reducible refine(Tx _ _ (by omega) HB.out).mono ?_|with_reducible refine(Tx _ _ (by omega) (HB.out.alloc HB.out.size _)).mono ?_));rintro e w4 ⟨rfl,hb4,hc4,hf4,hz4⟩;(try simp only[World.size_alloc] at hc4 hf4 hz4);replace HB:=zh hb4;clear hb4)
      | (go_at_call 65;((first|with_reducible refine(Oe _ _ (by omega) (by omega) HB.out).mono ?_|with_reducible refine(Oe _ _ (by omega) (by omega) (HB.out.alloc HB.out.size _)).mono ?_));rintro e w4 ⟨rfl,hb4,hc4,hf4,hz4⟩;(try simp only[World.size_alloc] at hc4 hf4 hz4);replace HB:=zh hb4;clear hb4)
      | (rw[oF _ _ x (by simp(disch:=omega) only[*,IJ])])))))
def iw (w:World)(j:Bg)(d:Au)(c:Ac)(s:ByteArray)(e:Ending)(w' : World):Prop:=
 e = .returned (.int .i64 0) ∧ ∃ j' d',Ef w w' j j' d d' ((BU j.epoch j.first s ⟨j.next,j.chain,c⟩).c.synced.note ⟨0,⟨#[]⟩,true⟩) ∧
   j'.recs=j.recs++[s]/\j'.next=(BU j.epoch j.first s ⟨j.next,j.chain,c⟩).next/\j'.chain=(BU j.epoch j.first s ⟨j.next,j.chain,c⟩).chain
theorem Og {n:Nat}(h:437<n)(h2:n<=65536):Bb n=Bb ((n-437:Nat):Int)+1:=by
 unfold Bb
 rw[if_neg (by omega),if_neg (by omega),if_neg (by omega),if_neg (by omega)]
 omega
theorem ZL {n:Nat}(h:n<=437):Bb n=1:=by
 unfold Bb
 rw[if_neg (by omega)]
 split
 ·rfl
 ·omega
theorem Q5 {n:Nat}(h2:n<=65536):1<=Bb n:=by
 unfold Bb
 rw[if_neg (by omega)]
 split
 ·omega
 ·omega
theorem J6 (c:Ac):c.synced.Aa.length=c.Aa.length:=Ws _ _
def iy (w2:World)(j:Bg)(d:Au)(dg:ByteArray)(tot:PSt)(c:Ac)(rest:Value)(wr:World):Prop:=
 ∃ r j1 d1 st,rest = .string r ∧ Ef w2 wr j j1 d d1 st.c ∧ j1.next = st.next ∧ j1.chain = st.chain ∧ j1.recs = j.recs ∧ Aw j.epoch j.first dg (r.size + 1) r st = tot ∧ Bb r.size + st.next ≤ j.count ∧
   st.c.pending.length<=c.pending.length+st.next/\st.c.recorded.length<=c.recorded.length+st.next/\st.chain.size<=1000/\r.size<=65536/\st.c.Aa.length=c.Aa.length
def uO:Value->Nat
 | .string r=>r.size
 | _=>0
theorem iA (j:Bg)(d:Au)(c:Ac)(s:ByteArray)(w:World)(h:JD w j d c)(hs:s.size<=65536)(hf:Bb s.size<=(j.count:Int)-j.next)(he:j.epoch<9223372036854775808)(hch:j.chain.size<=1000)
 (hpl:c.pending.length<=500000) (hrl:c.recorded.length<=500000) (fO:j.recs.length<1000000):
 Calls Tryz.prog 72 #[.pointer (some ⟨j.jb,0,none⟩),.string s] w (iw w j d c s):=by
 obtain⟨N,hN⟩:∃ N,N=Bb s.size:=⟨_,rfl⟩
 rw[<- hN] at hf
 have HN:=zh hN;clear hN
 have H:=zh h;clear h
 go_enter Tryz.func72,Tryz.ntmps72
 go_wp2_with fail
 refine(SH _ _).mono ?_
 rintro e w ⟨rfl,rfl⟩
 rw[<- HN.out]
 go_wp2_with fail
 refine(Pz j _ H.out.AV).mono ?_
 rintro e w1 ⟨rfl,rfl⟩
 go_wp2_with fail
 refine(Dw s _ (by omega)).mono ?_
 rintro e w2 ⟨rfl,hb2⟩
 obtain⟨dg,hdg⟩:∃ dg,dg=Sha.sha s:=⟨_,rfl⟩
 rw[<- hdg]
 have zaD:dg.size<=32:=by rw[hdg,Sha.Bn];omega
 have HDG:=zh hdg;clear hdg
 have hbw:Below w.heap.size w w2:=((Below.refl w.heap.size w).drew).trans hb2
 have hst:=H.out.below hbw
 have HST:=zh hst;clear hst hbw hb2
 obtain⟨tot,htot⟩:∃ tot,tot=Aw j.epoch j.first dg (s.size+1) s ⟨j.next,j.chain,c⟩:=⟨_,rfl⟩
 have HT:=zh htot;clear htot
 have hcnt:=H.out.AV.count
 have zcX:=H.out.inn
 have hdm:=H.out.disk.most
 have zaE:=HST.out.at_
 have zbO:=zh zaE;clear zaE
 go_wp2
 go_loopw [6] (fun rest wr=>iy w2 j d dg tot c rest wr) (fun rest _=>uO rest)
 case atStart=>
  refine⟨s,j,d,⟨j.next,j.chain,c⟩,rfl,Ef.refl zbO.out,rfl,rfl,rfl,HT.out.symm,by rw[<- HN.out];show N+(j.next:Int)<=_;omega,by simp,by simp,hch,hs,rfl⟩
 case round=>
  obtain⟨r,⟨jb1,da1,fi1,co1,ep1,rv1,rs1,n1,ch1⟩,d1,st,rfl,hstep,hnx,uK,hrec,htot,hfit,hp1,hr1,hcs,hrs,hdl⟩:=hrel
  have e1:jb1=j.jb:=hstep.jb
  have e2:d1.a=da1:=hstep.at_.da
  have e3:fi1=j.first:=hstep.first
  have e4:co1=j.count:=hstep.count
  have e5:ep1=j.epoch:=hstep.epoch
  simp only at hnx uK hrec
  subst e1 e2 e3 e4 e5 hnx uK hrec
  have hJ:=hstep.at_
  have c3:=hJ.AV.self.cell 3
  simp only[Bg.cells,List.getElem?_toArray,List.getElem?_cons_zero,List.getElem?_cons_succ] at c3
  have hjl:=hJ.AV.self.lt
  have HS:=zh hstep;have HTO:=zh htot;have HDL:=zh hdl
  clear hstep htot hdl hJ
  have hpos:=Q5 hrs
  by_cases hl:r.size<=437
  ·have hmin:min (r.size:Int) 437=r.size:=by omega
   have hbd:Av j.epoch dg r=big j.epoch 8++⟨#[1]⟩++big r.size 2++dg++r.extract 0 r.size++zeros (437-r.size):=by
    unfold Av lastOf
    rw[show min r.size 437=r.size by omega,if_pos rfl]
    rfl
   have HBD:=zh hbd;clear hbd
   go_wp2_with fail
   refine Qy (by kernel_rfl) j.jb j.epoch r.size dg r 1 wr he hl (Nat.le_refl _) hrs zaD hjl c3 ?_
   intro v w5 hb5
   rw[<- HBD.out,show((UInt8.toNat 1:Nat):Int)=1 from rfl]
   dsimp only
   have hJ5:=HS.out.at_.below (w':=w5) hb5
   have HS5:=zh (HS.out.trans hJ5)
   obtain⟨BD,Yf⟩:∃ BD,BD=Av j.epoch dg r:=⟨_,rfl⟩
   rw[<- Yf]
   have PG:BD.size=480:=by rw[Yf];exact FM _ _ _ (by rw[HDG.out];exact Sha.Bn _)
   have zbP:BD.size<=480:=by omega
   have HBE:=zh Yf;have HBZ:=zh PG;clear Yf PG c3 hjl hb5 hJ5
   have c6:=HS5.out.at_.AV.self.cell 6
   simp only[Bg.cells,List.getElem?_toArray,List.getElem?_cons_zero,List.getElem?_cons_succ] at c6
   go_wp2_with fail
   refine(Dw _ _ (by rw[Sha.Ab,Sha.Ab];show 1+_+_<=_;omega)).mono ?_
   rintro e w6 ⟨rfl,hb6⟩
   obtain⟨CK,hCK⟩:∃ CK,CK=Sha.sha (⟨#[8]⟩++st.chain++BD):=⟨_,rfl⟩
   rw[<- hCK]
   have qQ:CK.size=32:=by rw[hCK];exact Sha.Bn _
   have zbQ:CK.size<=32:=by omega
   have HCK:=zh hCK;have xZ:=zh qQ
   have hJ6:=HS5.out.at_.below hb6
   have hS7:=(HS5.out.trans hJ6).trans (hJ6.at_.ZK CK)
   have z6:w6.frozen? ⟨j.jb,6,none⟩=false:=hJ6.at_.AV.self.free 6
   have d6:=hJ6.at_.AV.self.cell 6
   simp only[Bg.cells,List.getElem?_toArray,List.getElem?_cons_zero,List.getElem?_cons_succ] at d6
   have HS7:=zh hS7
   clear hCK qQ hb6 hJ6 c6 hS7
   go_wp2_with fail
   clear z6 d6
   generalize w6.setCell ⟨j.jb,6,none⟩ (.string CK)=w7 at*
   have c0:=HS7.out.at_.AV.self.cell 0;have c1:=HS7.out.at_.AV.self.cell 1;have c5:=HS7.out.at_.AV.self.cell 5;have c6:=HS7.out.at_.AV.self.cell 6
   simp only[Bg.cells,List.getElem?_toArray,List.getElem?_cons_zero,List.getElem?_cons_succ] at c0 c1 c5 c6
   have hW:=GY d1 st.c (j.first+st.next) (CK++BD) w7.drew (by have:=HDL.out;omega) (by rw[Sha.Ab,xZ.out,HBZ.out]) (by omega) (by omega) (HS7.out.at_.disk.keep fun _ _=>rfl)
   rw[Int.natCast_add] at hW
   have HW:=zh hW;clear hW
   refine Lex.zl ?_
   go_wp2_with fail
   refine HW.out.mono ?_
   rintro e w8 ⟨rfl,d2,hd2⟩
   have iB:=(HS7.out.at_).below (Below.refl _ _).drew
   have qR:=(HS7.out.trans iB).trans (iB.at_.iq hd2 (by rw[ET];rfl))
   have HS8:=zh qR;clear qR hd2 iB c0 c1 c5 c6
   go_wp2
   refine Lex.ze ?_
   have c5:=HS8.out.at_.AV.self.cell 5
   simp only[Bg.cells,List.getElem?_toArray,List.getElem?_cons_zero,List.getElem?_cons_succ] at c5
   have z5:w8.frozen? ⟨j.jb,5,none⟩=false:=HS8.out.at_.AV.self.free 5
   have hS9:=HS8.out.trans ((HS8.out.at_).kQ (st.next+1) (by show _<=j.count;omega))
   rw[Int.natCast_add] at hS9
   have hput:(st.put j.epoch j.first dg r).c=(st.c.wrote (j.first+st.next) (CK++BD)).note ⟨((j.first+st.next:Nat):Int),CK++BD,false⟩:=by
    show(st.c.wrote _ (Af _ _ _ _++Av _ _ _)).note ⟨_,Af _ _ _ _++Av _ _ _,false⟩=_
    rw[<- HBE.out,show Af j.epoch dg r st.chain=CK by unfold Af;rw[<- HBE.out];exact HCK.out.symm]
   rw[Int.natCast_add] at hput
   have PX:=zh hput
   have HS9:=zh hS9;clear hS9 hput
   have htt:tot=st.put j.epoch j.first dg r:=by
    rw[<- HTO.out]
    show(if min r.size 437=r.size then _ else _)=_
    rw[if_pos (by omega)]
   have HTT:=zh htt;clear htt
   have c0:=HS8.out.at_.AV.self.cell 0
   simp only[Bg.cells,List.getElem?_toArray,List.getElem?_cons_zero,List.getElem?_cons_succ] at c0
   have zaF:d2.a=d1.a:=HS8.out.at_.da
   rw[<- zaF] at c0
   clear zaF
   go_wp2_with fail
   refine(Lv d2 _ _ ?_ ?_ HS9.out.at_.disk).mono ?_
   ·rw[<- PX.out,Qx];omega
   ·have:=Ob st j.epoch j.first dg r
    rw[PX.out] at this
    omega
   rintro e w10 ⟨rfl,d3,hd3⟩
   have yu:=HS9.out.trans (HS9.out.at_.iq hd3 (by rw[ET,J6]))
   rw[<- PX.out] at yu
   have IB:=zh yu;clear yu hd3 c0 c5 z5
   obtain⟨i1,hi,hz0,hz1,hz2⟩:=info_parts NR
   have c4:=IB.out.at_.AV.self.cell 4
   have z4:w10.frozen? ⟨j.jb,4,none⟩=false:=IB.out.at_.AV.self.free 4
   simp only[Bg.cells,List.getElem?_toArray,List.getElem?_cons_zero,List.getElem?_cons_succ] at c4
   have hrows:=IB.out.at_.AV.recs
   have zaG:=zh hrows;clear hrows
   go_wp2_with (at_builtin;go_must (refine wpList_append_own_at _ rfl _ _ 23 rfl 0 9 i1 _ 1 16 Tryz.underlying23 hi hz0 hz1 hz2 rfl (by omega) rv1 j.recs.length (j.recs.map Value.string) rfl (zaG.out.alloc _) ⟨w10.heap.size,0,none⟩ 1 1 [.string s] rfl rfl ?c1 ?c2 ?c3 ?c4 ?c5 ?_))
   case c1=>
    intro j u hj
    match j,hj with
    | 0,hj=>simp at hj;subst hj;simp[Addr.add]
   case c2=>intro u hu;simp at hu;subst hu;rfl
   case c3=>unfold maxLen;omega
   case c4=>omega
   case c5=>omega
   intro v2 w15 how hg _ hb'
   have hbel:Below w10.heap.size w10 (w10.alloc (.cells #[.string s] 9)):=zb
   have hfin:=IB.out.trans (IB.out.at_.recorded (rs:=j.recs++[s]) hbel hg (by rw[List.length_append,List.map_append];exact how) (hb'.imp id (fun h=>⟨_,h,by simp⟩)) (by rw[List.length_append];show _+1<=_;omega))
   obtain⟨g2,cap2,rfl,_⟩:=BM how (by omega)
   have s15:=At.grown (IB.out.at_.AV.self.alloc (.cells #[.string s] 9)) hg (by intro e;exact IB.out.at_.AV.kP e.symm)
   have k4:=s15.cell 4
   simp only[Bg.cells,List.getElem?_toArray,List.getElem?_cons_zero,List.getElem?_cons_succ] at k4
   have zz4:w15.frozen? ⟨j.jb,4,none⟩=false:=s15.free 4
   have Eh:=zh hfin
   clear how hg hb' hbel hfin s15
   go_wp2
   go_ret
   have hall:BU j.epoch j.first s ⟨j.next,j.chain,c⟩=st.put j.epoch j.first dg r:=by
    unfold BU
    rw[<- HDG.out,<- HT.out]
    exact HTT.out
   refine⟨rfl,{ jb:=j.jb,da:=d1.a,first:=j.first,count:=j.count,epoch:=j.epoch,rv:=.slice (some ⟨g2,0,none⟩) (j.recs.length+1) cap2,recs:=j.recs++[s],next:=st.next+1,chain:=CK },d3,?_,rfl,?_,?_⟩
   ·rw[hall]
    exact HST.out.trans Eh.out
   ·rw[hall];rfl
   ·rw[hall]
    show CK=Af j.epoch dg r st.chain
    unfold Af
    rw[<- HBE.out]
    exact HCK.out
  ·have hmin:min (r.size:Int) 437=437:=by omega
   have hne:((437:Int)==r.size)=false:=by simp;omega
   have hbd:Av j.epoch dg r=big j.epoch 8++⟨#[0]⟩++big 437 2++dg++r.extract 0 437++zeros (437-437):=by
    unfold Av lastOf
    rw[show min r.size 437=437 by omega,if_neg (by omega)]
    rfl
   have HBD:=zh hbd;clear hbd
   go_wp2_with fail
   refine Qy (by kernel_rfl) j.jb j.epoch 437 dg r 0 wr he (Nat.le_refl _) (by omega) hrs zaD hjl c3 ?_
   intro v w5 hb5
   rw[<- HBD.out,show((UInt8.toNat 0:Nat):Int)=0 from rfl]
   dsimp only
   have hJ5:=HS.out.at_.below (w':=w5) hb5
   have HS5:=zh (HS.out.trans hJ5)
   obtain⟨BD,Yf⟩:∃ BD,BD=Av j.epoch dg r:=⟨_,rfl⟩
   rw[<- Yf]
   have PG:BD.size=480:=by rw[Yf];exact FM _ _ _ (by rw[HDG.out];exact Sha.Bn _)
   have zbP:BD.size<=480:=by omega
   have HBE:=zh Yf;have HBZ:=zh PG;clear Yf PG c3 hjl hb5 hJ5
   have c6:=HS5.out.at_.AV.self.cell 6
   simp only[Bg.cells,List.getElem?_toArray,List.getElem?_cons_zero,List.getElem?_cons_succ] at c6
   go_wp2_with fail
   refine(Dw _ _ (by rw[Sha.Ab,Sha.Ab];show 1+_+_<=_;omega)).mono ?_
   rintro e w6 ⟨rfl,hb6⟩
   obtain⟨CK,hCK⟩:∃ CK,CK=Sha.sha (⟨#[8]⟩++st.chain++BD):=⟨_,rfl⟩
   rw[<- hCK]
   have qQ:CK.size=32:=by rw[hCK];exact Sha.Bn _
   have zbQ:CK.size<=32:=by omega
   have HCK:=zh hCK;have xZ:=zh qQ
   have hJ6:=HS5.out.at_.below hb6
   have hS7:=(HS5.out.trans hJ6).trans (hJ6.at_.ZK CK)
   have z6:w6.frozen? ⟨j.jb,6,none⟩=false:=hJ6.at_.AV.self.free 6
   have d6:=hJ6.at_.AV.self.cell 6
   simp only[Bg.cells,List.getElem?_toArray,List.getElem?_cons_zero,List.getElem?_cons_succ] at d6
   have HS7:=zh hS7
   clear hCK qQ hb6 hJ6 c6 hS7
   go_wp2_with fail
   clear z6 d6
   generalize w6.setCell ⟨j.jb,6,none⟩ (.string CK)=w7 at*
   have c0:=HS7.out.at_.AV.self.cell 0;have c1:=HS7.out.at_.AV.self.cell 1;have c5:=HS7.out.at_.AV.self.cell 5;have c6:=HS7.out.at_.AV.self.cell 6
   simp only[Bg.cells,List.getElem?_toArray,List.getElem?_cons_zero,List.getElem?_cons_succ] at c0 c1 c5 c6
   have hW:=GY d1 st.c (j.first+st.next) (CK++BD) w7.drew (by have:=HDL.out;omega) (by rw[Sha.Ab,xZ.out,HBZ.out]) (by omega) (by omega) (HS7.out.at_.disk.keep fun _ _=>rfl)
   rw[Int.natCast_add] at hW
   have HW:=zh hW;clear hW
   refine Lex.zl ?_
   go_wp2_with fail
   refine HW.out.mono ?_
   rintro e w8 ⟨rfl,d2,hd2⟩
   have iB:=(HS7.out.at_).below (Below.refl _ _).drew
   have qR:=(HS7.out.trans iB).trans (iB.at_.iq hd2 (by rw[ET];rfl))
   have HS8:=zh qR;clear qR hd2 iB c0 c1 c5 c6
   go_wp2
   refine Lex.ze ?_
   have c5:=HS8.out.at_.AV.self.cell 5
   simp only[Bg.cells,List.getElem?_toArray,List.getElem?_cons_zero,List.getElem?_cons_succ] at c5
   have z5:w8.frozen? ⟨j.jb,5,none⟩=false:=HS8.out.at_.AV.self.free 5
   have hS9:=HS8.out.trans ((HS8.out.at_).kQ (st.next+1) (by show _<=j.count;omega))
   rw[Int.natCast_add] at hS9
   have hput:(st.put j.epoch j.first dg r).c=(st.c.wrote (j.first+st.next) (CK++BD)).note ⟨((j.first+st.next:Nat):Int),CK++BD,false⟩:=by
    show(st.c.wrote _ (Af _ _ _ _++Av _ _ _)).note ⟨_,Af _ _ _ _++Av _ _ _,false⟩=_
    rw[<- HBE.out,show Af j.epoch dg r st.chain=CK by unfold Af;rw[<- HBE.out];exact HCK.out.symm]
   rw[Int.natCast_add] at hput
   have PX:=zh hput
   have HS9:=zh hS9;clear hS9 hput
   have hx:(r.extract 437 r.size).size=r.size-437:=by rw[ByteArray.size_extract];omega
   have htt:Aw j.epoch j.first dg ((r.extract 437 r.size).size+1) (r.extract 437 r.size) (st.put j.epoch j.first dg r)=tot:=by
    rw[<- HTO.out,Mq j.epoch j.first dg ((r.extract 437 r.size).size+1) r.size _ _ (by omega) (by rw[hx];omega)]
    show _=(if min r.size 437=r.size then _ else _)
    rw[if_neg (by omega)]
   have hps:=Og (n:=r.size) (by omega) hrs
   have HTT:=zh htt;have HX:=zh hx;have HPS:=zh hps;clear htt hx hps
   go_wp2_with fail
   have hS9:=HS9.out
   rw[<- PX.out] at hS9
   have hxx:=HX.out
   have hp2:=Qx st j.epoch j.first dg r
   have hr2:=Ob st j.epoch j.first dg r
   refine⟨⟨r.extract 437 r.size,_,d2,st.put j.epoch j.first dg r,rfl,hS9,rfl,?_,rfl,HTT.out,?_,?_,?_,?_,by omega,by rw[Db];exact HDL.out⟩,by show(r.extract 437 r.size).size<r.size;omega⟩
   ·show CK=Af j.epoch dg r st.chain
    unfold Af
    rw[<- HBE.out]
    exact HCK.out
   ·have:=HPS.out
    rw[hxx]
    show _+((st.next+1:Nat):Int)<=_
    omega
   ·show _<=_+(st.next+1)
    omega
   ·show _<=_+(st.next+1)
    omega
   ·show(Af j.epoch dg r st.chain).size<=1000
    unfold Af
    rw[Sha.Bn]
    omega
theorem mU (l:List (Nat × ByteArray)):∀ (dur:List ByteArray) (q:Nat),q<dur.length->(flush dur l).getD q ⟨#[]⟩=match lastIdx l q with
 | some i=>(l.getD i (0,⟨#[]⟩)).2
 | none=>dur.getD q ⟨#[]⟩:=by
 induction l with
 | nil=>intro dur q h;rfl
 | cons x l ih =>
   intro dur q h
   show(flush (dur.set x.1 x.2) l).getD q _=_
   rw[ih _ _ (by rw[List.length_set];exact h),lastIdx]
   cases hl:lastIdx l q with
   | some i=>simp
   | none =>
     by_cases hx:x.1=q
     ·subst hx;simp[List.getD_eq_getElem?_getD,h]
     ·simp[hx,List.getD_eq_getElem?_getD,List.getElem?_set]
theorem ZN (c:Ac)(q:Nat)(h:∀ x∈c.pending,x.2.size=512):c.synced.read q=c.read q:=by
 by_cases hin:q<c.Aa.length
 ·have h1:0<=(q:Int)/\(q:Int)<c.Aa.length:=⟨by omega,by omega⟩
  have h2:0<=(q:Int)/\(q:Int)<c.synced.Aa.length:=by rw[J6];exact h1
  unfold Ac.read
  rw[if_pos h1,if_pos h2]
  show(if ((flush c.Aa c.pending).getD q ⟨#[]⟩).toList==Nb.toList then _ else _)=_
  have hg:=mU c.pending c.Aa q hin
  show(if ((flush c.Aa c.pending).getD q ⟨#[]⟩).toList==Nb.toList then ((⟨#[]⟩:ByteArray),(21:Int)) else ((flush c.Aa c.pending).getD q ⟨#[]⟩,0))=match lastIdx c.pending q with
   | some i=>((c.pending.getD i (0,⟨#[]⟩)).2,0)
   | none=>if (c.Aa.getD q ⟨#[]⟩).toList==Nb.toList then (⟨#[]⟩,21) else (c.Aa.getD q ⟨#[]⟩,0)
  rw[hg]
  cases hl:lastIdx c.pending q with
  | none=>rfl
  | some i =>
    have hi:=lastIdx_lt _ _ _ hl
    have hs:=h c.pending[i] (List.getElem_mem hi)
    have he:(c.pending.getD i (0,⟨#[]⟩))=c.pending[i]:=by simp[List.getD_eq_getElem?_getD,hi]
    simp only[he]
    have ht:(c.pending[i].2.toList==Nb.toList)=false:=by
     rw[beq_toList]
     simp only[decide_eq_false_iff_not]
     intro e
     rw[e] at hs
     cases hs
    rw[ht]
    rfl
 ·have h1:¬ (0<=(q:Int)/\(q:Int)<c.Aa.length):=by omega
  have h2:¬ (0<=(q:Int)/\(q:Int)<c.synced.Aa.length):=by rw[J6];exact h1
  unfold Ac.read
  rw[if_neg h1,if_neg h2]
theorem qU (st:PSt)(e f:Nat)(dg r:ByteArray):(st.put e f dg r).c.pending=st.c.pending++[(f+st.next,Af e dg r st.chain++Av e dg r)]:=by
 show((st.c.wrote _ _).note _).pending=_
 rw[Oa]
 rfl
theorem WC (e:Nat)(dg r ch:ByteArray)(hd:dg.size=32):(Af e dg r ch++Av e dg r).size=512:=by
 rw[Sha.Ab,FM _ _ _ hd,show(Af e dg r ch).size=32 from Sha.Bn _]
theorem Mr (e f:Nat)(dg:ByteArray)(hd:dg.size=32):∀ (n:Nat) (r:ByteArray) (st:PSt),(∀ x∈st.c.pending,x.2.size=512)->∀ x∈(Aw e f dg n r st).c.pending,x.2.size=512
 | 0,_,_,h=>h
 | n + 1,r,st,h => by
   have h1:∀ x∈(st.put e f dg r).c.pending,x.2.size=512:=by
    intro x hx
    rw[qU] at hx
    rcases List.mem_append.1 hx with hx|hx
    ·exact h x hx
    ·simp at hx;subst hx;exact WC e dg r _ hd
   unfold Aw
   split
   ·exact h1
   ·exact Mr e f dg hd n _ _ h1
theorem PY (st:PSt)(e f:Nat)(dg r:ByteArray)(q:Nat)(hq:q<st.c.Aa.length):
 (st.put e f dg r).c.read q=if f+st.next=q then (Af e dg r st.chain++Av e dg r,0) else st.c.read q:=by
 show((st.c.wrote _ _).note _).read _=_
 rw[PW,Tt _ _ _ _ hq]
theorem KD (e f:Nat)(dg:ByteArray):∀ (n:Nat) (r:ByteArray) (st:PSt),r.size<n->∀ q,q<st.c.Aa.length->q<f+st.next\/f+(Aw e f dg n r st).next<=q->(Aw e f dg n r st).c.read q=st.c.read q
 | 0,_,_,h,_,_,_=>by omega
 | n + 1,r,st,h,q,hq,hc => by
   have h2:(st.put e f dg r).next=st.next+1:=rfl
   unfold Aw at hc ⊢
   split at hc
   ·rename_i hm
    rw[if_pos hm,PY _ _ _ _ _ _ hq,if_neg (by omega)]
   ·rename_i hm
    rw[if_neg hm]
    have hs:(r.extract 437 r.size).size<n:=by rw[ByteArray.size_extract];omega
    have hnx:=FP e f dg n (r.extract 437 r.size) (st.put e f dg r) hs
    rw[KD e f dg n (r.extract 437 r.size) (st.put e f dg r) hs q (by rw[Db];exact hq) (by omega),PY _ _ _ _ _ _ hq,if_neg (by omega)]
theorem KE (e f:Nat)(dg:ByteArray):∀ (n:Nat) (r:ByteArray) (st:PSt),r.size<n->r.size<=65536->((Aw e f dg n r st).next:Int)=st.next+Bb r.size
 | 0,_,_,h,_=>by omega
 | n + 1,r,st,h,hs => by
   have h2:(st.put e f dg r).next=st.next+1:=rfl
   unfold Aw
   split
   ·rw[h2,ZL (by omega)];omega
   ·have hz:(r.extract 437 r.size).size=r.size-437:=by rw[ByteArray.size_extract];omega
    rw[KE e f dg n _ _ (by rw[hz];omega) (by rw[hz];omega),hz,Og (by omega) hs,h2]
    omega
theorem V5 (st:PSt)(e f:Nat)(dg r:ByteArray):(st.put e f dg r).c.recording=st.c.recording:=by
 show((st.c.wrote _ _).note _).recording=_
 unfold Ac.note
 split<;>rfl
theorem Ms (e f:Nat)(dg:ByteArray):∀ (n:Nat) (r:ByteArray) (st:PSt),st.c.recording=false->(Aw e f dg n r st).c.recording=false/\(Aw e f dg n r st).c.recorded=st.c.recorded
 | 0,_,_,h=>⟨h,rfl⟩
 | n + 1,r,st,h => by
   have h1:(st.put e f dg r).c.recording=false:=(V5 _ _ _ _ _).trans h
   have h2:(st.put e f dg r).c.recorded=st.c.recorded:=by
    show((st.c.wrote _ _).note _).recorded=_
    unfold Ac.note
    rw[show(st.c.wrote (f+st.next) (Af e dg r st.chain++Av e dg r)).recording=false from h]
    rfl
   unfold Aw
   split
   ·exact⟨h1,h2⟩
   ·have:=Ms e f dg n (r.extract 437 r.size) _ h1
    exact⟨this.1,this.2.trans h2⟩
structure Calm (c:Ac):Prop where
 pend:c.pending=[]
 off:c.recording=false
 none:c.recorded=[]
def after (j:Bg)(s:ByteArray)(c:Ac):Ac:=(BU j.epoch j.first s ⟨j.next,j.chain,c⟩).c.synced.note ⟨0,⟨#[]⟩,true⟩
theorem FX (j:Bg)(s:ByteArray)(c:Ac):(after j s c).Aa.length=c.Aa.length:=by
 unfold after
 rw[ET,J6]
 unfold BU
 rw[Jc]
theorem Tz {j:Bg}{s:ByteArray}{c:Ac}(h:Calm c):Calm (after j s c):=by
 have h1:=Ms j.epoch j.first (Sha.sha s) (s.size+1) s ⟨j.next,j.chain,c⟩ h.off
 have hn:after j s c=(BU j.epoch j.first s ⟨j.next,j.chain,c⟩).c.synced:=by
  unfold after Ac.note
  rw[show(BU j.epoch j.first s ⟨j.next,j.chain,c⟩).c.synced.recording=false from h1.1]
  rfl
 rw[hn]
 exact⟨rfl,h1.1,h1.2.trans h.none⟩
theorem Nj {j:Bg}{s:ByteArray}{c:Ac}(h:c.pending=[])(q:Nat):(after j s c).read q=(BU j.epoch j.first s ⟨j.next,j.chain,c⟩).c.read q:=by
 unfold after
 rw[PW,ZN]
 refine Mr _ _ _ (Sha.Bn _) _ _ _ ?_
 intro x hx
 rw[show(PSt.mk j.next j.chain c).c.pending=[] from h] at hx
 cases hx
theorem IC (j:Bg)(s:ByteArray)(c:Ac)(hs:s.size<=65536):((BU j.epoch j.first s ⟨j.next,j.chain,c⟩).next:Int)=j.next+Bb s.size:=
 KE _ _ _ _ _ _ (by omega) hs
theorem ZO {j:Bg}{s:ByteArray}{c:Ac}(h:c.pending=[])(hs:s.size<=65536)(q:Nat)(hq:q<c.Aa.length)(ho:q<j.first+j.next\/j.first+j.next+Bb s.size<=(q:Int)):(after j s c).read q=c.read q:=by
 rw[Nj h]
 have hn:=IC j s c hs
 exact KD j.epoch j.first (Sha.sha s) (s.size+1) s ⟨j.next,j.chain,c⟩ (by omega) q hq (ho.imp id fun h1=>by
  show j.first+(BU j.epoch j.first s ⟨j.next,j.chain,c⟩).next<=q
  omega)
theorem Holds.append {j j' : Bg}{c:Ac}{s:ByteArray}(h:Holds j c)(hp:c.pending=[])(hin:j.first+j.count<=c.Aa.length)(hs:s.size<=65536)(hf:Bb s.size<=(j.count:Int)-j.next)
 (e1:j'.first=j.first) (e2:j'.count=j.count) (e3:j'.epoch=j.epoch) (e4:j'.recs=j.recs++[s]) (e5:j'.next=(BU j.epoch j.first s ⟨j.next,j.chain,c⟩).next)
 (e6:j'.chain=(BU j.epoch j.first s ⟨j.next,j.chain,c⟩).chain):Holds j' (after j s c):=by
 have hn:=IC j s c hs
 have hpos:=Q5 hs
 have hrd:∀ i,FE (after j s c) j.first i=FE (BU j.epoch j.first s ⟨j.next,j.chain,c⟩).c j.first i:=by
  intro i
  unfold FE
  rw[show((j.first:Int)+(i:Nat))=((j.first+i:Nat):Int) by omega]
  exact Nj hp _
 have hold:∀ i,i<j.count->i<j.next\/(BU j.epoch j.first s ⟨j.next,j.chain,c⟩).next<=i->FE (after j s c) j.first i=FE c j.first i:=by
  intro i hi ho
  rw[hrd]
  exact I9 j.epoch j.first (Sha.sha s) (s.size+1) s ⟨j.next,j.chain,c⟩ (by omega) i (by show _<c.Aa.length;omega) ho
 refine⟨?_,?_⟩
 ·rw[e1,e3,e4,e5,e6]
  refine(h.run.congr fun i _ hi=>hold i (by omega) (.inl hi)).trans ?_
  have hr:=Od j.epoch j.first s (s.size+1) s ⟨j.next,j.chain,c⟩ ⟨[],j.recs,j.next,j.chain⟩ (by omega) (fun i h1 h2=>by
   have h3:i<(BU j.epoch j.first s ⟨j.next,j.chain,c⟩).next:=h2
   show _<c.Aa.length
   omega) (fun q hq=>by cases hq) rfl rfl
  exact hr.congr fun i _ _=>hrd i
 ·rw[e1,e2,e3,e5]
  intro i h1 h2
  rw[hold i h2 (.inr h1)]
  exact h.rest i (by omega) h2
theorem TG (n k:Nat)(h:k<8):(big n 8).data.toList.getD k 0=(n/2^(8*(8-1-k))%256).toUInt8:=by
 simp[big,List.getD_eq_getElem?_getD,h]
theorem ZQ {n m:Nat}(hn:n<2^64)(hm:m<2^64)(h:big n 8=big m 8):n=m:=by
 have hk:∀ k,k<8->n/2^(8*(8-1-k))%256=m/2^(8*(8-1-k))%256:=by
  intro k hk
  have h1:=TG n k hk
  rw[h,TG m k hk] at h1
  have h2:=congrArg UInt8.toNat h1
  rw[show(m/2^(8*(8-1-k))%256).toUInt8=UInt8.ofNat (m/2^(8*(8-1-k))%256) from rfl,show(n/2^(8*(8-1-k))%256).toUInt8=UInt8.ofNat (n/2^(8*(8-1-k))%256) from rfl,UInt8.toNat_ofNat',UInt8.toNat_ofNat'] at h2
  omega
 have h0:=hk 0 (by omega);have h1:=hk 1 (by omega);have h2:=hk 2 (by omega);have h3:=hk 3 (by omega)
 have h4:=hk 4 (by omega);have h5:=hk 5 (by omega);have h6:=hk 6 (by omega);have h7:=hk 7 (by omega)
 simp only[Nat.reduceSub,Nat.reduceMul,Nat.reducePow,Nat.sub_self,Nat.mul_zero,Nat.pow_zero,Nat.div_one] at h0 h1 h2 h3 h4 h5 h6 h7 hn hm
 omega
def Clean (e:Nat)(c:Ac)(first count:Nat):Prop:=∀ i,i<count->Ye e (FE c first i)
theorem iC (n:Nat)(p:Int):((Ac.blank n).read p).1=⟨#[]⟩:=by
 unfold Ac.read
 split
 ·show(if ((List.replicate n (⟨#[]⟩:ByteArray)).getD p.toNat ⟨#[]⟩).toList==Nb.toList then ((⟨#[]⟩:ByteArray),(21:Int)) else ((List.replicate n (⟨#[]⟩:ByteArray)).getD p.toNat ⟨#[]⟩,0)).1=_
  split
  ·rfl
  ·simp[List.getD_eq_getElem?_getD,List.getElem?_replicate]
   split<;>rfl
 ·rfl
theorem iD (n:Nat):Calm (.blank n):=⟨rfl,rfl,rfl⟩
theorem Clean.holds {j:Bg}{c:Ac}(h:Clean j.epoch c j.first j.count)(e4:j.recs=[])(e5:j.next=0)(e6:j.chain=Hf j.epoch):Holds j c:=by
 refine⟨?_,fun i _ hi=>h i hi⟩
 rw[e4,e5,e6]
 exact .refl _ _ _
theorem Clean.opened {e first count:Nat}{c:Ac}(h:Clean e c first count):opened e count (FE c first)=OSt.zero e:=by
 have h2:Holds ⟨0,0,first,count,e,.slice none 0 0,[],0,Hf e⟩ c:=Clean.holds h rfl rfl rfl
 exact h2.opened (Nat.zero_le _)
def Ga (c:Ac):Prop:=∀ q:Nat,(c.read q).1.size<=512
theorem Ga.int {c:Ac}(h:Ga c)(p:Int):(c.read p).1.size<=512:=by
 by_cases hp:0<=p
 ·obtain⟨q,rfl⟩:∃ q:Nat,p=q:=⟨p.toNat,by omega⟩
  exact h q
 ·have : c.read p = (⟨#[]⟩,2) :=by
   unfold Ac.read
   rw[if_neg (by omega)]
  rw[this]
  decide
theorem qV (c:Ac)(q:Nat)(h:¬ q<c.Aa.length):c.read q=(⟨#[]⟩,2):=by
 unfold Ac.read
 rw[if_neg (by omega)]
theorem KF (e f:Nat)(dg:ByteArray)(hd:dg.size=32):∀ (n:Nat) (r:ByteArray) (st:PSt),Ga st.c->Ga (Aw e f dg n r st).c
 | 0,_,_,h=>h
 | n + 1,r,st,h => by
   have h1:Ga (st.put e f dg r).c:=by
    intro q
    by_cases hq:q<st.c.Aa.length
    ·rw[PY _ _ _ _ _ _ hq]
     split
     ·exact Nat.le_of_eq (WC e dg r _ hd)
     ·exact h q
    ·rw[qV _ _ (by rw[Db];exact hq)]
     decide
   unfold Aw
   split
   ·exact h1
   ·exact KF e f dg hd n _ _ h1
theorem KG (e f:Nat)(dg:ByteArray):∀ (n:Nat) (r:ByteArray) (st:PSt),st.chain.size=32->(Aw e f dg n r st).chain.size=32
 | 0,_,_,h=>h
 | n + 1,r,st,h => by
   have h1:(st.put e f dg r).chain.size=32:=Sha.Bn _
   unfold Aw
   split
   ·exact h1
   ·exact KG e f dg n _ _ h1
theorem ZR (n:Nat):Ga (.blank n):=by
 intro q
 rw[iC]
 decide
structure Live (w:World) (j:Bg) (d:Au) (c:Ac):Prop where
 jd:JD w j d c
 holds:Holds j c
 calm:Calm c
 sized:Ga c
 chain:j.chain.size=32
 epoch:j.epoch<=4611686018427387903
theorem Live.below {w w' : World}{j:Bg}{d:Au}{c:Ac}(h:Live w j d c)(hb:Below w.heap.size w w'):Live w' j d c:=⟨(h.jd.below hb).at_,h.holds,h.calm,h.sized,h.chain,h.epoch⟩
def qW (w:World)(j:Bg)(d:Au)(c:Ac)(s:ByteArray)(e:Ending)(w' : World):Prop:=
 ∃ j' d' c',Ef w w' j j' d d' c' ∧ Live w' j' d' c' ∧
   ((Bb s.size<=(j.count:Int)-j.next/\e=.returned (.int .i64 0)/\c' = after j s c/\j'.recs=j.recs++[s]/\(j'.next:Int)=j.next+Bb s.size)\/
    ((j.count:Int)-j.next<Bb s.size/\e=.returned (.int .i64 22)/\c' = c/\j'.recs=j.recs/\j'.next=j.next))
theorem Q8 (j:Bg)(d:Au)(c:Ac)(s:ByteArray)(w:World)(h:Live w j d c)(hs:s.size<=65536)(fO:j.recs.length<1000000):
 Calls Tryz.prog 72 #[.pointer (some ⟨j.jb,0,none⟩),.string s] w (qW w j d c s):=by
 by_cases hf:Bb s.size<=(j.count:Int)-j.next
 ·refine(iA j d c s w h.jd hs hf (by have:=h.epoch;omega) (by rw[h.chain];decide) (by rw[h.calm.pend];exact Nat.zero_le _) (by rw[h.calm.none];exact Nat.zero_le _) fO).mono ?_
  rintro e w' ⟨rfl,j',d',hst,e4,e5,e6⟩
  refine⟨j',d',_,hst,⟨hst.at_,h.holds.append h.calm.pend h.jd.inn hs hf hst.first hst.count hst.epoch e4 e5 e6,Tz h.calm,?_,?_,by rw[hst.epoch];exact h.epoch⟩,.inl ⟨hf,rfl,rfl,e4,?_⟩⟩
  ·intro q
   have:((after j s c).read q).1.size<=512:=by
    rw[Nj h.calm.pend]
    exact KF _ _ _ (Sha.Bn _) _ _ ⟨j.next,j.chain,c⟩ h.sized q
   exact this
  ·rw[e6]
   exact KG _ _ _ _ _ _ h.chain
  ·rw[e5]
   exact IC j s c hs
 ·refine(Yd j s w h.jd.AV hs (by omega)).mono ?_
  rintro e w' ⟨rfl,rfl⟩
  have hb:Below w.heap.size w w.drew:=(Below.refl w.heap.size w).drew
  exact⟨j,d,c,h.jd.below hb,h.below hb,.inr ⟨by omega,rfl,rfl,rfl,rfl⟩⟩
theorem ZT (e:Nat):(Hf e).size=32:=Sha.Bn _
theorem Fr.El {F:Nat->Prop}{B:Nat}{w w' : World}(h:Fr F w w')(hF:∀ k,F k->B<=k)(hB:B<=w.heap.size):Below B w w' :=
 ⟨h.os,h.tape,h.output,h.size,fun k hk=>h.keep k (Nat.lt_of_lt_of_le hk hB) (fun hf=>by have:=hF k hf;omega)⟩
theorem TI:(Tryz.prog.info? 41).map (·.size)=some 2:=by kernel_rfl
def Yg (v p:Value):Value:=.agg #[v,p]
theorem qX (n:Nat)(w:World)(h1:1<=n)(h2:n<=4096):
 Calls Tryz.prog 40 #[.int .i64 n] w fun e w' => ∃ v,e=.returned (.tuple #[Yg v (.slice none 0 0),.int .i64 0])/\w'.ownsRow w.heap.size 9 1 v n ((List.replicate n (⟨#[]⟩:ByteArray)).map Value.string)/\Below w.heap.size w w':=by
 obtain⟨i0,hi,hz0,hz1,hz2⟩:=info_parts Dz
 go_enter Tryz.func40,Tryz.ntmps40
 go_wp2_with (at_make;go_must (refine wpList_make_full _ rfl _ _ 23 rfl w.heap.size 9 i0 (.string ⟨#[]⟩) 1 Tryz.underlying23 hi hz0 hz1 .i64 .i64 n n n rfl rfl rfl rfl (by rw[hz2];omega) (by unfold maxLen;omega) (by simp) ?_);intro w1 how hg;have Yh:At w1 w.heap.size 41 #[.slice none 0 0,.slice none 0 0]:=At.grown (At.new w _ _) hg (by simp);have z0:=Yh.free 0;have z1:=Yh.free 1;have k0:=Yh.cell 0;have k1:=Yh.cell 1;simp only[zg] at k0 k1;have HOW:=zh how;have HG:=zh hg;have HA:=zh Yh;clear how hg Yh)
 have hrow:(madeCells (Value.string ⟨#[]⟩).cells (n*1)).toList=(List.replicate n (⟨#[]⟩:ByteArray)).map Value.string:=by
  rw[Nat.mul_one]
  show(madeCells #[Value.string ⟨#[]⟩] n).toList=_
  rw[toList_madeCells_one]
  simp
 have how:=HOW.out
 rw[hrow] at how
 have hne:∀ i:Nat,(Value.slice (some ⟨(w.alloc (.cells #[.slice none 0 0,.slice none 0 0] 41)).heap.size,0,none⟩) n n).ownBlock≠some (⟨w.heap.size,i,none⟩:Addr).block:=by
  intro i e
  simp[Value.ownBlock] at e
 refine bodyPost_ret (v:=.tuple #[.agg #[.slice (some ⟨w.heap.size+1,0,none⟩) n n,.slice none 0 0],.int .i64 0]) ?_ rfl ⟨_,rfl,?_,?_⟩
 ·have hset:=(HA.out.set 0 (.slice (some ⟨w.heap.size+1,0,none⟩) n n)).set 1 (.slice none 0 0)
  rw[results_cell_tmp (p:=2) (u:=3) (ty:=41) rfl]
  simp[asAddr,run_loadVar_row _ w.heap.size 41 41 _ (0,0) _ hset Tryz.underlying41 rfl TI]
 ·have h2:=ownsRow_setCell_other (ownsRow_setCell_other how (a:=⟨w.heap.size,0,none⟩) (hne 0) (.slice (some ⟨w.heap.size+1,0,none⟩) n n)) (a:=⟨w.heap.size,1,none⟩) (hne 1) (.slice none 0 0)
  have e:(w.alloc (.cells #[.slice none 0 0,.slice none 0 0] 41)).heap.size=w.heap.size+1:=by simp
  rw[e] at h2
  exact h2
 ·exact((((Below.refl w.heap.size w).alloc (Nat.le_refl _) _).grown HG.out (by simp) (fun k hk=>by cases hk)).setCell (p:=⟨w.heap.size,0,none⟩) (Nat.le_refl _) _).setCell (p:=⟨w.heap.size,1,none⟩) (Nat.le_refl _) _
def total (xs:List ByteArray):Nat:=(xs.map ByteArray.size).sum
def few (xs:List ByteArray):Bool:=decide (xs.length<=16)&&decide (total xs<=6000)
end
section
open Go
namespace Cod
def Gb:Nat->Nat->List UInt8
 | 0,_=>[]
 | f+1,n=>if n<128 then [n.toUInt8] else (n%128+128).toUInt8::Gb f (n/128)
def rdL:List UInt8->Nat->Option (Nat × Nat)
 | [],_=>none
 | b :: l,i => if i = 9 ∧ 1 < b.toNat then none else if b.toNat < 128 then (if b.toNat = 0 ∧ i ≠ 0 then none else some (b.toNat,1)) else match rdL l (i + 1) with
   | some (v,c)=>some (b.toNat%128+128*v,c+1)
   | none=>none
theorem Ho (n:Nat)(h:n<256):(n.toUInt8).toNat=n:=by
 simp[UInt8.toNat_ofNat]
 omega
theorem qY (f n:Nat)(h:0<f):0<(Gb f n).length:=by
 match f,h with
 | f+1,_=>unfold Gb;split<;>simp
theorem qZ (f n:Nat):(Gb f n).length<=f:=by
 induction f generalizing n with
 | zero=>exact Nat.le_refl _
 | succ f ih=>unfold Gb;split<;>simp;exact ih _
theorem yw (f:Nat):∀ (n i:Nat) (rest:List UInt8),n<128^f->n*128^i<18446744073709551616->i+f<=10->0<f->(i≠0->n≠0)->rdL (Gb f n++rest) i=some (n,(Gb f n).length):=by
 induction f with
 | zero=>intro n i rest _ _ _ h;omega
 | succ f ih =>
   intro n i rest hn hv hi _ hz
   unfold Gb
   by_cases h:n<128
   ·rw[if_pos h]
    show rdL (n.toUInt8::rest) i=_
    unfold rdL
    rw[Ho n (by omega)]
    rw[if_neg (by
     rintro⟨rfl,h2⟩
     have:(128:Nat)^9=9223372036854775808:=by decide
     rw[this] at hv
     omega),if_pos h,if_neg (by rintro⟨h1,h2⟩;exact hz h2 h1)]
    rfl
   ·rw[if_neg h]
    show rdL ((n%128+128).toUInt8::(Gb f (n/128)++rest)) i=_
    unfold rdL
    rw[Ho _ (by omega)]
    have h9:i≠9:=by
     rintro rfl
     have:(128:Nat)^9=9223372036854775808:=by decide
     rw[this] at hv
     omega
    have hf:0<f:=by
     rcases Nat.eq_zero_or_pos f with rfl|h1
     ·simp at hn;omega
     ·exact h1
    rw[if_neg (by rintro⟨h1,_⟩;exact h9 h1),if_neg (by omega)]
    have hv2:n/128*128^(i+1)<18446744073709551616:=by
     rw[Nat.pow_succ,Nat.mul_comm (128^i) 128,<- Nat.mul_assoc]
     exact Nat.lt_of_le_of_lt (Nat.mul_le_mul_right _ (Nat.div_mul_le_self n 128)) hv
    rw[ih (n/128) (i+1) rest (by rw[Nat.pow_succ] at hn;omega) hv2 (by omega) hf (by omega)]
    show some ((n%128+128)%128+128*(n/128),(Gb f (n/128)).length+1)=_
    congr 2
    omega
theorem kR:∀ (l:List UInt8) (i v c:Nat),i<=9->rdL l i=some (v,c)->c<=l.length/\0<c/\c+i<=10/\l.take c=Gb (10-i) v/\v*128^i<18446744073709551616/\(i≠0->v≠0)
 | [],_,_,_,_,h=>by cases h
 | b :: l,i,v,c,hi,h => by
   unfold rdL at h
   by_cases h1:i=9/\1<b.toNat
   ·rw[if_pos h1] at h;cases h
   ·rw[if_neg h1] at h
    have hb:b.toNat<256:=b.toNat_lt
    have hf:10-i=(9-i)+1:=by omega
    by_cases h2:b.toNat<128
    ·rw[if_pos h2] at h
     by_cases h3:b.toNat=0/\i≠0
     ·rw[if_pos h3] at h;cases h
     ·rw[if_neg h3] at h
      cases h
      refine⟨by simp,by omega,by omega,?_,?_,fun h4 h5=>h3 ⟨h5,h4⟩⟩
      ·rw[hf]
       unfold Gb
       rw[if_pos h2]
       simp
      ·by_cases h9:i=9
       ·subst h9
        have h10:b.toNat<=1:=by
         rcases Nat.lt_or_ge 1 b.toNat with h5|h5
         ·exact absurd ⟨rfl,h5⟩ h1
         ·exact h5
        have:(128:Nat)^9=9223372036854775808:=by decide
        rw[this]
        omega
       ·have h5:128^i<=128^8:=Nat.pow_le_pow_right (by omega) (by omega)
        have h6:(128:Nat)^8=72057594037927936:=by decide
        rw[h6] at h5
        have:=Nat.mul_le_mul (Nat.le_of_lt_succ (by omega:b.toNat<127+1)) h5
        omega
    ·rw[if_neg h2] at h
     cases hr:rdL l (i+1) with
     | none=>rw[hr] at h;cases h
     | some x =>
       obtain⟨v',c'⟩:=x
       rw[hr] at h
       simp only[Option.some.injEq,Prod.mk.injEq] at h
       obtain⟨rfl,rfl⟩:=h
       have h9:i≠9:=by
        rintro rfl
        exact h1 ⟨rfl,by omega⟩
       obtain⟨g1,g2,g3,g4,g5,g6⟩:=kR l (i+1) v' c' (by omega) hr
       refine⟨by simp;omega,by omega,by omega,?_,?_,fun _=>?_⟩
       ·have hf2:10-(i+1)=9-i:=by omega
        rw[hf2] at g4
        rw[hf]
        unfold Gb
        have:=g6 (by omega)
        rw[if_neg (by omega),List.take_succ_cons,g4]
        congr 1
        ·apply UInt8.toNat_inj.1
         rw[Ho _ (by omega)]
         omega
        ·congr 1
         omega
       ·obtain ⟨M,hM⟩ : 128 ^ (i + 1) ∣ 18446744073709551616 :=by
         have h7:(18446744073709551616:Nat)=2^64:=by decide
         rw[h7,show(128:Nat)=2^7 by decide,<- Nat.pow_mul]
         exact Nat.pow_dvd_pow 2 (by omega)
        rw[hM,Nat.mul_comm (128^(i+1)) M] at g5
        have hlt:v' < M:=Nat.lt_of_mul_lt_mul_right g5
        have hp:0<128^i:=Nat.pow_pos (by omega)
        have e:(18446744073709551616:Nat)=128*M*128^i:=by rw[hM,Nat.pow_succ,Nat.mul_comm (128^i) 128,Nat.mul_assoc,Nat.mul_assoc,Nat.mul_comm (128^i) M]
        rw[e]
        exact Nat.mul_lt_mul_of_pos_right (by omega) hp
       ·have:=g6 (by omega)
        omega
def uns (n:Nat):ByteArray:=⟨(Gb 10 n).toArray⟩
theorem TJ (n:Nat):(uns n).data.toList=Gb 10 n:=by simp[uns]
theorem TK (n:Nat):(uns n).size=(Gb 10 n).length:=by rw[<- Sha.Aq,TJ]
theorem uP (n:Nat):0<(uns n).size:=by rw[TK];exact qY _ _ (by omega)
theorem Cu (n:Nat):(uns n).size<=10:=by rw[TK];exact qZ _ _
def rdU (s:ByteArray)(at_:Nat):Option (Nat × Nat):=match rdL (s.data.toList.drop at_) 0 with
 | some (v,c)=>some (v,at_+c)
 | none=>none
def rdN (s:ByteArray)(at_:Nat):Option (Nat × Nat):=match rdU s at_ with
 | some (v,a)=>if v<9223372036854775808 then some (v,a) else none
 | none=>none
def rdT (s:ByteArray)(at_:Nat):Option (ByteArray × Nat):=match rdN s at_ with
 | some (n,a)=>if n<=s.size-a then some (s.extract a (a+n),a+n) else none
 | none=>none
def Me (s:ByteArray):Nat->Nat->Option (List ByteArray × Nat)
 | 0,a=>some ([],a)
 | n + 1,a => match rdT s a with
   | some (x,b) => match Me s n b with
     | some (l,c)=>some (x::l,c)
     | none=>none
   | none=>none
def AO (s:ByteArray)(at_:Nat):Option (List ByteArray × Nat):=match rdN s at_ with
 | some (n,a)=>if n<=s.size-a then Me s n a else none
 | none=>none
def cat:List ByteArray->ByteArray
 | []=>⟨#[]⟩
 | x::l=>x++cat l
def text (s:ByteArray):ByteArray:=uns s.size++s
def texts (l:List ByteArray):ByteArray:=uns l.length++cat (l.map text)
theorem ZU {s:ByteArray}{a n:Nat} : (s.extract a (a+n)).data.toList=(s.data.toList.drop a).take n:=by
 rw[Sha.Ba]
 congr 1
 omega
theorem Em (s:ByteArray)(a b c:Nat)(h1:a<=b)(h2:b<=c):s.extract a c=s.extract a b++s.extract b c:=by
 apply Sha.Bl
 rw[Sha.Bf,Sha.Ba,Sha.Ba,Sha.Ba]
 have e:c-a=(b-a)+(c-b):=by omega
 rw[e,List.take_add,List.drop_drop,show a+(b-a)=b by omega]
theorem ZV {s:ByteArray}{a v b:Nat}(h:rdU s a=some (v,b)):a<b/\b<=s.size/\s.extract a b=uns v/\v<18446744073709551616:=by
 unfold rdU at h
 cases hr:rdL (s.data.toList.drop a) 0 with
 | none=>rw[hr] at h;cases h
 | some x =>
   obtain⟨v',c⟩:=x
   rw[hr] at h
   simp only[Option.some.injEq,Prod.mk.injEq] at h
   obtain⟨rfl,rfl⟩:=h
   obtain⟨g1,g2,g3,g4,g5,_⟩:=kR _ 0 _ _ (by omega) hr
   rw[List.length_drop,Sha.Aq] at g1
   refine⟨by omega,by omega,?_,by simpa using g5⟩
   apply Sha.Bl
   rw[ZU,TJ]
   exact g4
theorem yx {p s r:ByteArray}{n a:Nat}(ha:a=p.size)(hn:n<18446744073709551616):rdU (p++(uns n++r)) a=some (n,a+(uns n).size):=by
 unfold rdU
 have hd:(p++(uns n++r)).data.toList.drop a=Gb 10 n++r.data.toList:=by
  rw[Sha.Bf,Sha.Bf,TJ,ha,<- Sha.Aq p,List.drop_left]
 rw[hd,yw 10 n 0 _ (by
  have:(128:Nat)^10=1180591620717411303424:=by decide
  omega) (by simpa using hn) (by omega) (by omega) (fun h=>absurd rfl h),TK]
theorem En {s:ByteArray}{a v b:Nat}(h:rdN s a=some (v,b)):a<b/\b<=s.size/\s.extract a b=uns v/\v<9223372036854775808:=by
 unfold rdN at h
 cases hr:rdU s a with
 | none=>rw[hr] at h;cases h
 | some x =>
   obtain⟨v',b'⟩:=x
   rw[hr] at h
   by_cases hv:v' < 9223372036854775808
   ·simp only[if_pos hv,Option.some.injEq,Prod.mk.injEq] at h
    obtain⟨rfl,rfl⟩:=h
    obtain⟨h1,h2,h3,_⟩:=ZV hr
    exact⟨h1,h2,h3,hv⟩
   ·simp only[if_neg hv] at h
    cases h
theorem iE {p r:ByteArray}{n a:Nat}(ha:a=p.size)(hn:n<9223372036854775808):rdN (p++(uns n++r)) a=some (n,a+(uns n).size):=by
 unfold rdN
 rw[yx (s:=r) ha (by omega)]
 simp only[if_pos hn]
theorem KH {s x:ByteArray}{a b:Nat}(h:rdT s a=some (x,b)):a<b/\b<=s.size/\s.extract a b=text x:=by
 unfold rdT at h
 cases hr:rdN s a with
 | none=>rw[hr] at h;cases h
 | some y =>
   obtain⟨n,a'⟩:=y
   rw[hr] at h
   obtain⟨h1,h2,h3,_⟩:=En hr
   by_cases hv:n<=s.size-a'
   ·simp only[if_pos hv,Option.some.injEq,Prod.mk.injEq] at h
    obtain⟨rfl,rfl⟩:=h
    refine⟨by omega,by omega,?_⟩
    rw[Em s a a' (a' + n) (by omega) (by omega),h3]
    unfold text
    rw[ByteArray.size_extract,show min (a' + n) s.size-a' = n by omega]
   ·simp only[if_neg hv] at h
    cases h
theorem ru {p x r:ByteArray}{a:Nat}(ha:a=p.size)(hn:x.size<9223372036854775808):rdT (p++(text x++r)) a=some (x,a+(text x).size):=by
 unfold rdT text
 rw[ByteArray.append_assoc,iE ha hn]
 have hz:(p++(uns x.size++(x++r))).size=p.size+((uns x.size).size+(x.size+r.size)):=by simp only[Sha.Ab]
 have h1:x.size<=(p++(uns x.size++(x++r))).size-(a+(uns x.size).size):=by rw[hz];omega
 simp only[if_pos h1]
 congr 2
 ·apply Sha.Bl
  rw[ZU,Sha.Bf,Sha.Bf,Sha.Bf]
  have h2:a+(uns x.size).size=(p.data.toList++(uns x.size).data.toList).length:=by rw[List.length_append,Sha.Aq,Sha.Aq,ha]
  rw[h2,<- List.append_assoc,List.drop_left,<- Sha.Aq x,List.take_left]
 ·rw[Sha.Ab];omega
theorem WE {s:ByteArray} : ∀ {n a b:Nat} {l:List ByteArray},a<=s.size->Me s n a=some (l,b)->a<=b/\b<=s.size/\s.extract a b=cat (l.map text)/\l.length=n
 | 0,a,b,l,ha,h => by
   simp only[Me,Option.some.injEq,Prod.mk.injEq] at h
   obtain⟨rfl,rfl⟩:=h
   refine⟨Nat.le_refl _,ha,?_,rfl⟩
   apply Sha.Bl
   rw[Sha.Ba,Nat.sub_self]
   rfl
 | n + 1,a,b,l,ha,h => by
   unfold Me at h
   cases hr:rdT s a with
   | none=>rw[hr] at h;cases h
   | some y =>
     obtain⟨x,a'⟩:=y
     rw[hr] at h
     obtain⟨h1,h2,h3⟩:=KH hr
     cases hq:Me s n a' with
     | none=>simp only[hq] at h;cases h
     | some z =>
       obtain⟨l',b'⟩:=z
       simp only[hq,Option.some.injEq,Prod.mk.injEq] at h
       obtain⟨rfl,rfl⟩:=h
       obtain⟨g1,g2,g3,g4⟩:=WE h2 hq
       refine⟨by omega,g2,?_,by simp[g4]⟩
       rw[Em s a a' b' (by omega) g1,h3,g3]
       rfl
theorem kS {r:ByteArray} : ∀ (l:List ByteArray) (p:ByteArray) (a:Nat),a=p.size->(∀ x∈l,x.size<9223372036854775808)->Me (p++(cat (l.map text)++r)) l.length a=some (l,a+(cat (l.map text)).size)
 | [],p,a,_,_=>rfl
 | x :: l,p,a,ha,hx => by
   have e:p++(cat ((x::l).map text)++r)=p++(text x++(cat (l.map text)++r)):=by
    show p++((text x++cat (l.map text))++r)=_
    rw[ByteArray.append_assoc]
   have e2:p++(text x++(cat (l.map text)++r))=(p++text x)++(cat (l.map text)++r):=by rw[ByteArray.append_assoc]
   rw[e]
   show Me _ (l.length+1) a=_
   unfold Me
   rw[ru ha (hx x List.mem_cons_self)]
   simp only
   rw[e2,kS l (p++text x) (a+(text x).size) (by rw[Sha.Ab,ha]) (fun y hy=>hx y (List.mem_cons_of_mem _ hy))]
   simp only[Option.some.injEq,Prod.mk.injEq,true_and]
   show _=a+(text x++cat (l.map text)).size
   rw[Sha.Ab]
   omega
theorem TL (l:List ByteArray):l.length<=(cat (l.map text)).size:=by
 induction l with
 | nil=>exact Nat.zero_le _
 | cons x l ih =>
   show _<=(text x++cat (l.map text)).size
   have h1:0<(text x).size:=by unfold text;rw[Sha.Ab];have:=uP x.size;omega
   rw[Sha.Ab,List.length_cons]
   omega
theorem Eb {s:ByteArray}{a b:Nat}{l:List ByteArray}(h:AO s a=some (l,b)):a<b/\b<=s.size/\s.extract a b=texts l:=by
 unfold AO at h
 cases hr:rdN s a with
 | none=>rw[hr] at h;cases h
 | some y =>
   obtain⟨n,a'⟩:=y
   rw[hr] at h
   obtain⟨h1,h2,h3,_⟩:=En hr
   by_cases hv:n<=s.size-a'
   ·simp only[if_pos hv] at h
    obtain⟨g1,g2,g3,g4⟩:=WE h2 h
    refine⟨by omega,g2,?_⟩
    rw[Em s a a' b (by omega) g1,h3,g3,<- g4]
    rfl
   ·simp only[if_neg hv] at h
    cases h
theorem J7 {p r:ByteArray}{l:List ByteArray}{a:Nat}(ha:a=p.size)(hl:l.length<9223372036854775808)(hx:∀ x∈l,x.size<9223372036854775808):AO (p++(texts l++r)) a=some (l,a+(texts l).size):=by
 unfold AO texts
 rw[ByteArray.append_assoc,iE ha hl]
 have hz:(p++(uns l.length++(cat (l.map text)++r))).size=p.size+((uns l.length).size+((cat (l.map text)).size+r.size)):=by simp only[Sha.Ab]
 have hc:=TL l
 simp only[if_pos (show l.length<=(p++(uns l.length++(cat (l.map text)++r))).size-(a+(uns l.length).size) by rw[hz];omega)]
 have e2:p++(uns l.length++(cat (l.map text)++r))=(p++uns l.length)++(cat (l.map text)++r):=by rw[ByteArray.append_assoc]
 rw[e2,kS l _ _ (by rw[Sha.Ab,ha]) hx]
 simp only[Option.some.injEq,Prod.mk.injEq,true_and,Sha.Ab]
 omega
end Cod
def Gg (l:List ByteArray):Bool:=l.all fun r=>decide (r.size=32)
theorem KI (s:ByteArray):s++⟨#[]⟩=s:=by
 apply Sha.Bl
 rw[Sha.Bf]
 simp
theorem Nk (s:ByteArray):(⟨#[]⟩:ByteArray)++s=s:=by
 apply Sha.Bl
 rw[Sha.Bf]
 simp
structure Obj where
 kind:Int
 refs:List ByteArray
 data:ByteArray
def Obj.none:Obj:=⟨0,[],⟨#[]⟩⟩
def okO (o:Obj):Bool:=decide (0<=o.kind)&&decide (o.kind<=15)&&decide (o.refs.length<=64)&&decide (o.data.size<=65536)&&Gg o.refs
theorem Dv {o:Obj}(h:okO o=true):0<=o.kind/\o.kind<=15/\o.refs.length<=64/\o.data.size<=65536/\∀ r∈o.refs,r.size=32:=by
 unfold okO Gg at h
 simp only[Bool.and_eq_true,decide_eq_true_eq,List.all_eq_true] at h
 exact⟨h.1.1.1.1,h.1.1.1.2,h.1.1.2,h.1.2,h.2⟩
def BJ (o:Obj):ByteArray:=Cod.uns o.kind.toNat++(Cod.texts o.refs++Cod.text o.data)
def Dn (s:ByteArray):Option Obj:=match Cod.rdN s 0 with
 | some (k,a) => match Cod.AO s a with
   | some (l,b) => match Cod.rdT s b with
     | some (x,c)=>if c=s.size/\okO ⟨k,l,x⟩=true then some ⟨k,l,x⟩ else none
     | none=>none
   | none=>none
 | none=>none
theorem uQ (o:Obj)(h:okO o=true):Dn (BJ o)=some o:=by
 obtain⟨h1,h2,h3,h4,h5⟩:=Dv h
 obtain⟨k,l,x⟩:=o
 obtain⟨n,rfl⟩:∃ n:Nat,k=n:=⟨k.toNat,by simp only at h1;omega⟩
 simp only at h1 h2 h3 h4 h5
 have e0:BJ ⟨n,l,x⟩=⟨#[]⟩++(Cod.uns n++(Cod.texts l++Cod.text x)):=by rw[Nk];rfl
 have e1:BJ ⟨n,l,x⟩=Cod.uns n++(Cod.texts l++Cod.text x):=rfl
 have e2:BJ ⟨n,l,x⟩=(Cod.uns n++Cod.texts l)++(Cod.text x++⟨#[]⟩):=by rw[KI,e1,ByteArray.append_assoc]
 have r1:Cod.rdN (BJ ⟨n,l,x⟩) 0=some (n,0+(Cod.uns n).size):=by
  rw[e0]
  exact Cod.iE rfl (by omega)
 have r2:Cod.AO (BJ ⟨n,l,x⟩) (0+(Cod.uns n).size)=some (l,0+(Cod.uns n).size+(Cod.texts l).size):=by
  rw[e1]
  exact Cod.J7 (by omega) (by omega) (fun y hy=>by have:=h5 y hy;omega)
 have r3:Cod.rdT (BJ ⟨n,l,x⟩) (0+(Cod.uns n).size+(Cod.texts l).size)=some (x,0+(Cod.uns n).size+(Cod.texts l).size+(Cod.text x).size):=by
  rw[e2]
  exact Cod.ru (by rw[Sha.Ab];omega) (by omega)
 unfold Dn
 rw[r1]
 simp only[r2,r3]
 rw[if_pos ⟨by rw[e1];simp only[Sha.Ab];omega,h⟩]
theorem uR {s:ByteArray}{o:Obj}(h:Dn s=some o):okO o=true/\BJ o=s:=by
 unfold Dn at h
 cases h1:Cod.rdN s 0 with
 | none=>rw[h1] at h;cases h
 | some y =>
   obtain⟨k,a⟩:=y
   simp only[h1] at h
   cases h2:Cod.AO s a with
   | none=>simp only[h2] at h;cases h
   | some y =>
     obtain⟨l,b⟩:=y
     simp only[h2] at h
     cases h3:Cod.rdT s b with
     | none=>simp only[h3] at h;cases h
     | some y =>
       obtain⟨x,c⟩:=y
       simp only[h3] at h
       by_cases hc:c=s.size/\okO ⟨k,l,x⟩=true
       ·rw[if_pos hc] at h
        cases h
        refine⟨hc.2,?_⟩
        obtain⟨p1,p2,p3,_⟩:=Cod.En h1
        obtain⟨q1,q2,q3⟩:=Cod.Eb h2
        obtain⟨t1,t2,t3⟩:=Cod.KH h3
        show Cod.uns ((k:Int).toNat)++(Cod.texts l++Cod.text x)=s
        rw[Int.toNat_natCast,<- p3,<- q3,<- t3,<- Cod.Em s a b c (by omega) (by omega),<- Cod.Em s 0 a c (by omega) (by omega),hc.1]
        apply Sha.Bl
        rw[Sha.Ba,List.drop_zero,Nat.sub_zero,List.take_of_length_le (by rw[Sha.Aq];exact Nat.le_refl _)]
       ·rw[if_neg hc] at h
        cases h
theorem iF (l:List ByteArray)(h:∀ r∈l,r.size=32):(Cod.texts l).size<=10+42*l.length:=by
 have h1:∀ l:List ByteArray,(∀ r∈l,r.size=32)->(Cod.cat (l.map Cod.text)).size<=42*l.length:=by
  intro l
  induction l with
  | nil=>intro _;exact Nat.le_refl _
  | cons x l ih =>
    intro h
    have h2:=ih (fun r hr=>h r (List.mem_cons_of_mem _ hr))
    have h3:=h x List.mem_cons_self
    have h4:=Cod.Cu x.size
    show(Cod.text x++Cod.cat (l.map Cod.text)).size<=_
    have h5:(Cod.text x).size=(Cod.uns x.size).size+x.size:=by unfold Cod.text;rw[Sha.Ab]
    rw[Sha.Ab,h5,List.length_cons]
    omega
 have h6:=h1 l h
 have h7:=Cod.Cu l.length
 unfold Cod.texts
 rw[Sha.Ab]
 omega
namespace Own
def Bt (a b:ByteArray):Bool:=Op.bytesLess a.toList b.toList
end Own
theorem WG:∀ x:List UInt8,Op.bytesLess x x=false
 | []=>rfl
 | a :: x => by
   unfold Op.bytesLess
   rw[WG x]
   simp
theorem ZW:∀ x y z:List UInt8,Op.bytesLess x y=true->Op.bytesLess y z=true->Op.bytesLess x z=true
 | _,[],_,h,_=>by unfold Op.bytesLess at h;cases h
 | _,_::_,[],_,h=>by unfold Op.bytesLess at h;cases h
 | [],_::_,_::_,_,_=>rfl
 | a :: x,b :: y,c :: z,h1,h2 => by
   unfold Op.bytesLess at h1 h2 ⊢
   simp only[Bool.or_eq_true,Bool.and_eq_true,decide_eq_true_eq,beq_iff_eq] at h1 h2 ⊢
   rcases h1 with h1|⟨rfl,h1⟩
   ·rcases h2 with h2|⟨rfl,h2⟩
    ·exact .inl (UInt8.lt_trans h1 h2)
    ·exact .inl h1
   ·rcases h2 with h2|⟨rfl,h2⟩
    ·exact .inl h2
    ·exact .inr ⟨rfl,ZW x y z h1 h2⟩
theorem rz:∀ x y:List UInt8,Op.bytesLess x y=false->Op.bytesLess y x=false->x=y
 | [],[],_,_=>rfl
 | [],_::_,h,_=>by unfold Op.bytesLess at h;cases h
 | _::_,[],_,h=>by unfold Op.bytesLess at h;cases h
 | a :: x,b :: y,h1,h2 => by
   unfold Op.bytesLess at h1 h2
   simp only[Bool.or_eq_false_iff,Bool.and_eq_false_iff,decide_eq_false_iff_not,beq_eq_false_iff_ne] at h1 h2
   obtain⟨h1a,h1b⟩:=h1
   obtain⟨h2a,h2b⟩:=h2
   have e:a=b:=UInt8.le_antisymm (UInt8.not_lt.1 h2a) (UInt8.not_lt.1 h1a)
   subst e
   rw[rz x y (h1b.resolve_left (fun h=>h rfl)) (h2b.resolve_left (fun h=>h rfl))]
namespace Own
theorem CJ (x:ByteArray):Bt x x=false:=WG _
theorem KJ {x y z:ByteArray}(h1:Bt x y=true)(h2:Bt y z=true):Bt x z=true:=ZW _ _ _ h1 h2
theorem toList_inj {x y:ByteArray}(h:x.toList=y.toList):x=y:=by
 rw[ByteArray.toList_eq,ByteArray.toList_eq] at h
 exact Sha.Bl h
theorem WH {x y:ByteArray}(h1:Bt x y=false)(h2:Bt y x=false):x=y:=toList_inj (rz _ _ h1 h2)
theorem ZX {x y:ByteArray}(h:Bt x y=true):Bt y x=false:=by
 cases h2:Bt y x with
 | false=>rfl
 | true=>have:=KJ h h2;rw[CJ] at this;cases this
section
variable {α : Type} (f : α -> ByteArray)
def Srt (l:List α):Prop:=l.Pairwise fun x y=>Bt (f x) (f y)=true
def BH (x : α):List α -> List α
 | []=>[x]
 | y::l=>if Bt (f y) (f x) then y::BH x l else if f y=f x then x::l else x::y::l
variable {f}
theorem Oh (x : α):∀ (l:List α) (y : α),y∈BH f x l->y=x\/y∈l
 | [],y,h=>.inl (by simpa [BH] using h)
 | z :: l,y,h => by
   unfold BH at h
   split at h
   ·rcases List.mem_cons.1 h with rfl|h
    ·exact .inr List.mem_cons_self
    ·exact(Oh x l y h).imp id (List.mem_cons_of_mem _)
   ·split at h
    ·exact(List.mem_cons.1 h).imp id (List.mem_cons_of_mem _)
    ·exact List.mem_cons.1 h
theorem Srt.put (x : α):∀ {l:List α},Srt f l->Srt f (BH f x l)
 | [],_=>List.pairwise_singleton _ _
 | y :: l,h => by
   obtain⟨h1,h2⟩:=List.pairwise_cons.1 h
   unfold BH
   split
   ·rename_i hy
    refine List.pairwise_cons.2 ⟨fun z hz=>?_,Srt.put x h2⟩
    rcases Oh x l z hz with rfl|hz
    ·exact hy
    ·exact h1 z hz
   ·rename_i hy
    have hy' : Bt (f y) (f x)=false:=by simpa using hy
    split
    ·rename_i he
     exact List.pairwise_cons.2 ⟨fun z hz=>by rw[<- he];exact h1 z hz,h2⟩
    ·rename_i he
     have hxy:Bt (f x) (f y)=true:=by
      cases hc:Bt (f x) (f y) with
      | true=>rfl
      | false=>exact absurd (WH hy' hc) he
     refine List.pairwise_cons.2 ⟨fun z hz=>?_,h⟩
     rcases List.mem_cons.1 hz with rfl|hz
     ·exact hxy
     ·exact KJ hxy (h1 z hz)
end
end Own
end
section
open Go
namespace Sto
open Own (Bt Srt BH)
structure Val where
 name:ByteArray
 data:ByteArray
structure St where
 objs:List Obj
 ents:List ByteArray
 vals:List Val
def St.none:St:=⟨[],[],[]⟩
structure SOp where
 kind:Int
 obj:Obj
 name:ByteArray
 data:ByteArray
def dig (o:Obj):ByteArray:=Sha.sha (⟨#[7]⟩++BJ o)
def EU (s:ByteArray):Bool:=decide (1<=s.size)&&decide (s.size<=64)
def Jd (x:Val):Bool:=EU x.name&&decide (1<=x.data.size)&&decide (x.data.size<=65536)
def D6 (x:SOp):Bool:=
 if x.kind=0 then okO x.obj
 else if x.kind=1 then decide (x.name.size=32)
 else if x.kind=2 then decide (x.data.size<=65536)
 else if x.kind=3 then EU x.name&&decide (x.data.size<=65536)
 else false
structure Bw (s:St):Prop where
 o1:s.objs.length<=1024
 e1:s.ents.length<=4096
 v1:s.vals.length<=1024
 ok:∀ o∈s.objs,okO o=true
 os:Srt dig s.objs
 es:∀ e∈s.ents,e.size<=65536
 vk:∀ v∈s.vals,Jd v=true
 vs:Srt Val.name s.vals
theorem Bw.none:Bw St.none:=⟨Nat.zero_le _,Nat.zero_le _,Nat.zero_le _,(fun _ h=>by cases h),List.Pairwise.nil,(fun _ h=>by cases h),(fun _ h=>by cases h),List.Pairwise.nil⟩
def without {α : Type}(f : α -> ByteArray)(t:ByteArray)(l:List α):List α :=l.filter fun x => !decide (f x=t)
def has {α : Type}(f : α -> ByteArray)(t:ByteArray)(l:List α):Bool:=l.any fun x=>decide (f x=t)
def move (s:St)(x:SOp):Except Int St:=
 if x.kind=0 then .ok (if has dig (dig x.obj) s.objs then s else { s with objs:=BH dig x.obj s.objs })
 else if x.kind=1 then (if has dig x.name s.objs then .ok { s with objs:=without dig x.name s.objs } else .error 6)
 else if x.kind=2 then .ok { s with ents:=s.ents++[x.data] }
 else .ok { s with vals:=if x.data.size=0 then without Val.name x.name s.vals else BH Val.name ⟨x.name,x.data⟩ s.vals }
def small (s:St):Bool:=decide (s.objs.length<=1024)&&decide (s.ents.length<=4096)&&decide (s.vals.length<=1024)
def step (s:St)(x:SOp):Except Int St:=match move s x with
 | .error c=>.error c
 | .ok t=>if small t then .ok t else .error 7
def steps:List SOp->St->Except Int St
 | [],s=>.ok s
 | x :: l,s => match step s x with
   | .error c=>.error c
   | .ok t=>steps l t
def txn (s:St)(l:List SOp):Except Int St:=if l.all D6 then steps l s else .error 1
/-! ### valid states stay valid -/
theorem TM {α : Type}{f : α -> ByteArray}{p : α -> Bool}{l:List α}(h:Srt f l):Srt f (l.filter p):=List.Pairwise.filter p h
theorem QA {α : Type}{f : α -> ByteArray}{t:ByteArray}{l:List α}{x : α}(h:x∈without f t l):x∈l:=(List.mem_filter.1 h).1
theorem GA {s:St} : small s=true↔s.objs.length<=1024/\s.ents.length<=4096/\s.vals.length<=1024:=by
 unfold small
 simp only[Bool.and_eq_true,decide_eq_true_eq]
 exact⟨fun h=>⟨h.1.1,h.1.2,h.2⟩,fun h=>⟨⟨h.1,h.2.1⟩,h.2.2⟩⟩
theorem RF {x:SOp}(h:D6 x=true):x.kind=0\/x.kind=1\/x.kind=2\/x.kind=3:=by
 unfold D6 at h
 by_cases h0:x.kind=0
 ·exact .inl h0
 ·by_cases h1:x.kind=1
  ·exact .inr (.inl h1)
  ·by_cases h2:x.kind=2
   ·exact .inr (.inr (.inl h2))
   ·by_cases h3:x.kind=3
    ·exact .inr (.inr (.inr h3))
    ·rw[if_neg h0,if_neg h1,if_neg h2,if_neg h3] at h
     cases h
theorem uS {s t:St}{x:SOp}(hs:Bw s)(hx:D6 x=true)(h:move s x=.ok t)(hz:small t=true):Bw t:=by
 obtain⟨z1,z2,z3⟩:=GA.1 hz
 have hx':=hx
 unfold D6 at hx'
 unfold move at h
 by_cases h0:x.kind=0
 ·rw[if_pos h0] at h hx'
  by_cases hh:has dig (dig x.obj) s.objs=true
  ·rw[if_pos hh] at h
   cases h
   exact hs
  ·rw[if_neg hh] at h
   cases h
   exact⟨z1,z2,z3,fun o ho=>(Own.Oh x.obj s.objs o ho).elim (fun e=>by rw[e];exact hx') (hs.ok o),hs.os.put x.obj,hs.es,hs.vk,hs.vs⟩
 rw[if_neg h0] at h hx'
 by_cases h1:x.kind=1
 ·rw[if_pos h1] at h
  by_cases hh:has dig x.name s.objs=true
  ·rw[if_pos hh] at h
   cases h
   exact⟨z1,z2,z3,fun o ho=>hs.ok o (QA ho),TM hs.os,hs.es,hs.vk,hs.vs⟩
  ·rw[if_neg hh] at h
   cases h
 rw[if_neg h1] at h hx'
 by_cases h2:x.kind=2
 ·rw[if_pos h2] at h hx'
  cases h
  refine⟨z1,z2,z3,hs.ok,hs.os,fun e he=>?_,hs.vk,hs.vs⟩
  rcases List.mem_append.1 he with he|he
  ·exact hs.es e he
  ·rw[List.mem_singleton.1 he]
   exact of_decide_eq_true hx'
 rw[if_neg h2] at h hx'
 have h3:x.kind=3:=by rcases RF hx with h|h|h|h<;>first|exact h|exact absurd h h0|exact absurd h h1|exact absurd h h2
 rw[if_pos h3,Bool.and_eq_true,decide_eq_true_eq] at hx'
 by_cases hd:x.data.size=0
 ·rw[if_pos hd] at h
  cases h
  exact⟨z1,z2,z3,hs.ok,hs.os,hs.es,fun v hv=>hs.vk v (QA hv),TM hs.vs⟩
 ·rw[if_neg hd] at h
  cases h
  refine⟨z1,z2,z3,hs.ok,hs.os,hs.es,fun v hv=>(Own.Oh _ _ v hv).elim (fun e=>?_) (hs.vk v),hs.vs.put _⟩
  rw[e]
  unfold Jd
  rw[hx'.1,decide_eq_true hx'.2,decide_eq_true (show 1<=x.data.size by omega)]
  rfl
theorem step_ok {s t:St}{x:SOp}(hs:Bw s)(hx:D6 x=true)(h:step s x=.ok t):Bw t:=by
 unfold step at h
 cases hm:move s x with
 | error c=>rw[hm] at h;cases h
 | ok u =>
   rw[hm] at h
   dsimp only at h
   split at h
   ·rename_i hz
    cases h
    exact uS hs hx hm hz
   ·cases h
theorem ZY:∀ (l:List SOp) {s t:St},Bw s->(∀ x∈l,D6 x=true)->steps l s=.ok t->Bw t
 | [],s,t,hs,_,h => by
   cases h
   exact hs
 | x :: l,s,t,hs,hl,h => by
   unfold steps at h
   cases hm:step s x with
   | error c=>rw[hm] at h;cases h
   | ok u =>
     rw[hm] at h
     exact ZY l (step_ok hs (hl x List.mem_cons_self) hm) (fun y hy=>hl y (List.mem_cons_of_mem _ hy)) h
theorem Yi {s t:St}{l:List SOp}(hs:Bw s)(h:txn s l=.ok t):Bw t:=by
 unfold txn at h
 split at h
 ·rename_i hl
  exact ZY l hs (List.all_eq_true.1 hl) h
 ·cases h
/-! ### an element of its own key -/
theorem LJ {α : Type}{f : α -> ByteArray}{t:ByteArray}{l:List α} : has f t l=true↔∃ x∈l,f x=t:=by
 unfold has
 rw[List.any_eq_true]
 constructor
 ·rintro⟨x,h1,h2⟩
  exact⟨x,h1,of_decide_eq_true h2⟩
 ·rintro⟨x,h1,h2⟩
  exact⟨x,h1,decide_eq_true h2⟩
theorem uT {α : Type}{f : α -> ByteArray}{l:List α}(h:Srt f l){x y : α}(hx:x∈l)(hy:y∈l)(e:f x=f y):x=y:=by
 obtain⟨i,hi,rfl⟩:=List.getElem_of_mem hx
 obtain⟨j,hj,rfl⟩:=List.getElem_of_mem hy
 have hs:=List.pairwise_iff_getElem.1 h
 rcases Nat.lt_trichotomy i j with g|g|g
 ·have:=hs i j hi hj g;rw[e,Own.CJ] at this;cases this
 ·subst g;rfl
 ·have:=hs j i hj hi g;rw[e,Own.CJ] at this;cases this
def look {α : Type}(f : α -> ByteArray)(t:ByteArray)(l:List α):Option α :=l.find? fun x=>decide (f x=t)
theorem aj {α : Type}{f : α -> ByteArray}{l:List α}(h:Srt f l){x : α}(hx:x∈l):look f (f x) l=some x:=by
 unfold look
 cases hf:l.find? fun y=>decide (f y=f x) with
 | none =>
   have:=List.find?_eq_none.1 hf x hx
   simp at this
 | some y =>
   have h1:=List.mem_of_find?_eq_some hf
   have h2:f y=f x:=by
    have h3:=List.find?_some hf
    exact of_decide_eq_true h3
   rw[uT h h1 hx h2]
end Sto
namespace Sto
def Mg (x:SOp):List ByteArray:=if x.kind=0 then [BJ x.obj] else if x.kind=1 then [x.name] else if x.kind=2 then [x.data] else [x.name,x.data]
def Bv (x:SOp):ByteArray:=Cod.uns x.kind.toNat++Cod.texts (Mg x)
def Ca (l:List SOp):ByteArray:=Cod.uns l.length++Cod.cat (l.map Bv)
def V6:Nat->List ByteArray->Option SOp
 | 0,[y] => match Dn y with
   | some o=>some ⟨0,o,⟨#[]⟩,⟨#[]⟩⟩
   | none=>none
 | 1,[y]=>some ⟨1,Obj.none,y,⟨#[]⟩⟩
 | 2,[y]=>some ⟨2,Obj.none,⟨#[]⟩,y⟩
 | 3,[y,z]=>some ⟨3,Obj.none,y,z⟩
 | _,_=>none
def Dc (s:ByteArray)(a:Nat):Option (SOp × Nat):=match Cod.rdN s a with
 | none=>none
 | some (k,b) => match Cod.AO s b with
   | none=>none
   | some (l,c) => match V6 k l with
     | none=>none
     | some x=>some (x,c)
def EX (s:ByteArray):Nat->Nat->Option (List SOp × Nat)
 | 0,a=>some ([],a)
 | n + 1,a => match Dc s a with
   | none=>none
   | some (x,b) => match EX s n b with
     | none=>none
     | some (l,c)=>some (x::l,c)
def D7 (s:ByteArray):Option (List SOp):=match Cod.rdN s 0 with
 | none=>none
 | some (n,a) => if s.size < n then none else match EX s n a with
   | none=>none
   | some (l,e)=>if e=s.size then some l else none
theorem EI {o:Obj}(h:okO o=true):(BJ o).size<=80000:=by
 obtain⟨h1,h2,h3,h4,h5⟩:=Dv h
 have hz:∀ l:List ByteArray,(∀ r∈l,r.size=32)->(Cod.cat (l.map Cod.text)).size<=42*l.length:=by
  intro l
  induction l with
  | nil=>intro _;exact Nat.le_refl _
  | cons r l ih =>
    intro hr
    have i1:=ih fun x hx=>hr x (List.mem_cons_of_mem _ hx)
    have i2:=hr r List.mem_cons_self
    have i3:=Cod.Cu r.size
    rw[List.map_cons,Cod.cat,Sha.Ab,Cod.text,Sha.Ab,List.length_cons]
    omega
 have z:=hz o.refs h5
 have u1:=Cod.Cu o.kind.toNat
 have u2:=Cod.Cu o.refs.length
 have u3:=Cod.Cu o.data.size
 unfold BJ Cod.texts
 rw[Sha.Ab,Sha.Ab,Sha.Ab,Cod.text,Sha.Ab]
 omega
theorem WJ {x:SOp}(h:D6 x=true):(Mg x).length<=2/\∀ y∈Mg x,y.size<=80000:=by
 have hk:=RF h
 unfold D6 at h
 unfold Mg
 rcases hk with e|e|e|e
 ·rw[if_pos e] at h ⊢
  exact⟨by simp,fun y hy=>by rw[List.mem_singleton.1 hy];exact EI h⟩
 ·rw[if_neg (by omega),if_pos e] at h ⊢
  have h:=of_decide_eq_true h
  exact⟨by simp,fun y hy=>by rw[List.mem_singleton.1 hy];omega⟩
 ·rw[if_neg (by omega),if_neg (by omega),if_pos e] at h ⊢
  have h:=of_decide_eq_true h
  exact⟨by simp,fun y hy=>by rw[List.mem_singleton.1 hy];omega⟩
 ·rw[if_neg (by omega),if_neg (by omega),if_neg (by omega)] at h ⊢
  rw[if_pos e] at h
  unfold EU at h
  simp only[Bool.and_eq_true,decide_eq_true_eq] at h
  refine⟨by simp,fun y hy=>?_⟩
  rcases List.mem_cons.1 hy with hy|hy
  ·rw[hy];omega
  ·rw[List.mem_singleton.1 hy];omega
/-! ### states -/
def Bj (l:List Val):List ByteArray:=l.flatMap fun v=>[v.name,v.data]
def Ad (s:St):ByteArray:=Cod.texts (s.objs.map BJ)++(Cod.texts s.ents++Cod.texts (Bj s.vals))
def Ce:List ByteArray->Option (List Obj)
 | []=>some []
 | x :: l => match Dn x with
   | none=>none
   | some o => match Ce l with
     | none=>none
     | some k=>some (o::k)
def pairUp:List ByteArray->Option (List Val)
 | []=>some []
 | [_]=>none
 | x :: y :: l => match pairUp l with
   | none=>none
   | some k=>some (⟨x,y⟩::k)
def Mh (s:ByteArray):Option St:=match Cod.AO s 0 with
 | none=>none
 | some (os,a) => match Cod.AO s a with
   | none=>none
   | some (es,b) => match Cod.AO s b with
     | none=>none
     | some (vs,c) => if c = s.size then (match Ce os with
       | none=>none
       | some k => match pairUp vs with
         | none=>none
         | some v=>some ⟨k,es,v⟩) else none
theorem TQ:∀ l:List Obj,(∀ o∈l,okO o=true)->Ce (l.map BJ)=some l
 | [],_=>rfl
 | o :: l,h => by
   rw[List.map_cons]
   unfold Ce
   rw[uQ o (h o List.mem_cons_self),TQ l fun x hx=>h x (List.mem_cons_of_mem _ hx)]
theorem TS:∀ l:List Val,pairUp (Bj l)=some l
 | []=>rfl
 | v :: l => by
   show pairUp (v.name::v.data::Bj l)=_
   unfold pairUp
   rw[TS l]
theorem Gc:∀ l:List Val,(Bj l).length=2*l.length
 | []=>rfl
 | v :: l => by
   show(Bj l).length+2=2*(l.length+1)
   rw[Gc l]
   omega
theorem KL {l:List Val}{n:Nat}(h:∀ v∈l,v.name.size<=n/\v.data.size<=n):∀ x∈Bj l,x.size<=n:=fun x hx=>by
 unfold Bj at hx
 obtain⟨v,hv,h2⟩:=List.mem_flatMap.1 hx
 rcases List.mem_cons.1 h2 with h3|h3
 ·rw[h3];exact(h v hv).1
 ·rw[List.mem_singleton.1 h3];exact(h v hv).2
theorem zaH {s:St}(h:Bw s):Mh (Ad s)=some s:=by
 have hv:∀ v∈s.vals,v.name.size<=65536/\v.data.size<=65536:=fun v hv=>by
  have h1:=h.vk v hv
  unfold Jd EU at h1
  simp only[Bool.and_eq_true,decide_eq_true_eq] at h1
  omega
 have z1:∀ x∈s.objs.map BJ,x.size<9223372036854775808:=fun x hx=>by
  obtain⟨o,ho,rfl⟩:=List.mem_map.1 hx
  have:=EI (h.ok o ho)
  omega
 have l1:(s.objs.map BJ).length<9223372036854775808:=by rw[List.length_map];have:=h.o1;omega
 have z2:∀ x∈s.ents,x.size<9223372036854775808:=fun x hx=>by have:=h.es x hx;omega
 have l2:s.ents.length<9223372036854775808:=by have:=h.e1;omega
 have z3:∀ x∈Bj s.vals,x.size<9223372036854775808:=fun x hx=>by have:=KL hv x hx;omega
 have l3:(Bj s.vals).length<9223372036854775808:=by rw[Gc];have:=h.v1;omega
 have e1:Ad s=(⟨#[]⟩:ByteArray)++(Cod.texts (s.objs.map BJ)++(Cod.texts s.ents++Cod.texts (Bj s.vals))):=by rw[Nk];rfl
 have e2:Ad s=Cod.texts (s.objs.map BJ)++(Cod.texts s.ents++Cod.texts (Bj s.vals)):=rfl
 have e3:Ad s=(Cod.texts (s.objs.map BJ)++Cod.texts s.ents)++(Cod.texts (Bj s.vals)++⟨#[]⟩):=by rw[KI,e2,ByteArray.append_assoc]
 have r1:Cod.AO (Ad s) 0=some (s.objs.map BJ,(Cod.texts (s.objs.map BJ)).size):=by
  have h1:=Cod.J7 (p:=⟨#[]⟩) (r:=Cod.texts s.ents++Cod.texts (Bj s.vals)) (a:=0) rfl l1 z1
  rw[e1,h1,Nat.zero_add]
 have r2:Cod.AO (Ad s) (Cod.texts (s.objs.map BJ)).size=some (s.ents,(Cod.texts (s.objs.map BJ)++Cod.texts s.ents).size):=by
  rw[e2,Cod.J7 rfl l2 z2,Sha.Ab]
 have r3:Cod.AO (Ad s) (Cod.texts (s.objs.map BJ)++Cod.texts s.ents).size=some (Bj s.vals,(Ad s).size):=by
  rw[e3,Cod.J7 rfl l3 z3,KI,Sha.Ab _ (Cod.texts (Bj s.vals))]
 unfold Mh
 rw[r1]
 dsimp only
 rw[r2]
 dsimp only
 rw[r3]
 dsimp only
 rw[if_pos rfl,TQ _ h.ok]
 dsimp only
 rw[TS]
end Sto
end
section
open Go Go.RowKit
namespace Sha
theorem mV (x y:Int):bits .or .u32 x y=bits .or .u32 y x:=by simp only[bits,BitVec.or_comm]
theorem mW (x k:Int)(h0:0<=k)(h1:k<=32):bits .or .u32 (x/2^k.toNat) (x*2^(32-k).toNat%4294967296)=rotl x (32-k):=by
 rw[mV,rotl,show(32-(32-k)).toNat=k.toNat by omega]
def byt (s:ByteArray)(j:Nat):Int:=((s.data.toList.getD j 0).toNat:Int)
theorem KM (s:ByteArray)(j:Nat):0<=byt s j/\byt s j<256:=by
 have:=(s.data.toList.getD j 0).toNat_lt
 unfold byt
 omega
theorem Oi (s:ByteArray)(j:Nat)(h:j<s.size):((s[j]).toNat:Int)=byt s j:=by
 have:j<s.data.toList.length:=by simpa using h
 rw[byt,List.getD_eq_getElem?_getD,List.getElem?_eq_getElem this]
 rfl
theorem J8 (x y:Int)(i:Nat)(h0:0<=x)(h1:x<4294967296)(hi:x%2^i=0)(hy0:0<=y)(hy:y<2^i)(hy1:y<4294967296):bits .or .u32 x y=x+y:=
 bits_join .u32 32 (by decide) wraps_u32 i x y h0 hi h1 hy0 hy hy1
theorem rA (s:ByteArray)(i:Nat):acc s i 4=byt s (4*i)*16777216+byt s (4*i+1)*65536+byt s (4*i+2)*256+byt s (4*i+3):=by
 have b0:=KM s (4*i);have b1:=KM s (4*i+1);have b2:=KM s (4*i+2);have b3:=KM s (4*i+3)
 have e1:acc s i 1=byt s (4*i):=by
  show bits .or .u32 (0*256%4294967296) (byt s (4*i+0))=_
  rw[Nat.add_zero,J8 _ _ 8 (by decide) (by decide) (by decide) b0.1 b0.2 (by omega)]
  omega
 have e2:acc s i 2=byt s (4*i)*256+byt s (4*i+1):=by
  show bits .or .u32 (acc s i 1*256%4294967296) (byt s (4*i+1))=_
  rw[e1,J8 _ _ 8 (by omega) (by omega) (by show _%256=0;omega) b1.1 b1.2 (by omega)]
  omega
 have e3:acc s i 3=byt s (4*i)*65536+byt s (4*i+1)*256+byt s (4*i+2):=by
  show bits .or .u32 (acc s i 2*256%4294967296) (byt s (4*i+2))=_
  rw[e2,J8 _ _ 8 (by omega) (by omega) (by show _%256=0;omega) b2.1 b2.2 (by omega)]
  omega
 show bits .or .u32 (acc s i 3*256%4294967296) (byt s (4*i+3))=_
 rw[e3,J8 _ _ 8 (by omega) (by omega) (by show _%256=0;omega) b3.1 b3.2 (by omega)]
 omega
theorem uU (a b c d:Int)(ha:0<=a/\a<256)(hb:0<=b/\b<256)(hc:0<=c/\c<256)(hd:0<=d/\d<256):
 bits .or .u32 (bits .or .u32 (bits .or .u32 (a*16777216) (b*65536)) (c*256)) d=a*16777216+b*65536+c*256+d:=by
 rw[J8 (a*16777216) (b*65536) 24 (by omega) (by omega) (by show _%16777216=0;omega) (by omega) (by show _<16777216;omega) (by omega),
  J8 _ (c*256) 16 (by omega) (by omega) (by show _%65536=0;omega) (by omega) (by show _<65536;omega) (by omega),
  J8 _ d 8 (by omega) (by omega) (by show _%256=0;omega) (by omega) (by show _<256;omega) (by omega)]
theorem mX (s:ByteArray)(k:Nat)(h:4*k+3<s.size):
 bits .or .u32 (bits .or .u32 (bits .or .u32 ((s[4*k].toNat:Int)%4294967296*16777216%4294967296) ((s[4*k+1].toNat:Int)%4294967296*65536%4294967296)) ((s[4*k+2].toNat:Int)%4294967296*256%4294967296)) ((s[4*k+3].toNat:Int)%4294967296)=acc s k 4:=by
 have b0:=KM s (4*k);have b1:=KM s (4*k+1);have b2:=KM s (4*k+2);have b3:=KM s (4*k+3)
 rw[Oi s (4*k) (by omega),Oi s (4*k+1) (by omega),Oi s (4*k+2) (by omega),Oi s (4*k+3) (by omega),rA,<- uU _ _ _ _ b0 b1 b2 b3]
 congr 1
 ·congr 1
  ·congr 1
   ·omega
   ·omega
  ·omega
 ·omega
theorem KO (s:ByteArray)(n j:Nat)(h:j<n):((sched s n).map (Value.int .u32))[j]? = some (.int .u32 ((sched s n).getD j 0)):=by
 rw[List.getElem?_map,List.getElem?_eq_getElem (by rw[Bc];exact h),List.getD_eq_getElem?_getD,List.getElem?_eq_getElem (by rw[Bc];exact h)]
 rfl
end Sha
theorem kT {w:World}{base n size:Nat}{e:TypeId}{v:Value}{xs:List Value}(h:w.ownsRow base e size v n xs)(hn:0<n):∃ g cap,v=.slice (some ⟨g,0,none⟩) n cap/\∀ i x,xs[i]? = some x->w.cell? ⟨g,i,none⟩=some x:=by
 obtain⟨hl,⟨_,h0⟩|⟨g,cap,cur,rfl,_,hc,_,_,hcs,ht⟩⟩:=h
 ·omega
 ·refine⟨g,cap,rfl,fun i x hx=>?_⟩
  rw[At.cell hc i,<- Array.getElem?_toList]
  rw[<- ht,List.getElem?_take] at hx
  split at hx
  ·exact hx
  ·cases hx
theorem rC:(Tryz.prog.info? 204).map (fun i=>(i.zero,i.size,i.bytes))=some (some (.int .u32 0),1,4):=by kernel_rfl
theorem Eo (x k r:Int)(w:World)(h0:0<=k)(h1:k<=32)(hr:r=32-k)(hx0:0<=x)(hx:x<4294967296):
 Calls Tryz.prog 189 #[.int .u32 x,.int .i64 k] w fun e w' => e=.returned (.int .u32 (Sha.rotl x r))/\∃ n,w' = w.drewN n:=by
 subst hr
 refine(pq x k w h0 h1 hx0 hx).mono ?_
 rintro e w' ⟨rfl,n,rfl⟩
 exact⟨by rw[Sha.mW x k h0 h1],n,rfl⟩
theorem iG (w:World):
 Calls Tryz.prog 188 #[] w fun e w' => e=.returned (.slice (some ⟨w.heap.size,0,none⟩) 64 64)/\At w' w.heap.size 204 (Sha.row Sha.K)/\Below w.heap.size w w':=by
 go_enter Tryz.func188,Tryz.ntmps188
 go_wp2
 go_ret
 exact⟨rfl,At.new _ _ _,zb⟩
theorem iH (s:ByteArray)(w:World)(hs:s.size=64):
 Calls Tryz.prog 187 #[.string s] w fun e w' => ∃ v,e=.returned v/\w'.ownsRow w.heap.size 204 1 v 64 ((Sha.sched s 64).map (Value.int .u32))/\Below w.heap.size w w':=by
 go_enter Tryz.func187,Tryz.ntmps187
 go_wp2_with fail
 obtain⟨i0,hi,hz0,hz1,hz2⟩:=info_parts rC
 go_loopw [3,4] (fun v i wr=>∃ k:Nat,k<=16/\i=.int .i64 ((4*k:Nat):Int)/\wr.ownsRow w.heap.size 204 1 v k ((Sha.sched s k).map (Value.int .u32))/\Below w.heap.size w wr) (fun _ i _=>64-(intOf i).toNat)
 case atStart=>exact⟨0,by omega,rfl,⟨rfl,.inr ⟨w.heap.size,0,#[],rfl,Nat.le_refl _,At.new _ _ _,Nat.le_refl _,by decide,rfl,rfl⟩⟩,zb⟩
 case round=>
  obtain⟨k,hk,rfl,hv,hb⟩:=hrel
  have HV:=zh hv;have HB:=zh hb;clear hv hb
  by_cases hlt:k<16
  ·have dk:decide (((4*k:Nat):Int)<64)=true:=by simp;omega
   go_wp2
   refine Lex.zl ?_
   go_wp2_with (at_builtin;go_must (refine wpList_append_own_at _ rfl _ _ 205 rfl w.heap.size 204 i0 (.int .u32 0) 1 4 Tryz.underlying205 hi hz0 hz1 hz2 rfl (by omega) _ k ((Sha.sched s k).map (Value.int .u32)) rfl (HV.out.alloc _).drew ⟨wr.heap.size,0,none⟩ 1 1 [.int .u32 (Sha.acc s k 4)] rfl rfl ?c1 ?c2 ?c3 ?c4 ?c5 ?_))
   case c1=>
    intro j u hj
    match j,hj with
    | 0,hj=>simp at hj;subst hj;rw[<- Sha.mX s k (by omega)];simp[Addr.add]
   case c2=>intro u hu;simp at hu;subst hu;rfl
   case c3=>unfold maxLen;omega
   case c4=>omega
   case c5=>have:=HB.out.size;simp;omega
   intro v2 w15 how hg _ hb'
   have Oj:Below w.heap.size w w15:=Cw (HB.out.alloc HB.out.size _).drew (by have:=HB.out.size;simp;omega) HV.out hg
   have rD:Sha.sched s (k+1)=Sha.sched s k++[Sha.acc s k 4]:=by rw[Sha.sched,Sha.step,Sha.Bc,if_pos hlt]
   have rE:=zh Oj;have HOW:=zh how;have HSC:=zh rD;clear how hg hb' Oj rD
   go_wp2
   refine Lex.ze ?_
   go_wp2_with fail
   refine⟨⟨k+1,by omega,by go_num,by rw[HSC.out,List.map_append];exact HOW.out,rE.out⟩,by simp[intOf];omega⟩
  ·have hk' : k=16:=by omega
   have dk:decide (((4*k:Nat):Int)<64)=false:=by simp;omega
   have HK:=zh hk';clear hk'
   go_wp2
   go_loopw [3,5] (fun v i wr=>∃ k:Nat,16<=k/\k<=64/\i=.int .i64 k/\wr.ownsRow w.heap.size 204 1 v k ((Sha.sched s k).map (Value.int .u32))/\Below w.heap.size w wr) (fun _ i _=>64-(intOf i).toNat)
   case atStart=>
    have hv:=HV.out
    rw[HK.out] at hv
    exact⟨16,by omega,by omega,rfl,hv,HB.out⟩
   case round=>
    obtain⟨j,hj1,hj2,rfl,hv,hb⟩:=hrel
    by_cases zcY:j<64
    ·have dj:decide ((j:Int)<64)=true:=by simp;omega
     obtain⟨g,cap,rfl,hc⟩:=kT hv (by omega)
     have c2:=hc _ _ (Sha.KO s j (j-2) (by omega))
     have c7:=hc _ _ (Sha.KO s j (j-7) (by omega))
     have c15:=hc _ _ (Sha.KO s j (j-15) (by omega))
     have c16:=hc _ _ (Sha.KO s j (j-16) (by omega))
     have b2:=Sha.DX s j (j-2)
     have b7:=Sha.DX s j (j-7)
     have b15:=Sha.DX s j (j-15)
     have b16:=Sha.DX s j (j-16)
     have hnx:Sha.nxt (Sha.sched s j)=(Sha.ss ((Sha.sched s j).getD (j-2) 0) 15 13 10+(Sha.sched s j).getD (j-7) 0+Sha.ss ((Sha.sched s j).getD (j-15) 0) 25 14 3+(Sha.sched s j).getD (j-16) 0)%4294967296:=by
      simp only[Sha.nxt,Sha.Bc]
     have rD:Sha.sched s (j+1)=Sha.sched s j++[Sha.nxt (Sha.sched s j)]:=by rw[Sha.sched,Sha.step,Sha.Bc,if_neg (by omega)]
     generalize (Sha.sched s j).getD (j-2) 0=x2 at*
     generalize (Sha.sched s j).getD (j-7) 0=x7 at*
     generalize (Sha.sched s j).getD (j-15) 0=x15 at*
     generalize (Sha.sched s j).getD (j-16) 0=x16 at*
     have HVV:=zh hv;have HBB:=zh hb;have HNX:=zh hnx;have HSC:=zh rD;have HC:=zh hc;clear hv hb hnx rD hc
     go_wp2
     refine Lex.zl ?_
     go_wp2
     refine Lex.ze ?_
     go_wp2_with fail
     refine(Eo x15 7 25 _ (by omega) (by omega) (by omega) b15.1 b15.2).mono ?_
     rintro e1 w1 ⟨rfl,n1,rfl⟩
     go_wp2_with fail
     refine(Eo x15 18 14 _ (by omega) (by omega) (by omega) b15.1 b15.2).mono ?_
     rintro e2 w2 ⟨rfl,n2,rfl⟩
     go_wp2_with fail
     refine(Eo x2 17 15 _ (by omega) (by omega) (by omega) b2.1 b2.2).mono ?_
     rintro e3 w3 ⟨rfl,n3,rfl⟩
     go_wp2_with fail
     refine(Eo x2 19 13 _ (by omega) (by omega) (by omega) b2.1 b2.2).mono ?_
     rintro e4 w4 ⟨rfl,n4,rfl⟩
     go_wp2
     refine Lex.zl ?_
     go_wp2_with (at_builtin;go_must (refine wpList_append_own_at _ rfl _ _ 205 rfl w.heap.size 204 i0 (.int .u32 0) 1 4 Tryz.underlying205 hi hz0 hz1 hz2 rfl (by omega) _ j ((Sha.sched s j).map (Value.int .u32)) rfl (World.ownsRow.alloc (by exact HVV.out) _).drew ⟨wr.heap.size,0,none⟩ 1 1 [.int .u32 (Sha.nxt (Sha.sched s j))] rfl rfl ?c1 ?c2 ?c3 ?c4 ?c5 ?_))
     case c1=>
      intro j u hj
      match j,hj with
      | 0,hj=>simp at hj;subst hj;rw[HNX.out];simp[Addr.add,Sha.ss,Sha.x32];exact(At.new (wr.drewN (1+n1+n2+n3+n4+1)) 204 _).cell 0
     case c2=>intro u hu;simp at hu;subst hu;rfl
     case c3=>unfold maxLen;omega
     case c4=>omega
     case c5=>have:=HBB.out.size;simp;omega
     intro v2 w15 how hg _ hb'
     have Oj:Below w.heap.size w w15:=Cw ((below_drewN HBB.out _).alloc (by have:=HBB.out.size;exact this) _) (by have:=HBB.out.size;simp;exact Nat.le_succ_of_le this) HVV.out hg
     have rE:=zh Oj;have HOW:=zh how;clear how hg hb' Oj
     go_wp2
     refine Lex.ze ?_
     go_wp2
     go_roundw
     case rel=>
      have hrel:∃ k:Nat,16<=k/\k<=64/\Value.int .i64 ((j:Int)+1)=.int .i64 k/\w15.ownsRow w.heap.size 204 1 v2 k ((Sha.sched s k).map (Value.int .u32))/\Below w.heap.size w w15:=
       ⟨j+1,by omega,by omega,by go_num,by rw[HSC.out,List.map_append];exact HOW.out,rE.out⟩
      (repeat apply Exists.intro)
      exact⟨hrel,rfl⟩
     case measure=>simp[intOf];omega
    ·have hj:j=64:=by omega
     have dj:decide ((j:Int)<64)=false:=by simp;omega
     have HJ:=zh hj;have HVV:=zh hv;have HBB:=zh hb;clear hj hv hb
     go_wp2
     go_ret
     have hv:=HVV.out
     rw[HJ.out] at hv
     exact⟨_,rfl,hv,HBB.out⟩
theorem V7 (v:List Int)(b cap:Nat)(s:ByteArray)(w:World)(hv:Sha.Word v)(hs:s.size=64)(hat:At w b 204 (Sha.row v)):
 Calls Tryz.prog 138 #[.slice (some ⟨b,0,none⟩) 8 cap,.string s] w fun e w' => ∃ g,e=.returned (.slice (some ⟨g,0,none⟩) 8 8)/\At w' g 204 (Sha.row (Sha.block v s))/\w.heap.size<=g/\Below w.heap.size w w':=by
 have hv0:=hv
 obtain⟨x0,x1,x2,x3,x4,x5,x6,x7,rfl,b0,b1,b2,b3,b4,b5,b6,b7⟩:=hv.lit
 have hlt:=hat.lt
 go_enter Tryz.func138,Tryz.ntmps138
 go_wp2_with fail
 refine(iH s _ hs).mono ?_
 rintro e w1 ⟨vs,rfl,ho,hb1⟩
 obtain⟨gs,cs,rfl,hcs⟩:=kT ho (by omega)
 have hgs:=(jZ ho).1
 have HCS:=zh hcs;have HB1:=zh hb1;have HO:=zh ho;clear hcs hb1 ho
 go_wp2_with fail
 refine(iG _).mono ?_
 rintro e w2 ⟨rfl,hk,hb2⟩
 have ha2:=(hat.below HB1.out hlt).below hb2 (Nat.lt_of_lt_of_le hlt HB1.out.size)
 have HA2:=zh ha2
 simp only[Sha.row,List.map_cons,List.map_nil] at ha2
 have c0:=ha2.cell 0;have c1:=ha2.cell 1;have c2:=ha2.cell 2;have c3:=ha2.cell 3;have c4:=ha2.cell 4;have c5:=ha2.cell 5;have c6:=ha2.cell 6;have c7:=ha2.cell 7
 simp only[zg] at c0 c1 c2 c3 c4 c5 c6 c7
 have hcs2:∀ k,k<64->w2.cell? ⟨gs,k,none⟩=some (.int .u32 ((Sha.sched s 64).getD k 0)):=fun k hk=>by
  have h1:=HCS.out _ _ (Sha.KO s 64 k hk)
  have hgl:=(jZ HO.out).2
  exact(hb2.cell (p:=⟨gs,k,none⟩) hgl).trans h1
 have HK:=zh hk;have HB2:=zh hb2;have HS:=zh hcs2
 clear hk hb2 hcs2 ha2 HCS hat
 have hsz1:=HB1.out.size;have hsz2:=HB2.out.size
 obtain⟨gk,hgk⟩:∃ gk,gk=w1.heap.size:=⟨_,rfl⟩
 rw[<- hgk] at HK ⊢
 have HGK:=zh hgk;clear hgk
 go_wp2
 refine Lex.zl ?_
 go_wp2
 refine Lex.ze ?_
 go_wp2
 go_loopw [7,8,9,10,11,12,13,14,15] (fun va vb vc vd ve vf vg vh i wr=>∃ (k:Nat) (y0 y1 y2 y3 y4 y5 y6 y7:Int),k<=64/\i=.int .i64 k/\va=.int .u32 y0/\vb=.int .u32 y1/\vc=.int .u32 y2/\vd=.int .u32 y3/\ve=.int .u32 y4/\vf=.int .u32 y5/\vg=.int .u32 y6/\vh=.int .u32 y7/\
  Sha.rounds (Sha.sched s 64) [x0,x1,x2,x3,x4,x5,x6,x7] k=[y0,y1,y2,y3,y4,y5,y6,y7]/\∃ q,wr=w2.drewN q) (fun _ _ _ _ _ _ _ _ i _=>64-(intOf i).toNat)
 case atStart=>exact⟨0,x0,x1,x2,x3,x4,x5,x6,x7,by omega,rfl,rfl,rfl,rfl,rfl,rfl,rfl,rfl,rfl,rfl,_,rfl⟩
 case round=>
  obtain⟨k,y0,y1,y2,y3,y4,y5,y6,y7,hk,rfl,rfl,rfl,rfl,rfl,rfl,rfl,rfl,rfl,hy,q,rfl⟩:=hrel
  have hwd:=hv.rounds (Sha.sched s 64) k
  rw[hy] at hwd
  obtain⟨z0,z1,z2,z3,z4,z5,z6,z7,hz,d0,d1,d2,d3,d4,d5,d6,d7⟩:=hwd.lit
  obtain⟨rfl,rfl,rfl,rfl,rfl,rfl,rfl,rfl⟩:y0=z0/\y1=z1/\y2=z2/\y3=z3/\y4=z4/\y5=z5/\y6=z6/\y7=z7:=by simpa using hz
  clear hz hwd
  have HY:=zh hy;clear hy
  by_cases pG:k<64
  ·have dk:decide ((k:Int)<64)=true:=by simp;omega
   have kw:w2.cell? ⟨gs,k,none⟩=some (.int .u32 ((Sha.sched s 64).getD k 0)):=HS.out k pG
   have kk:w2.cell? ⟨gk,k,none⟩=some (.int .u32 (Sha.K.getD k 0)):=(HK.out.cell k).trans (Sha.wW k pG)
   have hst:Sha.rounds (Sha.sched s 64) [x0,x1,x2,x3,x4,x5,x6,x7] (k+1)=Sha.rnd [y0,y1,y2,y3,y4,y5,y6,y7] (Sha.K.getD k 0) ((Sha.sched s 64).getD k 0):=by rw[<- HY.out];rfl
   have bw:=Sha.DX s 64 k
   have HST:=zh hst;clear hst
   generalize (Sha.sched s 64).getD k 0=W at*
   generalize Sha.K.getD k 0=KK at*
   clear c0 c1 c2 c3 c4 c5 c6 c7
   go_wp2
   refine Lex.zn (fun _=>True) [22,27] 28 [3,2,3] ?_
   simp only[Lex.Bh,zd]
   go_wp2_with fail
   refine(Eo y4 6 26 _ (by omega) (by omega) (by omega) d4.1 d4.2).mono ?_
   rintro e1 w5 ⟨rfl,n1,rfl⟩
   go_wp2
   refine Lex.Mid.intro (fun b _ _=>rfl) ?_
   go_wp2_with fail
   refine(Eo y4 11 21 _ (by omega) (by omega) (by omega) d4.1 d4.2).mono ?_
   rintro e2 w6 ⟨rfl,n2,rfl⟩
   go_wp2
   refine Lex.Mid.intro (fun b _ _=>rfl) ?_
   go_wp2_with fail
   refine(Eo y4 25 7 _ (by omega) (by omega) (by omega) d4.1 d4.2).mono ?_
   rintro e3 w7 ⟨rfl,n3,rfl⟩
   go_wp2
   refine Lex.Mid.intro (fun b _ _=>rfl) ?_
   go_wp2
   refine Lex.zk ?_ ?_
   ·refine⟨⟨trivial,?_⟩,⟨trivial,?_⟩,trivial⟩
    ·show(w2.cell? ⟨gk,k,none⟩).isSome=true
     rw[kk];rfl
    ·show(w2.cell? ⟨gs,k,none⟩).isSome=true
     rw[kw];rfl
   go_wp2_with fail
   refine(Eo y0 2 30 _ (by omega) (by omega) (by omega) d0.1 d0.2).mono ?_
   rintro e4 w8 ⟨rfl,n4,rfl⟩
   go_wp2_with fail
   refine(Eo y0 13 19 _ (by omega) (by omega) (by omega) d0.1 d0.2).mono ?_
   rintro e5 w9 ⟨rfl,n5,rfl⟩
   go_wp2_with fail
   refine(Eo y0 22 10 _ (by omega) (by omega) (by omega) d0.1 d0.2).mono ?_
   rintro e6 w10 ⟨rfl,n6,rfl⟩
   go_wp2
   exact⟨⟨k+1,_,y0,y1,y2,_,y4,y5,y6,by omega,by go_num,rfl,rfl,rfl,rfl,rfl,rfl,rfl,rfl,HST.out,_,rfl⟩,by simp[intOf];omega⟩
  ·have hk' : k=64:=by omega
   have dk:decide ((k:Int)<64)=false:=by simp;omega
   have hbl:Sha.block [x0,x1,x2,x3,x4,x5,x6,x7] s=[(x0+y0)%4294967296,(x1+y1)%4294967296,(x2+y2)%4294967296,(x3+y3)%4294967296,(x4+y4)%4294967296,(x5+y5)%4294967296,(x6+y6)%4294967296,(x7+y7)%4294967296]:=by
    have:=HY.out
    rw[hk'] at this
    rw[Sha.block,this]
    rfl
   have HBL:=zh hbl;clear hbl hk'
   go_wp2
   refine Lex.zl ?_
   go_wp2
   refine Lex.ze ?_
   go_wp2
   go_ret
   rw[HBL.out]
   refine⟨w2.heap.size,rfl,At.new (w2.drewN (q+1)) _ _,by omega,?_⟩
   exact(below_drewN (HB1.out.trans (HB2.out.mono hsz1)) _).alloc (by show w.heap.size<=w2.heap.size;omega) _
def Gl (w:World)(base:Nat)(v:Value)(xs:List Value):Prop:=
 ∃ g cap cur fz,v=.slice (some ⟨g,0,none⟩) xs.length cap/\base<=g/\w.heap[g]? = some (.cells cur 5 fz)/\(fz.2=0\/cur.size<=fz.1)/\cur.size=cap/\xs.length<=cap/\cap<=maxLen/\cur.toList.take xs.length=xs
theorem Yj {w:World}{b i:Nat}{cs:Array Value}{T:TypeId}{fr:Nat × Nat}(hb:w.heap[b]? = some (.cells cs T fr))(v:Value):(w.setCell ⟨b,i,none⟩ v).heap[b]? = some (.cells (cs.setIfInBounds i v) T fr):=by
 simp[World.setCell,Array.getElem?_modify,hb]
theorem kU:(Tryz.prog.info? 5).map (fun i=>(i.zero,i.size,i.bytes))=some (some (.int .u8 0),1,1):=by kernel_rfl
theorem Gl.below {w w' : World}{base:Nat}{v:Value}{xs:List Value}(h:Gl w base v xs)(hb:Below w.heap.size w w'):Gl w' base v xs:=by
 obtain⟨g,cap,cur,fz,rfl,h1,h2,h3⟩:=h
 exact⟨g,cap,cur,fz,rfl,h1,(hb.block g (Array.getElem?_eq_some_iff.1 h2).1).trans h2,h3⟩
theorem Gl.len {w:World}{base:Nat}{v:Value}{xs:List Value}(h:Gl w base v xs):∃ g cap,v=.slice (some ⟨g,0,none⟩) xs.length cap:=by
 obtain⟨g,cap,_,_,rfl,_⟩:=h
 exact⟨g,cap,rfl⟩
theorem Gl.below_grown {w0 w w' : World}{base:Nat}{v:Value}{xs:List Value}(h:Gl w base v xs)(hb:Below base w0 w)(hB:base<=w.heap.size){w1:World}(hw:Below base w0 w1)(hB1:base<=w1.heap.size)(hg:w1.grownBy w' v.ownBlock):Below base w0 w':=by
 refine hw.grown hg hB1 fun k hk=>?_
 obtain⟨g,cap,cur,fz,rfl,h1,_⟩:=h
 simp[Value.ownBlock] at hk
 omega
theorem TU {w:World}{base:Nat}{v:Value}{xs:List Value}(h:Gl w base v xs)(t ty:TypeId)(ht:Tryz.prog.underlying t=some (.slice 5))(a:Addr)(c:Nat)(u:Value)(hu:w.cell? (a.add 0)=some u)(h1:u.oneCell' = true)
 (hlen:xs.length+1<=140737488355328) (hb:base<=w.heap.size):
 ∃ v' w',(Builtin.append_ #[t,t] ty #[v,.slice (some a) 1 c]).run Tryz.prog w=.ok v' w' /\ Gl w' base v' (xs++[u])/\w.grownBy w' v.ownBlock:=by
 obtain⟨i,hi,hz0,hz1,hz2⟩:=info_parts kU
 obtain⟨g,cap,cur,fz,rfl,hbg,hg,hfz,hcs,hle,hcm,htake⟩:=h
 have hnews:∀ j (x:Value),[u][j]? = some x->w.cell? (a.add j)=some x:=by
  intro j x hj
  match j,hj with
  | 0,hj=>simp at hj;subst hj;exact hu
 have hone:∀ x∈[u],x.oneCell' = true:=by intro x hx;simp at hx;subst hx;exact h1
 by_cases hroom:xs.length+1<=cap
 ·have hlt:xs.length<cur.size:=by omega
  have hr:=run_append_room_src (P:=Tryz.prog) (w:=w) t t ty 5 i ht hi g 0 xs.length cap (.slice (some a) 1 c) 1 [u] (Src.ofSlice w ht a 1 c [u] (by rw[hz1];rfl) hnews hone) hroom
   (fun j hj => by
     obtain rfl:j=0:=by simpa using hj
     rw[hz1]
     simp[World.cell?,hg,hlt])
   (fun j hj => by
     obtain rfl:j=0:=by simpa using hj
     rw[hz1]
     obtain⟨lo,hi'⟩:=fz
     simp only at hfz
     simp only[World.frozen?,hg,Bool.and_eq_false_iff,decide_eq_false_iff_not]
     omega)
  rw[hz1,Nat.zero_add,Nat.mul_one] at hr
  have e:w.setCells g xs.length [u]=w.setCell ⟨g,xs.length,none⟩ u:=rfl
  rw[e] at hr
  refine⟨_,_,hr,⟨g,cap,cur.setIfInBounds xs.length u,fz,by rw[List.length_append];rfl,hbg,Yj hg u,by simpa using hfz,by simpa using hcs,by simpa using hroom,hcm,?_⟩,⟨rfl,rfl,rfl,by simp,fun k _ hk=>heap_setCell_other w _ k u (fun e=>hk (by simp[Value.ownBlock,e]))⟩⟩
  rw[List.length_append,Array.toList_setIfInBounds,List.length_singleton,List.take_succ_eq_append_getElem (by simpa using hlt),List.take_set_of_le (by omega),htake]
  simp
 ·have holds : ∀ j x,xs[j]? = some x → w.cell? ((⟨g,0,none⟩ : Addr).add j) = some x :=by
   intro j x hj
   have hadd:(⟨g,0,none⟩:Addr).add j=⟨g,j,none⟩:=by unfold Addr.add;split<;>simp_all
   rw[hadd,cell_of_row w g j cur 5 fz hg,<- Array.getElem?_toList]
   rw[<- htake,List.getElem?_take] at hj
   split at hj
   ·exact hj
   ·cases hj
  have hr:=run_append_grow (P:=Tryz.prog) w t ty 5 i (.int .u8 0) ht hi hz0 ⟨g,0,none⟩ xs.length cap xs (by rw[hz1,Nat.mul_one]) holds a 1 c [u] (by rw[hz1];rfl) hnews (by omega) (by omega) (growslice_fits (by omega) (by rw[hz2];omega))
  have hge:=grownCap_ge w (xs.length+1) cap 5
  have hcm2:grownCap w (xs.length+1) cap 5<=maxLen:=grownCap_le_maxLen w (xs.length+1) cap 5 (by unfold maxLen;omega)
  refine⟨_,_,hr,⟨w.heap.size,_,_,(0,0),by rw[List.length_append];rfl,hb,heap_alloc_new w.drew _,.inl rfl,?_,by simpa using hge,hcm2,?_⟩,⟨rfl,rfl,rfl,by simp,fun k hk _=>heap_alloc_old w.drew _ hk⟩⟩
  ·simp[size_zeroCells,Value.cells]
   omega
  ·simp only[Array.toList_append,List.append_assoc]
   rw[<- List.append_assoc]
   exact List.take_left
theorem Ip {w:World}{ops:Array Oper}{rest:List Oper}{o:Oper}{a:Act}{Q:Exit->Act->World->Prop}(hgd:o.guard=none)(s x:Operand)(t:TypeId)
 (ho:o.op=.call { callee:=.builtin .append,args:=#[s,x],argTypes:=#[t,t] }) (ht:Tryz.prog.underlying t=some (.slice 5)) (base:Nat) (v:Value) (xs:List Value) (hs:a.eval s=v) (h:Gl w base v xs)
 (ad:Addr) (c:Nat) (u:Value) (hx:a.eval x=.slice (some ad) 1 c) (hu:w.cell? (ad.add 0)=some u) (h1:u.oneCell' = true) (hlen:xs.length+1<=140737488355328) (hb:base<=w.heap.size)
 (hK:∀ v' w',Gl w' base v' (xs++[u])->w.grownBy w' v.ownBlock->wpList Tryz.prog ops Q rest (a.put o.dst v') w'):wpList Tryz.prog ops Q (o::rest) a w:=by
 refine wpList_plain hgd fun K hK' => ?_
 obtain⟨v',w',hr,h2,h3⟩:=TU h t o.type ht ad c u hu h1 hlen hb
 unfold Oper.wp execOp
 simp only[ho,resolve,invoke,builtin,Sem.run_bind,Sem.run_pure,Result.andThen_ok,List.map_toArray,List.map_cons,List.map_nil,hs,hx,hr]
 exact hK' _ _ (hK v' w' h2 h3)
def J9 (s:ByteArray):List Value:=s.data.toList.map fun b=>Value.int .u8 b.toNat
theorem Iq (s:ByteArray):(J9 s).length=s.size:=by
 unfold J9
 rw[List.length_map,Array.length_toList]
 rfl
theorem mY (w:World)(s:ByteArray)(hs:s.size<=140737488355328):Gl (Lib.bytesWorld w 5 s) w.heap.size (.slice (some ⟨w.heap.size,0,none⟩) s.size (grownCap w s.size 0 5)) (J9 s)/\Below w.heap.size w (Lib.bytesWorld w 5 s):=by
 have hge:=grownCap_ge w s.size 0 5
 have hcm:grownCap w s.size 0 5<=maxLen:=grownCap_le_maxLen w s.size 0 5 (by unfold maxLen;omega)
 have hsz:(Lib.bytesCells w 5 s).size=grownCap w s.size 0 5:=by
  unfold Lib.bytesCells
  rw[Array.size_append,Array.size_map,Array.size_replicate]
  show s.size+_=_
  omega
 refine⟨⟨w.heap.size,_,_,_,by rw[Iq],Nat.le_refl _,Lib.bytesWorld_at_new w 5 s,.inr (Nat.le_refl _),hsz,by rw[Iq];exact hge,hcm,?_⟩,⟨rfl,rfl,rfl,by rw[Lib.bytesWorld_size];omega,fun k hk=>Lib.bytesWorld_at_old w 5 s k hk⟩⟩
 unfold Lib.bytesCells
 rw[Array.toList_append,Array.toList_map]
 exact List.take_left' (by rw[Iq,List.length_map,Array.length_toList];rfl)
end
section
open Go
namespace Lex
section
variable {P:Program} {Q:Exit->Act->World->Prop}
def Ord (ops:Array Oper):Nat->Array Bool->List Nat->Prop
 | 0,_,l=>l=[]
 | n+1,listed,l=>(Region.ready .any ops listed=[]/\l=[])\/∃ i l',i∈Region.ready .any ops listed/\l=i::l' /\ Ord ops n (listed.setIfInBounds i true) l'
def TV (P:Program)(ops:Array Oper)(Q:Exit->Act->World->Prop)(a:Act)(w:World):Prop:=∀ l,Ord ops ops.size (Array.replicate ops.size false) l->wpOps P ops Q l a w
theorem rF (ops:Array Oper):∀ (n t:Nat) (listed:Array Bool),Ord ops n listed (Region.linearise.go .any ops n t listed [])
 | 0,t,listed=>by simp[Region.linearise.go,Ord]
 | n + 1,t,listed => by
   simp only[Region.linearise.go]
   change Ord ops (n+1) listed (match (Region.ready .any ops listed)[t%(Region.ready .any ops listed).length]? with
    | some i=>Region.linearise.go .any ops n (t/(Region.ready .any ops listed).length) (listed.setIfInBounds i true) [i]
    | none=>[].reverse)
   cases hi:(Region.ready .any ops listed)[t%(Region.ready .any ops listed).length]? with
   | none =>
     have hnil:Region.ready .any ops listed=[]:=by
      cases hr:Region.ready .any ops listed with
      | nil=>rfl
      | cons x xs =>
        rw[hr] at hi
        have hlt:t%(x::xs).length<(x::xs).length:=Nat.mod_lt _ (by simp)
        simp at hi
        simp at hlt
        omega
     exact .inl ⟨hnil,rfl⟩
   | some i =>
     simp only[]
     rw[linearise_go_acc,List.reverse_singleton,List.singleton_append]
     exact .inr ⟨i,_,List.mem_of_getElem? hi,rfl,rF ops n _ _⟩
theorem Ua {id:Nat}{l:List Oper}{a:Act}{w:World}(hm:P.follows .mixedOrders=true)(h:TV P l.toArray Q a w.drew):(Code.region id l.toArray true).wp P Q a w:=
 wp_region_draw fun t=>by
  simp only[Region.schedule,hm,Bool.true_or,if_true]
  exact h _ (rF _ _ _ _)
theorem kV {ops:Array Oper} : ∀ (n:Nat) (listed:Array Bool) (l:List Nat) (a:Act) (w:World),wpAny P .any ops Q n listed a w->Ord ops n listed l->wpOps P ops Q l a w
 | 0,_,l,a,w,h,ho => by
   have ho:l=[]:=ho
   subst ho
   exact h.2
 | n + 1,listed,l,a,w,h,ho => by
   rcases ho with ⟨hr,rfl⟩|⟨i,l',hi,rfl,ho⟩
   ·exact h.1 hr
   ·rw[wpOps_cons]
    exact wpOp_mono (fun a w hh=>kV n _ _ a w hh ho) (h.2 i hi)
theorem TV.post {ops:Array Oper}{Q1 Q2:Exit->Act->World->Prop}{a:Act}{w:World}(hQ:∀ e a w,Q1 e a w->Q2 e a w)(h:TV P ops Q1 a w):TV P ops Q2 a w:=fun l hl=>Dh hQ l a w (h l hl)
theorem ak {l:List Oper}{a:Act}{w:World}(hA:Zr P l.toArray=true)(h:wpList P l.toArray (Ends P l.toArray Q) l a w):TV P l.toArray Q a w:=
 TV.post (Q1:=Ag P l.toArray (fun _=>False) w [] Q) (fun e a' w' he=>by obtain⟨rfl,_,_,h⟩:=he;exact h) (fun o ho=>kV _ _ _ a w (Na hA h) ho)
/-! ### Operations that differ in their places alone -/
def Alike (f:Nat->Nat)(n:Nat)(ops ops' : Array Oper):Prop:=∀ i,i<n->∃ o o' : Oper,ops[i]? = some o/\ops'[f i]? = some o' /\ o'.dst=o.dst/\o'.op=o.op/\o'.type=o.type/\o'.pos=o.pos/\(match o.guard with|none=>o'.guard=none|some (j,b)=>j<n/\o'.guard=some (f j,b))
theorem uV {o o' : Oper}(h1:o'.dst=o.dst)(h2:o'.op=o.op)(h3:o'.type=o.type)(h4:o'.pos=o.pos){a:Act}{w:World}{K:Act->World->Prop} : (o'.wp P a w K Q↔o.wp P a w K Q)/\(o'.asks P a w↔o.asks P a w):=by
 obtain⟨d,op,ty,ps,af,gd⟩:=o
 obtain⟨d',op',ty',ps',af',gd'⟩:=o'
 dsimp only at h1 h2 h3 h4
 subst h1 h2 h3 h4
 exact⟨Iff.rfl,Iff.rfl⟩
theorem rG {f:Nat->Nat}{n:Nat}{ops ops' : Array Oper}(hA:Alike f n ops ops'){i:Nat}(hi:i<n){K:Act->World->Prop}{a:Act}{w:World}(h:wpOp P ops' Q (f i) K a w):wpOp P ops Q i K a w:=by
 obtain⟨o,o',h1,h2,h3,h4,h5,h6,h7⟩:=hA i hi
 unfold wpOp at h ⊢
 rw[h2] at h
 rw[h1]
 dsimp only at h ⊢
 have hw:Region.wanted o' (yielded ops' a.tmps)=Region.wanted o (yielded ops a.tmps):=by
  unfold Region.wanted
  cases hg:o.guard with
  | none=>rw[hg] at h7;dsimp only at h7;rw[h7]
  | some g =>
    obtain⟨j,b⟩:=g
    rw[hg] at h7
    dsimp only at h7
    rw[h7.2]
    dsimp only
    obtain⟨u,u',g1,g2,g3,_⟩:=hA j h7.1
    unfold yielded
    rw[g1,g2]
    dsimp only[Option.bind_some]
    rw[g3]
 rw[hw,h3] at h
 obtain⟨q1,q2⟩:=uV (P:=P) (Q:=Q) h3 h4 h5 h6 (a:=a) (w:=w) (K:=K)
 split
 ·rename_i hc
  rw[if_pos hc] at h
  exact h.imp q1.1 (fun h=>⟨q2.1 h.1,h.2⟩)
 ·rename_i hc
  rw[if_neg hc] at h
  exact h
theorem LK {f:Nat->Nat}{n:Nat}{ops ops' : Array Oper}(hA:Alike f n ops ops'):∀ (l:List Nat) (a:Act) (w:World),(∀ i∈l,i<n)->wpOps P ops' Q (l.map f) a w->wpOps P ops Q l a w
 | [],_,_,_,h=>h
 | i :: l,a,w,hl,h => by
   rw[List.map_cons,wpOps_cons] at h
   rw[wpOps_cons]
   exact wpOp_mono (fun a w hh=>LK hA l a w (fun j hj=>hl j (List.mem_cons_of_mem _ hj)) hh) (rG hA (hl i List.mem_cons_self) h)
/-! ### Which of two comes first -/
def late:Nat->Nat->List Oper->List Oper
 | _,_,[]=>[]
 | 0,a,o::l => { o with after:=o.after.push ⟨a,.phase⟩ } :: l
 | b+1,a,o::l=>o::late b a l
theorem Ub (a:Nat):∀ (l:List Oper) (b i:Nat),(late b a l)[i]? = (l[i]?).map fun o=>if i=b then { o with after:=o.after.push ⟨a,.phase⟩ } else o
 | [],b,i=>by cases b<;>simp[late]
 | o::l,0,0=>by simp[late]
 | o::l,0,i+1=>by simp[late]
 | o::l,b+1,0=>by simp[late]
 | o :: l,b + 1,i + 1 => by
   show(late b a l)[i]? = _
   rw[Ub a l b i]
   simp
theorem ay (a:Nat):∀ (l:List Oper) (b:Nat),(late b a l).length=l.length
 | [],b=>by cases b<;>rfl
 | o::l,0=>rfl
 | o::l,b+1=>by show(late b a l).length+1=_;rw[ay a l b];rfl
def Nl (a b:Nat):List Nat->Bool
 | []=>true
 | x::l=>if x=a then true else if x=b then false else Nl a b l
theorem aC {a b:Nat}(h:a≠b):∀ l:List Nat,Nl a b l=true\/Nl b a l=true
 | []=>.inl rfl
 | x :: l => by
   unfold Nl
   by_cases h1:x=a
   ·exact .inl (by rw[if_pos h1])
   ·by_cases h2:x=b
    ·exact .inr (by rw[if_pos h2])
    ·rw[if_neg h1,if_neg h2,if_neg h2,if_neg h1]
     exact aC h l
theorem Uc {a b:Nat}{l:List Oper}{listed:Array Bool}{i:Nat} : i∈Region.ready .any (late b a l).toArray listed↔i∈Region.ready .any l.toArray listed/\(i=b->listed.getD a false=true):=by
 rw[mem_ready,mem_ready]
 simp only[List.getElem?_toArray,Ub]
 constructor
 ·rintro⟨h0,o',ho,hall⟩
  obtain⟨o,ho1,rfl⟩:=Option.map_eq_some_iff.1 ho
  refine⟨⟨h0,o,ho1,fun e he hb=>?_⟩,fun hib=>?_⟩
  ·refine hall e ?_ hb
   split
   ·exact Array.mem_push.2 (.inl he)
   ·exact he
  ·refine hall ⟨a,.phase⟩ ?_ rfl
   rw[if_pos hib]
   exact Array.mem_push.2 (.inr rfl)
 ·rintro⟨⟨h0,o,ho,hall⟩,hb2⟩
  refine⟨h0,_,by rw[ho];rfl,fun e he hb=>?_⟩
  split at he
  ·rename_i hib
   rcases Array.mem_push.1 he with he|rfl
   ·exact hall e he hb
   ·exact hb2 hib
  ·exact hall e he hb
theorem Ol {ops:Array Oper}{listed:Array Bool}{i:Nat}(h:i∈Region.ready .any ops listed):i<listed.size/\i<ops.size:=by
 obtain⟨h0,o,ho,_⟩:=mem_ready.1 h
 refine⟨?_,(Array.getElem?_eq_some_iff.1 ho).1⟩
 apply Classical.byContradiction
 intro hn
 rw[Array.getD_eq_getD_getElem?,Array.getElem?_eq_none (by omega)] at h0
 cases h0
theorem IE {listed:Array Bool}{i:Nat}(h:i<listed.size):(listed.setIfInBounds i true).getD i false=true:=by
 rw[Array.getD_eq_getD_getElem?]
 simp[h]
theorem Ud {a b:Nat}{l:List Oper}(hab:a≠b):∀ (n:Nat) (listed:Array Bool) (o:List Nat),Ord l.toArray n listed o->(listed.getD a false=true\/Nl a b o=true)->Ord (late b a l).toArray n listed o
 | 0,_,_,h,_=>h
 | n + 1,listed,o,h,hc => by
   rcases h with ⟨hr,rfl⟩|⟨i,l',hi,rfl,h⟩
   ·refine .inl ⟨?_,rfl⟩
    refine List.eq_nil_iff_forall_not_mem.2 fun j hj=>?_
    have:=(Uc.1 hj).1
    rw[hr] at this
    cases this
   ·have hib : i = b → listed.getD a false = true :=fun e => by
     rcases hc with hc|hc
     ·exact hc
     ·subst e
      unfold Nl at hc
      rw[if_neg (fun e=>hab e.symm),if_pos rfl] at hc
      cases hc
    refine .inr ⟨i,l',Uc.2 ⟨hi,hib⟩,rfl,Ud hab n _ l' h ?_⟩
    rcases hc with hc|hc
    ·exact .inl (getD_set_true hc)
    ·unfold Nl at hc
     by_cases h1:i=a
     ·subst h1
      exact .inl (IE (Ol hi).1)
     ·rw[if_neg h1] at hc
      by_cases h2:i=b
      ·exact .inl (getD_set_true (hib h2))
      ·rw[if_neg h2] at hc
       exact .inr hc
theorem iI {ops:Array Oper} : ∀ (n:Nat) (listed:Array Bool) (o:List Nat),Ord ops n listed o->∀ i∈o,i<ops.size
 | 0,_,o,h,i,hi => by
   have h:o=[]:=h
   subst h
   cases hi
 | n + 1,listed,o,h,i,hi => by
   rcases h with ⟨_,rfl⟩|⟨j,l',hj,rfl,h⟩
   ·cases hi
   ·rcases List.mem_cons.1 hi with rfl|hi
    ·exact(Ol hj).2
    ·exact iI n _ l' h i hi
def Ue (l:List Oper):Bool:=l.all fun o=>match o.guard with|none=>true|some g=>decide (g.1<l.length)
theorem Uf (a b:Nat)(l:List Oper)(hg:Ue l=true):Alike id l.length l.toArray (late b a l).toArray:=by
 intro i hi
 have ho:l[i]? = some l[i]:=List.getElem?_eq_getElem hi
 refine⟨l[i],_,by simp[ho],by simp only[List.getElem?_toArray,id_eq,Ub,ho,Option.map_some];rfl,?_⟩
 have hg2:=List.all_eq_true.1 hg l[i] (List.getElem_mem hi)
 have key:∀ o' : Oper,o'.guard=l[i].guard->(match l[i].guard with|none=>o'.guard=none|some (j,b)=>j<l.length/\o'.guard=some (id j,b)):=by
  intro o' e
  cases hgu:l[i].guard with
  | none=>rw[hgu] at e;exact e
  | some g =>
    rw[hgu] at e hg2
    obtain⟨j,b⟩:=g
    exact⟨of_decide_eq_true hg2,e⟩
 by_cases hib:i=b
 ·rw[if_pos hib]
  exact⟨rfl,rfl,rfl,rfl,key _ rfl⟩
 ·rw[if_neg hib]
  exact⟨rfl,rfl,rfl,rfl,key _ rfl⟩
theorem iJ {l:List Oper}{c:Act}{w:World}(a b:Nat)(hab:a≠b)(hg:Ue l=true)(h1:TV P (late b a l).toArray Q c w)(h2:TV P (late a b l).toArray Q c w):TV P l.toArray Q c w:=by
 intro o ho
 have hlt:=iI _ _ _ ho
 have hsz:∀ x y,(late x y l).toArray.size=l.toArray.size:=fun x y=>by simp[ay]
 rcases aC hab o with hf|hf
 ·have h:=h1 o (by rw[hsz];exact Ud hab _ _ _ ho (.inr hf))
  refine LK (Uf a b l hg) o c w (fun i hi=>by simpa using hlt i hi) ?_
  rwa [List.map_id]
 ·have h:=h2 o (by rw[hsz];exact Ud (Ne.symm hab) _ _ _ ho (.inr hf))
  refine LK (Uf b a l hg) o c w (fun i hi=>by simpa using hlt i hi) ?_
  rwa [List.map_id]
/-! ### The operations in another row -/
def Cb:List Nat->Nat->Nat
 | [],_=>0
 | x::q,i=>if x=i then 0 else Cb q i+1
def QD (f:Nat->Nat)(o:Oper):Oper :={ dst:=o.dst,op:=o.op,type:=o.type,pos:=o.pos,after:=o.after.map fun e=>⟨f e.on,e.ground⟩,guard:=o.guard.map fun g=>(f g.1,g.2) }
def Mt (q:List Nat)(l:List Oper):List Oper:=q.map fun i=>QD (Cb q) (l.getD i default)
def rH (q:List Nat)(l:List Oper):Bool:=decide (q.length=l.length)&&Ue l&&(l.all fun o=>o.after.all fun e=>decide (e.on<l.length))&&((List.range l.length).all fun i=>decide (Cb q i<l.length)&&decide (q.getD (Cb q i) 0=i)&&decide (Cb q (q.getD i 0)=i)&&decide (q.getD i 0<l.length))
theorem mZ {l:List Oper}{c:Act}{w:World}(q:List Nat)(hq:rH q l=true)(h:TV P (Mt q l).toArray Q c w):TV P l.toArray Q c w:=by
 unfold rH at hq
 simp only[Bool.and_eq_true,decide_eq_true_eq] at hq
 obtain⟨⟨⟨hlen,hg⟩,he⟩,hr⟩:=hq
 have hr' : ∀ i,i<l.length->Cb q i<l.length/\q.getD (Cb q i) 0=i/\Cb q (q.getD i 0)=i/\q.getD i 0<l.length:=fun i hi=>by
  have:=List.all_eq_true.1 hr i (List.mem_range.2 hi)
  simp only[Bool.and_eq_true,decide_eq_true_eq] at this
  exact⟨this.1.1.1,this.1.1.2,this.1.2,this.2⟩
 have hpl:(Mt q l).length=l.length:=by unfold Mt;rw[List.length_map,hlen]
 have hget:∀ i (hi:i<l.length),(Mt q l)[Cb q i]? = some (QD (Cb q) l[i]):=fun i hi=>by
  obtain⟨h1,h2,_,_⟩:=hr' i hi
  unfold Mt
  rw[List.getElem?_map,List.getElem?_eq_getElem (by omega),Option.map_some]
  rw[List.getD_eq_getElem?_getD,List.getElem?_eq_getElem (by omega)] at h2
  have h2:q[Cb q i]'(by omega)=i:=h2
  rw[h2,List.getD_eq_getElem?_getD,List.getElem?_eq_getElem hi]
  rfl
 have hA:Alike (Cb q) l.length l.toArray (Mt q l).toArray:=by
  intro i hi
  refine⟨l[i],QD (Cb q) l[i],by simp[hi],by rw[List.getElem?_toArray];exact hget i hi,rfl,rfl,rfl,rfl,?_⟩
  have hg2:=List.all_eq_true.1 hg l[i] (List.getElem_mem hi)
  cases hgu:l[i].guard with
  | none =>
    show(QD (Cb q) l[i]).guard=none
    unfold QD
    dsimp only
    rw[hgu]
    rfl
  | some g =>
    rw[hgu] at hg2
    obtain⟨j,b⟩:=g
    refine⟨of_decide_eq_true hg2,?_⟩
    show(QD (Cb q) l[i]).guard=_
    unfold QD
    dsimp only
    rw[hgu]
    rfl
 have key:∀ (n:Nat) (listed listed' : Array Bool) (o:List Nat),listed.size=l.length->listed'.size=l.length->(∀ i,i<l.length->listed'.getD (Cb q i) false=listed.getD i false)->Ord l.toArray n listed o->Ord (Mt q l).toArray n listed' (o.map (Cb q)):=by
  intro n
  induction n with
  | zero =>
    intro listed listed' o _ _ _ ho
    have ho:o=[]:=ho
    subst ho
    rfl
  | succ n ih =>
    intro listed listed' o hs hs' hrel ho
    have hsw:∀ i,i<l.length->listed'.getD (Cb q i) true=listed.getD i true:=fun i hi=>by
     have h1:=hrel i hi
     obtain⟨h2,_⟩:=hr' i hi
     rw[Array.getD_eq_getD_getElem?,Array.getElem?_eq_getElem (by omega),Array.getD_eq_getD_getElem?,Array.getElem?_eq_getElem (by omega)] at h1 ⊢
     exact h1
    have rJ:∀ i,i<l.length->(Cb q i∈Region.ready .any (Mt q l).toArray listed' ↔ i∈Region.ready .any l.toArray listed):=fun i hi=>by
     rw[mem_ready,mem_ready,List.getElem?_toArray,List.getElem?_toArray,hget i hi,List.getElem?_eq_getElem hi,hsw i hi]
     have heo:=List.all_eq_true.1 he l[i] (List.getElem_mem hi)
     refine and_congr_right fun _=>⟨?_,?_⟩
     ·rintro⟨o',ho',hall⟩
      cases ho'
      refine⟨l[i],rfl,fun e hem hb=>?_⟩
      have hlt:e.on<l.length:=of_decide_eq_true (Array.all_eq_true_iff_forall_mem.1 heo e hem)
      have:=hall ⟨Cb q e.on,e.ground⟩ (Array.mem_map.2 ⟨e,hem,rfl⟩) hb
      rwa [hrel e.on hlt] at this
     ·rintro⟨o',ho',hall⟩
      cases ho'
      refine⟨_,rfl,fun e hem hb=>?_⟩
      obtain⟨e0,he0,rfl⟩:=Array.mem_map.1 hem
      have hlt:e0.on<l.length:=of_decide_eq_true (Array.all_eq_true_iff_forall_mem.1 heo e0 he0)
      show listed'.getD (Cb q e0.on) false=true
      rw[hrel e0.on hlt]
      exact hall e0 he0 hb
    rcases ho with ⟨hnil,rfl⟩|⟨i,l',hi,rfl,ho⟩
    ·refine .inl ⟨?_,rfl⟩
     refine List.eq_nil_iff_forall_not_mem.2 fun j hj=>?_
     have hjl:j<l.length:=by have:=(Ol hj).1;omega
     obtain⟨_,_,h3,h4⟩:=hr' j hjl
     have:=(rJ _ h4).1 (by rw[h3];exact hj)
     rw[hnil] at this
     cases this
    ·have hil:i<l.length:=by have:=(Ol hi).1;omega
     refine .inr ⟨Cb q i,l'.map (Cb q),(rJ i hil).2 hi,rfl,ih _ _ l' (by simp[hs]) (by simp[hs']) (fun k hk=>?_) ho⟩
     by_cases hki:k=i
     ·subst hki
      rw[IE (i:=Cb q k) (by have:=(hr' k hk).1;omega),IE (by omega)]
     ·have hne : Cb q i ≠ Cb q k :=fun e => hki (by
       have h1:=(hr' i hil).2.1
       have h2:=(hr' k hk).2.1
       rw[e] at h1
       rw[<- h2,h1])
      rw[getD_set_ne false hne,getD_set_ne false (Ne.symm hki)]
      exact hrel k hk
 intro o ho
 have hlt:=iI _ _ _ ho
 have hsz:(Mt q l).toArray.size=l.toArray.size:=by simp[hpl]
 refine LK hA o c w (fun i hi=>by simpa using hlt i hi) (h _ ?_)
 rw[hsz]
 refine key _ _ _ o (by simp) (by simp) (fun i hi=>?_) ho
 rw[getD_replicate_false,getD_replicate_false]
end
end Lex
end
end Go.Proofs.YtdiiafgoccakkaaGreatDoor
