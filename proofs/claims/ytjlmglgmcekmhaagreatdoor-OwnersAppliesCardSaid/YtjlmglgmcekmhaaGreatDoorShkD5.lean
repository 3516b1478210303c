/- Operations on owners, plainly: what an operation makes of owners. -/
import Derived.Laws.IdiomCopy
import Derived.Lib.SliceRun
import Derived.Maps.RangeWalk
import Derived.StringKeys
import Derived.Test.YtjlmglgmcekmhaaGreatDoorShkD4
set_option linter.unusedVariables false
set_option linter.unusedSimpArgs false
set_option maxRecDepth 100000
set_option maxHeartbeats 8000000
namespace Go.Proofs.YtjlmglgmcekmhaaGreatDoor
section
open Go
namespace Own
def AQ (op:Op):Space:=⟨op.pre,op.members,op.threshold⟩
def GA (l:List Space)(p:ByteArray):Option Space:=l.find? fun s=>decide (s.pre=p)
def KA (n pub:ByteArray)(l:List Member):List Member:=l.map fun x=>if x.name=n then ⟨x.name,pub⟩ else x
def Wn (s:Space)(n pub:ByteArray):Space:=⟨s.pre,KA n pub s.members,s.threshold⟩
def Na (l:List Space)(p:ByteArray):List Space:=l.filter fun x => !decide (x.pre=p)
def Fh (l:List Space)(op:Op):Except Int (Space × List Space):=
 if op.kind=0 then
  match CB op.pre none l with
  | some _=>.error 5
  | none=>if l.length=64 then .error 7 else .ok (AQ op,Dj Space.pre (AQ op) l)
 else if op.kind=1 then
  match GA l op.pre with
  | none=>.error 6
  | some s=>.ok (s,Dj Space.pre (AQ op) l)
 else if op.kind=2 then
  match GA l op.pre with
  | some _=>.error 5
  | none => match CB op.pre none l with
    | none=>.error 6
    | some s=>if l.length=64 then .error 7 else .ok (s,Dj Space.pre (AQ op) l)
 else if op.kind=3 then
  match GA l op.pre with
  | none=>.error 6
  | some s=>.ok (s,Na l op.pre)
 else match GA l op.pre with
  | none=>.error 6
  | some s => match find s.members op.name with
    | none=>.error 6
    | some m=>if s.members.any (fun x => !decide (x.name=m.name)&&decide (x.pub=op.pub)) then .error 5 else .ok (⟨s.pre,[m],1⟩,Dj Space.pre (Wn s op.name op.pub) l)
def AO (s:Space)(msg:ByteArray)(K:List KeyUse)(l:List Ai):Except Int (List KeyUse):=
 match Bl s msg [] K l with
 | .error c=>.error c
 | .ok K' => if (l.length:Int)<s.threshold then .error 20 else .ok K'
def Cg (o:Ao)(op:Op):Ao × Int:=
 if (Bv o&&Eh op)=false then (.none,1)
 else if o.count=late then (.none,7)
 else match Fh o.spaces op with
  | .error c=>(.none,c)
  | .ok (s,l) => match AO s (AZ o op).1 o.keys op.Aa with
    | .error c=>(.none,c)
    | .ok K=>(⟨o.count+1,l,K⟩,0)
/-! ### chains in order -/
theorem Od {α : Type}{ok : α -> Bool}{f : α -> ByteArray} : ∀ {l:List α} {p:Option α},(∀ x∈l,ok x=true)->Srt f l->(∀ q,p=some q->∀ x∈l,Aj (f q) (f x)=true)->Ar ok (fun x y=>Aj (f x) (f y)) p l=true
 | [],_,_,_,_=>rfl
 | x :: l,p,ho,hs,hp => by
   have hs':=List.pairwise_cons.1 hs
   have ih:=Od (p:=some x) (fun y hy=>ho y (List.mem_cons_of_mem _ hy)) hs'.2 (fun q hq y hy=>by cases hq;exact hs'.1 y hy)
   unfold Ar
   rw[ho x List.mem_cons_self,ih]
   cases p with
   | none=>rfl
   | some q=>simp only[hp q rfl x List.mem_cons_self,Bool.and_self]
theorem Oe {α : Type}{ok : α -> Bool}{lt : α -> α -> Bool} : ∀ {l:List α} {p:Option α},Ar ok lt p l=true->∀ x∈l,ok x=true
 | [],_,_,x,hx=>by cases hx
 | y :: l,p,h,x,hx => by
   unfold Ar at h
   simp only[Bool.and_eq_true] at h
   rcases List.mem_cons.1 hx with rfl|hx
   ·exact h.1.1
   ·exact Oe h.2 x hx
structure Rt (o:Ao):Prop where
 c0:0<=o.count
 c1:o.count<=late
 len:o.spaces.length<=64
 sp:∀ s∈o.spaces,AX s=true
 iG:Srt Space.pre o.spaces
 ky:∀ k∈o.keys,Df k=true
 sD:Srt KeyUse.pub o.keys
theorem Rt.iff {o:Ao} : Bv o=true↔Rt o:=by
 constructor
 ·intro h
  unfold Bv at h
  simp only[Bool.and_eq_true,decide_eq_true_eq] at h
  obtain⟨⟨⟨⟨h1,h2⟩,h3⟩,h4⟩,h5⟩:=h
  exact⟨h1,h2,h3,Oe h4,(IQ (f:=Space.pre) h4).1,Oe h5,(IQ (f:=KeyUse.pub) h5).1⟩
 ·intro h
  unfold Bv
  simp only[Bool.and_eq_true,decide_eq_true_eq]
  exact⟨⟨⟨⟨h.c0,h.c1⟩,h.len⟩,Od h.sp h.iG (fun _ h=>by cases h)⟩,Od h.ky h.sD (fun _ h=>by cases h)⟩
theorem Im {α : Type}(f : α -> ByteArray)(x : α):∀ l:List α,(Dj f x l).length<=l.length+1
 | []=>by simp[Dj]
 | y :: l => by
   unfold Dj
   split
   ·have:=Im f x l;simp;omega
   ·split<;>simp
theorem IU {α : Type}(f : α -> ByteArray)(x : α):∀ {l:List α},Srt f l->(∃ y∈l,f y=f x)->(Dj f x l).length=l.length
 | [],_,⟨y,hy,_⟩=>by cases hy
 | z :: l,hs,⟨y,hy,he⟩ => by
   obtain⟨h1,h2⟩:=List.pairwise_cons.1 hs
   unfold Dj
   by_cases hz:Aj (f z) (f x)=true
   ·rw[if_pos hz]
    rcases List.mem_cons.1 hy with rfl|hy
    ·rw[he,BP] at hz;cases hz
    ·simp[IU f x h2 ⟨y,hy,he⟩]
   ·rw[if_neg hz]
    by_cases he2:f z=f x
    ·rw[if_pos he2];simp
    ·exfalso
     rcases List.mem_cons.1 hy with rfl|hy
     ·exact he2 he
     ·have:=h1 y hy
      rw[he] at this
      exact hz this
theorem JH {l:List Space}{p:ByteArray}{s:Space}(h:GA l p=some s):s∈l/\s.pre=p:=
 ⟨List.mem_of_find?_eq_some h,by simpa using List.find?_some h⟩
theorem KM:∀ {l pre:List Member},Am pre l=true↔((∀ m∈l,EG m.name=true/\Sig.Bn m.pub=true)/\l.Pairwise (fun x y=>x.pub≠y.pub)/\(∀ x∈pre,∀ y∈l,x.pub≠y.pub)/\Srt Member.name (pre.getLast?.toList++l))
 | [],pre => by
   refine⟨fun _=>⟨(fun m hm=>by cases hm),List.Pairwise.nil,(fun _ _ y hy=>by cases hy),?_⟩,fun _=>rfl⟩
   cases pre.getLast? with
   | none=>exact List.Pairwise.nil
   | some x=>exact List.pairwise_singleton _ _
 | m :: l,pre => by
   have ih:=KM (l:=l) (pre:=pre++[m])
   have e:(pre++[m]).getLast?.toList=[m]:=by simp
   rw[e] at ih
   show(CX pre m&&Am (pre++[m]) l)=true↔_
   rw[Bool.and_eq_true,ih]
   unfold CX
   simp only[Bool.and_eq_true,Bool.not_eq_true',List.any_eq_false,decide_eq_true_eq]
   constructor
   ·rintro⟨⟨⟨⟨h1,h2⟩,h3⟩,h4⟩,h5,h6,h7,h8⟩
    refine⟨fun x hx=>?_,List.pairwise_cons.2 ⟨fun y hy=>h7 m (by simp) y hy,h6⟩,fun x hx y hy=>?_,?_⟩
    ·rcases List.mem_cons.1 hx with rfl|hx
     ·exact⟨h1,h2⟩
     ·exact h5 x hx
    ·rcases List.mem_cons.1 hy with rfl|hy
     ·exact h3 x hx
     ·exact h7 x (by simp[hx]) y hy
    ·cases hp:pre.getLast? with
     | none=>exact h8
     | some z =>
       rw[hp] at h4
       refine List.pairwise_cons.2 ⟨fun y hy=>?_,h8⟩
       rcases List.mem_cons.1 hy with rfl|hy
       ·exact h4
       ·exact Dr h4 ((List.pairwise_cons.1 h8).1 y hy)
   ·rintro⟨h1,h2,h3,h4⟩
    obtain⟨h2a,h2b⟩:=List.pairwise_cons.1 h2
    refine⟨⟨⟨h1 m (by simp),fun x hx=>h3 x hx m (by simp)⟩,?_⟩,fun x hx=>h1 x (by simp[hx]),h2b,fun x hx y hy=>?_,?_⟩
    ·cases hp:pre.getLast? with
     | none=>rfl
     | some z =>
       rw[hp] at h4
       exact(List.pairwise_cons.1 h4).1 m (by simp)
    ·rcases List.mem_append.1 hx with hx|hx
     ·exact h3 x hx y (by simp[hy])
     ·have:x=m:=by simpa using hx
      subst this
      exact h2a y hy
    ·cases hp:pre.getLast? with
     | none=>rw[hp] at h4;exact h4
     | some z=>rw[hp] at h4;exact(List.pairwise_cons.1 h4).2
structure KO (l:List Member):Prop where
 l1:1<=l.length
 l8:l.length<=8
 ok:∀ m∈l,EG m.name=true/\Sig.Bn m.pub=true
 pubs:l.Pairwise fun x y=>x.pub≠y.pub
 srt:Srt Member.name l
theorem KO.iff {l:List Member} : Co l=true↔KO l:=by
 unfold Co
 rw[Bool.and_eq_true,Bool.and_eq_true,decide_eq_true_eq,decide_eq_true_eq,KM]
 constructor
 ·rintro⟨⟨h1,h2⟩,h3,h4,_,h5⟩
  exact⟨h1,h2,h3,h4,h5⟩
 ·intro h
  exact⟨⟨h.l1,h.l8⟩,h.ok,h.pubs,(fun x hx=>by cases hx),h.srt⟩
theorem sF {l:List Member}{n pub:ByteArray}{m:Member}(h:KO l)(hm:m∈l)(hn:m.name=n)(hp:Sig.Bn pub=true)(ha:l.any (fun x => !decide (x.name=m.name)&&decide (x.pub=pub))=false):KO (KA n pub l):=by
 have ha' : ∀ x∈l,x.name≠n->x.pub≠pub:=fun x hx hxn hxp=>by
  have:=List.any_eq_false.1 ha x hx
  rw[hn] at this
  simp[hxn,hxp] at this
 have hnm:∀ x:Member,(if x.name=n then (⟨x.name,pub⟩:Member) else x).name=x.name:=fun x=>by split<;>rfl
 refine⟨by simpa [KA] using h.l1,by simpa [KA] using h.l8,fun x hx=>?_,?_,?_⟩
 ·obtain⟨y,hy,rfl⟩:=List.mem_map.1 hx
  have:=h.ok y hy
  split
  ·exact⟨this.1,hp⟩
  ·exact this
 ·unfold KA
  rw[List.pairwise_map]
  refine List.Pairwise.imp_of_mem ?_ (h.pubs.and h.srt)
  rintro x y hx hy ⟨hxy,hlt⟩
  have hne:x.name≠y.name:=fun e=>by rw[e,BP] at hlt;cases hlt
  by_cases hxn:x.name=n
  ·have hyn:y.name≠n:=fun e=>hne (hxn.trans e.symm)
   rw[if_pos hxn,if_neg hyn]
   exact fun e=>ha' y hy hyn e.symm
  ·by_cases hyn:y.name=n
   ·rw[if_neg hxn,if_pos hyn]
    exact ha' x hx hxn
   ·rw[if_neg hxn,if_neg hyn]
    exact hxy
 ·unfold KA Srt
  rw[List.pairwise_map]
  exact h.srt.imp fun {x y} hxy=>by rw[hnm,hnm];exact hxy
theorem Ru {op:Op}(h:Eh op=true)(hk:op.kind<3):AX (AQ op)=true:=by
 unfold Eh U7 at h
 simp only[Bool.and_eq_true,decide_eq_true_eq,if_neg (show ¬ (3:Int)<=op.kind by omega)] at h
 obtain⟨⟨⟨⟨⟨_,_⟩,hp⟩,_⟩,⟨hm,h1⟩,h2⟩,_⟩:=h
 unfold AX AQ
 simp only[Bool.and_eq_true,decide_eq_true_eq]
 exact⟨⟨⟨hp,hm⟩,h1⟩,h2⟩
theorem Da {s:Space}(h:AX s=true):KO s.members:=by
 unfold AX at h
 simp only[Bool.and_eq_true] at h
 exact KO.iff.1 h.1.1.2
theorem UG {s:ByteArray} : ∀ {l:List Space} {b:Option Space} {x:Space},CB s b l=some x->x∈l\/b=some x
 | [],_,_,h=>.inr h
 | y :: l,b,x,h => by
   unfold CB at h
   rcases UG h with h|h
   ·exact .inl (List.mem_cons_of_mem _ h)
   ·generalize (belongs s y.pre&&_)=c at h
    cases c with
    | true=>cases h;exact .inl List.mem_cons_self
    | false=>exact .inr h
theorem sG {l:List Space}{op:Op}{s:Space}{l' : List Space}(ho:Eh op=true)(hs:∀ x∈l,AX x=true)(hl:l.length<=64)(hsr:Srt Space.pre l)(h:Fh l op=.ok (s,l')):
 KO s.members/\(∀ x∈l',AX x=true)/\l'.length<=64/\Srt Space.pre l':=by
 have hput:∀ x,AX x=true->(∀ y∈Dj Space.pre x l,AX y=true):=fun x hx y hy=>(MW x l y hy).elim (fun e=>by rw[e];exact hx) (hs y)
 unfold Fh at h
 by_cases h0:op.kind=0
 ·rw[if_pos h0] at h
  split at h
  ·cases h
  ·split at h
   ·cases h
   ·rename_i hne
    cases h
    have hv:=Ru ho (by omega)
    have:=Im Space.pre (AQ op) l
    exact⟨Da hv,hput _ hv,by omega,hsr.put _⟩
 rw[if_neg h0] at h
 by_cases h1:op.kind=1
 ·rw[if_pos h1] at h
  split at h
  ·cases h
  ·rename_i s' he
   cases h
   have hv:=Ru ho (by omega)
   obtain⟨hm,hpre⟩:=JH he
   have:=IU Space.pre (AQ op) hsr ⟨_,hm,hpre⟩
   exact⟨Da (hs _ hm),hput _ hv,by omega,hsr.put _⟩
 rw[if_neg h1] at h
 by_cases h2:op.kind=2
 ·rw[if_pos h2] at h
  split at h
  ·cases h
  ·split at h
   ·cases h
   ·rename_i s' hb
    split at h
    ·cases h
    ·cases h
     have hv:=Ru ho (by omega)
     have:=Im Space.pre (AQ op) l
     have hm:=(UG hb).resolve_right (by simp)
     exact⟨Da (hs _ hm),hput _ hv,by omega,hsr.put _⟩
 rw[if_neg h2] at h
 by_cases h3:op.kind=3
 ·rw[if_pos h3] at h
  split at h
  ·cases h
  ·rename_i s' he
   cases h
   obtain⟨hm,_⟩:=JH he
   refine⟨Da (hs _ hm),fun x hx=>hs x (List.mem_filter.1 hx).1,?_,List.Pairwise.filter _ hsr⟩
   have:=List.length_filter_le (fun x:Space => !decide (x.pre=op.pre)) l
   exact Nat.le_trans this hl
 rw[if_neg h3] at h
 split at h
 ·cases h
 rename_i s' he
 obtain⟨hm,hpre⟩:=JH he
 split at h
 ·cases h
 rename_i m hf
 split at h
 ·cases h
 rename_i ha
 cases h
 have hms:=Da (hs _ hm)
 have hmm:m∈s'.members:=List.mem_of_find?_eq_some hf
 have hmn:m.name=op.name:=by simpa using List.find?_some hf
 have hk:=ho
 unfold Eh opName at hk
 simp only[Bool.and_eq_true,decide_eq_true_eq] at hk
 obtain⟨⟨⟨⟨⟨hk0,hk4⟩,_⟩,_⟩,_⟩,hn⟩:=hk
 rw[if_pos (show op.kind=4 by omega),Bool.and_eq_true] at hn
 have zas:=sF hms hmm hmn hn.2 (by simpa using ha)
 have hv:AX (Wn s' op.name op.pub)=true:=by
  have:=hs _ hm
  unfold AX at this ⊢
  simp only[Bool.and_eq_true,decide_eq_true_eq] at this ⊢
  obtain⟨⟨⟨a1,_⟩,a3⟩,a4⟩:=this
  exact⟨⟨⟨a1,KO.iff.2 zas⟩,a3⟩,by simpa [Wn,KA] using a4⟩
 have:=IU Space.pre (Wn s' op.name op.pub) hsr ⟨_,hm,rfl⟩
 refine⟨⟨by simp,by simp,fun x hx=>?_,List.pairwise_singleton _ _,List.pairwise_singleton _ _⟩,hput _ hv,by omega,hsr.put _⟩
 have:x=m:=by simpa using hx
 rw[this]
 exact hms.ok m hmm
/-! ### Aa keep the keys valid and let no Next become less -/
theorem Yo {p m:ByteArray}{s:Sig.T}(h:Sig.verify p m s=true):Sig.Bn p=true/\0<=s.index/\s.index+1<=2^(p.get! 32).toNat:=by
 unfold Sig.verify at h
 simp only[Bool.and_eq_true,decide_eq_true_eq] at h
 obtain⟨⟨⟨⟨⟨h1,h2⟩,h3⟩,_⟩,_⟩,_⟩:=h
 exact⟨h1,h2,by omega⟩
theorem dW {K:List KeyUse}{x y:KeyUse}(h:y∈use K x):y=x\/y∈K:=by
 rw[EP] at h
 exact MW x K y h
theorem dX:∀ {K:List KeyUse},Srt KeyUse.pub K->∀ (x:KeyUse),Bf K x.pub<=x.next->∀ k∈K,∃ n∈use K x,n.pub=k.pub/\k.next<=n.next
 | [],_,_,_,k,hk=>by cases hk
 | y :: K,hs,x,hx,k,hk => by
   obtain⟨h1,h2⟩:=List.pairwise_cons.1 hs
   have Rv:Bf (y::K) x.pub=if y.pub=x.pub then y.next else Bf K x.pub:=by
    unfold Bf
    by_cases h:y.pub=x.pub
    ·rw[if_pos h];simp[h]
    ·rw[if_neg h];simp[h]
   rw[Rv] at hx
   unfold use
   by_cases hl:Aj y.pub x.pub=true
   ·have hne:y.pub≠x.pub:=fun e=>by rw[e,BP] at hl;cases hl
    rw[if_neg hne] at hx
    rw[if_pos hl]
    rcases List.mem_cons.1 hk with rfl|hk
    ·exact⟨k,by simp,rfl,Int.le_refl _⟩
    ·obtain⟨n,hn,e1,e2⟩:=dX h2 x hx k hk
     exact⟨n,by simp[hn],e1,e2⟩
   ·rw[if_neg hl]
    by_cases he:y.pub=x.pub
    ·rw[if_pos he] at hx
     rw[if_pos he]
     rcases List.mem_cons.1 hk with rfl|hk
     ·exact⟨x,by simp,he.symm,hx⟩
     ·exact⟨k,by simp[hk],rfl,Int.le_refl _⟩
    ·rw[if_neg he]
     rcases List.mem_cons.1 hk with rfl|hk
     ·exact⟨k,by simp,rfl,Int.le_refl _⟩
     ·exact⟨k,by simp[hk],rfl,Int.le_refl _⟩
theorem Rx (s:Space)(msg:ByteArray):∀ (l:List Ai) (seen:List ByteArray) (K K' : List KeyUse),Srt KeyUse.pub K->(∀ k∈K,Df k=true)->Bl s msg seen K l=.ok K' ->
 Srt KeyUse.pub K' /\ (∀ k∈K',Df k=true)/\∀ k∈K,∃ n∈K',n.pub=k.pub/\k.next<=n.next
 | [],seen,K,K',hs,hk,h => by
   cases h
   exact⟨hs,hk,fun k hk=>⟨k,hk,rfl,Int.le_refl _⟩⟩
 | a :: l,seen,K,K',hs,hk,h => by
   unfold Bl at h
   split at h
   ·cases h
   rename_i m hf
   split at h
   ·cases h
   split at h
   ·rename_i hv
    split at h
    ·cases h
    ·rename_i hlt
     obtain⟨v1,v2,v3⟩:=Yo hv
     have hs2:Srt KeyUse.pub (use K ⟨m.pub,a.sig.index+1⟩):=by rw[EP];exact hs.put _
     have hk2:∀ k∈use K ⟨m.pub,a.sig.index+1⟩,Df k=true:=fun k hk' => by
      rcases dW hk' with rfl|hk'
      ·unfold Df
       simp only[Bool.and_eq_true,decide_eq_true_eq]
       exact⟨⟨v1,by omega⟩,v3⟩
      ·exact hk k hk'
     obtain⟨r1,r2,r3⟩:=Rx s msg l _ _ _ hs2 hk2 h
     refine⟨r1,r2,fun k hk' => ?_⟩
     obtain⟨n,hn,e1,e2⟩:=dX hs ⟨m.pub,a.sig.index+1⟩ (by show Bf K m.pub<=a.sig.index+1;omega) k hk'
     obtain⟨n',hn',e3,e4⟩:=r3 n hn
     exact⟨n',hn',e3.trans e1,Int.le_trans e2 e4⟩
   ·cases h
theorem Yp {s:Space}{msg:ByteArray}{l:List Ai}{K K' : List KeyUse}(hs:Srt KeyUse.pub K)(hk:∀ k∈K,Df k=true)(h:AO s msg K l=.ok K'):
 Srt KeyUse.pub K' /\ (∀ k∈K',Df k=true)/\∀ k∈K,∃ n∈K',n.pub=k.pub/\k.next<=n.next:=by
 unfold AO at h
 split at h
 ·cases h
 ·rename_i K2 he
  split at h
  ·cases h
  ·cases h
   exact Rx s msg l [] K K' hs hk he
theorem lD {o:Ao}{op:Op}(h:(Cg o op).2=0):Bv (Cg o op).1=true/\(Cg o op).1.count=o.count+1/\∀ k∈o.keys,∃ n∈(Cg o op).1.keys,n.pub=k.pub/\k.next<=n.next:=by
 unfold Cg at h ⊢
 split
 ·rename_i h1;rw[if_pos h1] at h;cases h
 rename_i h1
 rw[if_neg h1] at h
 have h1' : Bv o=true/\Eh op=true:=by simpa using h1
 obtain⟨hv,hop⟩:=h1'
 have hO:=Rt.iff.1 hv
 split
 ·rename_i h2;rw[if_pos h2] at h;cases h
 rename_i h2
 rw[if_neg h2] at h
 cases hw:Fh o.spaces op with
 | error c => 
   rw[hw] at h
   exfalso
   have h:c=0:=h
   subst h
   revert hw
   unfold Fh
   repeat' split
   all_goals (intro hw;cases hw)
 | ok p =>
   obtain⟨s,l⟩:=p
   rw[hw] at h
   dsimp only at h ⊢
   obtain⟨_,w2,w3,w4⟩:=sG hop hO.sp hO.len hO.iG hw
   cases ha:AO s (AZ o op).1 o.keys op.Aa with
   | error c =>
     rw[ha] at h
     exfalso
     have h:c=0:=h
     subst h
     have:∀ (l:List Ai) (seen:List ByteArray) (K:List KeyUse),Bl s (AZ o op).1 seen K l≠.error 0:=by
      intro l
      induction l with
      | nil=>intro seen K h;cases h
      | cons a l ih =>
        intro seen K h
        unfold Bl at h
        repeat' split at h
        all_goals first|(cases h;done)|exact ih _ _ h
     unfold AO at ha
     split at ha
     ·rename_i c he;cases ha;exact this _ _ _ he
     ·split at ha
      ·cases ha
      ·cases ha
   | ok K =>
     obtain⟨k1,k2,k3⟩:=Yp hO.sD hO.ky ha
     have hc1:=hO.c1
     exact⟨Rt.iff.2 ⟨by have:=hO.c0;show 0<=o.count+1;omega,by show o.count+1<=late;unfold late at *;omega,w3,w2,w4,k2,k1⟩,rfl,k3⟩
end Own
namespace Own
theorem Yq {p r:ByteArray}{n:Nat}(hn:n<9223372036854775808):Cod.rdN (p++(Cod.uns n++r)) p.size=some (n,(p++Cod.uns n).size):=by
 rw[Cod.Zy rfl hn,Sha.Ag]
theorem UH {p x r:ByteArray}(hn:x.size<9223372036854775808):Cod.rdT (p++(Cod.text x++r)) p.size=some (x,(p++Cod.text x).size):=by
 rw[Cod.jR rfl hn,Sha.Ag]
theorem UJ {p r:ByteArray}{l:List ByteArray}(hl:l.length<9223372036854775808)(hx:∀ x∈l,x.size<9223372036854775808):Cod.Br (p++(Cod.texts l++r)) p.size=some (l,(p++Cod.texts l).size):=by
 rw[Cod.Zz rfl hl hx,Sha.Ag]
theorem Yr {r:ByteArray} : ∀ (l:List Member) (p:ByteArray),(∀ m∈l,m.name.size<9223372036854775808/\m.pub.size<9223372036854775808)->IL (p++(Cod.cat (l.map AV)++r)) l.length p.size=some (l,(p++Cod.cat (l.map AV)).size)
 | [],p,_ => by
   show some _=some _
   rw[show p++Cod.cat (([]:List Member).map AV)=p from Wm p]
 | m :: l,p,h => by
   obtain⟨h1,h2⟩:=h m List.mem_cons_self
   have e:Cod.cat ((m::l).map AV)=(Cod.text m.name++Cod.text m.pub)++Cod.cat (l.map AV):=rfl
   rw[e]
   have e1:p++(((Cod.text m.name++Cod.text m.pub)++Cod.cat (l.map AV))++r)=p++(Cod.text m.name++(Cod.text m.pub++(Cod.cat (l.map AV)++r))):=by simp only[ByteArray.append_assoc]
   have e2:p++(((Cod.text m.name++Cod.text m.pub)++Cod.cat (l.map AV))++r)=(p++Cod.text m.name)++(Cod.text m.pub++(Cod.cat (l.map AV)++r)):=by simp only[ByteArray.append_assoc]
   have e3:p++(((Cod.text m.name++Cod.text m.pub)++Cod.cat (l.map AV))++r)=(p++Cod.text m.name++Cod.text m.pub)++(Cod.cat (l.map AV)++r):=by simp only[ByteArray.append_assoc]
   show IL _ (l.length+1) p.size=_
   have r1:=UH (p:=p) (x:=m.name) (r:=Cod.text m.pub++(Cod.cat (l.map AV)++r)) h1
   have r2:=UH (p:=p++Cod.text m.name) (x:=m.pub) (r:=Cod.cat (l.map AV)++r) h2
   have r3:=Yr (r:=r) l (p++Cod.text m.name++Cod.text m.pub) (fun x hx=>h x (List.mem_cons_of_mem _ hx))
   rw[<- e1] at r1
   rw[<- e2] at r2
   rw[<- e3] at r3
   unfold IL
   simp only[r1,r2,r3]
   congr 2
   simp only[ByteArray.append_assoc]
theorem oL {p r:ByteArray}{s:Sig.T}(h0:0<=s.index)(h1:s.index<9223372036854775808)(h2:s.chains.length<9223372036854775808)(h3:∀ x∈s.chains,x.size<9223372036854775808)(h4:s.path.length<9223372036854775808)(h5:∀ x∈s.path,x.size<9223372036854775808):
 UD (p++(Bw s++r)) p.size=some (s,(p++Bw s).size):=by
 unfold Bw
 have e1:p++((Cod.uns s.index.toNat++(Cod.texts s.chains++Cod.texts s.path))++r)=p++(Cod.uns s.index.toNat++(Cod.texts s.chains++(Cod.texts s.path++r))):=by simp only[ByteArray.append_assoc]
 have e2:p++((Cod.uns s.index.toNat++(Cod.texts s.chains++Cod.texts s.path))++r)=(p++Cod.uns s.index.toNat)++(Cod.texts s.chains++(Cod.texts s.path++r)):=by simp only[ByteArray.append_assoc]
 have e3:p++((Cod.uns s.index.toNat++(Cod.texts s.chains++Cod.texts s.path))++r)=(p++Cod.uns s.index.toNat++Cod.texts s.chains)++(Cod.texts s.path++r):=by simp only[ByteArray.append_assoc]
 have r1:=Yq (p:=p) (n:=s.index.toNat) (r:=Cod.texts s.chains++(Cod.texts s.path++r)) (by omega)
 have r2:=UJ (p:=p++Cod.uns s.index.toNat) (l:=s.chains) (r:=Cod.texts s.path++r) h2 h3
 have r3:=UJ (p:=p++Cod.uns s.index.toNat++Cod.texts s.chains) (l:=s.path) (r:=r) h4 h5
 rw[<- e1] at r1
 rw[<- e2] at r2
 rw[<- e3] at r3
 unfold UD
 simp only[r1,r2,r3,Int.toNat_of_nonneg h0]
 congr 2
 simp only[ByteArray.append_assoc]
theorem Og {s:Sig.T}(h:Dq s=true):0<=s.index/\s.chains.length=67/\(∀ x∈s.chains,x.size=32)/\s.path.length<=6/\∀ x∈s.path,x.size=32:=by
 unfold Dq at h
 simp only[Bool.and_eq_true,decide_eq_true_eq,List.all_eq_true] at h
 obtain⟨⟨⟨⟨h1,h2⟩,h3⟩,h4⟩,h5⟩:=h
 exact⟨h1,h2,fun x hx=>of_decide_eq_true (h4 x hx),h3,fun x hx=>of_decide_eq_true (h5 x hx)⟩
theorem dY {r:ByteArray} : ∀ (l:List Ai) (p:ByteArray),(∀ a∈l,a.name.size<9223372036854775808/\Dq a.sig=true/\a.sig.index<9223372036854775808)->MI (p++(Cod.cat (l.map Ay)++r)) l.length p.size=some (l,(p++Cod.cat (l.map Ay)).size)
 | [],p,_ => by
   show some _=some _
   rw[show p++Cod.cat (([]:List Ai).map Ay)=p from Wm p]
 | a :: l,p,h => by
   obtain⟨h1,h2,h3⟩:=h a List.mem_cons_self
   obtain⟨g1,g2,g3,g4,g5⟩:=Og h2
   have e:Cod.cat ((a::l).map Ay)=(Cod.text a.name++Bw a.sig)++Cod.cat (l.map Ay):=rfl
   rw[e]
   have e1:p++(((Cod.text a.name++Bw a.sig)++Cod.cat (l.map Ay))++r)=p++(Cod.text a.name++(Bw a.sig++(Cod.cat (l.map Ay)++r))):=by simp only[ByteArray.append_assoc]
   have e2:p++(((Cod.text a.name++Bw a.sig)++Cod.cat (l.map Ay))++r)=(p++Cod.text a.name)++(Bw a.sig++(Cod.cat (l.map Ay)++r)):=by simp only[ByteArray.append_assoc]
   have e3:p++(((Cod.text a.name++Bw a.sig)++Cod.cat (l.map Ay))++r)=(p++Cod.text a.name++Bw a.sig)++(Cod.cat (l.map Ay)++r):=by simp only[ByteArray.append_assoc]
   show MI _ (l.length+1) p.size=_
   have r1:=UH (p:=p) (x:=a.name) (r:=Bw a.sig++(Cod.cat (l.map Ay)++r)) h1
   have r2:=oL (p:=p++Cod.text a.name) (s:=a.sig) (r:=Cod.cat (l.map Ay)++r) g1 h3 (by omega) (fun x hx=>by have:=g3 x hx;omega) (by omega) (fun x hx=>by have:=g5 x hx;omega)
   have r3:=dY (r:=r) l (p++Cod.text a.name++Bw a.sig) (fun x hx=>h x (List.mem_cons_of_mem _ hx))
   rw[<- e1] at r1
   rw[<- e2] at r2
   rw[<- e3] at r3
   unfold MI
   simp only[r1,r2,r3]
   congr 2
   simp only[ByteArray.append_assoc]
theorem iH {l:List Member}(h:Co l=true):l.length<=8/\∀ m∈l,m.name.size<=32/\m.pub.size=33:=by
 have hM:=KO.iff.1 h
 refine⟨hM.l8,fun m hm=>?_⟩
 obtain⟨h1,h2⟩:=hM.ok m hm
 unfold EG at h1
 unfold Sig.Bn at h2
 simp only[Bool.and_eq_true,decide_eq_true_eq] at h1 h2
 exact⟨h1.2,h2.1⟩
structure KD (op:Op):Prop where
 k0:0<=op.kind
 k4:op.kind<=4
 pre:op.pre.size<=64
 al:op.Aa.length<=8
 ml:op.members.length<=8
 ms:∀ m∈op.members,m.name.size<=32/\m.pub.size=33
 t0:0<=op.threshold
 t8:op.threshold<=8
 nm:op.name.size<=32
 pb:op.pub.size<=33
theorem KD.of {op:Op}(h:Eh op=true):KD op:=by
 unfold Eh at h
 simp only[Bool.and_eq_true,decide_eq_true_eq] at h
 obtain⟨⟨⟨⟨⟨h0,h4⟩,hp⟩,ha⟩,hm⟩,hn⟩:=h
 unfold BI at hp
 simp only[Bool.and_eq_true,decide_eq_true_eq] at hp
 have hmm:op.members.length<=8/\(∀ m∈op.members,m.name.size<=32/\m.pub.size=33)/\0<=op.threshold/\op.threshold<=8:=by
  unfold U7 at hm
  by_cases h3:3<=op.kind
  ·rw[if_pos h3,Bool.and_eq_true,decide_eq_true_eq,decide_eq_true_eq] at hm
   have e:op.members=[]:=List.eq_nil_of_length_eq_zero hm.1
   exact⟨by omega,fun m hm=>by(rw[e] at hm;cases hm),by omega,by omega⟩
  ·rw[if_neg h3,Bool.and_eq_true,Bool.and_eq_true,decide_eq_true_eq,decide_eq_true_eq] at hm
   obtain⟨g1,g2⟩:=iH hm.1.1
   exact⟨g1,g2,by omega,by omega⟩
 have hnn:op.name.size<=32/\op.pub.size<=33:=by
  unfold opName at hn
  by_cases h4' : op.kind=4
  ·rw[if_pos h4',Bool.and_eq_true] at hn
   have h1:=hn.1
   have h2:=hn.2
   unfold EG at h1
   unfold Sig.Bn at h2
   simp only[Bool.and_eq_true,decide_eq_true_eq] at h1 h2
   exact⟨h1.2,by omega⟩
  ·rw[if_neg h4',Bool.and_eq_true,decide_eq_true_eq,decide_eq_true_eq] at hn
   rw[hn.1,hn.2]
   exact⟨by decide,by decide⟩
 exact⟨h0,h4,hp.1.2,ha,hmm.1,hmm.2.1,hmm.2.2.1,hmm.2.2.2,hnn.1,hnn.2⟩
theorem lF {op:Op}(h:Fv op=true)(hi:∀ a∈op.Aa,a.name.size<9223372036854775808/\a.sig.index<9223372036854775808):iE (CW op++(Cod.uns op.Aa.length++Cod.cat (op.Aa.map Ay)))=some (op,(CW op++(Cod.uns op.Aa.length++Cod.cat (op.Aa.map Ay))).size):=by
 unfold Fv at h
 simp only[Bool.and_eq_true,List.all_eq_true] at h
 have hz:=KD.of h.1
 have iI:∀ a∈op.Aa,a.name.size<9223372036854775808/\Dq a.sig=true/\a.sig.index<9223372036854775808:=fun a ha=>⟨(hi a ha).1,h.2 a ha,(hi a ha).2⟩
 obtain⟨kd,pre,ms,th,nm,pb,aps⟩:=op
 obtain⟨k0,k4,hpre,hal,hml,hms,t0,t8,hnm,hpb⟩:=hz
 dsimp only at k0 k4 hpre hal hml hms t0 t8 hnm hpb iI
 obtain⟨k,rfl⟩:∃ k:Nat,kd=k:=⟨kd.toNat,by omega⟩
 obtain⟨t,rfl⟩:∃ t:Nat,th=t:=⟨th.toNat,by omega⟩
 unfold CW
 simp only[Int.toNat_natCast]
 have r1:=Yq (p:=⟨#[]⟩) (n:=k) (r:=Cod.text pre++(Cod.uns ms.length++(Cod.cat (ms.map AV)++(Cod.uns t++(Cod.text nm++(Cod.text pb++(Cod.uns aps.length++(Cod.cat (aps.map Ay)++⟨#[]⟩)))))))) (by omega)
 have r2:=UH (p:=⟨#[]⟩++Cod.uns k) (x:=pre) (r:=Cod.uns ms.length++(Cod.cat (ms.map AV)++(Cod.uns t++(Cod.text nm++(Cod.text pb++(Cod.uns aps.length++(Cod.cat (aps.map Ay)++⟨#[]⟩))))))) (by omega)
 have r3:=Yq (p:=⟨#[]⟩++Cod.uns k++Cod.text pre) (n:=ms.length) (r:=Cod.cat (ms.map AV)++(Cod.uns t++(Cod.text nm++(Cod.text pb++(Cod.uns aps.length++(Cod.cat (aps.map Ay)++⟨#[]⟩)))))) (by omega)
 have r4:=Yr (r:=Cod.uns t++(Cod.text nm++(Cod.text pb++(Cod.uns aps.length++(Cod.cat (aps.map Ay)++⟨#[]⟩))))) ms (⟨#[]⟩++Cod.uns k++Cod.text pre++Cod.uns ms.length) (fun m hm=>by have:=hms m hm;omega)
 have r5:=Yq (p:=⟨#[]⟩++Cod.uns k++Cod.text pre++Cod.uns ms.length++Cod.cat (ms.map AV)) (n:=t) (r:=Cod.text nm++(Cod.text pb++(Cod.uns aps.length++(Cod.cat (aps.map Ay)++⟨#[]⟩)))) (by omega)
 have r6:=UH (p:=⟨#[]⟩++Cod.uns k++Cod.text pre++Cod.uns ms.length++Cod.cat (ms.map AV)++Cod.uns t) (x:=nm) (r:=Cod.text pb++(Cod.uns aps.length++(Cod.cat (aps.map Ay)++⟨#[]⟩))) (by omega)
 have r7:=UH (p:=⟨#[]⟩++Cod.uns k++Cod.text pre++Cod.uns ms.length++Cod.cat (ms.map AV)++Cod.uns t++Cod.text nm) (x:=pb) (r:=Cod.uns aps.length++(Cod.cat (aps.map Ay)++⟨#[]⟩)) (by omega)
 have r8:=Yq (p:=⟨#[]⟩++Cod.uns k++Cod.text pre++Cod.uns ms.length++Cod.cat (ms.map AV)++Cod.uns t++Cod.text nm++Cod.text pb) (n:=aps.length) (r:=Cod.cat (aps.map Ay)++⟨#[]⟩) (by omega)
 have r9:=dY (r:=⟨#[]⟩) aps (⟨#[]⟩++Cod.uns k++Cod.text pre++Cod.uns ms.length++Cod.cat (ms.map AV)++Cod.uns t++Cod.text nm++Cod.text pb++Cod.uns aps.length) iI
 have n0:∀ s:ByteArray,(⟨#[]⟩:ByteArray)++s=s:=fun s=>by apply Sha.BG;rw[Sha.Bq];simp
 have z0:(⟨#[]⟩:ByteArray).size=0:=rfl
 rw[z0] at r1
 simp only[n0,Wm,ByteArray.append_assoc] at r1 r2 r3 r4 r5 r6 r7 r8 r9 ⊢
 unfold iE
 simp only[r1,r2,r3,r4,r5,r6,r7,r8,r9,if_neg (show ¬ 8<ms.length by omega),if_neg (show ¬ 8<aps.length by omega)]
theorem iJ {op:Op}(h:Fv op=true)(hi:∀ a∈op.Aa,a.name.size<9223372036854775808/\a.sig.index<9223372036854775808):MJ (Dh op).1=(op,0):=by
 unfold Dh
 rw[if_pos h]
 dsimp only
 unfold MJ
 rw[lF h hi]
 dsimp only
 rw[if_pos (by rw[decide_eq_true rfl,h];rfl)]
end Own
namespace Own
def CG (b:Nat):ByteArray:=⟨#[109,(48+b/100).toUInt8,(48+b/10%10).toUInt8,(48+b%10).toUInt8]⟩
def Ej (b:Nat):ByteArray:=Sig.Jz (GR.DK b)
def Yt (b:Nat):Member:=⟨CG b,Ej b⟩
def Dm (i:Nat)(msg:ByteArray)(b:Nat):Ai:=⟨CG b,Sig.BH (GR.DK b) i msg⟩
theorem Qj (a b:Nat)(x y:List UInt8)(ha:a<256)(hb:b<256):Op.bytesLess (a.toUInt8::x) (b.toUInt8::y)=(decide (a<b) || (decide (a=b)&&Op.bytesLess x y)):=by
 have n8:∀ n:Nat,n<256->(n.toUInt8).toNat=n:=fun n hn=>by simp[Nat.mod_eq_of_lt hn]
 have e1:decide (a.toUInt8<b.toUInt8)=decide (a<b):=by rw[decide_eq_decide,UInt8.lt_iff_toNat_lt,n8 a ha,n8 b hb]
 have e2:(a.toUInt8==b.toUInt8)=decide (a=b):=by
  rw[Bool.eq_iff_iff,beq_iff_eq,decide_eq_true_eq,<- UInt8.toNat_inj,n8 a ha,n8 b hb]
 show(decide (a.toUInt8<b.toUInt8) || (a.toUInt8==b.toUInt8&&Op.bytesLess x y))=_
 rw[e1,e2]
theorem UK (b:Nat):(CG b).toList=[(109:Nat).toUInt8,(48+b/100).toUInt8,(48+b/10%10).toUInt8,(48+b%10).toUInt8]:=by
 rw[ByteArray.toList_eq]
 rfl
theorem Wo {a b:Nat}(h:a<b)(hb:b<256):Aj (CG a) (CG b)=true:=by
 unfold Aj
 rw[UK,UK,Qj _ _ _ _ (by omega) (by omega),Qj _ _ _ _ (by omega) (by omega),Qj _ _ _ _ (by omega) (by omega),Qj _ _ _ _ (by omega) (by omega)]
 have key:48+a/100<48+b/100\/(48+a/100=48+b/100/\(48+a/10%10<48+b/10%10\/(48+a/10%10=48+b/10%10/\48+a%10<48+b%10))):=by omega
 simp only[Bool.or_eq_true,Bool.and_eq_true,decide_eq_true_eq]
 rcases key with h1|⟨h1,h2|⟨h2,h3⟩⟩
 ·exact .inr ⟨trivial,.inl h1⟩
 ·exact .inr ⟨trivial,.inr ⟨h1,.inl h2⟩⟩
 ·exact .inr ⟨trivial,.inr ⟨h1,.inr ⟨h2,.inl h3⟩⟩⟩
theorem Yu {a b:Nat}(ha:a<256)(hb:b<256)(h:CG a=CG b):a=b:=by
 rcases Nat.lt_trichotomy a b with g|g|g
 ·have:=Wo g hb;rw[h,BP] at this;cases this
 ·exact g
 ·have:=Wo g ha;rw[h,BP] at this;cases this
theorem oM (b:Nat):EG (CG b)=true:=rfl
def Inj (l:List Nat):Prop:=∀ a∈l,∀ b∈l,Ej a=Ej b->a=b
theorem Inj.one (b:Nat):Inj [b]:=fun x hx y hy _=>(List.mem_singleton.1 hx).trans (List.mem_singleton.1 hy).symm
theorem Inj.tail {b:Nat}{l:List Nat}(h:Inj (b::l)):Inj l:=fun x hx y hy=>h x (by simp[hx]) y (by simp[hy])
theorem lG (b:Nat):Sig.Bn (Ej b)=true:=by unfold Sig.Bn Ej;rw[Sig.QO,Sig.IG];rfl
def Bj (l:List Nat):List Member:=l.map Yt
structure Hu (l:List Nat):Prop where
 lt:∀ b∈l,b<256
 srt:l.Pairwise (· < ·)
theorem Hu.one {b:Nat}(h:b<256):Hu [b]:=⟨fun x hx=>by rw[List.mem_singleton.1 hx];exact h,List.pairwise_singleton _ _⟩
theorem Yv {l:List Nat}(hi:Inj l)(h:Hu l)(h1:1<=l.length)(h8:l.length<=8):Co (Bj l)=true:=by
 refine KO.iff.2 ⟨by simpa [Bj] using h1,by simpa [Bj] using h8,fun m hm=>?_,?_,?_⟩
 ·obtain⟨b,_,rfl⟩:=List.mem_map.1 hm
  exact⟨oM b,lG b⟩
 ·unfold Bj
  rw[List.pairwise_map]
  refine List.Pairwise.imp_of_mem ?_ h.srt
  intro a b ha hb hab e
  have:=hi a ha b hb e
  omega
 ·unfold Bj Srt
  rw[List.pairwise_map]
  refine List.Pairwise.imp_of_mem ?_ h.srt
  intro a b ha hb hab
  exact Wo hab (h.lt b hb)
theorem Yw {l:List Nat}(h:∀ b∈l,b<256){b:Nat}(hb:b∈l):find (Bj l) (CG b)=some (Yt b):=by
 induction l with
 | nil=>cases hb
 | cons a l ih =>
   unfold find Bj
   rw[List.map_cons]
   by_cases e:a=b
   ·subst e
    rw[List.find?_cons_of_pos (by simp[Yt])]
   ·have hne:¬ CG a=CG b:=fun e2=>e (Yu (h a (by simp)) (h b hb) e2)
    rw[List.find?_cons_of_neg (by simp only[Yt];exact fun e2=>hne (of_decide_eq_true e2))]
    exact ih (fun x hx=>h x (by simp[hx])) (by simpa [Ne.symm e] using hb)
theorem LG (S:ByteArray)(i:Nat)(m:ByteArray):(Sig.BH S i m).index=(i:Int):=by unfold Sig.BH;rfl
theorem Yx (b i:Nat)(hi:i<2)(msg:ByteArray):Sig.verify (Ej b) msg (Sig.BH (GR.DK b) i msg)=true:=Sig.XI _ i hi msg
def Jp (i:Nat)(K:List KeyUse)(b:Nat):List KeyUse:=use K ⟨Ej b,(i:Int)+1⟩
theorem Po:∀ {K:List KeyUse},Srt KeyUse.pub K->∀ (x:KeyUse) (p:ByteArray),Bf (use K x) p=if x.pub=p then x.next else Bf K p
 | [],_,x,p => by
   unfold use Bf
   by_cases h:x.pub=p
   ·rw[if_pos h];simp[h]
   ·rw[if_neg h];simp[h]
 | k :: K,hs,x,p => by
   have hs':=List.pairwise_cons.1 hs
   have Rv:∀ (y:KeyUse) (l:List KeyUse),Bf (y::l) p=if y.pub=p then y.next else Bf l p:=fun y l=>by
    unfold Bf
    by_cases h:y.pub=p
    ·rw[if_pos h];simp[h]
    ·rw[if_neg h];simp[h]
   unfold use
   by_cases h1:Aj k.pub x.pub=true
   ·rw[if_pos h1,Rv,Rv,Po hs'.2 x p]
    by_cases hk:k.pub=p
    ·rw[if_pos hk,if_pos hk]
     rw[if_neg (fun hx=>by rw[hk,hx,BP] at h1;cases h1)]
    ·rw[if_neg hk,if_neg hk]
   ·rw[if_neg h1]
    by_cases h2:k.pub=x.pub
    ·rw[if_pos h2,Rv,Rv]
     by_cases hx:x.pub=p
     ·rw[if_pos hx,if_pos hx]
     ·rw[if_neg hx,if_neg hx,if_neg (by rw[h2];exact hx)]
    ·rw[if_neg h2,Rv]
structure KB (K:List KeyUse):Prop where
 srt:Srt KeyUse.pub K
 mem:∀ k∈K,∃ b,b<256/\k.pub=Ej b/\0<=k.next/\k.next<=2
theorem KB.nil:KB []:=⟨List.Pairwise.nil,fun k hk=>by cases hk⟩
theorem KB.use {K:List KeyUse}(h:KB K){b:Nat}(hb:b<256){i:Nat}(hi:i<2):KB (Jp i K b):=by
 refine⟨by unfold Jp;rw[EP];exact h.srt.put _,fun k hk=>?_⟩
 rcases dW hk with rfl|hk
 ·exact⟨b,hb,rfl,by show(0:Int)<=(i:Int)+1;omega,by show(i:Int)+1<=2;omega⟩
 ·exact h.mem k hk
theorem KB.ok {K:List KeyUse}(h:KB K):∀ k∈K,Df k=true:=fun k hk=>by
 obtain⟨b,_,hp,h0,h2⟩:=h.mem k hk
 have e:((2:Int)^(k.pub.get! 32).toNat)=2:=by rw[hp];unfold Ej;rw[Sig.IG];rfl
 unfold Df
 rw[e,hp,lG]
 simp only[Bool.true_and,Bool.and_eq_true,decide_eq_true_eq]
 exact⟨h0,h2⟩
theorem KB.qR {K:List KeyUse}(h:KB K){a b:Nat}(hi:Ej b=Ej a->b=a)(i:Nat):Bf (Jp i K b) (Ej a)=if b=a then (i:Int)+1 else Bf K (Ej a):=by
 unfold Jp
 rw[Po h.srt]
 by_cases e:b=a
 ·subst e;rw[if_pos rfl,if_pos rfl]
 ·rw[if_neg e,if_neg (fun h=>e (hi h))]
theorem KB.fold {i:Nat}(hi:i<2):∀ {l:List Nat} {K:List KeyUse},KB K->(∀ b∈l,b<256)->KB (l.foldl (Jp i) K)
 | [],_,h,_=>h
 | b :: l,K,h,hl => by
   rw[List.foldl_cons]
   exact KB.fold hi (l:=l) (KB.use h (hl b (by simp)) hi) fun x hx=>hl x (by simp[hx])
theorem Ry {i a:Nat}(hi:i<2):∀ {l:List Nat} {K:List KeyUse},(∀ b∈l,Ej b=Ej a->b=a)->KB K->(∀ b∈l,b<256)->Bf (l.foldl (Jp i) K) (Ej a)=if a∈l then (i:Int)+1 else Bf K (Ej a)
 | [],_,_,_,_=>by simp
 | b :: l,K,hj,h,hl => by
   have hb:=hl b (by simp)
   rw[List.foldl_cons,Ry hi (fun x hx=>hj x (by simp[hx])) (h.use hb hi) (fun x hx=>hl x (by simp[hx])),h.qR (hj b (by simp))]
   by_cases e:b=a
   ·subst e;simp
   ·by_cases e2:a∈l
    ·simp[e2]
    ·simp[e,e2,Ne.symm e]
theorem Jk {s:Space}{msg:ByteArray}{i:Nat}(hi:i<2):∀ (ks:List Nat) (seen:List ByteArray) (K:List KeyUse),Inj ks->KB K->ks.Nodup->(∀ b∈ks,b<256)->(∀ b∈ks,find s.members (CG b)=some (Yt b)/\CG b ∉ seen/\Bf K (Ej b)<=i)->
 Bl s msg seen K (ks.map (Dm i msg))=.ok (ks.foldl (Jp i) K)
 | [],_,_,_,_,_,_,_=>rfl
 | b :: ks,seen,K,hj,hK,hd,hl,h => by
   obtain⟨h1,h2,h3⟩:=h b (by simp)
   have hb:=hl b (by simp)
   obtain⟨hd1,hd2⟩:=List.nodup_cons.1 hd
   rw[List.map_cons,List.foldl_cons]
   unfold Bl
   rw[show(Dm i msg b).name=CG b from rfl,h1]
   dsimp only
   have e1:(seen.any fun x=>decide (x=CG b))=false:=by
    rw[List.any_eq_false]
    intro x hx e
    have:x=CG b:=of_decide_eq_true e
    rw[this] at hx
    exact h2 hx
   rw[e1,if_neg (by simp),show(Yt b).pub=Ej b from rfl,show(Dm i msg b).sig=Sig.BH (GR.DK b) i msg from rfl,Yx b i hi msg,if_pos rfl,LG,if_neg (by omega)]
   refine Jk hi ks _ _ hj.tail (hK.use hb hi) hd2 (fun x hx=>hl x (by simp[hx])) (fun x hx=>?_)
   obtain⟨g1,g2,g3⟩:=h x (by simp[hx])
   have hx2:=hl x (by simp[hx])
   have hne:b≠x:=fun e=>hd1 (by rw[e];exact hx)
   refine⟨g1,fun hm=>?_,?_⟩
   ·rcases List.mem_cons.1 hm with e|hm
    ·exact hne (Yu hx2 hb e).symm
    ·exact g2 hm
   ·have:=hK.qR (hj b (by simp) x (by simp[hx])) i
    rw[if_neg hne] at this
    show Bf (Jp i K b) (Ej x)<=_
    rw[this]
    exact g3
end Own
end
section
open Go Go.RowKit Go.Maps
theorem PY (b:Nat)(w:World)(hb:b<256):Calls Tryz.prog 47 #[.int .u8 b] w fun e w' => e=.returned (.string (Own.Ej b))/\Below w.heap.size w w':=by
 obtain⟨P,hP⟩:∃ P,P=Own.Ej b:=⟨_,rfl⟩
 rw[<- hP]
 have hpb:=fun W=>TA (GR.DK b) W (by unfold GR.DK;simp[ByteArray.size])
 unfold Own.Ej at hP
 rw[<- hP] at hpb
 have HPB:=zh hpb
 clear hpb hP
 go_enter Tryz.func47,Tryz.ntmps47
 go_wp2_with fail
 refine(MH b _ hb).mono ?_
 rintro e w1 ⟨rfl,hb1⟩
 have HB1:=zh hb1;clear hb1
 obtain⟨S,hS⟩:∃ S,S=GR.DK b:=⟨_,rfl⟩
 rw[<- hS] at HPB ⊢
 clear hS
 go_wp2_with fail
 refine(HPB.out _).mono ?_
 rintro e w2 ⟨rfl,hb2⟩
 have HB2:=zh (HB1.out.trans (hb2.mono HB1.out.size));clear hb2
 go_wp2
 go_ret
 exact⟨rfl,HB2.out⟩
theorem sH (W:World)(g a b c:Nat)(h:At W g 5 #[.int .u8 a,.int .u8 b,.int .u8 c]):(convert 66 9 (.slice (some ⟨g,0,none⟩) 3 3)).run Tryz.prog W=.ok (.string ⟨#[a.toUInt8,b.toUInt8,c.toUInt8]⟩) W:=by
 have:=run_convert_bytes_arg (P:=Tryz.prog) W 66 5 rfl rfl g 0 3 3 [(a:Int),(b:Int),(c:Int)] rfl (fun i hi=>by
  have hi2:i<3:=hi
  have:i=0\/i=1\/i=2:=by omega
  rcases this with rfl|rfl|rfl
  ·exact h.cell 0
  ·exact h.cell 1
  ·exact h.cell 2) 9 rfl
 rw[this]
 rfl
theorem KP (b:Nat)(w:World)(hb:b<256):Calls Tryz.prog 46 #[.int .u8 b] w fun e w' => e=.returned (.string (Own.CG b))/\Below w.heap.size w w':=by
 have hcv:=fun W g=>sH W g (48+b/100) (48+b/10%10) (48+b%10)
 obtain⟨S,hS⟩:∃ S:ByteArray,S=⟨#[(48+b/100).toUInt8,(48+b/10%10).toUInt8,(48+b%10).toUInt8]⟩:=⟨_,rfl⟩
 simp only[<- hS] at hcv
 have zS:S.size=3:=by rw[hS];rfl
 have HE:=zh (show Own.CG b=(⟨#[109]⟩:ByteArray)++S by
  rw[hS]
  apply Sha.BG
  rw[Sha.Bq]
  rfl)
 have HCV:=zh hcv;clear hcv hS
 go_enter Tryz.func46,Tryz.ntmps46
 go_wp2_with fail
 have hat:At (w.alloc (.cells #[.int .u8 (48+(b:Int)/100),.int .u8 (48+(b:Int)/10%10),.int .u8 (48+(b:Int)%10)] 5)) w.heap.size 5 #[.int .u8 ((48+b/100:Nat):Int),.int .u8 ((48+b/10%10:Nat):Int),.int .u8 ((48+b%10:Nat):Int)]:=by
  rw[show((48+b/100:Nat):Int)=48+(b:Int)/100 by omega,show((48+b/10%10:Nat):Int)=48+(b:Int)/10%10 by omega,show((48+b%10:Nat):Int)=48+(b:Int)%10 by omega]
  exact At.new w _ _
 rw[HCV.out _ _ hat]
 have hbw:Below w.heap.size w (w.alloc (.cells #[.int .u8 (48+(b:Int)/100),.int .u8 (48+(b:Int)/10%10),.int .u8 (48+(b:Int)%10)] 5)):=zb
 have HBW:=zh hbw
 clear hat hbw
 go_wp2
 go_ret
 exact⟨by rw[HE.out];rfl,HBW.out⟩
structure CY (w0 w:World) (bs:List (TypeId × Array Value)):Prop where
 size:w.heap.size=w0.heap.size+bs.length
 under:Below w0.heap.size w0 w
 at_:∀ (i:Nat) (t:TypeId) (cs:Array Value),bs[i]? = some (t,cs)->At w (w0.heap.size+i) t cs
structure Au (w0 w:World) (bs:List (TypeId × Array Value)):Prop where
 size:w0.heap.size+bs.length<=w.heap.size
 under:Below w0.heap.size w0 w
 at_:∀ (i:Nat) (t:TypeId) (cs:Array Value),bs[i]? = some (t,cs)->At w (w0.heap.size+i) t cs
section
variable {w0 w w' : World} {bs:List (TypeId × Array Value)}
theorem CY.nil (w:World):CY w w []:=⟨by simp,Below.refl _ _,fun i t cs h=>by simp at h⟩
theorem CY.push (h:CY w0 w bs)(t:TypeId)(cs:Array Value):CY w0 (w.alloc (.cells cs t)) (bs++[(t,cs)]):=by
 refine⟨by rw[World.size_alloc,h.size,List.length_append];rfl,h.under.alloc h.under.size _,fun i t' cs' hi=>?_⟩
 by_cases hl:i<bs.length
 ·rw[List.getElem?_append_left hl] at hi
  exact(h.at_ i t' cs' hi).alloc _
 ·rw[List.getElem?_append_right (by omega)] at hi
  have:i-bs.length=0:=by
   have:=(List.getElem?_eq_some_iff.1 hi).1
   simp at this
   omega
  rw[this] at hi
  cases hi
  have e:w0.heap.size+i=w.heap.size:=by rw[h.size];omega
  rw[e]
  exact At.new _ _ _
theorem CY.boxes (h:CY w0 w bs):Au w0 w bs:=⟨Nat.le_of_eq h.size.symm,h.under,h.at_⟩
theorem Au.step (h:Au w0 w bs)(hb:Below w.heap.size w w'):Au w0 w' bs:=
 ⟨Nat.le_trans h.size hb.size,h.under.trans (hb.mono h.under.size),fun i t cs hi=>(h.at_ i t cs hi).below hb (h.at_ i t cs hi).lt⟩
theorem Au.over (h:Au w0 w bs)(hb:Below (w0.heap.size+bs.length) w w'):Au w0 w' bs:=
 ⟨Nat.le_trans h.size hb.size,h.under.trans (hb.mono (by omega)),fun i t cs hi=>(h.at_ i t cs hi).below hb (by have:=(List.getElem?_eq_some_iff.1 hi).1;omega)⟩
theorem Au.cell (h:Au w0 w bs)(i j:Nat){t:TypeId}{cs:Array Value}{v:Value}(hi:bs[i]? = some (t,cs))(hj:cs[j]? = some v):w.cell? ⟨w0.heap.size+i,j,none⟩=some v:=((h.at_ i t cs hi).cell j).trans hj
theorem Au.free (h:Au w0 w bs)(i j:Nat){t:TypeId}{cs:Array Value}(hi:bs[i]? = some (t,cs)):w.frozen? ⟨w0.heap.size+i,j,none⟩=false:=(h.at_ i t cs hi).free j
theorem Au.at1 (h:Au w0 w bs)(i:Nat){t:TypeId}{cs:Array Value}(hi:bs[i]? = some (t,cs)):At w (w0.heap.size+i) t cs:=h.at_ i t cs hi
theorem Au.lt (h:Au w0 w bs){i:Nat}(hi:i<bs.length):w0.heap.size+i<w.heap.size:=by have:=h.size;omega
theorem Au.put (h:Au w0 w bs)(i j:Nat)(u:Value){t:TypeId}{cs:Array Value}(hi:bs[i]? = some (t,cs)):Au w0 (w.setCell ⟨w0.heap.size+i,j,none⟩ u) (bs.set i (t,cs.setIfInBounds j u)):=by
 refine⟨by rw[List.length_set];exact Nat.le_trans h.size (by simp[World.setCell]),h.under.setCell (by show w0.heap.size<=w0.heap.size+i;omega) _,fun k t' cs' hk=>?_⟩
 have hl:=(List.getElem?_eq_some_iff.1 hi).1
 by_cases hki:k=i
 ·subst hki
  rw[List.getElem?_set_self hl] at hk
  cases hk
  exact(h.at_ k t cs hi).set j u
 ·rw[List.getElem?_set_ne (fun e=>hki e.symm)] at hk
  exact(h.at_ k t' cs' hk).far (p:=⟨w0.heap.size+i,j,none⟩) (by show w0.heap.size+k≠w0.heap.size+i;omega) _
theorem Au.drew (h:Au w0 w bs):Au w0 w.drew bs:=⟨h.size,h.under.drew,fun i t cs hi=>(h.at_ i t cs hi).drew⟩
end
theorem Au.wH{u w:World}{l:List (TypeId×Array Value)}{t:TypeId}{a b:Value}(h:Au u w l)(r:l[0]?=some (t,#[a,b])):w.cell? ⟨u.heap.size,0,none⟩=some a/\w.cell? ⟨u.heap.size,1,none⟩=some b:=⟨h.cell 0 0 r rfl,h.cell 0 1 r rfl⟩
theorem Au.Fw{u w:World}{l:List (TypeId×Array Value)}{t:TypeId}{a b c:Value}(h:Au u w l)(r:l[0]?=some (t,#[a,b,c])):w.cell? ⟨u.heap.size,0,none⟩=some a/\w.cell? ⟨u.heap.size,1,none⟩=some b/\w.cell? ⟨u.heap.size,2,none⟩=some c:=⟨h.cell 0 0 r rfl,h.cell 0 1 r rfl,h.cell 0 2 r rfl⟩
theorem Au.wI{u w:World}{l:List (TypeId×Array Value)}{t:TypeId}{a b c:Value}(h:Au u w l)(r:l[0]?=some (t,#[a,b,c])):w.cell? ⟨u.heap.size,0,none⟩=some a/\w.cell? ⟨u.heap.size,1,none⟩=some b/\w.cell? ⟨u.heap.size,2,none⟩=some c/\w.frozen? ⟨u.heap.size,0,none⟩=false/\w.frozen? ⟨u.heap.size,1,none⟩=false/\w.frozen? ⟨u.heap.size,2,none⟩=false:=⟨h.cell 0 0 r rfl,h.cell 0 1 r rfl,h.cell 0 2 r rfl,h.free 0 0 r,h.free 0 1 r,h.free 0 2 r⟩
theorem Au.wJ{u w:World}{l:List (TypeId×Array Value)}{t:TypeId}{a b c d:Value}(h:Au u w l)(r:l[0]?=some (t,#[a,b,c,d])):w.cell? ⟨u.heap.size,0,none⟩=some a/\w.cell? ⟨u.heap.size,1,none⟩=some b/\w.cell? ⟨u.heap.size,2,none⟩=some c/\w.cell? ⟨u.heap.size,3,none⟩=some d:=⟨h.cell 0 0 r rfl,h.cell 0 1 r rfl,h.cell 0 2 r rfl,h.cell 0 3 r rfl⟩
theorem Au.zat{u w:World}{l:List (TypeId×Array Value)}{t:TypeId}{a b c d:Value}(h:Au u w l)(r:l[0]?=some (t,#[a,b,c,d])):w.cell? ⟨u.heap.size,0,none⟩=some a/\w.cell? ⟨u.heap.size,1,none⟩=some b/\w.cell? ⟨u.heap.size,2,none⟩=some c/\w.cell? ⟨u.heap.size,3,none⟩=some d/\w.frozen? ⟨u.heap.size,0,none⟩=false/\w.frozen? ⟨u.heap.size,1,none⟩=false/\w.frozen? ⟨u.heap.size,2,none⟩=false/\w.frozen? ⟨u.heap.size,3,none⟩=false:=⟨h.cell 0 0 r rfl,h.cell 0 1 r rfl,h.cell 0 2 r rfl,h.cell 0 3 r rfl,h.free 0 0 r,h.free 0 1 r,h.free 0 2 r,h.free 0 3 r⟩
theorem Au.JI{u w:World}{l:List (TypeId×Array Value)}{t:TypeId}{a b c d e f g:Value}(h:Au u w l)(r:l[0]?=some (t,#[a,b,c,d,e,f,g])):w.cell? ⟨u.heap.size,0,none⟩=some a/\w.cell? ⟨u.heap.size,1,none⟩=some b/\w.cell? ⟨u.heap.size,2,none⟩=some c/\w.cell? ⟨u.heap.size,3,none⟩=some d/\w.cell? ⟨u.heap.size,4,none⟩=some e/\w.cell? ⟨u.heap.size,5,none⟩=some f/\w.cell? ⟨u.heap.size,6,none⟩=some g:=⟨h.cell 0 0 r rfl,h.cell 0 1 r rfl,h.cell 0 2 r rfl,h.cell 0 3 r rfl,h.cell 0 4 r rfl,h.cell 0 5 r rfl,h.cell 0 6 r rfl⟩
theorem Au.sI{u w:World}{l:List (TypeId×Array Value)}{t:TypeId}{a b c:Value}(h:Au u w l)(r:l[1]?=some (t,#[a,b,c])):w.cell? ⟨u.heap.size+1,0,none⟩=some a/\w.cell? ⟨u.heap.size+1,1,none⟩=some b/\w.cell? ⟨u.heap.size+1,2,none⟩=some c:=⟨h.cell 1 0 r rfl,h.cell 1 1 r rfl,h.cell 1 2 r rfl⟩
theorem Au.zdV{u w:World}{l:List (TypeId×Array Value)}{t:TypeId}{a b c:Value}(h:Au u w l)(r:l[1]?=some (t,#[a,b,c])):w.cell? ⟨u.heap.size+1,0,none⟩=some a/\w.cell? ⟨u.heap.size+1,1,none⟩=some b/\w.cell? ⟨u.heap.size+1,2,none⟩=some c/\w.frozen? ⟨u.heap.size+1,0,none⟩=false/\w.frozen? ⟨u.heap.size+1,1,none⟩=false/\w.frozen? ⟨u.heap.size+1,2,none⟩=false:=⟨h.cell 1 0 r rfl,h.cell 1 1 r rfl,h.cell 1 2 r rfl,h.free 1 0 r,h.free 1 1 r,h.free 1 2 r⟩
theorem Au.KE{u w:World}{l:List (TypeId×Array Value)}{t:TypeId}{a b c d e f g:Value}(h:Au u w l)(r:l[1]?=some (t,#[a,b,c,d,e,f,g])):w.cell? ⟨u.heap.size+1,0,none⟩=some a/\w.cell? ⟨u.heap.size+1,1,none⟩=some b/\w.cell? ⟨u.heap.size+1,2,none⟩=some c/\w.cell? ⟨u.heap.size+1,3,none⟩=some d/\w.cell? ⟨u.heap.size+1,4,none⟩=some e/\w.cell? ⟨u.heap.size+1,5,none⟩=some f/\w.cell? ⟨u.heap.size+1,6,none⟩=some g:=⟨h.cell 1 0 r rfl,h.cell 1 1 r rfl,h.cell 1 2 r rfl,h.cell 1 3 r rfl,h.cell 1 4 r rfl,h.cell 1 5 r rfl,h.cell 1 6 r rfl⟩
theorem Au.Oh{u w:World}{l:List (TypeId×Array Value)}{t:TypeId}{a b c:Value}(h:Au u w l)(r:l[2]?=some (t,#[a,b,c])):w.cell? ⟨u.heap.size+1+1,0,none⟩=some a/\w.cell? ⟨u.heap.size+1+1,1,none⟩=some b/\w.cell? ⟨u.heap.size+1+1,2,none⟩=some c/\w.frozen? ⟨u.heap.size+1+1,0,none⟩=false/\w.frozen? ⟨u.heap.size+1+1,1,none⟩=false/\w.frozen? ⟨u.heap.size+1+1,2,none⟩=false:=⟨h.cell 2 0 r rfl,h.cell 2 1 r rfl,h.cell 2 2 r rfl,h.free 2 0 r,h.free 2 1 r,h.free 2 2 r⟩
theorem Au.zau{u w:World}{l:List (TypeId×Array Value)}{t:TypeId}{a b c d e f g:Value}(h:Au u w l)(r:l[2]?=some (t,#[a,b,c,d,e,f,g])):w.cell? ⟨u.heap.size+1+1,0,none⟩=some a/\w.cell? ⟨u.heap.size+1+1,1,none⟩=some b/\w.cell? ⟨u.heap.size+1+1,2,none⟩=some c/\w.cell? ⟨u.heap.size+1+1,3,none⟩=some d/\w.cell? ⟨u.heap.size+1+1,4,none⟩=some e/\w.cell? ⟨u.heap.size+1+1,5,none⟩=some f/\w.cell? ⟨u.heap.size+1+1,6,none⟩=some g/\w.frozen? ⟨u.heap.size+1+1,0,none⟩=false/\w.frozen? ⟨u.heap.size+1+1,1,none⟩=false/\w.frozen? ⟨u.heap.size+1+1,2,none⟩=false/\w.frozen? ⟨u.heap.size+1+1,3,none⟩=false/\w.frozen? ⟨u.heap.size+1+1,4,none⟩=false/\w.frozen? ⟨u.heap.size+1+1,5,none⟩=false/\w.frozen? ⟨u.heap.size+1+1,6,none⟩=false:=⟨h.cell 2 0 r rfl,h.cell 2 1 r rfl,h.cell 2 2 r rfl,h.cell 2 3 r rfl,h.cell 2 4 r rfl,h.cell 2 5 r rfl,h.cell 2 6 r rfl,h.free 2 0 r,h.free 2 1 r,h.free 2 2 r,h.free 2 3 r,h.free 2 4 r,h.free 2 5 r,h.free 2 6 r⟩
theorem Au.zeA{u w:World}{l:List (TypeId×Array Value)}{t:TypeId}{a b c:Value}(h:Au u w l)(r:l[3]?=some (t,#[a,b,c])):w.cell? ⟨u.heap.size+1+1+1,0,none⟩=some a/\w.cell? ⟨u.heap.size+1+1+1,1,none⟩=some b/\w.cell? ⟨u.heap.size+1+1+1,2,none⟩=some c:=⟨h.cell 3 0 r rfl,h.cell 3 1 r rfl,h.cell 3 2 r rfl⟩
theorem Au.zeo{u w:World}{l:List (TypeId×Array Value)}{t:TypeId}{a b c:Value}(h:Au u w l)(r:l[3]?=some (t,#[a,b,c])):w.cell? ⟨u.heap.size+1+1+1,0,none⟩=some a/\w.cell? ⟨u.heap.size+1+1+1,1,none⟩=some b/\w.cell? ⟨u.heap.size+1+1+1,2,none⟩=some c/\w.frozen? ⟨u.heap.size+1+1+1,0,none⟩=false/\w.frozen? ⟨u.heap.size+1+1+1,1,none⟩=false/\w.frozen? ⟨u.heap.size+1+1+1,2,none⟩=false:=⟨h.cell 3 0 r rfl,h.cell 3 1 r rfl,h.cell 3 2 r rfl,h.free 3 0 r,h.free 3 1 r,h.free 3 2 r⟩
end
section
open Go Go.RowKit Go.Maps
theorem Au.keep {w0 w w' : World}{bs:List (TypeId × Array Value)}(h:Au w0 w bs)(hu:Below w0.heap.size w0 w')(hs:w.heap.size<=w'.heap.size)(hk:∀ k,w0.heap.size<=k->k<w0.heap.size+bs.length->w'.heap[k]? = w.heap[k]?):Au w0 w' bs:=
 ⟨Nat.le_trans h.size hs,hu,fun i t cs hi=>(h.at_ i t cs hi).keep (hk _ (by omega) (by have:=(List.getElem?_eq_some_iff.1 hi).1;omega))⟩
theorem Au.far {w0 w w' : World}{bs:List (TypeId × Array Value)}(h:Au w0 w bs){O:Nat}(hO:w0.heap.size+bs.length<=O){row:Option Nat}(hr:∀ k,row=some k->O<=k)(hg:w.grownBy w' row):Au w0 w' bs:=by
 refine h.keep (h.under.grown hg h.under.size (fun k hk=>by have:=hr k hk;omega)) hg.size (fun k _ hk=>hg.block k (by have:=h.size;omega) (fun e=>by have:=hr k e.symm;omega))
theorem Au.QZ {w0 w:World}{bs:List (TypeId × Array Value)}(h:Au w0 w bs){O:Nat}(hO:w0.heap.size+bs.length<=O)(j:Nat)(u:Value):Au w0 (w.setCell ⟨O,j,none⟩ u) bs:=
 h.keep (h.under.setCell (by show w0.heap.size<=O;omega) _) (by simp[World.setCell]) (fun k _ hk=>zo (by show k≠O;omega))
theorem dZ {w:World}{base base' n size:Nat}{e:TypeId}{v:Value}{xs:List Value}(h:w.ownsRow base e size v n xs)(hb:base' <= base):w.ownsRow base' e size v n xs:=by
 refine⟨h.1,?_⟩
 rcases h.2 with h0|⟨g,cap,cur,h1,h2,h3⟩
 ·exact .inl h0
 ·exact .inr ⟨g,cap,cur,h1,Nat.le_trans hb h2,h3⟩
theorem TG (b i:Nat)(msg:ByteArray)(w:World)(hb:b<256)(hi:i<2)(JF:msg.size<=140737488350000):
 Calls Tryz.prog 41 #[.int .u8 b,.int .i64 i,.string msg] w fun e w' => ∃ cv pv,e=.returned (.agg #[.string (Own.CG b),.int .i64 i,cv,pv])/\w'.ownsRow w.heap.size 9 1 cv 67 ((Own.Dm i msg b).sig.chains.map Value.string)/\w'.ownsRow w.heap.size 9 1 pv 1 ((Own.Dm i msg b).sig.path.map Value.string)/\Below w.heap.size w w':=by
 obtain⟨CH,hCH⟩:∃ C,C=(Own.Dm i msg b).sig.chains.map Value.string:=⟨_,rfl⟩
 obtain⟨PA,hPA⟩:∃ C,C=(Own.Dm i msg b).sig.path.map Value.string:=⟨_,rfl⟩
 rw[<- hCH,<- hPA]
 have hsg:=fun W=>Yk (GR.DK b) msg i W (by unfold GR.DK;simp[ByteArray.size]) hi JF
 have wK:CH=(Sig.BH (GR.DK b) i msg).chains.map Value.string:=hCH
 have wL:PA=(Sig.BH (GR.DK b) i msg).path.map Value.string:=hPA
 rw[<- wK,<- wL] at hsg
 clear hCH hPA wK wL
 have hky:=fun W=>MH b W hb
 have hnm:=fun W=>KP b W hb
 obtain⟨S,hS⟩:∃ S,S=GR.DK b:=⟨_,rfl⟩
 obtain⟨N,hN⟩:∃ S,S=Own.CG b:=⟨_,rfl⟩
 rw[<- hN]
 simp only[<- hS] at hsg hky
 simp only[<- hN] at hnm
 have HSG:=zh hsg;have HKY:=zh hky;have HNM:=zh hnm
 clear hsg hky hnm hS hN
 have F1:=zh (show Au w _ [(72,#[.string ⟨#[]⟩,.int .i64 0,.slice none 0 0,.slice none 0 0])] from((CY.nil w).push 72 #[.string ⟨#[]⟩,.int .i64 0,.slice none 0 0,.slice none 0 0]).boxes)
 go_enter Tryz.func41,Tryz.ntmps41
 go_upto_region 1 with fail
 generalize (w.alloc (.cells #[.string ⟨#[]⟩,.int .i64 0,.slice none 0 0,.slice none 0 0] 72))=w1 at*
 go_wp2_with fail
 refine(HKY.out w1).mono ?_
 rintro e w2 ⟨rfl,hb2⟩
 have F2:=zh (F1.out.step hb2);clear hb2
 go_upto_region 2 with fail
 have hb3:Below w2.heap.size w2 (w2.alloc (.cells #[.string S,.int .i64 1,.int .i64 0] 123)):=zb
 have VO:=At.new w2 123 #[.string S,.int .i64 1,.int .i64 0]
 have F3:=zh (F2.out.step hb3);have iK:=zh VO;have B3:=zh hb3
 have hg2:=F2.out.size
 clear hb3 VO
 generalize w2.alloc (.cells #[.string S,.int .i64 1,.int .i64 0] 123)=w3 at*
 obtain⟨g,hg⟩:∃ g,g=w2.heap.size:=⟨_,rfl⟩
 rw[<- hg] at iK ⊢
 have hgw:w.heap.size+1<=g:=by rw[hg];simpa using hg2
 clear hg hg2
 have c0:=iK.out.cell 0;have c1:=iK.out.cell 1;have c2:=iK.out.cell 2;have f2:=iK.out.free 2
 simp only[zg] at c0 c1 c2
 go_upto_region 3 with fail
 have TI:=iK.out.set 2 (.int .i64 i)
 have F4:=zh (F3.out.over (w':=w3.setCell ⟨g,2,none⟩ (.int .i64 i)) ((Below.refl _ _).setCell (p:=⟨g,2,none⟩) (by show w.heap.size+1<=g;exact hgw) _))
 have sM:=zh TI
 clear TI c0 c1 c2 f2 B3
 generalize w3.setCell ⟨g,2,none⟩ (.int .i64 i)=w4 at*
 have c0:=sM.out.cell 0;have c1:=sM.out.cell 1;have c2:=sM.out.cell 2
 simp only[List.getElem?_toArray,List.getElem?_cons_zero,List.getElem?_cons_succ,List.setIfInBounds_toArray,List.set_cons_succ,List.set_cons_zero] at c0 c1 c2
 go_wp2_with fail
 refine(HSG.out w4).mono ?_
 rintro e w5 ⟨cv,pv,rfl,hcv,hpv,hb5⟩
 have hz4:w.heap.size+1<=w4.heap.size:=by simpa using F4.out.size
 have F5:=zh (F4.out.step hb5);have HCV:=zh hcv;have HPV:=zh hpv
 obtain⟨ca,cm,cc,rfl⟩:=Ac hcv
 obtain rfl:=Ba hcv
 obtain⟨pa,pm,pc,rfl⟩:=Ac hpv
 obtain rfl:=Ba hpv
 clear hcv hpv hb5 c0 c1 c2
 go_upto_region 4 with fail
 have hb6:Below w5.heap.size w5 ((w5.alloc (.cells #[.int .i64 i,.slice ca 67 cc,.slice pa 1 pc] 70)).alloc (.cells #[.string S,.int .i64 1,.int .i64 ((i:Int)+1)] 123)):=zb.alloc (by simp) _
 have Di:=(At.new w5 70 #[.int .i64 i,.slice ca 67 cc,.slice pa 1 pc]).alloc (.cells #[.string S,.int .i64 1,.int .i64 ((i:Int)+1)] 123)
 have hz5:=F5.out.size
 have F6:=zh (F5.out.step hb6);have Eu:=zh Di;have zav:=zh (own_below HCV.out hb6);have zaw:=zh (own_below HPV.out hb6)
 clear hb6 Di HCV HPV
 generalize (w5.alloc (.cells #[.int .i64 i,.slice ca 67 cc,.slice pa 1 pc] 70)).alloc (.cells #[.string S,.int .i64 1,.int .i64 ((i:Int)+1)] 123)=w6 at*
 obtain⟨r,hr⟩:∃ r,r=w5.heap.size:=⟨_,rfl⟩
 rw[<- hr] at Eu ⊢
 have hrw:w.heap.size+1<=r:=by rw[hr];simpa using hz5
 clear hr hz5
 have hrl:r<w6.heap.size:=Eu.out.lt
 obtain⟨c0,c1,c2⟩:=Eu.out.c3
 have Y0:=zh (zi c0)
 refine Lex.zn (fun k=>k=r) [2] 3 [2] ?_
 simp only[Lex.Bp,zd]
 go_wp2_with fail
 refine(HNM.out w6.drew).mono ?_
 rintro e w7 ⟨rfl,hb7⟩
 have B7:=zh (show Below w6.heap.size w6 w7 from(Below.refl w6.heap.size w6).drew.trans hb7)
 have F7:=zh (F6.out.step B7.out);have wO:=zh (own_below zav.out B7.out);have wP:=zh (own_below zaw.out B7.out)
 have Oc:=Eu.out.below B7.out hrl
 clear hb7 c0 c1 c2
 obtain⟨c0,c1,c2⟩:=Oc.c3
 obtain⟨x00,x01,x02,x03,wQ,wT,wU,zbm⟩:=F7.out.zat rfl
 go_wp2
 refine Lex.Mid.intro (fun k hk hkl=>by rw[hk];exact B7.out.block _ hrl) ?_
 go_wp2
 refine Lex.zk ⟨⟨rfl,Y0.out⟩,trivial⟩ ?_
 go_wp2
 have G2:=(((F7.out.put 0 0 (.string N) rfl).put 0 1 (.int .i64 i) rfl).put 0 2 (.slice ca 67 cc) rfl).put 0 3 (.slice pa 1 pc) rfl
 refine Ob rfl rfl (AJ (G2.at1 0 rfl) Tryz.underlying72 rfl (by kernel_rfl)) ⟨_,_,rfl,?_,?_,G2.under⟩
 ·refine dZ (Ae wO.out (fun k hk=>?_)) (by omega)
  have hk1:k≠w.heap.size:=by have:=Ak wO.out k hk;omega
  rw[zo hk1,zo hk1,zo hk1,zo hk1]
 ·refine dZ (Ae wP.out (fun k hk=>?_)) (by omega)
  have hk1:k≠w.heap.size:=by have:=Ak wP.out k hk;omega
  rw[zo hk1,zo hk1,zo hk1,zo hk1]
end
section
open Go
namespace Own
def aL (L:List Nat)(i j:Nat):Prop:=∀ p q,p<q->q<=i->q≠j->L.getD p 0<=L.getD q 0
theorem Rz {L:List Nat}{i:Nat}(hi:i<L.length)(x p:Nat):(L.set i x).getD p 0=if p=i then x else L.getD p 0:=by
 rw[List.getD_eq_getElem?_getD,List.getD_eq_getElem?_getD,List.getElem?_set]
 by_cases h:i=p
 ·subst h;simp[hi]
 ·rw[if_neg h,if_neg (fun e=>h e.symm)]
def Nb (L:List Nat)(j:Nat):List Nat:=(L.set j (L.getD (j-1) 0)).set (j-1) (L.getD j 0)
theorem UL (L:List Nat)(j:Nat):(Nb L j).length=L.length:=by simp[Nb]
theorem EH {L:List Nat}{j:Nat}(h0:0<j)(hj:j<L.length)(p:Nat):(Nb L j).getD p 0=if p=j-1 then L.getD j 0 else if p=j then L.getD (j-1) 0 else L.getD p 0:=by
 unfold Nb
 rw[Rz (by simp;omega),Rz hj]
theorem aL.swap {L:List Nat}{i j:Nat}(h:aL L i j)(h0:0<j)(hji:j<=i)(hi:i<L.length)(hlt:L.getD j 0<L.getD (j-1) 0):aL (Nb L j) i (j-1):=by
 intro p q hpq hq hne
 rw[EH h0 (by omega),EH h0 (by omega),if_neg hne]
 by_cases hqj:q=j
 ·rw[if_pos hqj]
  by_cases hp:p=j-1
  ·rw[if_pos hp];omega
  ·rw[if_neg hp,if_neg (by omega)]
   exact h p (j-1) (by omega) (by omega) (by omega)
 ·rw[if_neg hqj]
  by_cases hp:p=j-1
  ·rw[if_pos hp]
   exact h j q (by omega) hq hqj
  ·rw[if_neg hp]
   by_cases hp2:p=j
   ·rw[if_pos hp2]
    exact h (j-1) q (by omega) hq hqj
   ·rw[if_neg hp2]
    exact h p q hpq hq hqj
def Ord (L:List Nat)(i:Nat):Prop:=∀ p q,p<q->q<i->L.getD p 0<=L.getD q 0
theorem Ord.start {L:List Nat}{i:Nat}(h:Ord L i):aL L i i:=fun p q hpq hq hne=>h p q hpq (by omega)
theorem aL.done {L:List Nat}{i j:Nat}(h:aL L i j)(hj:j=0\/L.getD (j-1) 0<=L.getD j 0):Ord L (i+1):=by
 intro p q hpq hq
 by_cases hqj:q=j
 ·rcases hj with h0|h1
  ·omega
  ·subst hqj
   by_cases hp:p=q-1
   ·rw[hp];exact h1
   ·exact Nat.le_trans (h p (q-1) (by omega) (by omega) (by omega)) h1
 ·exact h p q hpq (by omega) hqj
theorem Nc {L:List Nat}{x:Nat} : x∈L↔∃ p,p<L.length/\L.getD p 0=x:=by
 rw[List.mem_iff_getElem]
 constructor
 ·rintro⟨p,hp,e⟩
  exact⟨p,hp,by rw[List.getD_eq_getElem?_getD,List.getElem?_eq_getElem hp];exact e⟩
 ·rintro⟨p,hp,e⟩
  refine⟨p,hp,?_⟩
  rw[List.getD_eq_getElem?_getD,List.getElem?_eq_getElem hp] at e
  exact e
theorem iL {L:List Nat}{j:Nat}(h0:0<j)(hj:j<L.length)(x:Nat):x∈Nb L j↔x∈L:=by
 rw[Nc,Nc,UL]
 constructor
 ·rintro⟨p,hp,e⟩
  rw[EH h0 hj] at e
  by_cases h1:p=j-1
  ·rw[if_pos h1] at e;exact⟨j,hj,e⟩
  ·rw[if_neg h1] at e
   by_cases h2:p=j
   ·rw[if_pos h2] at e;exact⟨j-1,by omega,e⟩
   ·rw[if_neg h2] at e;exact⟨p,hp,e⟩
 ·rintro⟨p,hp,e⟩
  by_cases h1:p=j-1
  ·refine⟨j,hj,?_⟩
   rw[EH h0 hj,if_neg (by omega),if_pos rfl,<- h1]
   exact e
  ·by_cases h2:p=j
   ·refine⟨j-1,by omega,?_⟩
    rw[EH h0 hj,if_pos rfl,<- h2]
    exact e
   ·refine⟨p,hp,?_⟩
    rw[EH h0 hj,if_neg h1,if_neg h2]
    exact e
structure Sqz (L0 L:List Nat) (n k:Nat):Prop where
 k0:0<k
 kn:k<=n
 len:L.length=L0.length
 nl:n<=L0.length
 incr:∀ p q,p<q->q<k->L.getD p 0<L.getD q 0
 last:L.getD (k-1) 0=L0.getD (n-1) 0
 mem:∀ x,(∃ p,p<k/\L.getD p 0=x)↔(∃ p,p<n/\L0.getD p 0=x)
 rest:∀ p,n-1<=p->k<=p->L.getD p 0=L0.getD p 0
theorem Sqz.start {L:List Nat}(h:0<L.length):Sqz L L 1 1:=
 ⟨by omega,by omega,rfl,h,fun p q hpq hq=>by omega,rfl,fun x=>Iff.rfl,fun _ _ _=>rfl⟩
theorem Sqz.same {L0 L:List Nat}{n k:Nat}(h:Sqz L0 L n k)(hn:n<L0.length)(he:L0.getD n 0=L0.getD (n-1) 0):Sqz L0 L (n+1) k:=by
 have hk:=h.k0
 have hkn:=h.kn
 refine⟨h.k0,by omega,h.len,hn,h.incr,?_,fun x=>?_,fun p h1 h2=>h.rest p (by omega) h2⟩
 ·rw[h.last,Nat.add_sub_cancel];exact he.symm
 ·rw[h.mem x]
  constructor
  ·rintro⟨p,hp,e⟩;exact⟨p,by omega,e⟩
  ·rintro⟨p,hp,e⟩
   by_cases hpn:p=n
   ·exact⟨n-1,by omega,by rw[<- he,<- hpn];exact e⟩
   ·exact⟨p,by omega,e⟩
theorem Sqz.next {L0 L:List Nat}{n k:Nat}(h:Sqz L0 L n k)(hs:Ord L0 L0.length)(hn:n<L0.length)(he:L0.getD n 0≠L0.getD (n-1) 0):Sqz L0 (L.set k (L0.getD n 0)) (n+1) (k+1):=by
 have hk:=h.k0
 have hkn:=h.kn
 have hlen:=h.len
 have hlt:L0.getD (n-1) 0<L0.getD n 0:=by
  have:=hs (n-1) n (by omega) hn
  omega
 have hg:∀ p,(L.set k (L0.getD n 0)).getD p 0=if p=k then L0.getD n 0 else L.getD p 0:=fun p=>Rz (by omega) _ p
 refine⟨by omega,by omega,by rw[List.length_set];exact h.len,hn,fun p q hpq hq=>?_,?_,fun x=>?_,fun p h1 h2=>?_⟩
 ·rw[hg,hg,if_neg (show p≠k by omega)]
  by_cases hqk:q=k
  ·rw[if_pos hqk]
   have h1:L.getD p 0<=L.getD (k-1) 0:=by
    by_cases e:p=k-1
    ·rw[e];exact Nat.le_refl _
    ·exact Nat.le_of_lt (h.incr p (k-1) (by omega) (by omega))
   rw[h.last] at h1
   omega
  ·rw[if_neg hqk];exact h.incr p q hpq (by omega)
 ·rw[hg,Nat.add_sub_cancel,Nat.add_sub_cancel,if_pos rfl]
 ·constructor
  ·rintro⟨p,hp,e⟩
   rw[hg] at e
   by_cases hpk:p=k
   ·rw[if_pos hpk] at e;exact⟨n,by omega,e⟩
   ·rw[if_neg hpk] at e
    obtain⟨q,hq,e2⟩:=(h.mem x).1 ⟨p,by omega,e⟩
    exact⟨q,by omega,e2⟩
  ·rintro⟨p,hp,e⟩
   by_cases hpn:p=n
   ·exact⟨k,by omega,by rw[hg,if_pos rfl,<- hpn];exact e⟩
   ·obtain⟨q,hq,e2⟩:=(h.mem x).2 ⟨p,by omega,e⟩
    exact⟨q,by omega,by rw[hg,if_neg (by omega)];exact e2⟩
 ·rw[hg,if_neg (by omega)]
  exact h.rest p (by omega) (by omega)
theorem iM {L:List Nat}(h:∀ p q,p<q->q<L.length->L.getD p 0<L.getD q 0):L.Pairwise (· < ·):=by
 rw[List.pairwise_iff_getElem]
 intro i j hi hj hij
 have:=h i j hij hj
 rw[List.getD_eq_getElem?_getD,List.getD_eq_getElem?_getD,List.getElem?_eq_getElem hi,List.getElem?_eq_getElem hj] at this
 exact this
theorem getD_take {L:List Nat}{k p:Nat}(h:p<k):(L.take k).getD p 0=L.getD p 0:=by
 rw[List.getD_eq_getElem?_getD,List.getD_eq_getElem?_getD,List.getElem?_take_of_lt h]
end Own
end
section
open Go Go.RowKit Go.Maps
def Qa (L:List Nat):List Value:=L.map fun b:Nat=>Value.int .u8 (b:Int)
theorem Io (L:List Nat):(Qa L).length=L.length:=List.length_map _
theorem RB {L:List Nat}{i:Nat}(h:i<L.length):(Qa L)[i]? = some (.int .u8 ((L.getD i 0:Nat):Int)):=by
 unfold Qa
 rw[List.getElem?_map,List.getElem?_eq_getElem h,List.getD_eq_getElem?_getD,List.getElem?_eq_getElem h]
 rfl
theorem lH (L:List Nat)(i x:Nat):(Qa L).set i (.int .u8 (x:Int))=Qa (L.set i x):=by
 unfold Qa
 rw[List.map_set]
abbrev Fz (base:Nat)(w:World)(v:Value)(n:Nat)(L:List Nat):Prop:=w.ownsRow base 5 1 v n (Qa L)
theorem Fz.cell {base:Nat}{w:World}{g n c:Nat}{L:List Nat}(h:Fz base w (.slice (some ⟨g,0,none⟩) n c) n L){i:Nat}(hi:i<n):w.cell? ⟨g,i,none⟩=some (.int .u8 ((L.getD i 0:Nat):Int)):=by
 have hl:L.length=n:=by have:=h.1;rw[Io] at this;omega
 rw[h.cellAt i (by omega)]
 exact RB (by omega)
theorem Fz.put {base:Nat}{w:World}{g n c:Nat}{L:List Nat}(h:Fz base w (.slice (some ⟨g,0,none⟩) n c) n L)(i x:Nat):Fz base (w.setCell ⟨g,i,none⟩ (.int .u8 (x:Int))) (.slice (some ⟨g,0,none⟩) n c) n (L.set i x):=by
 have:=(h.stored i (.int .u8 (x:Int))).1
 rw[lH] at this
 exact this
theorem Yy (x:Nat)(w:World):Calls Tryz.prog 240 #[.int .u8 x] w fun e w' => e=.returned (.bool false)/\w' = w:=by
 go_enter Tryz.func240,Tryz.ntmps240
 go_wp2
 go_ret
 exact⟨by simp,rfl⟩
theorem aM (x y:Nat)(w:World):Calls Tryz.prog 210 #[.int .u8 x,.int .u8 y] w fun e w' => e=.returned (.bool (decide (x<y)))/\w' = w:=by
 go_enter Tryz.func210,Tryz.ntmps210
 go_wp2_with fail
 refine(Yy x _).mono ?_
 rintro e _ ⟨rfl,rfl⟩
 go_wp2
 go_ret
 exact⟨rfl,rfl⟩
theorem TJ (base g n c:Nat)(L:List Nat)(w:World)(h:Fz base w (.slice (some ⟨g,0,none⟩) n c) n L)(hn:1<=n)(hn2:n<=1000):
 Calls Tryz.prog 204 #[.slice (some ⟨g,0,none⟩) n c,.int .i64 0,.int .i64 n] w fun e w' => e=.returned (.tuple #[])/\∃ L',L'.length=n/\Fz base w' (.slice (some ⟨g,0,none⟩) n c) n L' /\ Own.Ord L' n/\(∀ x,x∈L' ↔ x∈L)/\Fr (fun k=>k=g) w w':=by
 have hl:L.length=n:=by have:=h.1;rw[Io] at this;omega
 have HW:=zh h;have HL:=zh hl;clear h hl
 go_enter Tryz.func204,Tryz.ntmps204
 go_wp2
 go_loopw [6] (fun i wr=>∃ (k:Nat) (L' : List Nat),1<=k/\k<=n/\i=.int .i64 k/\L'.length=n/\Fz base wr (.slice (some ⟨g,0,none⟩) n c) n L' /\ Own.Ord L' k/\(∀ x,x∈L' ↔ x∈L)/\Fr (fun k=>k=g) w wr) (fun i _=>n-(intOf i).toNat)
 case atStart=>exact⟨1,L,by omega,hn,rfl,HL.out,HW.out,fun p q hpq hq=>by omega,fun x=>Iff.rfl,Fr.refl _ _⟩
 case round=>
  obtain⟨k,L1,hk1,hk,rfl,hl1,hrow,ou,hmem,hfr⟩:=hrel
  have HR:=zh hrow;have HL1:=zh hl1;have HO:=zh ou;have HM:=zh hmem;have HF:=zh hfr
  clear hrow hl1 ou hmem hfr
  by_cases hlt:k<n
  case neg=>
   have hke:k=n:=by omega
   have dk:decide ((k:Int)<n)=false:=zf
   have HO2:=zh (show Own.Ord L1 n by rw[<- hke];exact HO.out)
   clear hke
   go_wp2
   go_end0
   exact⟨rfl,L1,HL1.out,HR.out,HO2.out,HM.out,HF.out⟩
  have dk:decide ((k:Int)<n)=true:=zt
  go_wp2_with fail
  obtain⟨w5,hw5⟩:∃ w5,w5=wr:=⟨_,rfl⟩
  subst hw5
  go_loopw [7] (fun j wr=>∃ (m:Nat) (L' : List Nat),m<=k/\j=.int .i64 m/\L'.length=n/\Fz base wr (.slice (some ⟨g,0,none⟩) n c) n L' /\ Own.aL L' k m/\(∀ x,x∈L' ↔ x∈L)/\Fr (fun k=>k=g) w wr) (fun j _=>(intOf j).toNat)
  case atStart=>exact⟨k,L1,Nat.le_refl _,rfl,HL1.out,HR.out,HO.out.start,HM.out,HF.out⟩
  case round=>
   obtain⟨m,L2,hm,rfl,hl2,hrow,hup,hmem,hfr⟩:=hrel
   have HR2:=zh hrow;have HL2:=zh hl2;have HU:=zh hup;have HM2:=zh hmem;have HF2:=zh hfr
   clear hrow hl2 hup hmem hfr
   cases m with
   | zero =>
     have d0:decide ((0:Int)<((0:Nat):Int))=false:=rfl
     have HO2:=zh (HU.out.done (.inl rfl));clear HU
     go_wp2
     refine Lex.zl ?_
     go_wp2
     refine Lex.ze ?_
     go_wp2
     exact⟨⟨k+1,L2,by omega,by omega,by go_num,HL2.out,Ae HR2.out (fun _ _=>rfl),HO2.out,HM2.out,HF2.out.drew⟩,by simp[intOf];omega⟩
   | succ q=>
   have c1:=HR2.out.cell (i:=q+1) (by omega);have c2:=HR2.out.cell (i:=q) (by omega)
   obtain⟨x,hx⟩:∃ x,x=L2.getD (q+1) 0:=⟨_,rfl⟩
   obtain⟨y,hy⟩:∃ y,y=L2.getD q 0:=⟨_,rfl⟩
   rw[<- hx] at c1
   rw[<- hy] at c2
   have HX:=zh hx;have HY:=zh hy;clear hx hy
   have d0:decide ((0:Int)<((q+1:Nat):Int))=true:=zt
   go_wp2
   refine Lex.zl ?_
   go_wp2_with fail
   refine(aM x y _).mono ?_
   rintro e _ ⟨rfl,rfl⟩
   by_cases hxy:x<y
   case neg=>
    have dxy:decide (x<y)=false:=decide_eq_false hxy
    rw[dxy]
    have HO2:=zh (HU.out.done (.inr (by show L2.getD q 0<=L2.getD (q+1) 0;rw[<- HX.out,<- HY.out];omega)));clear HU
    go_wp2
    refine Lex.ze ?_
    go_wp2
    exact⟨⟨k+1,L2,by omega,by omega,by go_num,HL2.out,Ae HR2.out (fun _ _=>rfl),HO2.out,HM2.out,HF2.out.drew⟩,by simp[intOf];omega⟩
   have dxy:decide (x<y)=true:=decide_eq_true hxy
   rw[dxy]
   go_wp2
   refine Lex.ze ?_
   have hup:=HU.out.swap (by omega) hm (by rw[HL2.out];omega) (by show L2.getD (q+1) 0<L2.getD q 0;rw[<- HX.out,<- HY.out];exact hxy)
   have hmm:∀ z,z∈Own.Nb L2 (q+1)↔z∈L:=fun z=>(Own.iL (by omega) (by rw[HL2.out];omega) z).trans (HM2.out z)
   have hrow:=(HR2.out.put (q+1) y).put q x
   have hsw:(L2.set (q+1) y).set q x=Own.Nb L2 (q+1):=by rw[HX.out,HY.out];rfl
   rw[hsw] at hrow
   have hfr:=((HF2.out.setCell (p:=⟨g,q+1,none⟩) (.inl rfl) (.int .u8 (y:Int))).setCell (p:=⟨g,q,none⟩) (.inl rfl) (.int .u8 (x:Int)))
   have HU3:=zh hup;have HM3:=zh hmm;have HR3:=zh hrow;have HF3:=zh hfr
   have f1:=HR2.out.frozenAt (q+1);have f2:=HR2.out.frozenAt q
   clear hup hmm hrow hfr hsw dxy
   go_wp2
   refine Lex.zl ?_
   go_wp2
   refine Lex.ze ?_
   go_wp2
   exact⟨⟨q,Own.Nb L2 (q+1),by omega,rfl,by rw[Own.UL];exact HL2.out,Ae HR3.out (fun _ _=>rfl),HU3.out,HM3.out,HF3.out.drew.drew⟩,by simp[intOf]⟩
theorem iN (base g n c:Nat)(lim:Int)(L:List Nat)(w:World)(h:Fz base w (.slice (some ⟨g,0,none⟩) n c) n L)(hn:1<=n)(hn2:n<=12):
 Calls Tryz.prog 177 #[.slice (some ⟨g,0,none⟩) n c,.int .i64 0,.int .i64 n,.int .i64 lim] w fun e w' => e=.returned (.tuple #[])/\∃ L',L'.length=n/\Fz base w' (.slice (some ⟨g,0,none⟩) n c) n L' /\ Own.Ord L' n/\(∀ x,x∈L' ↔ x∈L)/\Fr (fun k=>k=g) w w':=by
 have HW:=zh h;clear h
 go_enter Tryz.func177,Tryz.ntmps177
 have d1:decide ((n:Int)<=12)=true:=zt
 go_wp2
 go_loopw [1,2] (fun a b wr=>a=.int .i64 0/\b=.int .i64 n/\wr=w) (fun _ _ _=>0)
 case atStart=>exact⟨rfl,rfl,rfl⟩
 case round=>
  obtain⟨rfl,rfl,rfl⟩:=hrel
  go_wp2_with fail
  refine(TJ base g n c L _ HW.out hn (by omega)).mono ?_
  rintro e w2 ⟨rfl,hp⟩
  have HP:=zh hp;clear hp
  go_wp2_with fail
  refine bodyPost_ret (results_none rfl _ _ _) rfl ?_
  exact⟨rfl,HP.out⟩
theorem aN (base g n c:Nat)(L:List Nat)(w:World)(h:Fz base w (.slice (some ⟨g,0,none⟩) n c) n L)(hn:1<=n)(hn2:n<=12):
 Calls Tryz.prog 145 #[.slice (some ⟨g,0,none⟩) n c] w fun e w' => e=.returned (.tuple #[])/\∃ L',L'.length=n/\Fz base w' (.slice (some ⟨g,0,none⟩) n c) n L' /\ Own.Ord L' n/\(∀ x,x∈L' ↔ x∈L)/\Fr (fun k=>k=g) w w':=by
 have HW:=zh h;clear h
 go_enter Tryz.func145,Tryz.ntmps145
 go_wp2_with fail
 refine(Tryz.bits_Len (n:Int) _ (by omega) (by omega)).mono ?_
 rintro e _ ⟨rfl,rfl⟩
 go_wp2_with fail
 refine(iN base g n c _ L _ HW.out hn hn2).mono ?_
 rintro e w2 ⟨rfl,hp⟩
 have HP:=zh hp;clear hp
 go_wp2
 go_end0
 exact⟨rfl,HP.out⟩
theorem lJ (r:Option Nat):(Lex.W r).round=r:=rfl
attribute [local go_sem] Oper.semAt_some lJ
abbrev Dt (w:World)(v:Value)(L:List Nat):Prop:=Bc w v 1 L.length (Qa L)
theorem Dt.cell {w:World}{a:Option Addr}{n c:Nat}{L:List Nat}(h:Dt w (.slice a n c) L){i:Nat}(hi:i<L.length):∃ b o,a=some ⟨b,o,none⟩/\b<w.heap.size/\w.cell? ⟨b,o+i,none⟩=some (.int .u8 ((L.getD i 0:Nat):Int)):=by
 obtain⟨_,a',c',he,h0|⟨b,o,ha,hb,hc⟩⟩:=h
 ·omega
 ·cases he
  exact⟨b,o,ha,hb,hc i _ (RB hi)⟩
def aO (L:List Nat)(s:Nat)(x:Nat)(s' : Nat):Prop:=s<L.length/\x=L.getD s 0/\s' = s+1
def lK (L:List Nat)(s:Nat):Prop:=s=L.length
theorem Wp (bx:Nat)(v:Value)(L:List Nat)(n:Nat)(J:Nat->World->Prop)(hl:L.length<=1000)(hJ:∀ s W,J s W->W.cell? ⟨bx,0,none⟩=some v/\Dt W v L):
 Iter (Lex.W none) n Tryz.prog 146 (fun l=>#[]++(#[.func (.yield l) #[] #[]]++#[.pointer (some ⟨bx,0,none⟩)])) (fun x:Nat=>#[.int .u8 x]) J (aO L) (lK L) 0:=by
 intro l J' Jx' W hJJ hJb hY h0
 have hrr:(Lex.W none).round=none:=rfl
 refine callsIn_of_wp Tryz.func146 rfl trivial ?_ rfl
 simp only[Tryz.ntmps146,List.size_toArray,List.length_cons,List.length_nil,Nat.reduceAdd,Nat.reduceSub,Array.replicate_succ,Array.replicate_zero,List.push_toArray,List.append_toArray,List.nil_append,List.cons_append]
 obtain⟨hc,hk⟩:=hJ _ _ (hJJ _ _ h0)
 obtain⟨a,c,rfl⟩:=hk.len
 have H0:=zh h0;have HJJ:=zh hJJ;have HJ:=zh hJ;have HJb:=zh hJb;have HY:=zh hY
 clear h0 hJJ hJ hJb hY hk
 gi_wp2
 gi_loopw [7] (fun i wr=>∃ (k:Nat),k<=L.length/\i=.int .i64 k/\J' k wr) (fun i _=>L.length-(intOf i).toNat)
 case atStart=>exact⟨0,by omega,rfl,H0.out⟩
 case round=>
  obtain⟨k,hk,rfl,hs⟩:=hrel
  obtain⟨hc1,hk1⟩:=HJ.out _ _ (HJJ.out _ _ hs)
  have HS:=zh hs;clear hs hc1
  by_cases hlt:k<L.length
  ·have dk:decide ((k:Int)<L.length)=true:=zt
   obtain⟨b,o,ha,hb,hcell⟩:=hk1.cell hlt
   subst ha
   obtain⟨x,hx⟩:∃ x,x=L.getD k 0:=⟨_,rfl⟩
   rw[<- hx] at hcell
   have hst:aO L k x (k+1):=⟨hlt,hx,rfl⟩
   obtain⟨fn,tmps,assign,body,hy,hR⟩:=HY.out k x (k+1) wr wr HS.out (Below.refl _ _) hst
   clear hk1 hx hst hb
   gi_wp2
   refine⟨fun h=>(by cases h),hR.mono ?_⟩
   rintro e W3 (⟨rfl,hJ3,hk3⟩|⟨rfl,hJx3⟩)
   ·have HJ3:=zh hJ3;clear hJ3 hk3
    gi_wp2
    go_roundw
    case rel=>exact⟨k+1,by omega,by go_num,HJ3.out⟩
    case measure=>simp[intOf];omega
   ·gi_wp2
    refine bodyPost_ret (results_none rfl _ _ _) rfl ?_
    exact⟨⟨_,rfl⟩,.inr hJx3⟩
  ·have hk' : k=L.length:=by omega
   have dk:decide ((k:Int)<L.length)=false:=zf
   have HK:=zh hk';clear hk' hk1
   gi_wp2
   refine bodyPost_end (results_none rfl _ _ _) rfl ⟨⟨_,rfl⟩,.inl ⟨k,HK.out,HS.out⟩⟩
structure Wq (w:World) (b:Nat) (L:List Nat) (s:Nat) (W:World):Prop where
 box:∃ v,At W b 66 #[v]/\Fz (b+3) W v s (L.take s)
 bel:Below w.heap.size w W
 lt:b+2<W.heap.size\/s=0
 le:s<=L.length
theorem Wq.below {w W W' : World}{b s:Nat}{L:List Nat}(h:Wq w b L s W)(hq:Below W.heap.size W W'):Wq w b L s W':=by
 obtain⟨v,h1,h2⟩:=h.box
 exact⟨⟨v,h1.below hq h1.lt,Ae h2 (fun k hk=>by obtain⟨cur,hc⟩:=Db h2 hk;exact hq.block k hc.lt)⟩,h.bel.trans (hq.mono h.bel.size),h.lt.imp (fun h=>Nat.lt_of_lt_of_le h hq.size) id,h.le⟩
theorem Wq.fr {w W W' : World}{b s:Nat}{L:List Nat}(h:Wq w b L s W)(hb:b=w.heap.size)(hf:Fr (fun k=>k=b+2) W W'):Wq w b L s W':=by
 obtain⟨v,h1,h2⟩:=h.box
 exact⟨⟨v,hf.at h1 (by show b≠b+2;omega),Ae h2 (fun k hk=>hf.keep k (by obtain⟨cur,hc⟩:=Db h2 hk;exact hc.lt) (fun e=>by have:=Ak h2 k hk;have e2:k=b+2:=e;omega))⟩,h.bel.trans (hf.below h.bel.size (fun k hk=>by have e2:k=b+2:=hk;omega)),h.lt.imp (fun h=>Nat.lt_of_lt_of_le h hf.size) id,h.le⟩
theorem iO (w:World)(t:TypeId)(x:Value):(w.alloc (.cells #[x] t)).ownsRow w.heap.size t 1 (.slice (some ⟨w.heap.size,0,none⟩) 1 1) 1 [x]:=
 ⟨rfl,.inr ⟨w.heap.size,1,#[x],rfl,Nat.le_refl _,At.new w t #[x],Nat.le_refl _,by decide,rfl,rfl⟩⟩
theorem sN:Nonempty (Fu Tryz.prog 66 5 1 1):=Ec (z:=.int .u8 0) Tryz.underlying66 (by kernel_rfl) rfl (by omega)
theorem lM {L:List Nat}{s:Nat}(h:s<L.length):Qa (L.take s)++[.int .u8 ((L.getD s 0:Nat):Int)]=Qa (L.take (s+1)):=by
 unfold Qa
 rw[List.take_succ_eq_append_getElem h,List.map_append,List.getD_eq_getElem?_getD,List.getElem?_eq_getElem h]
 rfl
theorem Yz (bx:Nat)(v:Value)(L:List Nat)(w:World)(hc:w.cell? ⟨bx,0,none⟩=some v)(hk:Dt w v L)(hl:L.length<=1000):
 Calls Tryz.prog 176 #[.slice none 0 0,.func (.func 146) #[] #[.pointer (some ⟨bx,0,none⟩)]] w fun e w' => ∃ v',e=.returned v' /\ Fz w.heap.size w' v' L.length L/\Below w.heap.size w w':=by
 refine(callsIn_wide (n:=9)).1 ?_
 have hrr:Fence.wide.round=none:=rfl
 have HC:=zh hc;have HK:=zh hk;clear hc hk
 refine callsIn_of_wp_marks Tryz.func176 rfl trivial ?_ rfl
 simp only[Tryz.ntmps176,List.size_toArray,List.length_cons,List.length_nil,Nat.reduceAdd,Nat.reduceSub,Array.replicate_succ,Array.replicate_zero,List.push_toArray,List.append_toArray,List.nil_append,List.cons_append]
 gi_wp2
 obtain⟨b,hb⟩:∃ b,b=w.heap.size:=⟨_,rfl⟩
 have h7:Wq w b L 0 (w.alloc (.cells #[.slice none 0 0] 66)):=by
  rw[hb]
  exact⟨⟨_,At.new _ _ _,⟨rfl,.inl ⟨rfl,rfl⟩⟩⟩,zb,.inr rfl,Nat.zero_le _⟩
 have hs7:(w.alloc (.cells #[.slice none 0 0] 66)).heap.size=b+1:=by rw[World.size_alloc,hb]
 have H7:=zh h7;have HS7:=zh hs7;have HBB:=zh hb;clear h7 hs7
 rw[<- hb]
 clear hb
 generalize w.alloc (.cells #[.slice none 0 0] 66)=w7 at*
 have hs7:=HS7.out
 refine Kz (r:=none) rfl rfl (enters_of Tryz.func146 (by kernel_rfl) rfl) (fun x:Nat=>#[.int .u8 x]) (fun _=>rfl)
  (Wq w b L) (fun _ _=>False) (aO L) (lK L) 0 ?hJb ?hJl ?VT ?h0 ?hiter ?Lv ?hdone ?hstop
 case hJb=>exact fun s W W' h hq=>h.below hq
 case hJl=>
  intro s W W' h hf
  rw[hs7] at hf
  exact h.fr HBB.out hf
 case VT=>exact fun c W W' h _=>h
 case h0=>exact H7.out
 case hiter=>
  refine Wp bx v L _ _ hl ?_
  rintro s W h
  exact⟨(h.bel.cell (p:=⟨bx,0,none⟩) (block_lt HC.out)).trans HC.out,HK.out.below h.bel⟩
 case Lv=>
  rintro s x s' W0 W hsz hW hbw ⟨hq1,rfl,rfl⟩
  have HW0:=zh hW;have HB:=zh hbw;have HW:=zh (hW.below hbw);clear hW hbw
  obtain⟨x,hx⟩:∃ x,x=L.getD s 0:=⟨_,rfl⟩
  rw[<- hx]
  have HX:=zh hx;clear hx
  rw[hs7] at hsz
  gi_wp2
  refine⟨Ye.refl _ _ _,fun W2 hf=>?_⟩
  rw[hs7] at hf
  have hsz2:=hf.size
  have hszW:=HB.out.size
  have hW2:=HW.out.fr HBB.out hf
  obtain⟨v,hat,hown⟩:=hW2.box
  obtain⟨va,vm,vc,rfl⟩:=Ac hown
  have c0:=hat.c1
  have HW2:=zh hW2;have HAT:=zh hat;have HOWN:=zh hown;clear hat hown hW2
  have hrw:=Bc.own (iO W2 5 (.int .u8 (x:Int)))
  have HRW:=zh hrw;clear hrw
  gi_step
  refine wpIn_block ?_
  refine Lex.MB (by kernel_rfl) ?_
  go_wp2_with (at_builtin;go_must (refine Ah sN rfl _ _ rfl (b+3) s (.slice va vm vc) (Qa (L.take s)) rfl (own_below HOWN.out ((Below.refl _ _).alloc (Nat.le_refl _) (.cells #[.int .u8 (x:Int)] 5))) (.slice (some ⟨W2.heap.size,0,none⟩) 1 1) 1 [.int .u8 (x:Int)] rfl HRW.out ?c1 (by omega) (by omega) (by rw[World.size_alloc];omega) ?_))
  case c1=>intro u hu;simp at hu;subst hu;rfl
  intro v' w' how' hg hb'
  obtain⟨ua,um,uc,rfl⟩:=Ac how'
  have hne:some b≠(Value.slice va vm vc).ownBlock:=fun e=>by have:=Ak HOWN.out b e.symm;omega
  have hat' : At w' b 66 #[.slice va vm vc]:=(HAT.out.alloc (.cells #[.int .u8 (x:Int)] 5)).grown hg hne
  have q0:=hat'.free 0
  have k0:=hat'.c1
  have hb3:Below W2.heap.size W2 (W2.alloc (.cells #[.int .u8 (x:Int)] 5)):=zb
  have hown' : Fz (b+3) (w'.setCell ⟨b,0,none⟩ (.slice ua um uc)) (.slice ua um uc) (s+1) (L.take (s+1)):=by
   have h:=lM hq1
   rw[<- HX.out] at h
   rw[h] at how'
   exact Ae how' (fun k hk=>zo (by have:=Ak how' k hk;show k≠b;omega))
  have hbel:Below w.heap.size w (w'.setCell ⟨b,0,none⟩ (.slice ua um uc)):=by
   have h1:=HW2.out.bel.trans (hb3.mono HW2.out.bel.size)
   have h2:Below w.heap.size w w':=h1.grown hg h1.size (fun i hi=>by have:=Ak HOWN.out i hi;have:=HBB.out;omega)
   exact h2.setCell (p:=⟨b,0,none⟩) (by show w.heap.size<=b;have:=HBB.out;omega) _
  have rR:W2.heap.size<=(w'.setCell ⟨b,0,none⟩ (.slice ua um uc)).heap.size:=by
   have:=hg.size
   simp only[World.size_alloc] at this
   simp only[World.setCell,Array.size_modify]
   omega
  have hown0:∀ k,(Value.slice va vm vc).ownBlock=some k->k<W0.heap.size:=by
   obtain⟨v0,XU,hown0⟩:=HW0.out.box
   have e1:=(HB.out.block b (by omega))
   have e2:At W b 66 #[v0]:=XU.below HB.out XU.lt
   have e3:At W2 b 66 #[v0]:=hf.at e2 (by show b≠b+1+1;omega)
   have e4:=e3.symm.trans HAT.out
   have e5:v0=.slice va vm vc:=by
    have:=Option.some.inj e4
    injection this with h1
    have h2:=congrArg (fun a=>a[0]?) h1
    simpa using h2
   intro k hk
   rw[<- e5] at hk
   obtain⟨cur,hc⟩:=Db hown0 hk
   exact hc.lt
  have hkeep:∀ k,k=b+1\/k=b+1+1\/(W0.heap.size<=k/\k<W2.heap.size)->(w'.setCell ⟨b,0,none⟩ (.slice ua um uc)).heap[k]? = W2.heap[k]? :=by
   intro k hk
   rw[zo (by show k≠b;omega),hg.block k (by simp only[World.size_alloc];omega) (fun e=>by have h1:=Ak HOWN.out k e.symm;have h2:=hown0 k e.symm;omega),hb3.block k (by omega)]
  have HG:=zh (Wq.mk (w:=w) (b:=b) (L:=L) (s:=s+1) ⟨_,hat'.set 0 _,hown'⟩ hbel (.inl (by omega)) hq1)
  have HKP:=zh hkeep;have HS3:=zh rR
  clear hown' hbel rR hkeep hb3 how' hg hb' hat' hne hown0
  go_wp2
  refine Lex.Only.intro ?_
  gi_wp2
  rw[hs7]
  exact⟨⟨HS3.out,⟨HKP.out _ (.inl rfl),HKP.out _ (.inr (.inl rfl))⟩,fun k h1 h2=>HKP.out k (.inr (.inr ⟨h1,h2⟩))⟩,.inl ⟨rfl,HG.out⟩⟩
 case hdone=>
  rintro s W hD hJ hdf
  have hD:s=L.length:=hD
  subst hD
  obtain⟨v,hat,hown⟩:=hJ.box
  obtain⟨va,vm,vc,rfl⟩:=Ac hown
  have k0:=hat.c1
  have HJ:=zh hJ;have HDF:=zh hdf;have HOWN:=zh hown;clear hJ hdf hat hown
  gi_wp2
  simp only[hs7] at HDF ⊢
  refine⟨by simp,.inl ⟨_,_,rfl,run_takeDeferred HDF.out,?_⟩⟩
  refine⟨.slice va vm vc,(results_tmp (fn:=Tryz.f176) (t:=4) rfl _ _ _).trans rfl,?_⟩
  have ho:=HOWN.out
  rw[List.take_length] at ho
  exact⟨.slice va vm vc,rfl,Cw (Ae ho (fun k hk=>World.putObj_heap_other (by have:=Ak ho k hk;omega))) (by have:=HBB.out;omega),HJ.out.bel.trans ⟨rfl,rfl,rfl,by simp[World.putObj],fun k hk=>World.putObj_heap_other (by have:=HBB.out;omega)⟩⟩
 case hstop=>exact fun c W h=>h.elim
theorem Ws (bx:Nat)(v:Value)(L:List Nat)(w:World)(hc:w.cell? ⟨bx,0,none⟩=some v)(hk:Dt w v L)(hl:L.length<=1000):
 Calls Tryz.prog 144 #[.func (.func 146) #[] #[.pointer (some ⟨bx,0,none⟩)]] w fun e w' => ∃ v',e=.returned v' /\ Fz w.heap.size w' v' L.length L/\Below w.heap.size w w':=by
 have HC:=zh hc;have HK:=zh hk;clear hc hk
 go_enter Tryz.func144,Tryz.ntmps144
 go_wp2_with fail
 refine(Yz bx v L _ HC.out HK.out hl).mono ?_
 rintro e w2 ⟨v',rfl,h1,h2⟩
 have H1:=zh h1;have H2:=zh h2;clear h1 h2
 go_wp2
 go_ret
 exact⟨v',rfl,H1.out,H2.out⟩
theorem Pp (bx:Nat)(v:Value)(L:List Nat)(w:World)(hc:w.cell? ⟨bx,0,none⟩=some v)(hk:Dt w v L)(hn:1<=L.length)(hl:L.length<=12):
 Calls Tryz.prog 91 #[.func (.func 146) #[] #[.pointer (some ⟨bx,0,none⟩)]] w fun e w' => ∃ v' L',e=.returned v' /\ L'.length=L.length/\Fz w.heap.size w' v' L.length L' /\ Own.Ord L' L.length/\(∀ x,x∈L' ↔ x∈L)/\Below w.heap.size w w':=by
 have HC:=zh hc;have HK:=zh hk;clear hc hk
 go_enter Tryz.func91,Tryz.ntmps91
 go_wp2_with fail
 refine(Ws bx v L _ HC.out HK.out (by omega)).mono ?_
 rintro e w2 ⟨v',rfl,h1,h2⟩
 obtain⟨g,cap,rfl,_⟩:=Ct h1 (by omega)
 have hgu:=Ak h1 g rfl
 have H1:=zh h1;have H2:=zh h2;clear h1 h2
 go_wp2_with fail
 refine(aN _ g L.length cap L _ H1.out hn hl).mono ?_
 rintro e w3 ⟨rfl,L',hl',hr',ho',hm',hf'⟩
 have H3:=zh hl';have H4:=zh hr';have H5:=zh ho';have H6:=zh hm'
 have H7:=zh (H2.out.trans (hf'.below H2.out.size (fun k hk=>by rw[hk];exact hgu)))
 clear hl' hr' ho' hm' hf'
 go_wp2
 go_ret
 exact⟨_,L',rfl,H3.out,H4.out,H5.out,H6.out,H7.out⟩
end
section
open Go
namespace Own
def keysOf (l:List Nat):List Nat:=(List.range 256).filter fun b=>decide (b∈l)
theorem RF {l:List Nat}(h:∀ b∈l,b<256){b:Nat} : b∈keysOf l↔b∈l:=by
 unfold keysOf
 rw[List.mem_filter,List.mem_range,decide_eq_true_eq]
 exact⟨fun h=>h.2,fun hb=>⟨h b hb,hb⟩⟩
theorem lN (n:Nat):(List.range n).Pairwise (· < ·):=List.pairwise_lt_range
theorem JJ (l:List Nat):Hu (keysOf l):=by
 refine⟨fun b hb=>?_,(lN 256).filter _⟩
 unfold keysOf at hb
 exact List.mem_range.1 (List.mem_filter.1 hb).1
theorem Y3:∀ {a b:List Nat},a.Pairwise (· < ·)->b.Pairwise (· < ·)->(∀ x,x∈a↔x∈b)->a=b
 | [],[],_,_,_=>rfl
 | [],y::b,_,_,h=>by have:=(h y).2 List.mem_cons_self;cases this
 | x::a,[],_,_,h=>by have:=(h x).1 List.mem_cons_self;cases this
 | x :: a,y :: b,ha,hb,h => by
   obtain⟨a1,a2⟩:=List.pairwise_cons.1 ha
   obtain⟨b1,b2⟩:=List.pairwise_cons.1 hb
   have hxy:x=y:=by
    rcases List.mem_cons.1 ((h x).1 List.mem_cons_self) with e|e
    ·exact e
    ·rcases List.mem_cons.1 ((h y).2 List.mem_cons_self) with e2|e2
     ·exact e2.symm
     ·have h1:=b1 x e
      have h2:=a1 y e2
      omega
   subst hxy
   congr 1
   refine Y3 a2 b2 (fun z=>⟨fun hz=>?_,fun hz=>?_⟩)
   ·rcases List.mem_cons.1 ((h z).1 (List.mem_cons_of_mem _ hz)) with e|e
    ·have:=a1 z hz;omega
    ·exact e
   ·rcases List.mem_cons.1 ((h z).2 (List.mem_cons_of_mem _ hz)) with e|e
    ·have:=b1 z hz;omega
    ·exact e
theorem UM {l k:List Nat}(hl:∀ b∈l,b<256)(hk:k.Pairwise (· < ·))(hm:∀ b,b∈k↔b∈l):k=keysOf l:=
 Y3 hk (JJ l).srt (fun b=>(hm b).trans (RF hl).symm)
theorem UQ {l:List Nat}(h:Hu l):keysOf l=l:=(UM h.lt h.srt (fun _=>Iff.rfl)).symm
theorem Sqz.done {L0 L l:List Nat}{k:Nat}(h:Sqz L0 L L0.length k)(hl:∀ b∈l,b<256)(hm:∀ x,x∈L0↔x∈l):L.take k=keysOf l:=by
 have hkn:=h.kn
 have hlen:=h.len
 have htl:(L.take k).length=k:=by rw[List.length_take];omega
 refine UM hl (iM fun p q hpq hq=>?_) (fun b=>?_)
 ·rw[htl] at hq
  rw[getD_take (by omega),getD_take hq]
  exact h.incr p q hpq hq
 ·rw[<- hm b,Nc,Nc,htl]
  constructor
  ·rintro⟨p,hp,e⟩
   rw[getD_take hp] at e
   exact(h.mem b).1 ⟨p,hp,e⟩
  ·rintro h2
   obtain⟨p,hp,e⟩:=(h.mem b).2 h2
   exact⟨p,hp,by rw[getD_take hp];exact e⟩
end Own
end
section
open Go Go.RowKit Go.Maps
theorem Fr.setCells {F:Nat->Prop}{a:World}{b:Nat}(hb:F b):∀ (vs:List Value) (o:Nat) (w:World),Fr F a w->Fr F a (w.setCells b o vs)
 | [],_,_,h=>h
 | v::vs,o,w,h=>Fr.setCells hb vs (o+1) _ (h.setCell (p:=⟨b,o,none⟩) (.inl hb) v)
theorem JK (b:Nat):∀ (vs:List Value) (o:Nat) (w:World),(w.setCells b o vs).heap.size=w.heap.size
 | [],_,_=>rfl
 | v :: vs,o,w => by
   show((w.setCell ⟨b,o,none⟩ v).setCells b (o+1) vs).heap.size=_
   rw[JK b vs]
   simp[World.setCell]
theorem Dt.first {base:Nat}{w w' : World}{g n c m:Nat}{L K:List Nat}(h:Fz base w (.slice (some ⟨g,0,none⟩) n c) n L)(hm:m<=n)(hK:L.take m=K)(hs:w.heap.size<=w'.heap.size)(hc:∀ i,i<m->w'.cell? ⟨g,i,none⟩=w.cell? ⟨g,i,none⟩):Dt w' (.slice (some ⟨g,0,none⟩) m c) K:=by
 have hl:L.length=n:=by have:=h.1;rw[Io] at this;omega
 subst hK
 have hlm:(L.take m).length=m:=by rw[List.length_take];omega
 refine⟨by rw[Io];omega,_,c,by rw[hlm],?_⟩
 by_cases h0:m=0
 ·exact .inl (by rw[hlm];exact h0)
 refine .inr ⟨g,0,rfl,?_,fun j u hj=>?_⟩
 ·have:=cB (h.cell (i:=0) (by omega))
  omega
 ·have hjm : j < m :=by
   have:=(List.getElem?_eq_some_iff.1 hj).1
   rw[Io,hlm] at this
   exact this
  rw[RB (by omega)] at hj
  cases hj
  rw[Nat.zero_add,hc j hjm,h.cell (by omega),Own.getD_take hjm]
theorem iP {L:List Nat}{i:Nat}(h:i<L.length):L.set i (L.getD i 0)=L:=by
 rw[List.getD_eq_getElem?_getD,List.getElem?_eq_getElem h]
 simp
theorem sO (w:World):(zeroValue 5).run Tryz.prog w=.ok (.int .u8 0) w:=by kernel_rfl
theorem Nf (base g n c:Nat)(L l:List Nat)(w:World)(h:Fz base w (.slice (some ⟨g,0,none⟩) n c) n L)(hn:1<=n)(hn2:n<=1000)(hcap:n<=c)(ho:Own.Ord L n)(hl:∀ b∈l,b<256)(hm:∀ x,x∈L↔x∈l):
 Calls Tryz.prog 90 #[.slice (some ⟨g,0,none⟩) n c] w fun e w' => e=.returned (.slice (some ⟨g,0,none⟩) (Own.keysOf l).length c)/\Dt w' (.slice (some ⟨g,0,none⟩) (Own.keysOf l).length c) (Own.keysOf l)/\Fr (fun k=>k=g) w w':=by
 have hlen:L.length=n:=by have:=h.1;rw[Io] at this;omega
 obtain⟨K,hK⟩:∃ K,K=Own.keysOf l:=⟨_,rfl⟩
 rw[<- hK]
 have hfin:∀ L' m,Own.Sqz L L' n m->L'.take m=K/\K.length=m/\m<=n:=fun L' m hq=>by
  rw[<- hlen] at hq
  have e:=hq.done hl hm
  rw[<- hK] at e
  have h1:=hq.kn
  have h2:=hq.len
  exact⟨e,by rw[<- e,List.length_take];omega,by omega⟩
 have HW:=zh h;have HL:=zh hlen;have HO:=zh (show Own.Ord L L.length by rw[hlen];exact ho);have HF:=zh hfin
 clear h ho hm hK hfin hl
 go_enter Tryz.func90,Tryz.ntmps90
 by_cases h1:n<2
 ·have d1:decide ((n:Int)<2)=true:=zt
  obtain rfl:n=1:=by omega
  obtain⟨e1,e2,e3⟩:=HF.out L 1 (Own.Sqz.start (by rw[HL.out];omega))
  have E1:=zh e1;have E2:=zh e2
  clear e1 e2
  go_wp2
  go_ret
  rw[E2.out]
  exact⟨rfl,Dt.first HW.out (Nat.le_refl _) E1.out (Nat.le_refl _) (fun _ _=>rfl),Fr.refl _ _⟩
 have d1:decide ((n:Int)<2)=false:=zf
 go_wp2_with fail
 clear d1
 go_loopw [3] (fun i wr=>∃ (k:Nat),1<=k/\k<=n/\i=.int .i64 k/\Own.Sqz L L k k/\Fz base wr (.slice (some ⟨g,0,none⟩) n c) n L/\Fr (fun k=>k=g) w wr) (fun i _=>n-(intOf i).toNat)
 case atStart=>exact⟨1,by omega,by omega,rfl,Own.Sqz.start (by rw[HL.out];omega),HW.out,Fr.refl _ _⟩
 case round=>
  obtain⟨k,hk1,hk,rfl,hsq,hrow,hfr⟩:=hrel
  have HR:=zh hrow;have HS:=zh hsq;have HFR:=zh hfr
  clear hrow hsq hfr
  by_cases hlt:k<n
  case neg=>
   have hke:k=n:=by omega
   have dk:decide ((k:Int)<n)=false:=zf
   obtain⟨e1,e2,e3⟩:=HF.out L n (by rw[<- hke];rw[hke];have:=HS.out;rw[hke] at this;exact this)
   have E1:=zh e1;have E2:=zh e2
   clear e1 e2 hke
   go_wp2
   go_ret
   rw[E2.out]
   exact⟨rfl,Dt.first HR.out (Nat.le_refl _) E1.out (Nat.le_refl _) (fun _ _=>rfl),HFR.out⟩
  have dk:decide ((k:Int)<n)=true:=zt
  obtain⟨q,rfl⟩:∃ q,k=q+1:=⟨k-1,by omega⟩
  have c1:=HR.out.cell (i:=q+1) hlt;have c2:=HR.out.cell (i:=q) (by omega)
  obtain⟨x,hx⟩:∃ x,x=L.getD (q+1) 0:=⟨_,rfl⟩
  obtain⟨y,hy⟩:∃ y,y=L.getD q 0:=⟨_,rfl⟩
  rw[<- hx] at c1
  rw[<- hy] at c2
  have HX:=zh hx;have HY:=zh hy;clear hx hy
  by_cases hxy:x=y
  case neg=>
   have hsn:=HS.out.next HO.out (by rw[HL.out];exact hlt) (by show L.getD (q+1) 0≠L.getD q 0;rw[<- HX.out,<- HY.out];exact hxy)
   rw[iP (by rw[HL.out];exact hlt)] at hsn
   have HSN:=zh hsn
   have dxy:((x:Int)==(y:Int))=false:=by rw[beq_eq_false_iff_ne];omega
   clear hsn
   go_wp2
   refine Lex.zl ?_
   go_wp2
   refine Lex.ze ?_
   go_wp2
   exact⟨⟨q+1+1,by omega,by omega,by go_num,HSN.out,Ae HR.out (fun _ _=>rfl),HFR.out.drew⟩,by simp[intOf];omega⟩
  subst hxy
  go_wp2
  refine Lex.zl ?_
  go_wp2
  refine Lex.ze ?_
  go_wp2_with fail
  have hss:=HS.out.same (by rw[HL.out];exact hlt) (by show L.getD (q+1) 0=L.getD q 0;rw[<- HX.out,<- HY.out])
  have HSS:=zh hss;clear hss c1 c2 dk
  have HRd:=zh (show Fz base wr.drew (.slice (some ⟨g,0,none⟩) n c) n L from Ae HR.out (fun _ _=>rfl));have HFd:=zh (HFR.out.drew)
  generalize wr.drew=w5 at*
  generalize hr:n-(q+1)=r at*
  have HRR:=zh (show q+1+r=n by omega);clear hr
  generalize c-(q+1)=cr at*
  go_loopw [3,5] (fun i i2 wr=>∃ (m p:Nat) (L' : List Nat),m<=q+1+p/\p+1<=r/\i=.int .i64 m/\i2=.int .i64 ((p+1:Nat):Int)/\Own.Sqz L L' (q+1+(p+1)) m/\Fz base wr (.slice (some ⟨g,0,none⟩) n c) n L' /\ Fr (fun k=>k=g) w wr) (fun _ i2 _=>r-(intOf i2).toNat)
  case atStart=>exact⟨q+1,0,L,by omega,by have:=HRR.out;omega,by go_num,by go_num,HSS.out,HRd.out,HFd.out⟩
  case round=>
   obtain⟨m,p,L2,hmq,hp,rfl,rfl,hsq,hrow,hfr⟩:=hrel
   have hm0:=hsq.k0
   have HR2:=zh hrow;have HS2:=zh hsq;have HF2:=zh hfr
   clear hrow hsq hfr
   have hrn:=HRR.out
   by_cases hlt2:p+1<r
   case neg=>
    have hpe:p+1=r:=by omega
    have dk:decide (((p+1:Nat):Int)<(r:Int))=false:=zf
    obtain⟨e1,e2,e3⟩:=HF.out L2 m (by have:=HS2.out;rw[hpe,HRR.out] at this;exact this)
    have hcl:∀ ty,(Builtin.clear_ #[66] ty #[.slice (some ⟨g,m,none⟩) (n-m) (c-m)]).run Tryz.prog wr=.ok (.tuple #[]) (wr.setCells g m (List.replicate (n-m) (.int .u8 0))):=
     fun ty=>Lib.run_clear_slice wr 66 5 ty (.int .u8 0) Tryz.underlying66 sO rfl rfl g m (n-m) (c-m) (by omega) (fun j hj=>by rw[HR2.out.cell (i:=m+j) (by omega)];rfl) (fun j hj=>HR2.out.frozenAt (m+j))
    have E1:=zh e1;have E2:=zh e2
    clear e1 e2 hpe
    go_wp2
    go_ret
    rw[E2.out]
    refine⟨rfl,Dt.first HR2.out (by omega) E1.out (Nat.le_of_eq (JK g _ _ _).symm) (fun i hi=>World.cell?_setCells_out g _ _ _ _ (fun _ _=>.inl (by show i<m;exact hi))),Fr.setCells (F:=fun k=>k=g) rfl _ _ _ HF2.out⟩
   have dk:decide (((p+1:Nat):Int)<(r:Int))=true:=zt
   have c1:=HR2.out.cell (i:=q+1+(p+1)) (by omega);have c2:=HR2.out.cell (i:=q+1+p) (by omega)
   have r1:=HS2.out.rest (q+1+(p+1)) (by omega) (by omega);have r2:=HS2.out.rest (q+1+p) (by omega) (by omega)
   rw[r1] at c1
   rw[r2] at c2
   obtain⟨u,hu⟩:∃ u,u=L.getD (q+1+(p+1)) 0:=⟨_,rfl⟩
   obtain⟨v,hv⟩:∃ v,v=L.getD (q+1+p) 0:=⟨_,rfl⟩
   rw[<- hu] at c1
   rw[<- hv] at c2
   have HU:=zh hu;have HV:=zh hv;clear hu hv r1 r2
   by_cases huv:u=v
   case neg=>
    have hsn:=HS2.out.next HO.out (by rw[HL.out];omega) (by show L.getD (q+1+(p+1)) 0≠L.getD (q+1+p) 0;rw[<- HU.out,<- HV.out];exact huv)
    rw[<- HU.out] at hsn
    have HSN:=zh hsn
    have c3:=HR2.out.cell (i:=m) (by omega)
    have f3:=HR2.out.frozenAt m
    have HR3:=zh (HR2.out.put m u)
    have HF3:=zh (HF2.out.setCell (p:=⟨g,m,none⟩) (.inl rfl) (.int .u8 (u:Int)))
    clear hsn
    go_wp2
    refine Lex.zl ?_
    go_wp2
    refine Lex.ze ?_
    go_wp2_with fail
    exact⟨⟨m+1,p+1,L2.set m u,by omega,by omega,by go_num,by go_num,HSN.out,Ae HR3.out (fun _ _=>rfl),HF3.out.drew⟩,by simp[intOf];omega⟩
   have hsn:=HS2.out.same (by rw[HL.out];omega) (by show L.getD (q+1+(p+1)) 0=L.getD (q+1+p) 0;rw[<- HU.out,<- HV.out,huv])
   have HSN:=zh hsn
   clear hsn
   subst huv
   go_wp2
   refine Lex.zl ?_
   go_wp2
   refine Lex.ze ?_
   go_wp2_with fail
   exact⟨⟨m,p+1,L2,by omega,by omega,rfl,by go_num,HSN.out,Ae HR2.out (fun _ _=>rfl),HF2.out.drew⟩,by simp[intOf];omega⟩
theorem Pq (a:Option Addr)(n c:Nat)(w:World):Calls Tryz.prog 92 #[.slice a n c] w fun e w' => e=.returned (.func (.func 146) #[] #[.pointer (some ⟨w.heap.size,0,none⟩)])/\w' = w.alloc (.cells #[.slice a n c] 66):=by
 go_enter Tryz.func92,Tryz.ntmps92
 go_wp2
 go_ret
 exact⟨rfl,rfl⟩
abbrev Elem (α : Type):=(Nat->Prop)->World->List Value -> α -> Prop
class Dc {α : Type} (R:Elem α):Prop where
 keep:∀ {F:Nat->Prop} {w w' : World} {cs:List Value} {x : α},R F w cs x->w.heap.size<=w'.heap.size->(∀ k,F k->k<w.heap.size->w'.heap[k]? = w.heap[k]?)->R F w' cs x
 mono:∀ {F G:Nat->Prop} {w:World} {cs:List Value} {x : α},R F w cs x->(∀ k,F k->k<w.heap.size->G k)->R G w cs x
def Aq {α : Type}(size:Nat)(R:Elem α)(F:Nat->Prop)(w:World)(v:Value)(l:List α):Prop:=
 ∃ a c,v = .slice a l.length c ∧ (l.length = 0 ∨ ∃ b o,a = some ⟨b,o,none⟩ ∧ F b ∧ b < w.heap.size ∧
   ∀ (i:Nat) (h:i<l.length),∃ cs,cs.length=size/\(∀ (j:Nat) (u:Value),cs[j]? = some u->w.cell? ⟨b,o+i*size+j,none⟩=some u)/\R F w cs l[i])
section
variable {α : Type} {size:Nat} {R:Elem α} {F G:Nat->Prop} {w w' : World} {v:Value} {l:List α}
theorem Aq.len (h:Aq size R F w v l):∃ a c,v=.slice a l.length c:=by obtain⟨a,c,h,_⟩:=h;exact⟨a,c,h⟩
theorem Aq.nil (a:Option Addr)(c:Nat):Aq size R F w (.slice a 0 c) []:=⟨a,c,rfl,.inl rfl⟩
theorem Aq.keep [Dc R](h:Aq size R F w v l)(hs:w.heap.size<=w'.heap.size)(hk:∀ k,F k->k<w.heap.size->w'.heap[k]? = w.heap[k]?):Aq size R F w' v l:=by
 obtain⟨a,c,e,h0|⟨b,o,ha,hF,hb,hc⟩⟩:=h
 ·exact⟨a,c,e,.inl h0⟩
 ·refine⟨a,c,e,.inr ⟨b,o,ha,hF,Nat.lt_of_lt_of_le hb hs,fun i hi=>?_⟩⟩
  obtain⟨cs,h1,h2,h3⟩:=hc i hi
  exact⟨cs,h1,fun j u hj=>(Kl (hk b hF hb)).trans (h2 j u hj),Dc.keep h3 hs hk⟩
theorem Aq.below [Dc R](h:Aq size R F w v l)(hb:Below w.heap.size w w'):Aq size R F w' v l:=h.keep hb.size fun k _ hl=>hb.block k hl
theorem Aq.fr [Dc R]{H:Nat->Prop}(h:Aq size R F w v l)(hf:Fr H w w')(hd:∀ k,F k->¬ H k):Aq size R F w' v l:=h.keep hf.size fun k hF hl=>hf.keep k hl (hd k hF)
theorem Aq.mono [Dc R](h:Aq size R F w v l)(hF:∀ k,F k->k<w.heap.size->G k):Aq size R G w v l:=by
 obtain⟨a,c,e,h0|⟨b,o,ha,hb0,hb,hc⟩⟩:=h
 ·exact⟨a,c,e,.inl h0⟩
 ·refine⟨a,c,e,.inr ⟨b,o,ha,hF b hb0 hb,hb,fun i hi=>?_⟩⟩
  obtain⟨cs,h1,h2,h3⟩:=hc i hi
  exact⟨cs,h1,h2,Dc.mono h3 hF⟩
theorem Aq.at_ {a:Option Addr}{n c:Nat}(h:Aq size R F w (.slice a n c) l){i:Nat}(hi:i<l.length):∃ b o,a=some ⟨b,o,none⟩/\F b/\b<w.heap.size/\∃ cs,cs.length=size/\(∀ (j:Nat) (u:Value),cs[j]? = some u->w.cell? ⟨b,o+i*size+j,none⟩=some u)/\R F w cs l[i]:=by
 obtain⟨a',c',e,h0|⟨b,o,ha,hF,hb,hc⟩⟩:=h
 ·omega
 ·cases e
  exact⟨b,o,ha,hF,hb,hc i hi⟩
theorem Aq.cells (h:Aq size R F w v l):∃ css:List (List Value),css.length=l.length/\(∀ i (hi:i<l.length) (hi' : i<css.length),css[i].length=size/\R F w css[i] l[i])/\Bc w v size l.length css.flatten:=by
 obtain⟨a,c,e,h0|⟨b,o,ha,hF,hb,hc⟩⟩:=h
 ·have:l=[]:=List.eq_nil_of_length_eq_zero h0
  subst this
  exact⟨[],rfl,(fun i hi=>by cases hi),by rw[e];exact Bc.nil c a⟩
 ·have key : ∀ n,n ≤ l.length → ∃ css : List (List Value),css.length = n ∧ (∀ i (hi : i < l.length) (hi' : i < css.length),css[i].length = size ∧ R F w css[i] l[i]) ∧ css.flatten.length = n * size ∧ ∀ (j : Nat) (u : Value),css.flatten[j]? = some u → w.cell? ⟨b,o + j,none⟩ = some u :=by
   intro n
   induction n with
   | zero=>exact fun _=>⟨[],rfl,(fun i _ hi=>by cases hi),by simp,(fun j u hj=>by simp at hj)⟩
   | succ n ih =>
     intro hn
     obtain⟨css,h1,h2,h3,h4⟩:=ih (by omega)
     obtain⟨cs,q1,q2,q3⟩:=hc n (by omega)
     refine⟨css++[cs],by simp[h1],fun i hi hi' => ?_,by simp[h3,q1,Nat.succ_mul],fun j u hj=>?_⟩
     ·by_cases hin:i<css.length
      ·rw[List.getElem_append_left hin];exact h2 i hi hin
      ·have:i=n:=by simp at hi';omega
       subst this
       rw[List.getElem_append_right (by omega)]
       simp only[h1,Nat.sub_self,List.getElem_cons_zero]
       exact⟨q1,q3⟩
     ·rw[List.flatten_append,List.flatten_singleton] at hj
      by_cases hjl:j<css.flatten.length
      ·rw[List.getElem?_append_left hjl] at hj;exact h4 j u hj
      ·rw[List.getElem?_append_right (by omega),h3] at hj
       have:=q2 _ u hj
       rwa [show o+n*size+(j-n*size)=o+j by omega] at this
  obtain⟨css,h1,h2,h3,h4⟩:=key l.length (Nat.le_refl _)
  exact⟨css,h1,h2,h3,a,c,e,.inr ⟨b,o,ha,hb,h4⟩⟩
theorem Aq.Qk {n:Nat}{css:List (List Value)}(hr:Bc w v size n css.flatten)(hn:n=l.length)(hl:css.length=l.length)(hF:∀ k,v.ownBlock=some k->F k)(he:∀ i (hi:i<l.length) (hi' : i<css.length),css[i].length=size/\R F w css[i] l[i]):Aq size R F w v l:=by
 subst hn
 obtain⟨_,a,c,rfl,h0|⟨b,o,rfl,hb,hc⟩⟩:=hr
 ·exact⟨a,c,rfl,.inl h0⟩
 ·refine⟨_,c,rfl,.inr ⟨b,o,rfl,hF b rfl,hb,fun i hi=>⟨css[i],(he i hi (by omega)).1,fun j u hj=>?_,(he i hi (by omega)).2⟩⟩⟩
  rw[Nat.add_assoc]
  refine hc _ _ ?_
  have hlen:∀ m,m<=css.length->(css.take m).flatten.length=m*size:=by
   intro m
   induction m with
   | zero=>simp
   | succ m ih =>
     intro hm
     rw[List.take_succ_eq_append_getElem (by omega),List.flatten_append,List.length_append,ih (by omega),List.flatten_singleton,(he m (by omega) (by omega)).1,Nat.succ_mul]
  have hi2:i<css.length:=by omega
  have hsplit:css.flatten=(css.take i).flatten++(css[i]++(css.drop (i+1)).flatten):=by
   conv=>lhs;rw[<- List.take_append_drop i css]
   rw[List.flatten_append,List.drop_eq_getElem_cons hi2,List.flatten_cons]
  rw[hsplit,List.getElem?_append_right (by rw[hlen i (by omega)];omega),hlen i (by omega),Nat.add_sub_cancel_left]
  have:=(List.getElem?_eq_some_iff.1 hj).1
  rw[List.getElem?_append_left this]
  exact hj
end
end
section
open Go Go.RowKit Go.Maps
namespace Own
def aP:Nat->Prop:=fun _=>True
def DU:Elem Member:=fun _ _ cs m=>cs=[.string m.name,.string m.pub]
def aQ:Elem KeyUse:=fun _ _ cs k=>cs=[.string k.pub,.int .i64 k.next]
def qU:Elem wF:=fun _ _ cs v=>cs=[.string v.name,.string v.pub,.bool v.agrees]
def EI:Elem Space:=fun F w cs s=>∃ v,cs=[.string s.pre,v,.int .i64 s.threshold]/\Aq 2 DU F w v s.members
def wW:Elem lu:=fun F w cs p=>∃ v,cs=[.int .i64 p.id,.string p.path,.string p.digest,.int .i64 p.opened,.int .i64 p.expires,v]/\Aq 3 qU F w v p.wG
instance:Dc DU:=⟨fun h _ _=>h,fun h _=>h⟩
instance:Dc aQ:=⟨fun h _ _=>h,fun h _=>h⟩
instance:Dc qU:=⟨fun h _ _=>h,fun h _=>h⟩
instance:Dc EI:=⟨fun⟨v,h1,h2⟩ hs hk=>⟨v,h1,h2.keep hs hk⟩,fun⟨v,h1,h2⟩ hF=>⟨v,h1,h2.mono hF⟩⟩
instance:Dc wW:=⟨fun⟨v,h1,h2⟩ hs hk=>⟨v,h1,h2.keep hs hk⟩,fun⟨v,h1,h2⟩ hF=>⟨v,h1,h2.mono hF⟩⟩
abbrev Af (w:World)(v:Value)(l:List Member):Prop:=Aq 2 DU aP w v l
abbrev Du (w:World)(v:Value)(l:List KeyUse):Prop:=Aq 2 aQ aP w v l
abbrev BF (w:World)(v:Value)(l:List Space):Prop:=Aq 3 EI aP w v l
section
variable {w w' : World} {a:Option Addr} {n c:Nat}
theorem Af.cells {l:List Member}(h:Af w (.slice a n c) l){i:Nat}(hi:i<l.length):∃ b o,a=some ⟨b,o,none⟩/\b<w.heap.size/\w.cell? ⟨b,o+i*2,none⟩=some (.string l[i].name)/\w.cell? ⟨b,o+i*2+1,none⟩=some (.string l[i].pub):=by
 obtain⟨b,o,ha,_,hb,cs,h1,h2,h3⟩:=h.at_ hi
 have h3:cs=_:=h3
 subst h3
 exact⟨b,o,ha,hb,h2 0 _ rfl,h2 1 _ rfl⟩
theorem Du.cells {l:List KeyUse}(h:Du w (.slice a n c) l){i:Nat}(hi:i<l.length):∃ b o,a=some ⟨b,o,none⟩/\b<w.heap.size/\w.cell? ⟨b,o+i*2,none⟩=some (.string l[i].pub)/\w.cell? ⟨b,o+i*2+1,none⟩=some (.int .i64 l[i].next):=by
 obtain⟨b,o,ha,_,hb,cs,h1,h2,h3⟩:=h.at_ hi
 have h3:cs=_:=h3
 subst h3
 exact⟨b,o,ha,hb,h2 0 _ rfl,h2 1 _ rfl⟩
theorem BF.cells {l:List Space}(h:BF w (.slice a n c) l){i:Nat}(hi:i<l.length):∃ b o v,a=some ⟨b,o,none⟩/\b<w.heap.size/\w.cell? ⟨b,o+i*3,none⟩=some (.string l[i].pre)/\w.cell? ⟨b,o+i*3+1,none⟩=some v/\w.cell? ⟨b,o+i*3+2,none⟩=some (.int .i64 l[i].threshold)/\Af w v l[i].members:=by
 obtain⟨b,o,ha,_,hb,cs,h1,h2,v,h3,h4⟩:=h.at_ hi
 subst h3
 exact⟨b,o,v,ha,hb,h2 0 _ rfl,h2 1 _ rfl,h2 2 _ rfl,h4⟩
end
end Own
end
section
open Go Go.RowKit Go.Maps
def RV (v:Value):Option (DataW Value × List MemPlace):=some (.held v,[])
def LH (k:ByteArray):Lit:=.string k.data.toList
theorem Y4 (k:ByteArray):WideAt.IsKeyLit (LH k):=by unfold LH WideAt.IsKeyLit;trivial
theorem oN {k j:ByteArray}(h:k≠j):LH k≠LH j:=by
 intro e
 apply h
 unfold LH at e
 cases k;cases j
 simp at e
 simpa using e
theorem lQ:Keyed Tryz.prog 9:=string_keyed Tryz.underlying9
theorem keyOf_str {k:ByteArray}(h:k.size<=maxLen):keyOf Tryz.prog 9 (.string k)=some (LH k):=WideMaps.keyOf_string_mk Tryz.underlying9 h
def Reads (D:DataW Value)(f:ByteArray->Option Value):Prop:=IsMap D/\∀ k:ByteArray,match f k with
 | some v=>has D (LH k)=true/\∀ z,D.atKey (LH k) z=.held v
 | none=>has D (LH k)=false
def Kn (w:World)(b n:Nat)(f:ByteArray->Option Value):Prop:=∃ D,w.ownsMap Tryz.prog 9 RV b n D/\Reads D f
def Y5 (f:ByteArray->Option Value)(k:ByteArray)(v:Value):ByteArray->Option Value:=fun j=>if k=j then some v else f j
theorem Reads.put {D:DataW Value}{f:ByteArray->Option Value}(h:Reads D f)(k:ByteArray)(v:Value):Reads (D.put (LH k) (.held v)) (Y5 f k v):=by
 refine⟨h.1.put _ _,fun j=>?_⟩
 unfold Y5
 by_cases e:k=j
 ·subst e
  rw[if_pos rfl]
  exact⟨has_put_same h.1 (Y4 k) _,fun z=>atKey_put_same h.1 (Y4 k) _ z⟩
 ·rw[if_neg e]
  have hn:LH j≠LH k:=oN (Ne.symm e)
  have:=h.2 j
  cases hf:f j with
  | none=>rw[hf] at this;simp only at this ⊢;rw[has_put_other hn];exact this
  | some x=>rw[hf] at this;simp only at this ⊢;rw[has_put_other hn];exact⟨this.1,fun z=>by rw[atKey_put_other hn];exact this.2 z⟩
theorem Reads.at {D:DataW Value}{f:ByteArray->Option Value}(h:Reads D f)(k:ByteArray)(z:Value):D.atKey (LH k) (.held z)=.held ((f k).getD z)/\has D (LH k)=(f k).isSome:=by
 have:=h.2 k
 cases hf:f k with
 | none=>rw[hf] at this;exact⟨atKey_of_not_has this _,this⟩
 | some x=>rw[hf] at this;exact⟨this.2 _,this.1⟩
section
variable {w w' : World} {b n:Nat} {f:ByteArray->Option Value}
theorem Kn.made (w:World):Kn (w.alloc (.map #[] 0)) w.heap.size 0 (fun _=>none):=
 ⟨_,World.ownsMap_made w _ _ _,isMap_empty,fun k=>by show has (.map []) (LH k)=false;rfl⟩
theorem Kn.lt (h:Kn w b n f):b<w.heap.size:=by obtain⟨D,h,_⟩:=h;exact h.lt
theorem Kn.keep (h:Kn w b n f)(hk:w'.heap[b]? = w.heap[b]?):Kn w' b n f:=by
 obtain⟨D,⟨es,clock,hb,F,hs,hD⟩,hr⟩:=h
 exact⟨D,⟨es,clock,by rw[hk];exact hb,F,hs,hD⟩,hr⟩
theorem Kn.below {B:Nat}(h:Kn w b n f)(hb:Below B w w')(hB:b<B):Kn w' b n f:=h.keep (hb.block b hB)
theorem Kn.eD {g:Nat}{t:TypeId}{cs:Array Value}(h:Kn w b n f)(ha:At w g t cs):g≠b:=by
 rintro rfl
 obtain⟨D,⟨es,clock,hb,_⟩,hr⟩:=h
 unfold At at ha
 rw[ha] at hb
 cases hb
variable {ops:Array Oper} {rest:List Oper} {o:Oper} {a:Act} {Q:Exit->Act->World->Prop}
theorem Kn.Y7 {t e:TypeId}(ht:Tryz.prog.underlying t=some (.map 9 e))(z:Value)(hz:(zeroValue e).run Tryz.prog w=.ok z w)(h:Kn w b n f)(k:ByteArray)(hk:k.size<=maxLen):
 (Instr.lookup t (.map (some b)) (.string k) false).run Tryz.prog w=.ok ((f k).getD z) w:=by
 obtain⟨D,hD,hr⟩:=h
 obtain⟨v,ps,hrun,hv⟩:=hD.lookup lQ ht hz (R:=RV) (zd:=.held z) (zp:=[]) rfl (keyOf_str hk)
 have:=hr.at k z
 rw[this.1] at hv
 unfold RV at hv
 simp only[Option.some.injEq,Prod.mk.injEq,DataW.held.injEq] at hv
 rw[hv.1] at hrun
 exact hrun
theorem Wt (hg:o.guard=none)(m x y:Operand)(t e:TypeId)(hop:o.op=Op.mapUpdate t m x y)(ht:Tryz.prog.underlying t=some (.map 9 e))(h:Kn w b n f)(hn:n<maxLen)(hm:a.eval m=.map (some b))(k:ByteArray)(v:Value)(hx:a.eval x=.string k)(hy:a.eval y=v)(hk:k.size<=maxLen)
 (hK:∀ w',Kn w' b (n+1) (Y5 f k v)->w.grownBy w' (some b)->wpList Tryz.prog ops Q rest (a.put o.dst undef) w'):wpList Tryz.prog ops Q (o::rest) a w:=by
 obtain⟨D,hD,hr⟩:=h
 exact wpList_mapUpdate_own w hg m x y t hop 9 e lQ ht RV b n D hm hD hn _ _ _ hx hy (keyOf_str hk) (.held v) [] rfl fun w' h1 h2=>hK w' ⟨_,h1,hr.put k v⟩ h2
end
section
variable {w w' : World} {b r n cnt:Nat} {f:ByteArray->Option Value} {done:List ByteArray}
variable {ops:Array Oper} {rest:List Oper} {o:Oper} {a:Act} {Q:Exit->Act->World->Prop}
end
end
section
open Go Go.RowKit Go.Maps
theorem aR (s:ByteArray):(Lib.splitB ⟨#[47]⟩ 0 (Lib.countB s ⟨#[47]⟩) s).any (fun x=>decide (x=⟨#[]⟩)) = !Own.dV s.data.toList:=by
 have h:=Lib.splitB_data ⟨#[47]⟩ 0 (Lib.countB s ⟨#[47]⟩) s
 have h2:Lib.splitK [47] 0 (Lib.countB s ⟨#[47]⟩) s.data.toList=Nam.cuts s.data.toList:=Nam.aK _ _ (Nat.le_refl _)
 unfold Own.dV
 rw[<- h2,List.not_all_eq_any_not]
 have h3:Lib.splitK [47] 0 (Lib.countB s ⟨#[47]⟩) s.data.toList=(Lib.splitB ⟨#[47]⟩ 0 (Lib.countB s ⟨#[47]⟩) s).map (·.data.toList):=h.symm
 rw[h3,List.any_map]
 congr 1
 funext x
 show decide (x=⟨#[]⟩) = !!x.data.toList.isEmpty
 rw[Bool.not_not,Bool.eq_iff_iff,decide_eq_true_eq,List.isEmpty_iff]
 constructor
 ·rintro rfl;rfl
 ·intro h;apply Sha.BG;rw[h]
theorem aS (v:Value)(xs:List ByteArray)(x:ByteArray)(w:World)(h:Al w v xs)(hl:xs.length<=140737488355328):
 Calls Tryz.prog 121 #[v,.string x] w fun e w' => e=.returned (.bool (xs.any fun y=>decide (y=x)))/\w' = w:=by
 obtain⟨a,c,rfl,h0|⟨b,o,rfl,hc⟩⟩:=h
 ·have:xs=[]:=List.eq_nil_of_length_eq_zero h0
  subst this
  exact Tryz.slices_Contains_string_empty a c x w
 ·refine(Tryz.slices_Contains_string b o xs.length c xs x w (Nat.le_refl _) (by omega) hc).mono ?_
  rintro e w' ⟨rfl,rfl⟩
  refine⟨?_,rfl⟩
  congr 2
  rw[List.take_of_length_le (Nat.le_refl _),Bool.eq_iff_iff,Lib.containsS_iff,List.any_eq_true]
  constructor
  ·exact fun h=>⟨x,h,decide_eq_true rfl⟩
  ·rintro⟨y,hy,he⟩
   rw[<- of_decide_eq_true he]
   exact hy
theorem LJ (s:ByteArray)(w:World)(hM:Il w):Calls Tryz.prog 68 #[.string s] w fun e w' => e=.returned (.bool (Own.BI s))/\Below w.heap.size w w':=by
 obtain⟨R,hR⟩:∃ R,R=Own.BI s:=⟨_,rfl⟩
 rw[<- hR]
 have HR:=zh hR;clear hR
 obtain⟨m,hm⟩:=hM
 have HM:=zh hm;clear hm
 go_enter Tryz.func68,Tryz.ntmps68
 by_cases h0:1<=s.size
 case neg=>
  have d0:decide (1<=(s.size:Int))=false:=zf
  have d0' : decide (1<=s.size)=false:=zf
  have e:R=false:=by rw[HR.out,Own.BI,d0'];rfl
  have HE:=zh e;clear e
  go_wp2
  go_ret
  exact⟨by rw[HE.out];rfl,Below.refl _ _⟩
 have d0:decide (1<=(s.size:Int))=true:=zt
 have d0' : decide (1<=s.size)=true:=zt
 by_cases h1:s.size<=64
 case neg=>
  have d1:decide ((s.size:Int)<=64)=false:=zf
  have d1' : decide (s.size<=64)=false:=zf
  have e:R=false:=by rw[HR.out,Own.BI,d0',d1'];rfl
  have HE:=zh e;clear e
  go_wp2
  go_ret
  exact⟨by rw[HE.out];rfl,Below.refl _ _⟩
 have d1:decide ((s.size:Int)<=64)=true:=zt
 have d1' : decide (s.size<=64)=true:=zt
 have e:R=Own.dV s.data.toList:=by rw[HR.out,Own.BI,d0',d1'];simp
 have HE:=zh e;clear e
 go_wp2_with fail
 refine(Tryz.strings_Split s ⟨#[47]⟩ m _ (by omega) HM.out (by decide)).mono ?_
 rintro e2 w2 ⟨rfl,rfl⟩
 have hsa:=aR s
 have hlen:=Lib.splitB_all ⟨#[47]⟩ (by decide) 0 _ s rfl
 have hcl:=Lib.count_le s.data.toList [47]
 have sP:Lib.countB s ⟨#[47]⟩<=s.data.toList.length+1:=hcl
 rw[Array.length_toList] at sP
 have zax:Lib.countB s ⟨#[47]⟩<=s.size+1:=sP
 obtain⟨xs,hxs⟩:∃ xs,xs=Lib.splitB ⟨#[47]⟩ 0 (Lib.countB s ⟨#[47]⟩) s:=⟨_,rfl⟩
 rw[<- hxs] at hsa hlen ⊢
 rw[<- hlen]
 have hst:Al (w.alloc (.cells (xs.map Value.string).toArray 9)) (.slice (some ⟨w.heap.size,0,none⟩) xs.length xs.length) xs:=Al.block (At.new _ _ _) rfl _
 have hb1:Below w.heap.size w (w.alloc (.cells (xs.map Value.string).toArray 9)):=zb
 have HST:=zh hst;have HB1:=zh hb1;have HSA:=zh hsa
 have hl2:xs.length<=140737488355328:=by omega
 clear hst hb1 hsa hxs hlen hcl sP zax
 generalize w.alloc (.cells (xs.map Value.string).toArray 9)=w1 at*
 go_wp2_with fail
 refine(aS _ xs ⟨#[]⟩ w1 HST.out hl2).mono ?_
 rintro e3 w3 ⟨rfl,rfl⟩
 rw[HSA.out,<- HE.out]
 go_wp2
 go_ret
 exact⟨by simp,HB1.out⟩
theorem TK (s p:ByteArray)(w:World)(hp:p.size<=1000):Calls Tryz.prog 123 #[.string s,.string p] w fun e w' => e=.returned (.bool (Own.belongs s p))/\w' = w:=by
 obtain⟨R,hR⟩:∃ R,R=Own.belongs s p:=⟨_,rfl⟩
 rw[<- hR]
 unfold Own.belongs at hR
 have HR:=zh hR;clear hR
 go_enter Tryz.func123,Tryz.ntmps123
 by_cases h:s=p
 ·have d:(s.toList==p.toList)=true:=by rw[bytes_beq];exact decide_eq_true h
  have e:R=true:=by rw[HR.out,decide_eq_true h];rfl
  have HE:=zh e;clear e
  go_wp2
  go_ret
  exact⟨by rw[HE.out];rfl,rfl⟩
 ·have d:(s.toList==p.toList)=false:=by rw[bytes_beq];exact decide_eq_false h
  have e:R=Lib.hasPrefix s.data.toList (p++⟨#[47]⟩).data.toList:=by
   rw[HR.out,decide_eq_false h,Sha.Bq]
   rfl
  have HE:=zh e;clear e
  go_wp2_with fail
  refine(Tryz.strings_HasPrefix s _ w).mono ?_
  rintro e w2 ⟨rfl,rfl⟩
  rw[<- HE.out]
  go_wp2
  go_ret
  exact⟨rfl,rfl⟩
theorem Bz (p:ByteArray)(w:World):Calls Tryz.prog 73 #[.string p] w fun e w' => e=.returned (.bool (Sig.Bn p))/\w' = w:=by
 obtain⟨R,hR⟩:∃ R,R=Sig.Bn p:=⟨_,rfl⟩
 rw[<- hR]
 unfold Sig.Bn at hR
 have HR:=zh hR;clear hR
 go_enter Tryz.func73,Tryz.ntmps73
 by_cases h33:p.size=33
 case neg=>
  have d1:((p.size:Int)==33)=false:=by rw[beq_eq_false_iff_ne];omega
  have hx:R=false:=by rw[HR.out,decide_eq_false h33];rfl
  have HX:=zh hx;clear hx
  go_wp2
  go_ret
  exact⟨by rw[HX.out];rfl,rfl⟩
 have d1:((p.size:Int)==33)=true:=by rw[beq_iff_eq];omega
 have h32:32<p.size:=by omega
 have hg:p.get! 32=p[32]:=getElem!_pos p.data 32 h32
 have hxl:p[32].toNat<256:=p[32].toNat_lt
 have hx:R=decide ((p[32].toNat:Int)<=6):=by
  rw[HR.out,decide_eq_true h33,hg,Bool.true_and,decide_eq_decide]
  omega
 have HX:=zh hx;clear hx
 go_wp2
 go_ret
 exact⟨by rw[HX.out];rfl,rfl⟩
theorem Dv (s:ByteArray)(w:World):Calls Tryz.prog 104 #[.string s] w fun e w' => e=.returned (.bool (Own.EG s))/\w' = w:=by
 obtain⟨R,hR⟩:∃ R,R=Own.EG s:=⟨_,rfl⟩
 rw[<- hR]
 unfold Own.EG at hR
 have HR:=zh hR;clear hR
 go_enter Tryz.func104,Tryz.ntmps104
 by_cases h0:1<=s.size
 case neg=>
  have d0:decide (1<=(s.size:Int))=false:=zf
  have e:R=false:=by rw[HR.out,decide_eq_false h0];rfl
  have HE:=zh e;clear e
  go_wp2
  go_ret
  exact⟨by rw[HE.out];rfl,rfl⟩
 have d0:decide (1<=(s.size:Int))=true:=zt
 have e:R=decide ((s.size:Int)<=32):=by
  rw[HR.out,decide_eq_true h0,Bool.true_and,decide_eq_decide]
  omega
 have HE:=zh e;clear e
 go_wp2
 go_ret
 exact⟨by rw[HE.out];rfl,rfl⟩
namespace Own
def El (l:List Member):ByteArray->Option Value:=fun p=>if l.any (fun x=>decide (x.pub=p)) then some (.bool true) else none
theorem Wu (l:List Member)(m:Member):El (l++[m])=Y5 (El l) m.pub (.bool true):=by
 funext p
 unfold El Y5
 rw[List.any_append]
 by_cases h:m.pub=p
 ·simp[h]
 ·simp[h]
theorem FE:∀ (pre a b:List Member),Am pre (a++b)=(Am pre a&&Am (pre++a) b)
 | pre,[],b=>by simp[Am]
 | pre,m :: a,b => by
   show(CX pre m&&Am (pre++[m]) (a++b))=((CX pre m&&Am (pre++[m]) a)&&_)
   rw[FE (pre++[m]) a b,List.append_assoc,Bool.and_assoc]
   rfl
theorem RG (l:List Member)(k:Nat)(hk:k<l.length):Am [] l=(Am [] (l.take k)&&(CX (l.take k) l[k]&&Am (l.take (k+1)) (l.drop (k+1)))):=by
 have e:l=l.take k++l[k]::l.drop (k+1):=by rw[<- List.drop_eq_getElem_cons hk,List.take_append_drop]
 conv=>lhs;rw[e]
 rw[FE,List.nil_append]
 show(_&&(CX _ _&&Am (l.take k++[l[k]]) _))=_
 rw[<- List.take_succ_eq_append_getElem hk]
theorem Oi (l:List Member)(k:Nat)(hk:k<l.length):Am [] (l.take (k+1))=(Am [] (l.take k)&&CX (l.take k) l[k]):=by
 rw[List.take_succ_eq_append_getElem hk,FE,List.nil_append]
 show(_&&(CX _ _&&true))=_
 rw[Bool.and_true]
theorem getLast_take {α : Type}(l:List α)(k:Nat)(hk:k<l.length):(l.take (k+1)).getLast? = some l[k]:=by
 rw[List.take_succ_eq_append_getElem hk,List.getLast?_append]
 rfl
end Own
theorem UU (w:World):(zeroValue 4).run Tryz.prog w=.ok (.bool false) w:=by
 have h:(Tryz.prog.info? 4).map (·.zero)=some (some (.bool false)):=by kernel_rfl
 cases hq:Tryz.prog.info? 4 with
 | none=>rw[hq] at h;simp at h
 | some i => rw [hq] at h;have h : i.zero = some (.bool false) :=by simpa using h
             simp[zeroValue,typeInfo,hq,h]
theorem KR (v:Value)(l:List Own.Member)(w:World)(h:Own.Af w v l)(hl:l.length<=140737488355328):
 Calls Tryz.prog 103 #[v] w fun e w' => e=.returned (.bool (Own.Co l))/\Below w.heap.size w w':=by
 obtain⟨R,hR⟩:∃ R,R=Own.Co l:=⟨_,rfl⟩
 rw[<- hR]
 unfold Own.Co at hR
 obtain⟨a,c,rfl⟩:=h.len
 have HR:=zh hR;have HL:=zh h;clear hR h
 go_enter Tryz.func103,Tryz.ntmps103
 by_cases h1:1<=l.length
 case neg=>
  have d1:decide ((l.length:Int)<1)=true:=zt
  have e:R=false:=by rw[HR.out,decide_eq_false h1];rfl
  have HE:=zh e;clear e
  go_wp2
  go_ret
  exact⟨by rw[HE.out];rfl,Below.refl _ _⟩
 have d1:decide ((l.length:Int)<1)=false:=zf
 by_cases h2:l.length<=8
 case neg=>
  have d2:decide ((8:Int)<l.length)=true:=zt
  have e:R=false:=by rw[HR.out,decide_eq_false h2];simp
  have HE:=zh e;clear e
  go_wp2
  go_ret
  exact⟨by rw[HE.out];rfl,Below.refl _ _⟩
 have d2:decide ((8:Int)<l.length)=false:=zf
 have hr:R=Own.Am [] l:=by rw[HR.out,decide_eq_true h1,decide_eq_true h2];simp
 have HR2:=zh hr;clear hr HR
 have hm0:=Kn.made w
 have hb0:Below w.heap.size w (w.alloc (.map #[] 0)):=zb
 have HM0:=zh hm0;have HB0:=zh hb0;clear hm0 hb0
 have hmm :=@run_makeMap Tryz.prog
 go_wp2_with fail
 clear hmm
 go_loopw [17] (fun i wr=>∃ k:Nat,k<=l.length/\i=.int .i64 k/\Own.Am [] (l.take k)=true/\Kn wr w.heap.size k (Own.El (l.take k))/\Below w.heap.size w wr) (fun i _=>l.length-(intOf i).toNat)
 case atStart=>exact⟨0,by omega,rfl,rfl,HM0.out,HB0.out⟩
 case round=>
  obtain⟨k,hk,rfl,hok,hsm,hb⟩:=hrel
  have HOK:=zh hok;have HSM:=zh hsm;have HB:=zh hb
  by_cases hlt:k<l.length
  case neg=>
   have hke:k=l.length:=by omega
   have dk:decide ((k:Int)<l.length)=false:=zf
   have e:R=true:=by rw[HR2.out,<- hok,hke,List.take_length]
   have HE:=zh e;clear e hok hsm hb
   go_wp2
   go_ret
   exact⟨by rw[HE.out];rfl,HB.out⟩
  have dk:decide ((k:Int)<l.length)=true:=zt
  have hra:R=(Own.CX (l.take k) l[k]&&Own.Am (l.take (k+1)) (l.drop (k+1))):=by rw[HR2.out,Own.RG l k hlt,hok,Bool.true_and]
  have htk:Own.Am [] (l.take (k+1))=Own.CX (l.take k) l[k]:=by rw[Own.Oi l k hlt,hok,Bool.true_and]
  have hmap:Own.El (l.take (k+1))=Y5 (Own.El (l.take k)) l[k].pub (.bool true):=by rw[List.take_succ_eq_append_getElem hlt,Own.Wu]
  have hlk:=HL.out.below hb
  obtain⟨b,o,ha,hbl,c0,c1⟩:=Own.Af.cells hlk hlt
  have JL:∀ j,k=j+1->∃ x:Own.Member,wr.cell? ⟨b,o+j*2,none⟩=some (.string x.name)/\(l.take k).getLast? = some x:=by
   intro j hj
   obtain⟨b',o',ha',_,e0,_⟩:=Own.Af.cells hlk (i:=j) (by omega)
   rw[ha] at ha'
   cases ha'
   have hg:=Own.getLast_take l j (by omega)
   rw[<- hj] at hg
   exact⟨_,e0,hg⟩
  subst ha
  have hmo:Own.CX (l.take k) l[k]=(Own.EG l[k].name&&Sig.Bn l[k].pub && !((l.take k).any fun x=>decide (x.pub=l[k].pub))&&(match (l.take k).getLast? with|none=>true|some x=>Own.Aj x.name l[k].name)):=rfl
  rw[hmo] at hra htk
  clear hmo
  obtain⟨nm,hnm⟩:∃ x,x=l[k].name:=⟨_,rfl⟩
  obtain⟨pb,hpb⟩:∃ x,x=l[k].pub:=⟨_,rfl⟩
  rw[<- hnm,<- hpb] at hra htk
  rw[<- hpb] at hmap
  rw[<- hnm] at c0
  rw[<- hpb] at c1
  obtain⟨rest,hrest⟩:∃ x,x=Own.Am (l.take (k+1)) (l.drop (k+1)):=⟨_,rfl⟩
  rw[<- hrest] at hra
  have HRA:=zh hra;have HTK:=zh htk;have xg:=zh hmap;have RH:=zh JL
  have hb5:Below w.heap.size w (wr.alloc (.cells #[.string nm,.string pb] 76)).drew:=(hb.alloc hb.size _).drew
  have Wi:Kn (wr.alloc (.cells #[.string nm,.string pb] 76)).drew w.heap.size k (Own.El (l.take k)):=hsm.below ((Below.refl wr.heap.size wr).alloc (Nat.le_refl _) _).drew hsm.lt
  have HB5:=zh hb5;have oO:=zh Wi
  have hbs:=hb.size
  clear hok hsm hb hlk hra htk hmap JL hb5 Wi hrest hnm hpb
  cases hn:Own.EG nm with
  | false =>
    have e:R=false:=by rw[HRA.out,hn];rfl
    have HE:=zh e;clear e
    go_wp2
    refine Lex.zl ?_
    go_wp2_with fail
    refine(Dv nm _).mono ?_
    rintro e2 w2 ⟨rfl,rfl⟩
    rw[hn]
    go_wp2
    refine Lex.ze ?_
    go_wp2
    go_ret
    exact⟨by rw[HE.out];rfl,HB5.out⟩
  | true=>
  have Oj:=HRA.out
  have LK:=HTK.out
  rw[hn,Bool.true_and] at Oj LK
  clear HRA HTK
  cases hp:Sig.Bn pb with
  | false =>
    have e:R=false:=by rw[Oj,hp];rfl
    have HE:=zh e;clear e Oj LK
    go_wp2
    refine Lex.zl ?_
    go_wp2_with fail
    refine(Dv nm _).mono ?_
    rintro e2 w2 ⟨rfl,rfl⟩
    rw[hn]
    go_wp2_with fail
    refine(Bz pb _).mono ?_
    rintro e2 w2 ⟨rfl,rfl⟩
    rw[hp]
    go_wp2
    refine Lex.ze ?_
    go_wp2
    go_ret
    exact⟨by rw[HE.out];rfl,HB5.out⟩
  | true=>
  rw[hp,Bool.true_and] at Oj LK
  have hps:pb.size<=maxLen:=by
   have:pb.size=33:=of_decide_eq_true (Bool.and_eq_true_iff.1 hp).1
   unfold maxLen;omega
  have Ng:=oO.out.Y7 (t:=172) (e:=4) Tryz.underlying172 (.bool false) (UU _) pb hps
  cases hin:(l.take k).any fun x=>decide (x.pub=pb) with
  | true =>
    have e:R=false:=by rw[Oj,hin];rfl
    have hv:(Own.El (l.take k) pb).getD (.bool false)=.bool true:=by unfold Own.El;rw[hin];rfl
    rw[hv] at Ng
    have HE:=zh e;clear e Oj LK hv hin
    go_wp2
    refine Lex.zl ?_
    go_wp2_with fail
    refine(Dv nm _).mono ?_
    rintro e2 w2 ⟨rfl,rfl⟩
    rw[hn]
    go_wp2_with fail
    refine(Bz pb _).mono ?_
    rintro e2 w2 ⟨rfl,rfl⟩
    rw[hp]
    go_wp2
    refine Lex.ze ?_
    go_wp2
    go_ret
    exact⟨by rw[HE.out];rfl,HB5.out⟩
  | false=>
  rw[hin,Bool.not_false,Bool.true_and] at Oj LK
  have hv:(Own.El (l.take k) pb).getD (.bool false)=.bool false:=by unfold Own.El;rw[hin];rfl
  rw[hv] at Ng
  clear hv hin
  rcases Nat.eq_zero_or_pos k with hk0|hkp
  ·have hl0:(l.take k).getLast? = none:=by rw[hk0];rfl
   rw[hl0] at Oj LK
   have HT:=zh LK
   have dz:decide ((0:Int)<(k:Int))=false:=zf
   have dz' : decide (0<k)=false:=zf
   have HK0:=zh hk0
   clear hl0 Oj LK hk0
   go_wp2
   refine Lex.zl ?_
   go_wp2_with fail
   refine(Dv nm _).mono ?_
   rintro e2 w2 ⟨rfl,rfl⟩
   rw[hn]
   go_wp2_with fail
   refine(Bz pb _).mono ?_
   rintro e2 w2 ⟨rfl,rfl⟩
   rw[hp]
   go_wp2
   refine Lex.ze ?_
   clear Ng
   go_wp2_with (at_mapUpdate;go_must (refine Wt rfl _ _ _ 172 4 rfl Tryz.underlying172 oO.out (by unfold maxLen;omega) rfl pb (.bool true) rfl rfl hps ?_);intro w7 hm7 hg7;have HM7:=zh hm7;have HB7:=zh (HB5.out.grown hg7 HB5.out.size (fun k hk=>by cases hk;exact Nat.le_refl _));clear hm7 hg7)
   go_round
   case measure=>simp[intOf];omega
   case rel=>exact⟨k+1,by omega,by go_num,HT.out,by rw[xg.out];exact HM7.out,HB7.out⟩
  ·obtain⟨j,hj⟩:∃ j,k=j+1:=⟨k-1,by omega⟩
   obtain⟨x,e0,hx⟩:=RH.out j hj
   rw[hx] at Oj LK
   have Ol:R=(Own.Aj x.name nm&&rest):=Oj
   have Nh:Own.Am [] (l.take (k+1))=Own.Aj x.name nm:=LK
   unfold Own.Aj at Ol Nh
   have dz:decide ((0:Int)<(k:Int))=true:=zt
   have dz' : decide (0<k)=true:=zt
   have ek:(k:Int)-1=(j:Int):=by omega
   have hjl:j<l.length:=by omega
   have e1:(wr.alloc (.cells #[.string nm,.string pb] 76)).cell? ⟨b,o+j*2,none⟩=some (.string x.name):=(((Below.refl wr.heap.size wr).alloc (Nat.le_refl _) _).cell (p:=⟨b,o+j*2,none⟩) hbl).trans e0
   cases hlb:Op.bytesLess x.name.toList nm.toList with
   | false =>
     have e:R=false:=by rw[Ol,hlb];rfl
     have HE:=zh e;clear e Oj LK Ol Nh hx e0 hj
     go_wp2
     refine Lex.zl ?_
     go_wp2_with fail
     refine(Dv nm _).mono ?_
     rintro e2 w2 ⟨rfl,rfl⟩
     rw[hn]
     go_wp2_with fail
     refine(Bz pb _).mono ?_
     rintro e2 w2 ⟨rfl,rfl⟩
     rw[hp]
     go_wp2
     refine Lex.ze ?_
     clear Ng
     go_wp2_with (at_mapUpdate;go_must (refine Wt rfl _ _ _ 172 4 rfl Tryz.underlying172 oO.out (by unfold maxLen;omega) rfl pb (.bool true) rfl rfl hps ?_);intro w7 hm7 hg7;have HM7:=zh hm7;have HB7:=zh (HB5.out.grown hg7 HB5.out.size (fun k hk=>by cases hk;exact Nat.le_refl _));clear hm7 hg7)
     go_ret
     exact⟨by rw[HE.out];rfl,HB5.out⟩
   | true =>
     rw[hlb] at Nh
     have HT:=zh Nh
     clear Oj LK Ol Nh hx e0 hj
     go_wp2
     refine Lex.zl ?_
     go_wp2_with fail
     refine(Dv nm _).mono ?_
     rintro e2 w2 ⟨rfl,rfl⟩
     rw[hn]
     go_wp2_with fail
     refine(Bz pb _).mono ?_
     rintro e2 w2 ⟨rfl,rfl⟩
     rw[hp]
     go_wp2
     refine Lex.ze ?_
     clear Ng
     go_wp2_with (at_mapUpdate;go_must (refine Wt rfl _ _ _ 172 4 rfl Tryz.underlying172 oO.out (by unfold maxLen;omega) rfl pb (.bool true) rfl rfl hps ?_);intro w7 hm7 hg7;have HM7:=zh hm7;have HB7:=zh (HB5.out.grown hg7 HB5.out.size (fun k hk=>by cases hk;exact Nat.le_refl _));clear hm7 hg7)
     go_round
     case measure=>simp[intOf];omega
     case rel=>exact⟨k+1,by omega,by go_num,HT.out,by rw[xg.out];exact HM7.out,HB7.out⟩
theorem Wv (v:Value)(s:Own.Space)(w:World)(hM:Il w)(h:Own.Af w v s.members)(hl:s.members.length<=140737488355328):
 Calls Tryz.prog 72 #[.agg #[.string s.pre,v,.int .i64 s.threshold]] w fun e w' => e=.returned (.bool (Own.AX s))/\Below w.heap.size w w':=by
 obtain⟨R,hR⟩:∃ R,R=Own.AX s:=⟨_,rfl⟩
 rw[<- hR]
 unfold Own.AX at hR
 obtain⟨a,c,rfl⟩:=h.len
 have ha:=At.new w 39 #[.string s.pre,.slice a s.members.length c,.int .i64 s.threshold]
 have hb1:Below w.heap.size w (w.alloc (.cells #[.string s.pre,.slice a s.members.length c,.int .i64 s.threshold] 39)):=zb
 have HR:=zh hR;have HL:=zh (h.below hb1);have HM:=zh (hM.below hb1);have HB:=zh hb1;have HA:=zh ha
 have c0:=ha.cell 0;have c1:=ha.cell 1;have c2:=ha.cell 2
 simp only[zg] at c0 c1 c2
 clear hR h hM ha hb1
 go_enter Tryz.func72,Tryz.ntmps72
 go_wp2_with fail
 generalize w.alloc (.cells #[.string s.pre,.slice a s.members.length c,.int .i64 s.threshold] 39)=w1 at*
 refine(LJ s.pre w1 HM.out).mono ?_
 rintro e w2 ⟨rfl,hb2⟩
 have HB2:=zh (HB.out.trans (hb2.mono HB.out.size));have HL2:=zh (HL.out.below hb2)
 have ha2:=HA.out.below hb2 HA.out.lt
 obtain⟨q0,q1,q2⟩:=ha2.c3
 have HA2:=zh ha2
 clear hb2 ha2 c0 c1 c2
 cases hp:Own.BI s.pre with
 | false =>
   have e:R=false:=by rw[HR.out,hp];rfl
   have HE:=zh e;clear e
   go_wp2
   go_ret
   exact⟨by rw[HE.out];rfl,HB2.out⟩
 | true=>
 go_wp2_with fail
 refine(KR _ s.members w2 HL2.out hl).mono ?_
 rintro e w3 ⟨rfl,hb3⟩
 have HB3:=zh (HB2.out.trans (hb3.mono HB2.out.size))
 have ha3:=HA2.out.below hb3 HA2.out.lt
 obtain⟨p0,p1,p2⟩:=ha3.c3
 clear hb3 ha3 q0 q1 q2
 cases hm:Own.Co s.members with
 | false =>
   have e:R=false:=by rw[HR.out,hm];simp
   have HE:=zh e;clear e
   go_wp2
   go_ret
   exact⟨by rw[HE.out];rfl,HB3.out⟩
 | true=>
 have e:R=(decide (1<=s.threshold)&&decide (s.threshold<=s.members.length)):=by rw[HR.out,hp,hm];simp
 have HE:=zh e;clear e
 by_cases h1:1<=s.threshold
 ·have d1:decide (1<=s.threshold)=true:=decide_eq_true h1
  have e:R=decide (s.threshold<=s.members.length):=by rw[HE.out,d1];rfl
  have HE2:=zh e;clear e
  go_wp2
  go_ret
  exact⟨by rw[HE2.out];rfl,HB3.out⟩
 ·have d1:decide (1<=s.threshold)=false:=decide_eq_false h1
  have e:R=false:=by rw[HE.out,d1];rfl
  have HE2:=zh e;clear e
  go_wp2
  go_ret
  exact⟨by rw[HE2.out];rfl,HB3.out⟩
namespace Own
theorem JM {α : Type}(ok : α -> Bool)(lt : α -> α -> Bool):∀ (p:Option α) (a b:List α),Ar ok lt p (a++b)=(Ar ok lt p a&&Ar ok lt (match a.getLast? with|none=>p|some x=>some x) b)
 | p,[],b=>by simp[Ar]
 | p,x :: a,b => by
   have ih:=JM ok lt (some x) a b
   show(ok x&&(match p with|none=>true|some y=>lt y x)&&Ar ok lt (some x) (a++b))=((ok x&&(match p with|none=>true|some y=>lt y x)&&Ar ok lt (some x) a)&&_)
   rw[ih,Bool.and_assoc,Bool.and_assoc,Bool.and_assoc]
   congr 3
   cases a with
   | nil=>rfl
   | cons y a => rw [List.getLast?_cons_cons];cases h : (y :: a).getLast? with
     | none=>simp at h
     | some z=>rfl
def ahead {α : Type}(lt : α -> α -> Bool)(p:Option α)(x : α):Bool:=match p with
 | none=>true
 | some y=>lt y x
theorem RI {α : Type}(ok : α -> Bool)(lt : α -> α -> Bool)(l:List α)(k:Nat)(hk:k<l.length):
 Ar ok lt none l=(Ar ok lt none (l.take k)&&((ok l[k]&&ahead lt (l.take k).getLast? l[k])&&Ar ok lt (some l[k]) (l.drop (k+1)))):=by
 have e:l=l.take k++l[k]::l.drop (k+1):=by rw[<- List.drop_eq_getElem_cons hk,List.take_append_drop]
 conv=>lhs;rw[e]
 rw[JM]
 congr 1
 cases (l.take k).getLast? <;> rfl
theorem Ni {α : Type}(ok : α -> Bool)(lt : α -> α -> Bool)(l:List α)(k:Nat)(hk:k<l.length):
 Ar ok lt none (l.take (k+1))=(Ar ok lt none (l.take k)&&(ok l[k]&&ahead lt (l.take k).getLast? l[k])):=by
 rw[List.take_succ_eq_append_getElem hk,JM]
 congr 1
 cases (l.take k).getLast? <;> simp[Ar,ahead]
end Own
theorem JN (o:Own.Ao)(sv kv:Value)(w:World)(hM:Il w)(hS:Own.BF w sv o.spaces)(hK:Own.Du w kv o.keys)(hls:o.spaces.length<=140737488355328)(hlk:o.keys.length<=140737488355328)(hlm:∀ s∈o.spaces,s.members.length<=140737488355328):
 Calls Tryz.prog 20 #[.agg #[.int .i64 o.count,sv,kv]] w fun e w' => e=.returned (.bool (Own.Bv o))/\Below w.heap.size w w':=by
 obtain⟨R,hR⟩:∃ R,R=Own.Bv o:=⟨_,rfl⟩
 rw[<- hR]
 unfold Own.Bv Own.late at hR
 obtain⟨sa,sc,rfl⟩:=hS.len
 obtain⟨ka,kc,rfl⟩:=hK.len
 obtain⟨cnt,S,K⟩:=o
 dsimp only at*
 have ha:=At.new w 25 #[.int .i64 cnt,.slice sa S.length sc,.slice ka K.length kc]
 have hb1:Below w.heap.size w (w.alloc (.cells #[.int .i64 cnt,.slice sa S.length sc,.slice ka K.length kc] 25)):=zb
 have HR:=zh hR;have HS:=zh (hS.below hb1);have HK:=zh (hK.below hb1);have HM:=zh (hM.below hb1);have HB:=zh hb1;have HA:=zh ha;have HLM:=zh hlm
 have c0:=ha.cell 0;have c1:=ha.cell 1;have c2:=ha.cell 2
 simp only[zg] at c0 c1 c2
 clear hR hS hK hM ha hb1 hlm
 go_enter Tryz.func20,Tryz.ntmps20
 by_cases h1:0<=cnt
 case neg=>
  have d1:decide (cnt<0)=true:=zt
  have e:R=false:=by rw[HR.out,decide_eq_false h1];rfl
  have HE:=zh e;clear e
  go_wp2
  go_ret
  exact⟨by rw[HE.out];rfl,HB.out⟩
 have d1:decide (cnt<0)=false:=zf
 by_cases h2:cnt<=1099511627776
 case neg=>
  have d2:decide (1099511627776<cnt)=true:=zt
  have e:R=false:=by rw[HR.out,decide_eq_false h2];simp
  have HE:=zh e;clear e
  go_wp2
  go_ret
  exact⟨by rw[HE.out];rfl,HB.out⟩
 have d2:decide (1099511627776<cnt)=false:=zf
 by_cases h3:S.length<=64
 case neg=>
  have d3:decide ((64:Int)<S.length)=true:=zt
  have e:R=false:=by rw[HR.out,decide_eq_false h3];simp
  have HE:=zh e;clear e
  go_wp2
  go_ret
  exact⟨by rw[HE.out];rfl,HB.out⟩
 have d3:decide ((64:Int)<S.length)=false:=zf
 have e:R=(Own.Ar Own.AX (fun x y=>Own.Aj x.pre y.pre) none S&&Own.Ar Own.Df (fun x y=>Own.Aj x.pub y.pub) none K):=by
  rw[HR.out,decide_eq_true h1,decide_eq_true h2,decide_eq_true h3];simp
 have HR2:=zh e;clear e HR
 go_wp2_with fail
 generalize w.alloc (.cells #[.int .i64 cnt,.slice sa S.length sc,.slice ka K.length kc] 25)=w1 at*
 clear d1 d2 d3 h1 h2
 go_loopw [24] (fun i wr=>∃ k:Nat,k<=S.length/\i=.int .i64 k/\Own.Ar Own.AX (fun x y=>Own.Aj x.pre y.pre) none (S.take k)=true/\Below w1.heap.size w1 wr) (fun i _=>S.length-(intOf i).toNat)
 case atStart=>exact⟨0,by omega,rfl,rfl,Below.refl _ _⟩
 case round=>
  obtain⟨k,hk,rfl,hok,hb⟩:=hrel
  have HOK:=zh hok;have HBW:=zh hb
  have hz1:=HA.out.lt
  have hbs:=hb.size
  have ha2:=HA.out.below hb hz1
  obtain⟨c0,c1,c2⟩:=ha2.c3
  clear ha2
  by_cases hlt:k<S.length
  case neg=>
   have hke:k=S.length:=by omega
   have dk:decide ((k:Int)<S.length)=false:=zf
   have e:R=Own.Ar Own.Df (fun x y=>Own.Aj x.pub y.pub) none K:=by
    rw[HR2.out]
    rw[hke,List.take_length] at hok
    rw[hok,Bool.true_and]
   have HR3:=zh e
   have HKW:=zh (HK.out.below hb)
   have HB2:=zh (HB.out.trans (hb.mono HB.out.size))
   have HA2:=zh (HA.out.below hb hz1)
   clear e hok hke hb HR2 HK HB HA HOK HBW HS HM
   go_wp2_with fail
   have hzw:w.heap.size<wr.heap.size:=by omega
   clear dk
   obtain⟨w5,hw5⟩:∃ w5,w5=wr:=⟨_,rfl⟩
   subst hw5
   go_loopw [52] (fun i wr=>∃ j:Nat,j<=K.length/\i=.int .i64 j/\Own.Ar Own.Df (fun x y=>Own.Aj x.pub y.pub) none (K.take j)=true/\Below w5.heap.size w5 wr) (fun i _=>K.length-(intOf i).toNat)
   case atStart=>exact⟨0,by omega,rfl,rfl,Below.refl _ _⟩
   case round=>
    obtain⟨j,hj,rfl,hok,hb⟩:=hrel
    have HBX:=zh hb
    have ha2:=HA2.out.below hb hzw
    obtain⟨c0,c1,c2⟩:=ha2.c3
    clear ha2
    by_cases hlt:j<K.length
    case neg=>
     have hje:j=K.length:=by omega
     have dk:decide ((j:Int)<K.length)=false:=zf
     have e:R=true:=by rw[HR3.out,<- hok,hje,List.take_length]
     have HE:=zh e;clear e hok hb hje
     go_wp2
     go_ret
     exact⟨by rw[HE.out];rfl,HB2.out.trans (HBX.out.mono HB2.out.size)⟩
    have dk:decide ((j:Int)<K.length)=true:=zt
    have hra:R=((Own.Df K[j]&&Own.ahead (fun x y=>Own.Aj x.pub y.pub) (K.take j).getLast? K[j])&&Own.Ar Own.Df (fun x y=>Own.Aj x.pub y.pub) (some K[j]) (K.drop (j+1))):=by rw[HR3.out,Own.RI _ _ K j hlt,hok,Bool.true_and]
    have htk:Own.Ar Own.Df (fun x y=>Own.Aj x.pub y.pub) none (K.take (j+1))=(Own.Df K[j]&&Own.ahead (fun x y=>Own.Aj x.pub y.pub) (K.take j).getLast? K[j]):=by rw[Own.Ni _ _ K j hlt,hok,Bool.true_and]
    have hlk:=HKW.out.below hb
    obtain⟨b,o,ha,hbl,e0,e1⟩:=Own.Du.cells hlk hlt
    have JL:∀ i,j=i+1->∃ x:Own.KeyUse,wr.cell? ⟨b,o+i*2,none⟩=some (.string x.pub)/\(K.take j).getLast? = some x:=by
     intro i hi
     obtain⟨b',o',ha',_,e0,_⟩:=Own.Du.cells hlk (i:=i) (by omega)
     rw[ha] at ha'
     cases ha'
     have hg:=Own.getLast_take K i (by omega)
     rw[<- hi] at hg
     exact⟨_,e0,hg⟩
    subst ha
    obtain⟨ku,hku⟩:∃ x,x=K[j]:=⟨_,rfl⟩
    rw[<- hku] at hra htk e0 e1
    obtain⟨rest,hrest⟩:∃ x,x=Own.Ar Own.Df (fun x y=>Own.Aj x.pub y.pub) (some ku) (K.drop (j+1)):=⟨_,rfl⟩
    rw[<- hrest] at hra
    obtain⟨pb,nx⟩:=ku
    have hkk:Own.Df ⟨pb,nx⟩=(Sig.Bn pb&&decide (0<=nx)&&decide (nx<=2^(pb.get! 32).toNat)):=rfl
    rw[hkk] at hra htk
    dsimp only at hra htk e0 e1
    have hb5:Below w5.heap.size w5 (wr.alloc (.cells #[.string pb,.int .i64 nx] 59)).drew:=(hb.alloc hb.size _).drew
    have ha5:=((HA2.out.below hb hzw).alloc (.cells #[.string pb,.int .i64 nx] 59)).drew
    have b2:=ha5.cell 2
    simp only[zg] at b2
    have RH:=zh JL;have HB5:=zh hb5
    clear hok hb hlk JL hb5 ha5 hrest hku hkk HKW
    cases hp:Sig.Bn pb with
    | false =>
      have e:R=false:=by rw[hra,hp];rfl
      have HE:=zh e;clear e hra htk
      go_wp2
      refine Lex.zl ?_
      go_wp2_with fail
      refine(Bz pb _).mono ?_
      rintro e2 w2 ⟨rfl,rfl⟩
      rw[hp]
      go_wp2
      refine Lex.ze ?_
      go_wp2
      go_ret
      exact⟨by rw[HE.out];rfl,HB2.out.trans (HB5.out.mono HB2.out.size)⟩
    | true=>
    rw[hp,Bool.true_and] at hra htk
    have h33:pb.size=33:=of_decide_eq_true (Bool.and_eq_true_iff.1 hp).1
    have h6:(pb.get! 32).toNat<=6:=of_decide_eq_true (Bool.and_eq_true_iff.1 hp).2
    have h32:32<pb.size:=by omega
    have hg:pb.get! 32=pb[32]:=getElem!_pos pb.data 32 h32
    rw[hg] at h6 hra htk
    obtain⟨N,hN⟩:∃ N:Nat,N=2^pb[32].toNat:=⟨_,rfl⟩
    have zah:N<=64:=by
     rw[hN]
     exact Nat.le_trans (Nat.pow_le_pow_right (by omega) h6) (by decide)
    have hNN:((2:Int)^pb[32].toNat)=(N:Int):=by rw[hN];exact(Int.natCast_pow 2 _).symm
    have hsh:wrap64 ((2:Int)^pb[32].toNat)=(N:Int):=by
     rw[hNN]
     unfold wrap64
     omega
    rw[hNN] at hra htk
    have H33:=zh h33;have HHP:=zh hp;have HSH:=zh hsh
    clear hN hNN hg h33 hp hsh
    have dsz:((pb.size:Int)==33)=true:=by rw[beq_iff_eq];have:=H33.out;omega
    by_cases n1:0<=nx
    case neg=>
     have dn1:decide (nx<0)=true:=zt
     have e:R=false:=by rw[hra,decide_eq_false n1];rfl
     have HE:=zh e;clear e hra htk
     go_wp2
     refine Lex.zl ?_
     go_wp2_with fail
     refine(Bz pb _).mono ?_
     rintro e2 w2 ⟨rfl,rfl⟩
     rw[HHP.out]
     go_wp2_with (rw[HSH.out])
     refine Lex.ze ?_
     go_wp2
     go_ret
     exact⟨by rw[HE.out];rfl,HB2.out.trans (HB5.out.mono HB2.out.size)⟩
    have dn1:decide (nx<0)=false:=zf
    rw[decide_eq_true n1,Bool.true_and] at hra htk
    by_cases n2:nx<=(N:Int)
    case neg=>
     have dn2:decide ((N:Int)<nx)=true:=zt
     have e:R=false:=by rw[hra,decide_eq_false n2];rfl
     have HE:=zh e;clear e hra htk n1 n2
     go_wp2
     refine Lex.zl ?_
     go_wp2_with fail
     refine(Bz pb _).mono ?_
     rintro e2 w2 ⟨rfl,rfl⟩
     rw[HHP.out]
     go_wp2_with (rw[HSH.out])
     refine Lex.ze ?_
     go_wp2
     go_ret
     exact⟨by rw[HE.out];rfl,HB2.out.trans (HB5.out.mono HB2.out.size)⟩
    have dn2:decide ((N:Int)<nx)=false:=zf
    rw[decide_eq_true n2,Bool.true_and] at hra htk
    rcases Nat.eq_zero_or_pos j with hj0|hjp
    ·have hl0:(K.take j).getLast? = none:=by rw[hj0];rfl
     rw[hl0] at htk
     have HT:=zh htk
     have HJ0:=zh hj0
     have dz:decide ((0:Int)<(j:Int))=false:=zf
     have dz' : decide (0<j)=false:=zf
     clear hl0 hra htk hj0
     go_wp2
     refine Lex.zl ?_
     go_wp2_with fail
     refine(Bz pb _).mono ?_
     rintro e2 w2 ⟨rfl,rfl⟩
     rw[HHP.out]
     go_wp2_with (rw[HSH.out])
     refine Lex.ze ?_
     go_wp2
     go_round
     case measure=>simp[intOf];omega
     case rel=>exact⟨j+1,by omega,by go_num,HT.out,HB5.out⟩
    ·obtain⟨i,hi⟩:∃ i,j=i+1:=⟨j-1,by omega⟩
     obtain⟨x,f0,hx⟩:=RH.out i hi
     rw[hx] at hra htk
     have Ol:R=(Own.Aj x.pub pb&&rest):=hra
     have Nh:Own.Ar Own.Df (fun x y=>Own.Aj x.pub y.pub) none (K.take (j+1))=Own.Aj x.pub pb:=htk
     unfold Own.Aj at Ol
     have dz:decide ((0:Int)<(j:Int))=true:=zt
     have dz' : decide (0<j)=true:=zt
     have ek:(j:Int)-1=(i:Int):=by omega
     have hjl:i<K.length:=by omega
     have f1:(wr.alloc (.cells #[.string pb,.int .i64 nx] 59)).cell? ⟨b,o+i*2,none⟩=some (.string x.pub):=(((Below.refl wr.heap.size wr).alloc (Nat.le_refl _) _).cell (p:=⟨b,o+i*2,none⟩) hbl).trans f0
     cases hlb:Op.bytesLess x.pub.toList pb.toList with
     | false =>
       have e:R=false:=by rw[Ol,hlb];rfl
       have HE:=zh e;clear e hra htk Ol Nh hx f0 hi
       go_wp2
       refine Lex.zl ?_
       go_wp2_with fail
       refine(Bz pb _).mono ?_
       rintro e2 w2 ⟨rfl,rfl⟩
       rw[HHP.out]
       go_wp2_with (rw[HSH.out])
       refine Lex.ze ?_
       go_wp2
       go_ret
       exact⟨by rw[HE.out];rfl,HB2.out.trans (HB5.out.mono HB2.out.size)⟩
     | true =>
       have xu:Own.Ar Own.Df (fun x y=>Own.Aj x.pub y.pub) none (K.take (j+1))=true:=by rw[Nh];exact hlb
       have HT:=zh xu
       clear hra htk Ol Nh xu hx f0 hi
       go_wp2
       refine Lex.zl ?_
       go_wp2_with fail
       refine(Bz pb _).mono ?_
       rintro e2 w2 ⟨rfl,rfl⟩
       rw[HHP.out]
       go_wp2_with (rw[HSH.out])
       refine Lex.ze ?_
       go_wp2
       go_round
       case measure=>simp[intOf];omega
       case rel=>exact⟨j+1,by omega,by go_num,HT.out,HB5.out⟩
  have dk:decide ((k:Int)<S.length)=true:=zt
  have hra:R=(((Own.AX S[k]&&Own.ahead (fun x y=>Own.Aj x.pre y.pre) (S.take k).getLast? S[k])&&Own.Ar Own.AX (fun x y=>Own.Aj x.pre y.pre) (some S[k]) (S.drop (k+1)))&&Own.Ar Own.Df (fun x y=>Own.Aj x.pub y.pub) none K):=by rw[HR2.out,Own.RI _ _ S k hlt,hok,Bool.true_and]
  have htk:Own.Ar Own.AX (fun x y=>Own.Aj x.pre y.pre) none (S.take (k+1))=(Own.AX S[k]&&Own.ahead (fun x y=>Own.Aj x.pre y.pre) (S.take k).getLast? S[k]):=by rw[Own.Ni _ _ S k hlt,hok,Bool.true_and]
  have hlk:=HS.out.below hb
  obtain⟨b,o,mv,ha,hbl,e0,e1,e2,hmv⟩:=Own.BF.cells hlk hlt
  have JL:∀ i,k=i+1->∃ x:Own.Space,wr.cell? ⟨b,o+i*3,none⟩=some (.string x.pre)/\(S.take k).getLast? = some x:=by
   intro i hi
   obtain⟨b',o',_,ha',_,e0,_⟩:=Own.BF.cells hlk (i:=i) (by omega)
   rw[ha] at ha'
   cases ha'
   have hg:=Own.getLast_take S i (by omega)
   rw[<- hi] at hg
   exact⟨_,e0,hg⟩
  subst ha
  have hml:=HLM.out S[k] (List.getElem_mem hlt)
  obtain⟨sp,hsp⟩:∃ x,x=S[k]:=⟨_,rfl⟩
  rw[<- hsp] at hra htk e0 e2 hmv hml
  obtain⟨rest,hrest⟩:∃ x,x=(Own.Ar Own.AX (fun x y=>Own.Aj x.pre y.pre) (some sp) (S.drop (k+1))&&Own.Ar Own.Df (fun x y=>Own.Aj x.pub y.pub) none K):=⟨_,rfl⟩
  rw[Bool.and_assoc,<- hrest] at hra
  obtain⟨ma,mc,rfl⟩:=hmv.len
  have hb5:Below w1.heap.size w1 (wr.alloc (.cells #[.string sp.pre,.slice ma sp.members.length mc,.int .i64 sp.threshold] 39)).drew:=(hb.alloc hb.size _).drew
  have RJ:Below wr.heap.size wr (wr.alloc (.cells #[.string sp.pre,.slice ma sp.members.length mc,.int .i64 sp.threshold] 39)).drew:=zb.drew
  have hn5:=(At.new wr 39 #[.string sp.pre,.slice ma sp.members.length mc,.int .i64 sp.threshold]).drew
  have hz5:(wr.alloc (.cells #[.string sp.pre,.slice ma sp.members.length mc,.int .i64 sp.threshold] 39)).drew.heap.size=wr.heap.size+1:=World.size_alloc _ _
  have iQ:=Wv (.slice ma sp.members.length mc) sp _ ((HM.out.below hb).below RJ) (hmv.below RJ) hml
  have oP:=zh iQ;have RH:=zh JL;have HB5:=zh hb5;have iR:=zh RJ;have HN5:=zh hn5;have HZ5:=zh hz5
  clear hok hb hlk JL hb5 RJ hn5 iQ hrest hsp hmv hz5
  cases hs:Own.AX sp with
  | false =>
    have e:R=false:=by rw[hra,hs];rfl
    have HE:=zh e;clear e hra htk
    go_wp2
    refine Lex.zl ?_
    go_wp2_with fail
    refine oP.out.mono ?_
    rintro e2 w7 ⟨rfl,hb7⟩
    rw[hs]
    have HB7:=zh (HB.out.trans ((HB5.out.trans (hb7.mono HB5.out.size)).mono HB.out.size));clear hb7
    go_wp2
    refine Lex.ze ?_
    go_wp2
    go_ret
    exact⟨by rw[HE.out];rfl,HB7.out⟩
  | true=>
  rw[hs,Bool.true_and] at hra htk
  have HHS:=zh hs;clear hs
  rcases Nat.eq_zero_or_pos k with hk0|hkp
  ·have hl0:(S.take k).getLast? = none:=by rw[hk0];rfl
   rw[hl0] at htk
   have x9 : Own.Ar Own.AX (fun x y=>Own.Aj x.pre y.pre) none (S.take (k+1))=true:=htk
   have HT:=zh x9
   have HK0:=zh hk0
   have dz:decide ((0:Int)<(k:Int))=false:=zf
   have dz' : decide (0<k)=false:=zf
   clear hl0 hra htk x9 hk0
   go_wp2
   refine Lex.zl ?_
   go_wp2_with fail
   refine oP.out.mono ?_
   rintro e3 w7 ⟨rfl,hb7⟩
   rw[HHS.out]
   have RN:=HB5.out.trans (hb7.mono HB5.out.size)
   have g1:=((HA.out.below RN hz1)).cell 1
   have g0:=(HN5.out.below hb7 HN5.out.lt).cell 0
   simp only[zg] at g0 g1
   try have f1:=((iR.out.trans (hb7.mono iR.out.size)).cell (p:=⟨b,o+i*3,none⟩) hbl).trans F0.out
   have HB7:=zh RN;clear hb7 RN
   go_wp2
   refine Lex.ze ?_
   go_wp2
   go_round
   case measure=>simp[intOf];omega
   case rel=>exact⟨k+1,by omega,by go_num,HT.out,HB7.out⟩
  ·obtain⟨i,hi⟩:∃ i,k=i+1:=⟨k-1,by omega⟩
   obtain⟨x,f0,hx⟩:=RH.out i hi
   rw[hx] at hra htk
   have Ol:R=(Own.Aj x.pre sp.pre&&rest):=hra
   have Nh:Own.Ar Own.AX (fun x y=>Own.Aj x.pre y.pre) none (S.take (k+1))=Own.Aj x.pre sp.pre:=htk
   have dz:decide ((0:Int)<(k:Int))=true:=zt
   have dz' : decide (0<k)=true:=zt
   have ek:(k:Int)-1=(i:Int):=by omega
   have hjl:i<S.length:=by omega
   have F0:=zh f0
   cases hlb:Own.Aj x.pre sp.pre with
   | false =>
     have e:R=false:=by rw[Ol,hlb];rfl
     have HE:=zh e
     have zay : Op.bytesLess x.pre.toList sp.pre.toList=false:=hlb
     clear e hra htk Ol Nh hx f0 hi hlb
     go_wp2
     refine Lex.zl ?_
     go_wp2_with fail
     refine oP.out.mono ?_
     rintro e3 w7 ⟨rfl,hb7⟩
     rw[HHS.out]
     have RN:=HB5.out.trans (hb7.mono HB5.out.size)
     have g1:=((HA.out.below RN hz1)).cell 1
     have g0:=(HN5.out.below hb7 HN5.out.lt).cell 0
     simp only[zg] at g0 g1
     try have f1:=((iR.out.trans (hb7.mono iR.out.size)).cell (p:=⟨b,o+i*3,none⟩) hbl).trans F0.out
     have HB7:=zh RN;clear hb7 RN
     go_wp2
     refine Lex.ze ?_
     go_wp2
     go_ret
     exact⟨by rw[HE.out];rfl,HB.out.trans (HB7.out.mono HB.out.size)⟩
   | true =>
     rw[hlb] at Nh
     have HT:=zh Nh
     have zay : Op.bytesLess x.pre.toList sp.pre.toList=true:=hlb
     clear hra htk Ol Nh hx f0 hi hlb
     go_wp2
     refine Lex.zl ?_
     go_wp2_with fail
     refine oP.out.mono ?_
     rintro e3 w7 ⟨rfl,hb7⟩
     rw[HHS.out]
     have RN:=HB5.out.trans (hb7.mono HB5.out.size)
     have g1:=((HA.out.below RN hz1)).cell 1
     have g0:=(HN5.out.below hb7 HN5.out.lt).cell 0
     simp only[zg] at g0 g1
     try have f1:=((iR.out.trans (hb7.mono iR.out.size)).cell (p:=⟨b,o+i*3,none⟩) hbl).trans F0.out
     have HB7:=zh RN;clear hb7 RN
     go_wp2
     refine Lex.ze ?_
     go_wp2
     go_round
     case measure=>simp[intOf];omega
     case rel=>exact⟨k+1,by omega,by go_num,HT.out,HB7.out⟩
namespace Own
def Cy (m:Member):List Value:=[.string m.name,.string m.pub]
def Dw (k:KeyUse):List Value:=[.string k.pub,.int .i64 k.next]
end Own
theorem Nj {α : Type}{enc : α -> List Value} : ∀ {css:List (List Value)} {l:List α},css.length=l.length->(∀ i (hi:i<l.length) (hi' : i<css.length),css[i]=enc l[i])->css.flatten=l.flatMap enc
 | [],[],_,_=>rfl
 | c :: css,x :: l,hl,h => by
   have h0:c=enc x:=h 0 (by simp) (by simp)
   rw[List.flatten_cons,List.flatMap_cons,h0,Nj (by simpa using hl) (fun i hi hi' => h (i+1) (by simp;omega) (by simp;omega))]
 | [],_::_,hl,_=>by simp at hl
 | _::_,[],hl,_=>by simp at hl
section
variable {w w' : World} {v:Value} {F:Nat->Prop}
theorem UW {α : Type}{size:Nat}{R:Elem α}{enc : α -> List Value}(hR:∀ cs x,R F w cs x->cs=enc x){l:List α}(h:Aq size R F w v l):Bc w v size l.length (l.flatMap enc):=by
 obtain⟨css,h1,h2,h3⟩:=h.cells
 have:css.flatten=l.flatMap enc:=Nj h1 (fun i hi hi' => hR _ _ (h2 i hi hi').2)
 rw[<- this]
 exact h3
theorem Cq {α : Type}{size n:Nat}{R:Elem α}{enc : α -> List Value}(hR:∀ x,R F w (enc x) x)(hs:∀ x,(enc x).length=size){l:List α}(h:Bc w v size n (l.flatMap enc))(hn:n=l.length)(hF:∀ k,v.ownBlock=some k->F k):Aq size R F w v l:=by
 refine Aq.Qk (css:=l.map enc) (by rw[<- List.flatMap_def];exact h) hn (by simp) hF (fun i hi hi' => ?_)
 rw[List.getElem_map]
 exact⟨hs _,hR _⟩
end
namespace Own
theorem Af.rows {w:World}{v:Value}{l:List Member}(h:Af w v l):Bc w v 2 l.length (l.flatMap Cy):=UW (fun _ _ h=>h) h
theorem Du.rows {w:World}{v:Value}{l:List KeyUse}(h:Du w v l):Bc w v 2 l.length (l.flatMap Dw):=UW (fun _ _ h=>h) h
theorem Af.of {w:World}{v:Value}{n:Nat}{l:List Member}(h:Bc w v 2 n (l.flatMap Cy))(hn:n=l.length):Af w v l:=Cq (enc:=Cy) (fun _=>rfl) (fun _=>rfl) h hn (fun _ _=>trivial)
theorem Du.of {w:World}{v:Value}{n:Nat}{l:List KeyUse}(h:Bc w v 2 n (l.flatMap Dw))(hn:n=l.length):Du w v l:=Cq (enc:=Dw) (fun _=>rfl) (fun _=>rfl) h hn (fun _ _=>trivial)
theorem xA (l:List Member):∀ u∈l.flatMap Cy,u.oneCell' = true:=by
 intro u hu
 obtain⟨x,_,hx⟩:=List.mem_flatMap.1 hu
 unfold Cy at hx
 simp at hx
 rcases hx with rfl|rfl<;>rfl
theorem qV (l:List KeyUse):∀ u∈l.flatMap Dw,u.oneCell' = true:=by
 intro u hu
 obtain⟨x,_,hx⟩:=List.mem_flatMap.1 hu
 unfold Dw at hx
 simp at hx
 rcases hx with rfl|rfl<;>rfl
end Own
theorem JO:Nonempty (Fu Tryz.prog 26 76 2 32):=Ec (z:=.agg #[.string ⟨#[]⟩,.string ⟨#[]⟩]) Tryz.underlying26 (by kernel_rfl) rfl (by omega)
theorem JQ:Nonempty (Fu Tryz.prog 23 59 2 24):=Ec (z:=.agg #[.string ⟨#[]⟩,.int .i64 0]) Tryz.underlying23 (by kernel_rfl) rfl (by omega)
theorem DW:Nonempty (Fu Tryz.prog 22 39 3 48):=Ec (z:=.agg #[.string ⟨#[]⟩,.slice none 0 0,.int .i64 0]) Tryz.underlying22 (by kernel_rfl) rfl (by omega)
theorem TL (v:Value)(n:Nat)(xs:List Value)(w:World)(h:Bc w v 2 n xs)(h1:∀ u∈xs,u.oneCell' = true)(hn:n<=3000000):
 Calls Tryz.prog 124 #[v] w fun e w' => ∃ v',e=.returned v' /\ w'.ownsRow w.heap.size 76 2 v' n xs/\Below w.heap.size w w':=by
 obtain⟨a,c,rfl⟩:=h.len
 have H:=zh h;have H1:=zh h1;clear h h1
 have q22:∀ (w:World) (a:Option Addr) (n c n' c' : Nat),(binOp .eql 26 (.slice a n c) (.slice none n' c')).run Tryz.prog w=.ok (.bool a.isNone) w:=fun w a n c n' c' => Lib.run_eql_slice_nil w _ _ a n c n' c' Tryz.underlying26
 go_enter Tryz.func124,Tryz.ntmps124
 cases a with
 | none =>
   have h0:n=0/\xs=[]:=by
    obtain⟨hl,a',c',he,h0|⟨b,o,hb,_⟩⟩:=H.out
    ·subst h0
     exact⟨rfl,List.eq_nil_of_length_eq_zero (by simpa using hl)⟩
    ·cases he;cases hb
   obtain⟨rfl,rfl⟩:=h0
   go_wp2
   go_ret
   exact⟨_,rfl,⟨rfl,.inl ⟨rfl,rfl⟩⟩,Below.refl _ _⟩
 | some p =>
   have hb1:Below w.heap.size w (w.alloc (.cells #[] 76)):=zb
   have HO:=zh (Mr w 76 2 w.heap.size (Nat.le_refl _));have H2:=zh (H.out.below hb1);have HB1:=zh hb1
   clear hb1
   go_wp2_with (at_builtin;go_must (refine Ah JO rfl _ _ rfl w.heap.size 0 _ [] rfl HO.out (.slice (some p) n c) n xs rfl H2.out H1.out (by omega) (by omega) HB1.out.size ?_);intro v5 w5 ho5 hg5 _;obtain⟨va,vm,vc,rfl⟩:=Ac ho5;have HB5:=zh (Bh HB1.out HB1.out.size HO.out hg5);rw[Nat.zero_add,List.nil_append] at ho5;have HO5:=zh ho5;clear ho5 hg5)
   go_ret
   exact⟨_,rfl,HO5.out,HB5.out⟩
theorem aT (v:Value)(n:Nat)(xs:List Value)(w:World)(h:Bc w v 2 n xs)(h1:∀ u∈xs,u.oneCell' = true)(hn:n<=3000000):
 Calls Tryz.prog 106 #[v] w fun e w' => ∃ v',e=.returned v' /\ w'.ownsRow w.heap.size 59 2 v' n xs/\Below w.heap.size w w':=by
 obtain⟨a,c,rfl⟩:=h.len
 have H:=zh h;have H1:=zh h1;clear h h1
 have q22:∀ (w:World) (a:Option Addr) (n c n' c' : Nat),(binOp .eql 23 (.slice a n c) (.slice none n' c')).run Tryz.prog w=.ok (.bool a.isNone) w:=fun w a n c n' c' => Lib.run_eql_slice_nil w _ _ a n c n' c' Tryz.underlying23
 go_enter Tryz.func106,Tryz.ntmps106
 cases a with
 | none =>
   have h0:n=0/\xs=[]:=by
    obtain⟨hl,a',c',he,h0|⟨b,o,hb,_⟩⟩:=H.out
    ·subst h0
     exact⟨rfl,List.eq_nil_of_length_eq_zero (by simpa using hl)⟩
    ·cases he;cases hb
   obtain⟨rfl,rfl⟩:=h0
   go_wp2
   go_ret
   exact⟨_,rfl,⟨rfl,.inl ⟨rfl,rfl⟩⟩,Below.refl _ _⟩
 | some p =>
   have hb1:Below w.heap.size w (w.alloc (.cells #[] 59)):=zb
   have HO:=zh (Mr w 59 2 w.heap.size (Nat.le_refl _));have H2:=zh (H.out.below hb1);have HB1:=zh hb1
   clear hb1
   go_wp2_with (at_builtin;go_must (refine Ah JQ rfl _ _ rfl w.heap.size 0 _ [] rfl HO.out (.slice (some p) n c) n xs rfl H2.out H1.out (by omega) (by omega) HB1.out.size ?_);intro v5 w5 ho5 hg5 _;obtain⟨va,vm,vc,rfl⟩:=Ac ho5;have HB5:=zh (Bh HB1.out HB1.out.size HO.out hg5);rw[Nat.zero_add,List.nil_append] at ho5;have HO5:=zh ho5;clear ho5 hg5)
   go_ret
   exact⟨_,rfl,HO5.out,HB5.out⟩
theorem Ww (v:Value)(n:Nat)(xs:List Value)(w:World)(h:Bc w v 3 n xs)(h1:∀ u∈xs,u.oneCell' = true)(hn:n<=3000000):
 Calls Tryz.prog 105 #[v] w fun e w' => ∃ v',e=.returned v' /\ w'.ownsRow w.heap.size 39 3 v' n xs/\Below w.heap.size w w':=by
 obtain⟨a,c,rfl⟩:=h.len
 have H:=zh h;have H1:=zh h1;clear h h1
 have q22:∀ (w:World) (a:Option Addr) (n c n' c' : Nat),(binOp .eql 22 (.slice a n c) (.slice none n' c')).run Tryz.prog w=.ok (.bool a.isNone) w:=fun w a n c n' c' => Lib.run_eql_slice_nil w _ _ a n c n' c' Tryz.underlying22
 go_enter Tryz.func105,Tryz.ntmps105
 cases a with
 | none =>
   have h0:n=0/\xs=[]:=by
    obtain⟨hl,a',c',he,h0|⟨b,o,hb,_⟩⟩:=H.out
    ·subst h0
     exact⟨rfl,List.eq_nil_of_length_eq_zero (by simpa using hl)⟩
    ·cases he;cases hb
   obtain⟨rfl,rfl⟩:=h0
   go_wp2
   go_ret
   exact⟨_,rfl,⟨rfl,.inl ⟨rfl,rfl⟩⟩,Below.refl _ _⟩
 | some p =>
   have hb1:Below w.heap.size w (w.alloc (.cells #[] 39)):=zb
   have HO:=zh (Mr w 39 3 w.heap.size (Nat.le_refl _));have H2:=zh (H.out.below hb1);have HB1:=zh hb1
   clear hb1
   go_wp2_with (at_builtin;go_must (refine Ah DW rfl _ _ rfl w.heap.size 0 _ [] rfl HO.out (.slice (some p) n c) n xs rfl H2.out H1.out (by omega) (by omega) HB1.out.size ?_);intro v5 w5 ho5 hg5 _;obtain⟨va,vm,vc,rfl⟩:=Ac ho5;have HB5:=zh (Bh HB1.out HB1.out.size HO.out hg5);rw[Nat.zero_add,List.nil_append] at ho5;have HO5:=zh ho5;clear ho5 hg5)
   go_ret
   exact⟨_,rfl,HO5.out,HB5.out⟩
end
section
open Go Go.RowKit Go.Maps
namespace Own
def longer (b:Option Space)(x:Space):Bool:=match b with
 | none=>true
 | some y=>decide (y.pre.size<x.pre.size)
def RU (s:ByteArray)(b:Option Space)(x:Space):Option Space:=if belongs s x.pre&&longer b x then some x else b
theorem LQ (s:ByteArray)(b:Option Space)(x:Space)(l:List Space):CB s b (x::l)=CB s (RU s b x) l:=by
 cases b<;>rfl
theorem RX (s:ByteArray)(x:Space):∀ (l:List Space) (b:Option Space),CB s b (l++[x])=RU s (CB s b l) x
 | [],b=>by rw[List.nil_append,LQ];rfl
 | y::l,b=>by rw[List.cons_append,LQ,RX s x l,LQ]
theorem aU (s:ByteArray)(l:List Space)(k:Nat)(hk:k<l.length):CB s none (l.take (k+1))=RU s (CB s none (l.take k)) l[k]:=by
 rw[List.take_succ_eq_append_getElem hk,RX]
def lS (l:List Space)(b:Option Space)(i:Int):Prop:=(i = -1/\b=none)\/∃ j:Nat,i=(j:Int)/\∃ h:j<l.length,b=some l[j]
end Own
theorem FH (o:Own.Ao)(s:ByteArray)(sv kv:Value)(w:World)(hS:Own.BF w sv o.spaces)(hls:o.spaces.length<=64)(hp:∀ x∈o.spaces,x.pre.size<=64):
 Calls Tryz.prog 69 #[.agg #[.int .i64 o.count,sv,kv],.string s] w fun e w' => (∃ i,e=.returned (.int .i64 i)/\Own.lS o.spaces (Own.CB s none o.spaces) i)/\Below w.heap.size w w':=by
 obtain⟨sa,sc,rfl⟩:=hS.len
 obtain⟨cnt,S,K⟩:=o
 dsimp only at*
 have ha:=At.new w 25 #[.int .i64 cnt,.slice sa S.length sc,kv]
 have hb1:Below w.heap.size w (w.alloc (.cells #[.int .i64 cnt,.slice sa S.length sc,kv] 25)):=zb
 have HS:=zh (hS.below hb1);have HB:=zh hb1;have HA:=zh ha;have HP:=zh hp
 have c0:=ha.cell 0;have c1:=ha.cell 1;have c2:=ha.cell 2
 simp only[zg] at c0 c1 c2
 obtain⟨B,hB⟩:∃ B:List Own.Space->Option Own.Space,B=Own.CB s none:=⟨_,rfl⟩
 have hB0:B []=none:=by rw[hB];rfl
 have hBs:∀ k (hk:k<S.length),B (S.take (k+1))=Own.RU s (B (S.take k)) S[k]:=fun k hk=>by rw[hB];exact Own.aU s S k hk
 rw[<- hB]
 have HBS:=zh hBs
 clear hS ha hb1 hp hB hBs
 go_enter Tryz.func69,Tryz.ntmps69
 go_wp2_with fail
 generalize w.alloc (.cells #[.int .i64 cnt,.slice sa S.length sc,kv] 25)=w1 at*
 go_loopw [5,11] (fun r i wr=>∃ k:Nat,k<=S.length/\i=.int .i64 k/\(∃ b,r=.int .i64 b/\Own.lS S (B (S.take k)) b)/\Below w1.heap.size w1 wr) (fun _ i _=>S.length-(intOf i).toNat)
 case atStart=>exact⟨0,by omega,rfl,⟨-1,rfl,.inl ⟨rfl,hB0⟩⟩,Below.refl _ _⟩
 case round=>
  obtain⟨k,hk,rfl,⟨bi,rfl,hbi⟩,hb⟩:=hrel
  have HBW:=zh hb
  have hz1:=HA.out.lt
  have hbs:=hb.size
  have ha2:=HA.out.below hb hz1
  have d1:=ha2.cell 1
  simp only[zg] at d1
  clear ha2
  by_cases hlt:k<S.length
  case neg=>
   have hke:k=S.length:=by omega
   have dk:decide ((k:Int)<S.length)=false:=zf
   rw[hke,List.take_length] at hbi
   have HBI:=zh hbi
   clear hbi hb hke
   go_wp2
   go_ret
   exact⟨⟨_,rfl,HBI.out⟩,HB.out.trans (HBW.out.mono HB.out.size)⟩
  have dk:decide ((k:Int)<S.length)=true:=zt
  have hlk:=HS.out.below hb
  obtain⟨b,o,mv,ha,hbl,e0,e1,e2,hmv⟩:=Own.BF.cells hlk hlt
  have hpk:=HP.out S[k] (List.getElem_mem hlt)
  have hst:=HBS.out k hlt
  have JL:∀ j (hj:j<S.length),wr.cell? ⟨b,o+j*3,none⟩=some (.string S[j].pre):=by
   intro j hj
   obtain⟨b',o',_,ha',_,e0,_⟩:=Own.BF.cells hlk hj
   rw[ha] at ha'
   cases ha'
   exact e0
  subst ha
  obtain⟨ma,mc,rfl⟩:=hmv.len
  obtain⟨pre,hpre⟩:∃ x,x=S[k].pre:=⟨_,rfl⟩
  obtain⟨mm,hmm⟩:∃ x,x=S[k].members:=⟨_,rfl⟩
  obtain⟨th,hth⟩:∃ x,x=S[k].threshold:=⟨_,rfl⟩
  rw[<- hpre] at e0 hpk
  rw[<- hmm] at e1
  rw[<- hth] at e2
  have hb5:Below w1.heap.size w1 (wr.alloc (.cells #[.string pre,.slice ma mm.length mc,.int .i64 th] 39)).drew:=(hb.alloc hb.size _).drew
  have RJ:Below wr.heap.size wr (wr.alloc (.cells #[.string pre,.slice ma mm.length mc,.int .i64 th] 39)):=zb
  have f1:=(HA.out.below (hb5) hz1).cell 1
  simp only[zg] at f1
  have TM:=zh hpre;have HST:=zh hst;have HBI:=zh hbi;have HB5:=zh hb5;have RH:=zh JL
  have hbel:=fun W=>TK s pre W (by omega)
  have oQ:=zh hbel
  clear hb hlk JL hmv hb5 hbel hpre hmm hth hst hbi
  cases hbg:Own.belongs s pre with
  | false =>
    have hn:B (S.take (k+1))=B (S.take k):=by rw[HST.out];unfold Own.RU;rw[<- TM.out,hbg];rfl
    have HN:=zh hn
    clear hn
    go_wp2
    refine Lex.zl ?_
    go_wp2_with fail
    refine(oQ.out _).mono ?_
    rintro e3 w7 ⟨rfl,rfl⟩
    rw[hbg]
    go_wp2
    refine Lex.ze ?_
    go_wp2
    go_round
    case measure=>simp[intOf];omega
    case rel=>exact⟨k+1,by omega,by go_num,⟨bi,rfl,by rw[HN.out];exact HBI.out⟩,HB5.out⟩
  | true=>
  rcases HBI.out with ⟨h1,h2⟩|⟨j,h1,hj,h2⟩
  ·have hn:B (S.take (k+1))=some S[k]:=by rw[HST.out,h2];unfold Own.RU;rw[<- TM.out,hbg];rfl
   have HN:=zh hn
   subst h1
   clear hn h2
   go_wp2
   refine Lex.zl ?_
   go_wp2_with fail
   refine(oQ.out _).mono ?_
   rintro e3 w7 ⟨rfl,rfl⟩
   rw[hbg]
   go_wp2
   refine Lex.ze ?_
   go_wp2
   go_round
   case measure=>simp[intOf];omega
   case rel=>exact⟨k+1,by omega,by go_num,⟨k,rfl,.inr ⟨k,rfl,hlt,HN.out⟩⟩,HB5.out⟩
  ·have g0:=RH.out j hj
   obtain⟨pn,hpn⟩:∃ x,x=S[j].pre:=⟨_,rfl⟩
   rw[<- hpn] at g0
   have g1:(wr.alloc (.cells #[.string pre,.slice ma mm.length mc,.int .i64 th] 39)).cell? ⟨b,o+j*3,none⟩=some (.string pn):=(RJ.cell (p:=⟨b,o+j*3,none⟩) hbl).trans g0
   have hn:B (S.take (k+1))=if decide (pn.size<pre.size) then some S[k] else some S[j]:=by
    rw[HST.out,h2,hpn,TM.out];unfold Own.RU;rw[<- TM.out,hbg,TM.out];rfl
   have HN:=zh hn
   subst h1
   have dj:decide ((j:Int)<0)=false:=zf
   clear hn h2 g0 hpn
   by_cases hlg:pn.size<pre.size
   ·have dl:decide ((pn.size:Int)<(pre.size:Int))=true:=zt
    have dl' : decide (pn.size<pre.size)=true:=decide_eq_true hlg
    go_wp2
    refine Lex.zl ?_
    go_wp2_with fail
    refine(oQ.out _).mono ?_
    rintro e3 w7 ⟨rfl,rfl⟩
    rw[hbg]
    go_wp2
    refine Lex.ze ?_
    go_wp2
    go_round
    case measure=>simp[intOf];omega
    case rel=>exact⟨k+1,by omega,by go_num,⟨k,rfl,.inr ⟨k,rfl,hlt,by rw[HN.out,dl'];rfl⟩⟩,HB5.out⟩
   ·have dl:decide ((pn.size:Int)<(pre.size:Int))=false:=zf
    have dl' : decide (pn.size<pre.size)=false:=decide_eq_false hlg
    go_wp2
    refine Lex.zl ?_
    go_wp2_with fail
    refine(oQ.out _).mono ?_
    rintro e3 w7 ⟨rfl,rfl⟩
    rw[hbg]
    go_wp2
    refine Lex.ze ?_
    go_wp2
    go_round
    case measure=>simp[intOf];omega
    case rel=>exact⟨k+1,by omega,by go_num,⟨j,rfl,.inr ⟨j,rfl,hj,by rw[HN.out,dl'];rfl⟩⟩,HB5.out⟩
theorem EK:(Tryz.prog.info? 39).map (·.size)=some 3:=by kernel_rfl
theorem Bt:(Tryz.prog.info? 25).map (·.size)=some 3:=by kernel_rfl
theorem Pt:(Tryz.prog.info? 76).map (·.size)=some 2:=by kernel_rfl
theorem Em (pre:ByteArray)(th:Int)(v:Value)(l:List Own.Member)(w:World)(h:Own.Af w v l)(hl:l.length<=3000000):
 Calls Tryz.prog 70 #[.agg #[.string pre,v,.int .i64 th]] w fun e w' => ∃ v',e=.returned (.agg #[.string pre,v',.int .i64 th])/\w'.ownsRow w.heap.size 76 2 v' l.length (l.flatMap Own.Cy)/\Below w.heap.size w w':=by
 have ha1:=(At.new w 39 #[.string pre,v,.int .i64 th]).alloc (.cells #[.string ⟨#[]⟩,.slice none 0 0,.int .i64 0] 39)
 have ha2:=At.new1 w (.cells #[.string pre,v,.int .i64 th] 39) 39 #[.string ⟨#[]⟩,.slice none 0 0,.int .i64 0]
 have hb1:Below w.heap.size w ((w.alloc (.cells #[.string pre,v,.int .i64 th] 39)).alloc (.cells #[.string ⟨#[]⟩,.slice none 0 0,.int .i64 0] 39)):=zb.alloc (by simp) _
 obtain⟨a,c,rfl⟩:=h.len
 have H:=zh (h.below hb1);have HA1:=zh ha1;have HA2:=zh ha2;have HB1:=zh hb1
 have c1:=ha1.cell 1
 simp only[zg] at c1
 clear h ha1 ha2 hb1
 go_enter Tryz.func70,Tryz.ntmps70
 go_wp2_with fail
 have hz:((w.alloc (.cells #[.string pre,.slice a l.length c,.int .i64 th] 39)).alloc (.cells #[.string ⟨#[]⟩,.slice none 0 0,.int .i64 0] 39)).heap.size=w.heap.size+2:=by simp
 generalize (w.alloc (.cells #[.string pre,.slice a l.length c,.int .i64 th] 39)).alloc (.cells #[.string ⟨#[]⟩,.slice none 0 0,.int .i64 0] 39)=w1 at*
 refine(TL _ l.length _ w1 (Own.Af.rows H.out) (Own.xA l) hl).mono ?_
 rintro e w2 ⟨v',rfl,ho,hb⟩
 have ha1:=HA1.out.below hb (by omega)
 have ha2:=HA2.out.below hb (by omega)
 have hne1:=ha1.own_ne ho (by decide)
 have hne2:=ha2.own_ne ho (by decide)
 have hb2:=HB1.out.trans (hb.mono HB1.out.size)
 have z1:=ha1.free 1;have y0:=ha1.cell 0;have y1:=ha1.cell 1;have y2:=ha1.cell 2
 have x0:=ha2.cell 0;have x1:=ha2.cell 1;have x2:=ha2.cell 2;have x3:=ha2.free 0;have x4:=ha2.free 1;have x5:=ha2.free 2
 simp only[zg] at y0 y1 y2 x0 x1 x2
 obtain⟨va,vm,vc,rfl⟩:=Ac ho
 have HO:=zh ho;have G1:=zh ha1;have G2:=zh ha2;have HB2:=zh hb2
 clear ho hb ha1 ha2 hb2 c1
 go_wp2
 have F2:=(((G2.out.far (p:=⟨w.heap.size,1,none⟩) (by simp) (.slice va vm vc)).set 0 (.string pre)).set 1 (.slice va vm vc)).set 2 (.int .i64 th)
 refine Ob rfl rfl (AJ F2 Tryz.underlying39 rfl EK) ⟨_,rfl,?_,?_⟩
 ·refine Cw (Ae HO.out (fun k hk=>?_)) (by omega)
  have k1:k≠w.heap.size:=by rintro rfl;exact hne1 hk
  have k2:k≠w.heap.size+1:=by rintro rfl;exact hne2 hk
  rw[zo k2,zo k2,zo k2,zo k1]
 ·exact(((HB2.out.setCell (p:=⟨w.heap.size,1,none⟩) (Nat.le_refl _) _).setCell (p:=⟨w.heap.size+1,0,none⟩) (by simp) _).setCell (p:=⟨w.heap.size+1,1,none⟩) (by simp) _).setCell (p:=⟨w.heap.size+1,2,none⟩) (by simp) _
namespace Own
theorem JR {α : Type}{ok : α -> Bool}{lt : α -> α -> Bool} : ∀ {l:List α} {p:Option α},Ar ok lt p l=true->∀ x∈l,ok x=true
 | [],_,_,x,hx=>by cases hx
 | y :: l,p,h,x,hx => by
   have h' : ((ok y&&(match p with|none=>true|some z=>lt z y))&&Ar ok lt (some y) l)=true:=by cases p<;>exact h
   obtain⟨h1,h2⟩:=Bool.and_eq_true_iff.1 h'
   rcases List.mem_cons.1 hx with rfl|hx
   ·exact(Bool.and_eq_true_iff.1 h1).1
   ·exact JR h2 x hx
structure OK (o:Ao):Prop where
 c0:0<=o.count
 c1:o.count<=1099511627776
 ls:o.spaces.length<=64
 sp:∀ s∈o.spaces,AX s=true
 ks:∀ k∈o.keys,Df k=true
theorem OK.of {o:Ao}(h:Bv o=true):OK o:=by
 unfold Bv late at h
 simp only[Bool.and_eq_true,decide_eq_true_eq] at h
 obtain⟨⟨⟨⟨h1,h2⟩,h3⟩,h4⟩,h5⟩:=h
 exact⟨h1,h2,h3,JR h4,JR h5⟩
structure oU (s:Space):Prop where
 path:BI s.pre=true
 pre:s.pre.size<=64
 zbn:1<=s.members.length
 len:s.members.length<=8
 mem:Am [] s.members=true
 t0:1<=s.threshold
 t1:s.threshold<=s.members.length
theorem oU.of {s:Space}(h:AX s=true):oU s:=by
 unfold AX Co at h
 simp only[Bool.and_eq_true,decide_eq_true_eq] at h
 obtain⟨⟨⟨h1,⟨h2,h3⟩,h4⟩,h5⟩,h6⟩:=h
 refine⟨h1,?_,h2,h3,h4,h5,h6⟩
 unfold BI at h1
 simp only[Bool.and_eq_true,decide_eq_true_eq] at h1
 exact h1.1.2
end Own
def YA (w:World)(r:Option Own.Space)(e:Ending)(w' : World):Prop:=
 (match r with
   | none=>e=.returned (.tuple #[.agg #[.string ⟨#[]⟩,.slice none 0 0,.int .i64 0],.bool false])
   | some sp=>∃ v',e=.returned (.tuple #[.agg #[.string sp.pre,v',.int .i64 sp.threshold],.bool true])/\w'.ownsRow w.heap.size 76 2 v' sp.members.length (sp.members.flatMap Own.Cy))/\Below w.heap.size w w'
theorem Om (o:Own.Ao)(s:ByteArray)(sv kv:Value)(w:World)(hM:Il w)(hS:Own.BF w sv o.spaces)(hK:Own.Du w kv o.keys)(hls:o.spaces.length<=140737488355328)(hlk:o.keys.length<=140737488355328)(hlm:∀ s∈o.spaces,s.members.length<=140737488355328):
 Calls Tryz.prog 18 #[.agg #[.int .i64 o.count,sv,kv],.string s] w (YA w (Own.authority o s)):=by
 obtain⟨R,hR⟩:∃ R,R=YA w (Own.authority o s):=⟨_,rfl⟩
 rw[<- hR]
 have HR:=zh hR;clear hR
 obtain⟨sa,sc,rfl⟩:=hS.len
 obtain⟨ka,kc,rfl⟩:=hK.len
 have ha1:=(At.new w 25 #[.int .i64 o.count,.slice sa o.spaces.length sc,.slice ka o.keys.length kc]).alloc (.cells #[.string ⟨#[]⟩,.slice none 0 0,.int .i64 0] 39)
 have ha2:=At.new1 w (.cells #[.int .i64 o.count,.slice sa o.spaces.length sc,.slice ka o.keys.length kc] 25) 39 #[.string ⟨#[]⟩,.slice none 0 0,.int .i64 0]
 have hb1:Below w.heap.size w ((w.alloc (.cells #[.int .i64 o.count,.slice sa o.spaces.length sc,.slice ka o.keys.length kc] 25)).alloc (.cells #[.string ⟨#[]⟩,.slice none 0 0,.int .i64 0] 39)):=zb.alloc (by simp) _
 have hs1:=hS.below hb1;have hk1:=hK.below hb1;have hm1:=hM.below hb1
 have hz1:((w.alloc (.cells #[.int .i64 o.count,.slice sa o.spaces.length sc,.slice ka o.keys.length kc] 25)).alloc (.cells #[.string ⟨#[]⟩,.slice none 0 0,.int .i64 0] 39)).heap.size=w.heap.size+2:=by simp
 obtain⟨c0,c1,c2⟩:=ha1.c3
 have HS:=zh hs1;have HK:=zh hk1;have HM:=zh hm1;have HA1:=zh ha1;have HA2:=zh ha2;have HB1:=zh hb1;have HLM:=zh hlm
 clear hS hK hM hs1 hk1 hm1 ha1 ha2 hb1 hlm
 go_enter Tryz.func18,Tryz.ntmps18
 go_wp2_with fail
 generalize (w.alloc (.cells #[.int .i64 o.count,.slice sa o.spaces.length sc,.slice ka o.keys.length kc] 25)).alloc (.cells #[.string ⟨#[]⟩,.slice none 0 0,.int .i64 0] 39)=w1 at*
 refine(JN o _ _ w1 HM.out HS.out HK.out hls hlk HLM.out).mono ?_
 rintro e w2 ⟨rfl,hb2⟩
 have HM2:=zh (HM.out.below hb2);have HS2:=zh (HS.out.below hb2);have HK2:=zh (HK.out.below hb2);have A1:=zh (HA1.out.below hb2 (by omega));have A2:=zh (HA2.out.below hb2 (by omega));have B2:=zh (HB1.out.trans (hb2.mono HB1.out.size))
 have hz2:=hb2.size
 clear hb2 HM HS HK HA1 HA2 HB1 c0 c1 c2
 cases hv:Own.Bv o with
 | false =>
   have e:Own.authority o s=none:=by unfold Own.authority;rw[hv];rfl
   have T2:=A2;have TB:=B2
   have x0:=A2.out.cell 0;have x1:=A2.out.cell 1;have x2:=A2.out.cell 2;have x3:=A2.out.free 0;have x4:=A2.out.free 1;have x5:=A2.out.free 2
   simp only[zg] at x0 x1 x2
   have HE:=zh e
   clear e
   go_wp2
   have F2:=((T2.out.set 0 (.string ⟨#[]⟩)).set 1 (.slice none 0 0)).set 2 (.int .i64 0)
   rw[HR.out,HE.out]
   refine BJ rfl rfl rfl (AJ F2 Tryz.underlying39 rfl EK) ⟨rfl,((TB.out.setCell (p:=⟨w.heap.size+1,0,none⟩) (by simp) _).setCell (p:=⟨w.heap.size+1,1,none⟩) (by simp) _).setCell (p:=⟨w.heap.size+1,2,none⟩) (by simp) _⟩
 | true=>
 have hok:=Own.OK.of hv
 go_wp2_with fail
 refine(LJ s w2 HM2.out).mono ?_
 rintro e w3 ⟨rfl,hb3⟩
 have HS3:=zh (HS2.out.below hb3);have A13:=zh (A1.out.below hb3 (by omega));have A23:=zh (A2.out.below hb3 (by omega));have B3:=zh (B2.out.trans (hb3.mono B2.out.size))
 have hz3:=hb3.size
 clear hb3 HM2 HS2 HK2 A1 A2 B2
 cases hp:Own.BI s with
 | false =>
   have e:Own.authority o s=none:=by unfold Own.authority;rw[hv,hp];rfl
   have T2:=A23;have TB:=B3
   have x0:=A23.out.cell 0;have x1:=A23.out.cell 1;have x2:=A23.out.cell 2;have x3:=A23.out.free 0;have x4:=A23.out.free 1;have x5:=A23.out.free 2
   simp only[zg] at x0 x1 x2
   have HE:=zh e
   clear e
   go_wp2
   have F2:=((T2.out.set 0 (.string ⟨#[]⟩)).set 1 (.slice none 0 0)).set 2 (.int .i64 0)
   rw[HR.out,HE.out]
   refine BJ rfl rfl rfl (AJ F2 Tryz.underlying39 rfl EK) ⟨rfl,((TB.out.setCell (p:=⟨w.heap.size+1,0,none⟩) (by simp) _).setCell (p:=⟨w.heap.size+1,1,none⟩) (by simp) _).setCell (p:=⟨w.heap.size+1,2,none⟩) (by simp) _⟩
 | true=>
 have hau:Own.authority o s=Own.CB s none o.spaces:=by unfold Own.authority;rw[hv,hp];rfl
 have hpre:∀ x∈o.spaces,x.pre.size<=64:=fun x hx=>(Own.oU.of (hok.sp x hx)).pre
 obtain⟨y0,y1,y2⟩:=A13.out.c3
 have HAU:=zh hau;have HOK:=zh hok;have TM:=zh hpre
 clear hau hok hpre hv hp
 go_wp2_with fail
 refine(FH o s _ _ w3 HS3.out HOK.out.ls TM.out).mono ?_
 rintro e w4 ⟨⟨i,rfl,hbi⟩,hb4⟩
 have HS4:=zh (HS3.out.below hb4);have A14:=zh (A13.out.below hb4 (by omega));have A24:=zh (A23.out.below hb4 (by omega));have B4:=zh (B3.out.trans (hb4.mono B3.out.size))
 have hz4:=hb4.size
 clear hb4 HS3 A13 A23 B3 y0 y1 y2
 rcases hbi with ⟨rfl,hnone⟩|⟨j,rfl,hj,hsome⟩
 ·have e:Own.authority o s=none:=by rw[HAU.out,hnone]
  have T2:=A24;have TB:=B4
  have x0:=A24.out.cell 0;have x1:=A24.out.cell 1;have x2:=A24.out.cell 2;have x3:=A24.out.free 0;have x4:=A24.out.free 1;have x5:=A24.out.free 2
  simp only[zg] at x0 x1 x2
  clear hnone
  have HE:=zh e
  clear e
  go_wp2
  have F2:=((T2.out.set 0 (.string ⟨#[]⟩)).set 1 (.slice none 0 0)).set 2 (.int .i64 0)
  rw[HR.out,HE.out]
  refine BJ rfl rfl rfl (AJ F2 Tryz.underlying39 rfl EK) ⟨rfl,((TB.out.setCell (p:=⟨w.heap.size+1,0,none⟩) (by simp) _).setCell (p:=⟨w.heap.size+1,1,none⟩) (by simp) _).setCell (p:=⟨w.heap.size+1,2,none⟩) (by simp) _⟩
 ·have aV:Own.authority o s=some o.spaces[j]:=by rw[HAU.out,hsome]
  obtain⟨y0,y1,y2⟩:=A14.out.c3
  obtain⟨b,q,mv,ha,hbl,e0,e1,e2,hmv⟩:=Own.BF.cells HS4.out hj
  subst ha
  have lT:=Own.oU.of (HOK.out.sp _ (List.getElem_mem hj))
  obtain⟨sp,hsp⟩:∃ x,x=o.spaces[j]:=⟨_,rfl⟩
  rw[<- hsp] at aV e0 e2 hmv lT
  have hcp:=Em sp.pre sp.threshold mv sp.members w4 hmv (by have:=lT.len;omega)
  have HCP:=zh hcp;have zaz:=zh aV
  obtain⟨ma,mc,rfl⟩:=hmv.len
  have dj:decide ((j:Int)<0)=false:=zf
  have hjl:j<o.spaces.length:=hj
  clear hcp aV hsp lT hmv hsome
  go_wp2_with fail
  refine HCP.out.mono ?_
  rintro e w5 ⟨v',rfl,ho,hb5⟩
  have A25:=zh (A24.out.below hb5 (by omega));have B5:=zh (B4.out.trans (hb5.mono B4.out.size))
  have x0:=A25.out.cell 0;have x1:=A25.out.cell 1;have x2:=A25.out.cell 2;have x3:=A25.out.free 0;have x4:=A25.out.free 1;have x5:=A25.out.free 2
  simp only[zg] at x0 x1 x2
  obtain⟨va,vm,vc,rfl⟩:=Ac ho
  have HO:=zh ho
  clear ho hb5 e0 e1 e2 y0 y1 y2
  go_wp2
  have F2:=((A25.out.set 0 (.string sp.pre)).set 1 (.slice va vm vc)).set 2 (.int .i64 sp.threshold)
  rw[HR.out,zaz.out]
  refine BJ rfl rfl rfl (AJ F2 Tryz.underlying39 rfl EK) ⟨⟨_,rfl,?_⟩,((B5.out.setCell (p:=⟨w.heap.size+1,0,none⟩) (by simp) _).setCell (p:=⟨w.heap.size+1,1,none⟩) (by simp) _).setCell (p:=⟨w.heap.size+1,2,none⟩) (by simp) _⟩
  refine Cw (Ae HO.out (fun k hk=>?_)) (by omega)
  have k2:k≠w.heap.size+1:=by have:=Ak HO.out k hk;omega
  rw[zo k2,zo k2,zo k2]
namespace Own
def zc8 (L:List UInt8)(i:Nat):Prop:=L[i]? = some 47/\(i=0\/∀ c,L[i+1]? = some c->c=47)
theorem zbB:∀ (L:List UInt8) (f:Bool),dK f L=true↔((f=true->L≠[]/\L[0]? ≠ some 47)/\∀ i:Nat,L[i]? = some 47->∃ c:UInt8,L[i+1]? = some c/\c≠47)
 | [],f => by
   have h:∀ i:Nat,([]:List UInt8)[i]? = some 47->∃ c:UInt8,([]:List UInt8)[i+1]? = some c/\c≠47:=fun i hi=>by simp at hi
   cases f with
   | false=>exact⟨fun _=>⟨fun e=>(by cases e),h⟩,fun _=>rfl⟩
   | true=>exact⟨fun e=>(by cases e),fun e=>absurd rfl (e.1 rfl).1⟩
 | c :: l,f => by
   unfold dK
   by_cases h:c=47
   ·subst h
    rw[if_pos rfl,Bool.and_eq_true,zbB l true]
    constructor
    ·rintro⟨h1,h2,h3⟩
     refine⟨fun hf=>(by rw[hf] at h1;cases h1),fun i hi=>?_⟩
     cases i with
     | zero =>
       obtain⟨h4,h5⟩:=h2 rfl
       cases l with
       | nil=>exact absurd rfl h4
       | cons d l=>exact⟨d,rfl,fun e=>h5 (by rw[e];rfl)⟩
     | succ i=>exact h3 i hi
    ·rintro⟨h1,h2⟩
     refine⟨?_,fun _=>?_,fun i hi=>h2 (i+1) hi⟩
     ·cases f with
      | false=>rfl
      | true=>exact absurd rfl (h1 rfl).2
     ·obtain⟨d,h4,h5⟩:=h2 0 rfl
      have h4:l[0]? = some d:=h4
      refine⟨fun e=>(by rw[e] at h4;cases h4),fun e=>h5 ?_⟩
      rw[e] at h4
      exact(Option.some.inj h4).symm
   ·rw[if_neg h,zbB l false]
    constructor
    ·rintro⟨_,h3⟩
     refine⟨fun _=>⟨by simp,fun e=>h (Option.some.inj e)⟩,fun i hi=>?_⟩
     cases i with
     | zero=>exact absurd (Option.some.inj hi) h
     | succ i=>exact h3 i hi
    ·rintro⟨_,h2⟩
     exact⟨fun e=>(by cases e),fun i hi=>h2 (i+1) hi⟩
theorem zcc (L:List UInt8)(h:L≠[]):dV L=true↔∀ i,¬ zc8 L i:=by
 rw[(zc7 L).1,zbB]
 constructor
 ·rintro⟨h1,h2⟩ i ⟨h3,h4⟩
  rcases h4 with rfl|h4
  ·exact(h1 rfl).2 h3
  ·obtain⟨c,h5,h6⟩:=h2 i h3
   exact h6 (h4 c h5)
 ·intro hb
  refine⟨fun _=>⟨h,fun e=>hb 0 ⟨e,.inl rfl⟩⟩,fun i hi=>?_⟩
  cases hn:L[i+1]? with
  | none=>exact absurd ⟨hi,.inr (fun c hc=>by rw[hn] at hc;cases hc)⟩ (hb i)
  | some c=>exact⟨c,rfl,fun e=>hb i ⟨hi,.inr (fun d hd=>by rw[hn] at hd;rw[<- Option.some.inj hd];exact e)⟩⟩
end Own
theorem zep {s:ByteArray}{k:Nat}(h:k<s.size):s.data.toList[k]? = some s[k]:=by
 rw[Array.getElem?_toList]
 exact Array.getElem?_eq_getElem h
theorem zcd {s:ByteArray}{k:Nat}(h:s.size<=k):s.data.toList[k]? = none:=by
 rw[Array.getElem?_toList]
 exact Array.getElem?_eq_none h
theorem zdT {c:UInt8}(n:Nat)(hn:n<256)(h:(c.toNat:Int)=n):c=n.toUInt8:=by
 apply UInt8.toNat_inj.1
 rw[show(n.toUInt8).toNat=n from by simp[Nat.mod_eq_of_lt hn]]
 omega
theorem VG (s:ByteArray)(w:World)(hs:s.size<=9223372036854775000):Calls Tryz.prog 33 #[.string s] w fun e w' => e=.returned (.bool (Own.BI s))/\w' = w:=by
 obtain⟨R,hR⟩:∃ R,R=Own.BI s:=⟨_,rfl⟩
 rw[<- hR]
 have HR:=zh hR;clear hR
 go_enter Tryz.func33,Tryz.ntmps33
 go_wp2
 go_loopw [3] (fun i wr=>∃ k:Nat,k<=s.size/\i=.int .i64 k/\(∀ j,j<k->¬ Own.zc8 s.data.toList j)/\wr=w) (fun i _=>s.size-(intOf i).toNat)
 case atStart=>exact⟨0,by omega,rfl,(fun j hj=>absurd hj (by omega)),rfl⟩
 case round=>
  obtain⟨k,hk,rfl,hgo,rfl⟩:=hrel
  by_cases hlt:k<s.size
  case neg=>
   have dk:decide ((k:Int)<(s.size:Int))=false:=zf
   have e:R=(decide (1<=(s.size:Int))&&decide ((s.size:Int)<=64)):=by
    rw[HR.out]
    unfold Own.BI
    by_cases h0:s.data.toList=[]
    ·have : s.size = 0 :=by
      have:=congrArg List.length h0
      rw[Array.length_toList] at this
      exact this
     rw[this];rfl
    ·have : Own.dV s.data.toList = true :=(Own.zcc _ h0).2 fun i hi => by
      by_cases hik:i<k
      ·exact hgo i hik hi
      ·have:=hi.1
       rw[zcd (by omega)] at this
       cases this
     rw[this,Bool.and_true,show decide (1<=s.size)=decide (1<=(s.size:Int)) from decide_eq_decide.2 (by omega),show decide (s.size<=64)=decide ((s.size:Int)<=64) from decide_eq_decide.2 (by omega)]
   have HE:=zh e;clear e hgo
   by_cases h1:1<=(s.size:Int)
   ·have d1:decide (1<=(s.size:Int))=true:=decide_eq_true h1
    go_wp2
    go_ret
    exact⟨by rw[HE.out,d1];rfl,rfl⟩
   ·have d1:decide (1<=(s.size:Int))=false:=decide_eq_false h1
    go_wp2
    go_ret
    exact⟨by rw[HE.out,d1];rfl,rfl⟩
  have dk:decide ((k:Int)<(s.size:Int))=true:=zt
  have hbad:Own.zc8 s.data.toList k->R=false:=fun hb=>by
   rw[HR.out]
   unfold Own.BI
   have:Own.dV s.data.toList=false:=by
    cases hp:Own.dV s.data.toList with
    | false=>rfl
    | true=>exact absurd hb ((Own.zcc _ (fun e=>by have:=hb.1;rw[e] at this;cases this)).1 hp k)
   rw[this,Bool.and_false]
  have hnx:¬ Own.zc8 s.data.toList k->∀ j,j<k+1->¬ Own.zc8 s.data.toList j:=fun h j hj=>by
   rcases(by omega:j<k\/j=k) with h1|rfl
   ·exact hgo j h1
   ·exact h
  have h0:s.data.toList[k]? = some s[k]:=zep hlt
  have HBAD:=zh hbad;have HNX:=zh hnx;have H0:=zh h0
  clear hbad hnx hgo h0
  by_cases h47:(s[k].toNat:Int)=47
  case neg=>
   have d47:((s[k].toNat:Int)==47)=false:=beq_eq_false_iff_ne.2 h47
   have hn:=HNX.out (by intro hb;have:=hb.1;rw[H0.out] at this;exact h47 (by rw[Option.some.inj this];rfl))
   have HN:=zh hn;clear hn
   go_wp2
   exact⟨⟨k+1,by omega,by go_num,HN.out,(by first|rfl|trivial)⟩,by simp[intOf];omega⟩
  have d47:((s[k].toNat:Int)==47)=true:=beq_iff_eq.2 h47
  have hc:s[k]=47:=zdT 47 (by omega) h47
  have HC:=zh hc;clear hc
  by_cases hk0:k=0
  ·have dk0:((k:Int)==0)=true:=beq_iff_eq.2 (by omega)
   have HK0:=zh hk0;clear hk0
   have e:R=false:=HBAD.out (by exact⟨by rw[H0.out,HC.out],.inl HK0.out⟩)
   have HE:=zh e;clear e
   go_wp2
   go_ret
   exact⟨by rw[HE.out];rfl,rfl⟩
  have dk0:((k:Int)==0)=false:=beq_eq_false_iff_ne.2 (by omega)
  by_cases hkl:(k:Int)=(s.size:Int)-1
  ·have dkl:((k:Int)==(s.size:Int)-1)=true:=beq_iff_eq.2 hkl
   have HKL:=zh hkl;clear hkl
   have e:R=false:=HBAD.out (by exact⟨by rw[H0.out,HC.out],.inr (fun c hc=>by have:=HKL.out;rw[zcd (by omega)] at hc;cases hc)⟩)
   have HE:=zh e;clear e
   go_wp2
   go_ret
   exact⟨by rw[HE.out];rfl,rfl⟩
  have dkl:((k:Int)==(s.size:Int)-1)=false:=beq_eq_false_iff_ne.2 hkl
  have hk1:k+1<s.size:=by omega
  have h1:s.data.toList[k+1]? = some s[k+1]:=zep hk1
  have H1:=zh h1;clear h1
  by_cases h48:(s[k+1].toNat:Int)=47
  ·have d48:((s[k+1].toNat:Int)==47)=true:=beq_iff_eq.2 h48
   have e:R=false:=HBAD.out (by exact⟨by rw[H0.out,HC.out],.inr (fun c hc=>by rw[H1.out] at hc;rw[<- Option.some.inj hc];exact zdT 47 (by omega) h48)⟩)
   have HE:=zh e;clear e
   go_wp2
   go_ret
   exact⟨by rw[HE.out];rfl,rfl⟩
  ·have d48:((s[k+1].toNat:Int)==47)=false:=beq_eq_false_iff_ne.2 h48
   have hn:=HNX.out (by intro hb;exact hb.2.elim hk0 (fun h=>h48 (by rw[h _ H1.out];rfl)))
   have HN:=zh hn;clear hn
   go_wp2
   exact⟨⟨k+1,by omega,by go_num,HN.out,(by first|rfl|trivial)⟩,by simp[intOf];omega⟩
end
end Go.Proofs.YtjlmglgmcekmhaaGreatDoor
