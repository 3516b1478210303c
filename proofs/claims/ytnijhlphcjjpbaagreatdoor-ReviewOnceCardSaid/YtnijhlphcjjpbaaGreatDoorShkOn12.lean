/- Regions with loads beside calls, whose last operations store into what the loads read: the loads' blocks need to stand only as long as a load may float. -/
import Derived.HandedShaped
import Derived.OpenShut
import Derived.Test.YtnijhlphcjjpbaaGreatDoorRows
import Derived.Test.YtnijhlphcjjpbaaGreatDoorCards
import Derived.Test.YtnijhlphcjjpbaaGreatDoorTie
import Derived.ProofKit
import Derived.LaidMore
import Derived.Lay
import Derived.SevenTiedAt
import Derived.Stop.Joined
import Derived.Test.YtnijhlphcjjpbaaGreatDoorShkOn2
import Derived.Test.YtnijhlphcjjpbaaGreatDoorShkOn3
import Derived.Test.YtnijhlphcjjpbaaGreatDoorShkOn4
import Derived.Test.YtnijhlphcjjpbaaGreatDoorShkOn5
import Derived.Test.YtnijhlphcjjpbaaGreatDoorShkOn11
set_option linter.unusedVariables false
set_option linter.unusedSimpArgs false
set_option maxRecDepth 100000
set_option maxHeartbeats 16000000
namespace Go.Proofs.YtnijhlphcjjpbaaGreatDoor
section
open Go
namespace Lex
section
variable {P:Program} {ops:Array Oper} {Q:Exit->Act->World->Prop}
def U1 (P:Program)(ops:Array Oper)(fl:List Nat)(m:Nat):Bool:=
 Region.noSelect ops&&
 Ik ops (fun a b=>BL P ops a b || (decide (b<m)&&C9 P ops fl a b)) ops.size ops.size 0 0&&
 ((List.range ops.size).all fun k => match ops[k]? with
   | some o => !needs o || (List.range ops.size).all fun i=>decide (i<k) || (match ops[i]? with|some o' => (match o'.dst with|some t => !(o.looksAt ops).contains t|none=>true)|none=>true)
   | none=>true)&&
 (fl.all fun k => match ops[k]? with
   | some o=>(List.range ops.size).all fun i=>decide (i<k) || (match ops[i]? with|some o' => (match o'.dst with|some t => !(o.looksAt ops).contains t|none=>true)|none=>true)
   | none=>true)&&
 (fl.all fun k=>decide (k<m)&&match ops[k]? with|some o=>kind P o==1|none=>false)
structure OkM (P:Program) (ops:Array Oper) (fl:List Nat) (m:Nat):Prop where
 sel:∀ (j:Nat) (o:Oper) (cs:Array SelectCase) (b:Bool),ops[j]? = some o->o.op≠.select cs b
 top:∀ (b:Nat) (ob:Oper),ops[b]? = some ob->∀ e∈ob.after,Region.binds .any e=true->e.on<b
 pair:∀ b a,b<ops.size->a<b->waits ops ops.size b a=true\/BL P ops a b=true\/(b<m/\C9 P ops fl a b=true)
 keep:∀ (k:Nat) (o:Oper),ops[k]? = some o->needs o=true\/k∈fl->∀ i,k<=i->∀ (o' : Oper),ops[i]? = some o' -> ∀ t,o'.dst=some t->t ∉ o.looksAt ops
 flm:∀ k∈fl,k<m/\∀ o,ops[k]? = some o->kind P o=1
theorem WH {fl:List Nat}{m:Nat}(h:U1 P ops fl m=true):OkM P ops fl m:=by
 simp only[U1,Bool.and_eq_true,List.all_eq_true,List.mem_range] at h
 obtain⟨⟨⟨⟨h1,h2⟩,h3⟩,h4⟩,h5⟩:=h
 refine⟨fun j o cs b hj=>Region.noSelect_spec h1 j o cs b hj,fun b ob hb e he hbi=>?_,fun b a hb ha=>?_,fun k o hk hn i hki o' hi t ht=>?_,fun k hk=>?_⟩
 ·exact(BM h2 hb).1 e he hbi
 ·have:=(BM h2 (Array.getElem?_eq_getElem hb)).2 a ha
  simpa using this
 ·have hkl:k<ops.size:=(Array.getElem?_eq_some_iff.1 hk).1
  have hil:i<ops.size:=(Array.getElem?_eq_some_iff.1 hi).1
  have key:((List.range ops.size).all fun i=>decide (i<k) || (match ops[i]? with|some o' => (match o'.dst with|some t => !(o.looksAt ops).contains t|none=>true)|none=>true))=true:=by
   rcases hn with hn|hn
   ·have:=h3 k hkl
    rw[hk] at this
    simpa [hn] using this
   ·have:=h4 k hn
    rw[hk] at this
    exact this
  simp only[List.all_eq_true,List.mem_range] at key
  have:=key i hil
  rw[hi] at this
  simp only[ht,Bool.or_eq_true,decide_eq_true_eq] at this
  rcases this with this|this
  ·omega
  ·simpa using this
 ·obtain⟨q1,q2⟩:=h5 k hk
  refine⟨by simpa using q1,fun o ho=>?_⟩
  rw[ho] at q2
  simpa using q2
theorem gM {fl:List Nat}{a b:Nat}(h:BL P ops a b=true):C9 P ops fl a b=true:=by
 unfold BL at h
 unfold C9
 split at h
 ·rename_i oa ob ha hb
  simp only[ha,hb,Bool.and_eq_true,Bool.or_eq_true] at h ⊢
  refine⟨h.1,.inl (.inl ?_)⟩
  simpa [or_assoc] using h.2
 ·cases h
theorem aX {fl:List Nat}{a b:Nat}(h:C9 P ops fl a b=true)(ha' : a ∉ fl)(hb' : b ∉ fl):BL P ops a b=true:=by
 unfold C9 at h
 unfold BL
 split at h
 ·rename_i oa ob ha hb
  simp only[ha,hb,Bool.and_eq_true,Bool.or_eq_true,List.contains_iff_mem,ha',hb',and_false,or_false] at h ⊢
  refine⟨h.1,?_⟩
  simpa [or_assoc] using h.2
 ·cases h
theorem IL {a b:Nat}{oa ob:Oper}(h:BL P ops a b=true)(ha:ops[a]? = some oa)(hb:ops[b]? = some ob):oa.apart ops ob=true/\(kind P ob=0\/kind P oa=0\/(kind P oa=1/\(kind P ob=1\/kind P ob=2))):=by
 simp only[BL,ha,hb,Bool.and_eq_true,Bool.or_eq_true,beq_iff_eq] at h
 exact⟨h.1,by simpa [or_assoc] using h.2⟩
section
variable {B:Nat->Prop} {w0:World} {fl:List Nat} {m:Nat}
theorem Yw (hA:OkM P ops fl m){i:Nat}{rest:List Nat} : ∀ (ks:List Nat) (a:Act) (w:World),(∀ x∈ks++i::rest,x<ops.size)->(ks++i::rest).Pairwise (· < ·)->
 (∀ k∈ks,BL P ops k i=true)->wpOps P ops (Ac P ops B w0 fl Q) (ks++i::rest) a w->wpOps P ops (Ac P ops B w0 fl Q) (i::(ks++rest)) a w
 | [],_,_,_,_,_,h=>h
 | k :: ks,a,w,hl,hs,hp,h => by
   have hs':=List.pairwise_cons.1 hs
   have h0:=h
   rw[List.cons_append,wpOps_cons] at h
   have h1:wpOp P ops (Ac P ops B w0 fl Q) k (fun a' w' => wpOps P ops (Ac P ops B w0 fl Q) (i::(ks++rest)) a' w') a w:=
    wpOp_mono (fun a' w' hh=>Yw hA ks a' w' (fun x hx=>hl x (by simp at hx ⊢;right;exact hx)) hs'.2 (fun x hx=>hp x (by simp[hx])) hh) h
   have hkl:k<ops.size:=hl k (by simp)
   have hil:i<ops.size:=hl i (by simp)
   obtain⟨ok,hk⟩:∃ o,ops[k]? = some o:=⟨_,Array.getElem?_eq_getElem hkl⟩
   obtain⟨oi,hi⟩:∃ o,ops[i]? = some o:=⟨_,Array.getElem?_eq_getElem hil⟩
   obtain⟨hap,hc⟩:=IL (hp k (by simp)) hk hi
   have h0g:wpOps P ops (Ends P ops (fun _ a w=>allIn B w0 ops a fl/\Q .normal a w)) (k::ks++i::rest) a w:=Cc (fun e a w he=>Bz he) _ _ _ h0
   have h2:wpOp P ops (Ac P ops B w0 fl Q) k (fun a' w' => wpOp P ops (Ac P ops B w0 fl Q) i (wpOps P ops (Ac P ops B w0 fl Q) (ks++rest)) a' w') a w:=
    wpOp_mono (fun a' w' hh=>by rw[wpOps_cons] at hh;exact hh) h1
   show wpOps P ops (Ac P ops B w0 fl Q) (i::(k::(ks++rest))) a w
   rw[wpOps_cons]
   refine wpOp_mono (fun a' w' hh=>?_) (swap Ac.Br hk hi hap (fun cs b=>hA.sel k ok cs b hk) (fun cs b=>hA.sel i oi cs b hi) ?_ h2)
   ·rw[wpOps_cons];exact hh
   ·rcases hc with hc|hc|⟨hc1,hc2⟩
    ·refine .inl (BK (l:=k::ks++i::rest) hl h0g hi hc fun hn x hx o' ho' t ht=>?_)
     by_cases hxi:i<=x
     ·exact hA.keep i oi hi (.inl hn) x hxi o' ho' t ht
     ·have hxm : x ∈ k :: ks :=by
       rcases List.mem_append.1 hx with h|h
       ·exact h
       ·rcases List.mem_cons.1 h with h|h
        ·omega
        ·have:=(List.pairwise_append.1 hs).2.1
         have:=(List.pairwise_cons.1 this).1 x h
         omega
      exact(Oper.apart_spec (IL (hp x hxm) ho' hi).1).1 t ht
    ·refine .inr (.inl (BK (l:=k::ks++i::rest) hl h0g hk hc fun hn x hx o' ho' t ht=>?_))
     refine hA.keep k ok hk (.inl hn) x ?_ o' ho' t ht
     rcases List.mem_cons.1 hx with h|h
     ·omega
     ·have:=hs'.1 x h;omega
    ·exact .inr (.inr ⟨fun _=>C8 hc1,fun _=>Cy hc2⟩)
theorem U2 (hA:OkM P ops fl m){i:Nat}{oi:Oper}(hi:ops[i]? = some oi)(hip:kind P oi=0\/kind P oi=1)(him:m<=i){rest:List Nat} : ∀ (ks:List Nat) (a:Act) (w:World),(∀ x∈ks++i::rest,x<ops.size)->(ks++i::rest).Pairwise (· < ·)->
 (∀ k∈ks,BL P ops k i=true)->wpS P ops (Ac P ops B w0 fl Q) (Same B w0) m (ks++i::rest) a w->
 ∃ v,Yl P ops oi a w v w/\(kind P oi=0->∀ w2,Yl P ops oi a w2 v w2)/\(∀ w2,More w w2->Yl P ops oi a w2 v w2)/\wpS P ops (Ac P ops B w0 fl Q) (Same B w0) m (ks++rest) (a.put oi.dst v) w
 | [],a,w,hl,hs,hp,h => by
   have h0:=Gy _ _ _ h
   have h0g:wpOps P ops (Ends P ops (fun _ a w=>allIn B w0 ops a fl/\Q .normal a w)) (i::rest) a w:=Cc (fun e a w he=>Bz he) _ _ _ h0
   have hq:kind P oi=0->Region.wanted oi (yielded ops a.tmps)=true->Quiet P (execOp a.eval oi):=fun hc=>BK (l:=i::rest) hl h0g hi hc fun hn x hx o' ho' t ht=>hA.keep i oi hi (.inl hn) x (by
    rcases List.mem_cons.1 hx with h|h
    ·omega
    ·have:=(List.pairwise_cons.1 hs).1 x h;omega) o' ho' t ht
   have hre:Region.wanted oi (yielded ops a.tmps)=true->Reads P (execOp a.eval oi):=fun hw=>by
    rcases hip with hc|hc
    ·intro n w w' hr
     obtain⟨q1,q2,q3⟩:=hq hc hw n w w' hr
     exact⟨q1,q2,fun w2 _=>q3 w2⟩
    ·exact C8 hc
   have h:wpOp P ops (Ac P ops B w0 fl Q) i (fun a' w' => (i<m->Same B w0 w')/\wpS P ops (Ac P ops B w0 fl Q) (Same B w0) m rest a' w') a w:=h
   obtain⟨v,w',hy,_,hK⟩:=Dn Ac.Br hi (fun hw=>(hre hw).news) h
   obtain⟨rfl,hm⟩:=hy.reads hre
   exact⟨v,hy,fun hc=>(hy.quiet (hq hc)).2,hm,hK⟩
 | k :: ks,a,w,hl,hs,hp,h => by
   have hs':=List.pairwise_cons.1 hs
   obtain⟨ok,hk⟩:∃ o,ops[k]? = some o:=⟨_,Array.getElem?_eq_getElem (hl k (by simp))⟩
   obtain⟨hap,hc⟩:=IL (hp k (by simp)) hk hi
   have hap:=Oper.apart_spec hap
   have GL:∀ cs b,oi.op≠.select cs b:=fun cs b=>hA.sel i oi cs b hi
   have Jg:∀ cs b,ok.op≠.select cs b:=fun cs b=>hA.sel k ok cs b hk
   have hds:∀ t,oi.dst=some t->ok.dst≠some t:=fun t ht hk' => hap.2.1 t hk' ht
   have hl' : ∀ x∈ks++i::rest,x<ops.size:=fun x hx=>hl x (by simp at hx ⊢;right;exact hx)
   have hp' : ∀ x∈ks,BL P ops x i=true:=fun x hx=>hp x (by simp[hx])
   have h0g:wpOps P ops (Ends P ops (fun _ a w=>allIn B w0 ops a fl/\Q .normal a w)) (k::ks++i::rest) a w:=Cc (fun e a w he=>Bz he) _ _ _ (Gy _ _ _ h)
   have h:wpOp P ops (Ac P ops B w0 fl Q) k (fun a' w' => (k<m->Same B w0 w')/\wpS P ops (Ac P ops B w0 fl Q) (Same B w0) m (ks++i::rest) a' w') a w:=h
   have done:∀ v,(∀ a1 w1,Rch a ok.dst a1->wpS P ops (Ac P ops B w0 fl Q) (Same B w0) m (ks++i::rest) a1 w1->wpS P ops (Ac P ops B w0 fl Q) (Same B w0) m (ks++rest) (a1.put oi.dst v) w1)->wpS P ops (Ac P ops B w0 fl Q) (Same B w0) m (k::(ks++rest)) (a.put oi.dst v) w:=fun v hv=>by
    show wpOp P ops (Ac P ops B w0 fl Q) k (fun a' w' => (k<m->Same B w0 w')/\wpS P ops (Ac P ops B w0 fl Q) (Same B w0) m (ks++rest) a' w') (a.put oi.dst v) w
    exact Ij Ac.Br hk Jg hap.2.2 hds h fun a1 w1 hR hh=>⟨hh.1,hv a1 w1 hR hh.2⟩
   have two:kind P oi=0->_:=fun hc0=>(show ∃ v,Yl P ops oi a w v w/\(kind P oi=0->∀ w2,Yl P ops oi a w2 v w2)/\(∀ w2,More w w2->Yl P ops oi a w2 v w2)/\wpS P ops (Ac P ops B w0 fl Q) (Same B w0) m (k::(ks++rest)) (a.put oi.dst v) w by
    obtain⟨a1,w1,hR,hh⟩:=EO Ac.Br hk h
    obtain⟨v,hy,hy0,_,_⟩:=U2 hA hi hip him ks a1 w1 hl' hs'.2 hp' hh.2
    have he:=hR.exec (o:=oi) (ops:=ops) GL hap.1
    have hall:∀ w2,Yl P ops oi a w2 v w2:=fun w2=>(hy0 hc0 w2).same ⟨he.1.symm,he.2.symm⟩
    refine⟨v,hall w,fun _=>hall,fun w2 _=>hall w2,done v fun a2 w2 hR2 hh2=>?_⟩
    obtain⟨v2,hy2,_,_,hK2⟩:=U2 hA hi hip him ks a2 w2 hl' hs'.2 hp' hh2
    have he2:=hR2.exec (o:=oi) (ops:=ops) GL hap.1
    obtain⟨rfl,_⟩:=hy2.det ((hall w2).same he2)
    exact hK2)
   have three:kind P ok=0\/kind P ok=1->_:=fun hkd=>(show ∃ v,Yl P ops oi a w v w/\(kind P oi=0->∀ w2,Yl P ops oi a w2 v w2)/\(∀ w2,More w w2->Yl P ops oi a w2 v w2)/\wpS P ops (Ac P ops B w0 fl Q) (Same B w0) m (k::(ks++rest)) (a.put oi.dst v) w by
    have hre:Region.wanted ok (yielded ops a.tmps)=true->Reads P (execOp a.eval ok):=fun hw=>by
     rcases hkd with hc|hc
     ·intro n w w' hr
      obtain⟨q1,q2,q3⟩:=BK (l:=k::ks++i::rest) hl h0g hk hc (fun hn x hx o' ho' t ht=>hA.keep k ok hk (.inl hn) x (by
       rcases List.mem_cons.1 hx with h|h
       ·omega
       ·have:=hs'.1 x h;omega) o' ho' t ht) hw n w w' hr
      exact⟨q1,q2,fun w2 _=>q3 w2⟩
     ·exact C8 hc
    obtain⟨vk,w1,hyk,hSk,hh⟩:=Dn Ac.Br hk (fun hw=>(hre hw).news) h
    obtain⟨rfl,_⟩:=hyk.reads hre
    obtain⟨v,hy,hy0,hym,hK⟩:=U2 hA hi hip him ks _ w1 hl' hs'.2 hp' hh
    have he:=(Rch.Gf a ok.dst vk).exec (o:=oi) (ops:=ops) GL hap.1
    have hek:=(Rch.Gf a oi.dst v).exec (o:=ok) (ops:=ops) Jg hap.2.2
    refine⟨v,hy.same ⟨he.1.symm,he.2.symm⟩,fun hc w2=>(hy0 hc w2).same ⟨he.1.symm,he.2.symm⟩,fun w2 hw2=>(hym w2 hw2).same ⟨he.1.symm,he.2.symm⟩,?_⟩
    show wpOp P ops (Ac P ops B w0 fl Q) k (fun a' w' => (k<m->Same B w0 w')/\wpS P ops (Ac P ops B w0 fl Q) (Same B w0) m (ks++rest) a' w') (a.put oi.dst v) w1
    exact Yl.mk hk (hyk.same hek) ⟨hSk,by rw[Act.put_comm a v vk hds];exact hK⟩)
   rcases hc with hc|hc|⟨hc,_⟩
   ·exact two hc
   ·exact three (.inl hc)
   ·exact three (.inr hc)
theorem gN (hA:OkM P ops fl m){i:Nat}(him:i<m){rest:List Nat} : ∀ (ks:List Nat) (a:Act) (w:World),Same B w0 w->(∀ x∈ks++i::rest,x<ops.size)->(ks++i::rest).Pairwise (· < ·)->
 (∀ k∈ks,C9 P ops fl k i=true)->wpS P ops (Ac P ops B w0 fl Q) (Same B w0) m (ks++i::rest) a w->wpS P ops (Ac P ops B w0 fl Q) (Same B w0) m (i::(ks++rest)) a w
 | [],_,_,_,_,_,_,h=>h
 | k :: ks,a,w,hS,hl,hs,hp,h => by
   have hsel:=hA.sel
   have hkeep:=hA.keep
   have hs':=List.pairwise_cons.1 hs
   have h0:=Gy _ _ _ h
   have hki:k<i:=hs'.1 i (by simp)
   have h:wpOp P ops (Ac P ops B w0 fl Q) k (fun a' w' => (k<m->Same B w0 w')/\wpS P ops (Ac P ops B w0 fl Q) (Same B w0) m (ks++i::rest) a' w') a w:=h
   have h1:wpOp P ops (Ac P ops B w0 fl Q) k (fun a' w' => Same B w0 w' /\ wpS P ops (Ac P ops B w0 fl Q) (Same B w0) m (i::(ks++rest)) a' w') a w:=
    wpOp_mono (fun a' w' hh=>⟨hh.1 (by omega),gN hA him ks a' w' (hh.1 (by omega)) (fun x hx=>hl x (by simp at hx ⊢;right;exact hx)) hs'.2 (fun x hx=>hp x (by simp[hx])) hh.2⟩) h
   have hkl:k<ops.size:=hl k (by simp)
   have hil:i<ops.size:=hl i (by simp)
   obtain⟨ok,hk⟩:∃ o,ops[k]? = some o:=⟨_,Array.getElem?_eq_getElem hkl⟩
   obtain⟨oi,hi⟩:∃ o,ops[i]? = some o:=⟨_,Array.getElem?_eq_getElem hil⟩
   have hpk:=hp k (by simp)
   simp only[C9,hk,hi,Bool.and_eq_true,Bool.or_eq_true,beq_iff_eq,List.contains_iff_mem] at hpk
   obtain⟨hap,hc⟩:=hpk
   have h2:wpOp P ops (Ac P ops B w0 fl Q) k (fun a' w' => Same B w0 w' /\ wpOp P ops (Ac P ops B w0 fl Q) i (fun a'' w'' => Same B w0 w'' /\ wpS P ops (Ac P ops B w0 fl Q) (Same B w0) m (ks++rest) a'' w'') a' w') a w:=
    wpOp_mono (fun a' w' hh=>⟨hh.1,wpOp_mono (fun a'' w'' h3=>⟨h3.1 him,h3.2⟩) (show wpOp P ops _ i (fun a'' w'' => (i<m->Same B w0 w'')/\wpS P ops _ (Same B w0) m (ks++rest) a'' w'') a' w' from hh.2)⟩) h1
   have ET:∀ x∈k::ks++i::rest,∀ o',ops[x]? = some o' -> (needs oi=true\/i∈fl)->∀ t,o'.dst=some t->t ∉ oi.looksAt ops:=fun x hx o' ho' hn t ht=>by
    by_cases hxi:i<=x
    ·exact hkeep i oi hi hn x hxi o' ho' t ht
    ·have hxm : x ∈ k :: ks :=by
      rcases List.mem_append.1 hx with h|h
      ·exact h
      ·rcases List.mem_cons.1 h with h|h
       ·omega
       ·have:=(List.pairwise_append.1 hs).2.1
        have:=(List.pairwise_cons.1 this).1 x h
        omega
     have hpx:=hp x hxm
     simp only[C9,ho',hi,Bool.and_eq_true] at hpx
     exact(Oper.apart_spec hpx.1).1 t ht
   have EU:∀ x∈k::ks++i::rest,∀ o',ops[x]? = some o' -> (needs ok=true\/k∈fl)->∀ t,o'.dst=some t->t ∉ ok.looksAt ops:=fun x hx o' ho' hn t ht=>by
    refine hkeep k ok hk hn x ?_ o' ho' t ht
    rcases List.mem_cons.1 hx with h|h
    ·omega
    ·have:=hs'.1 x h;omega
   have h0g:wpOps P ops (Ends P ops (fun _ a w=>allIn B w0 ops a fl/\Q .normal a w)) (k::ks++i::rest) a w:=Cc (fun e a w he=>Bz he) _ _ _ h0
   have h3:=cO (S:=Same B w0) Ac.Br hk hi hap (fun cs b=>hsel k ok cs b hk) (fun cs b=>hsel i oi cs b hi) hS ?_ h2
   ·show wpOp P ops _ i (fun a' w' => (i<m->Same B w0 w')/\wpS P ops _ (Same B w0) m (k::(ks++rest)) a' w') a w
    refine wpOp_mono (fun a' w' hh=>⟨fun _=>hh.1,?_⟩) h3
    show wpOp P ops _ k (fun a'' w'' => (k<m->Same B w0 w'')/\wpS P ops _ (Same B w0) m (ks++rest) a'' w'') a' w'
    exact wpOp_mono (fun a'' w'' h4=>⟨fun _=>h4.1,h4.2⟩) hh.2
   ·rcases hc with (((hc|hc)|⟨hc1,hc2⟩)|⟨hc,hm⟩)|⟨hc,hm⟩
    ·have hq:=BK (l:=k::ks++i::rest) hl h0g hi hc fun hn x hx o' ho' t ht=>ET x hx o' ho' (.inl hn) t ht
     exact .inl ⟨fun hw=>(hq hw).Ku,fun hw=>(hq hw).news⟩
    ·have hq:=BK (l:=k::ks++i::rest) hl h0g hk hc fun hn x hx o' ho' t ht=>EU x hx o' ho' (.inl hn) t ht
     exact .inr (.inl ⟨fun hw=>(hq hw).Ku,fun hw=>(hq hw).news⟩)
    ·exact .inr (.inr ⟨fun _=>C8 hc1,fun _=>Cy hc2⟩)
    ·exact .inr (.inl ⟨Hl (l:=k::ks++i::rest) hl h0 hk hc hm fun x hx o' ho' t ht=>EU x hx o' ho' (.inr hm) t ht,fun _=>Cy (.inl hc)⟩)
    ·exact .inl ⟨Hl (l:=k::ks++i::rest) hl h0 hi hc hm fun x hx o' ho' t ht=>ET x hx o' ho' (.inr hm) t ht,fun _=>Cy (.inl hc)⟩
theorem WI (hA:OkM P ops fl m):∀ (fuel:Nat) (l:List Nat) (listed:Array Bool) (a:Act) (w:World),l.length=fuel->listed.size=ops.size->Closed ops listed->
 l.Pairwise (· < ·)->(∀ x,x∈l↔x<ops.size/\listed.getD x false=false)->(∀ x∈l,x ∉ fl)->wpOps P ops (Ac P ops B w0 fl Q) l a w->wpAny P .any ops (Ac P ops B w0 fl Q) fuel listed a w
 | 0,l,listed,a,w,hlen,hsz,hcl,hs,hm,_,h => by
   have hl0:l=[]:=List.eq_nil_of_length_eq_zero hlen
   subst hl0
   refine⟨?_,h⟩
   refine List.eq_nil_iff_forall_not_mem.2 fun j hj=>?_
   obtain⟨h0,o,ho,_⟩:=mem_ready.1 hj
   have hjl:j<ops.size:=(Array.getElem?_eq_some_iff.1 ho).1
   have:=(hm j).2 ⟨hjl,getD_both h0⟩
   cases this
 | fuel + 1,l,listed,a,w,hlen,hsz,hcl,hs,hm,hnf,h => by
   have both:∀ x,x<ops.size->listed.getD x false=false->listed.getD x true=false:=fun x hx hf=>getD_in (by omega) hf
   refine⟨fun hr=>?_,fun i hi=>?_⟩
   ·exfalso
    cases l with
    | nil=>cases hlen
    | cons k l =>
      have hm0:=(hm k).1 (by simp)
      obtain⟨o,ho⟩:∃ o,ops[k]? = some o:=⟨_,Array.getElem?_eq_getElem hm0.1⟩
      have:k∈Region.ready .any ops listed:=mem_ready.2 ⟨both k hm0.1 hm0.2,o,ho,fun e he hb=>by
       have hlt:=hA.top k o ho e he hb
       cases hx:listed.getD e.on false with
       | true=>rfl
       | false =>
         have hin:=(hm e.on).2 ⟨by omega,hx⟩
         rcases List.mem_cons.1 hin with h1|h1
         ·omega
         ·have:=(List.pairwise_cons.1 hs).1 _ h1
          omega⟩
      rw[hr] at this
      cases this
   ·obtain⟨hun,oi,hoi,hall⟩:=mem_ready.1 hi
    have hil:i<ops.size:=(Array.getElem?_eq_some_iff.1 hoi).1
    have hin:i∈l:=(hm i).2 ⟨hil,getD_both hun⟩
    obtain⟨ks,rest,rfl⟩:=List.append_of_mem hin
    have hpw:=List.pairwise_append.1 hs
    have hlt:∀ x∈ks++i::rest,x<ops.size:=fun x hx=>((hm x).1 hx).1
    have hks:∀ k∈ks,BL P ops k i=true\/(i<m/\C9 P ops fl k i=true):=fun k hk=>by
     have hki:k<i:=hpw.2.2 k hk i (by simp)
     rcases hA.pair i k hil hki with hw|hp
     ·have:=CZ hcl ops.size i k oi hoi hall hw
      have hk2:=((hm k).1 (by simp[hk])).2
      rw[hk2] at this
      cases this
     ·exact hp
    have gT:∀ k∈ks,BL P ops k i=true:=fun k hk=>by
     rcases hks k hk with h|⟨_,h⟩
     ·exact h
     ·exact aX h (hnf k (by simp[hk])) (hnf i (by simp))
    have hfr:=Yw hA ks a w hlt hs gT h
    rw[wpOps_cons] at hfr
    refine wpOp_mono (fun a' w' hh=>?_) hfr
    refine WI hA fuel (ks++rest) _ a' w' (by simp at hlen ⊢;omega) (by simp[hsz]) ?_ ?_ ?_ (fun x hx=>hnf x (by simp at hx ⊢;rcases hx with h|h<;>simp[h])) hh
    ·intro j o ho hl e he hb
     by_cases hij:i=j
     ·subst hij
      have:o=oi:=Option.some.inj (ho.symm.trans hoi)
      subst this
      exact getD_set_true (hall e he hb)
     ·refine getD_set_true (hcl j o ho ?_ e he hb)
      rw[getD_set_ne false (by exact hij)] at hl
      exact hl
    ·exact List.pairwise_append.2 ⟨hpw.1,(List.pairwise_cons.1 hpw.2.1).2,fun x hx y hy=>hpw.2.2 x hx y (by simp[hy])⟩
    ·intro x
     have hx:=hm x
     have hne:x∈ks++rest->i≠x:=by
      intro hxm e
      subst e
      rcases List.mem_append.1 hxm with h1|h1
      ·have:=hpw.2.2 i h1 i (by simp)
       omega
      ·have:=(List.pairwise_cons.1 hpw.2.1).1 i h1
       omega
     constructor
     ·intro hxm
      have h1:=hx.1 (by simp at hxm ⊢;rcases hxm with h|h<;>simp[h])
      exact⟨h1.1,by rw[getD_set_ne false (hne hxm)];exact h1.2⟩
     ·rintro⟨h1,h2⟩
      by_cases hix:i=x
      ·subst hix
       simp[hsz,h1] at h2
      ·rw[getD_set_ne false hix] at h2
       have:=hx.2 ⟨h1,h2⟩
       simp at this ⊢
       rcases this with h|h|h
       ·exact .inl h
       ·exact absurd h.symm hix
       ·exact .inr h
theorem WJ (hA:OkM P ops fl m)(vR:∀ x∈fl,∀ i,m<=i->∀ oi,ops[i]? = some oi->kind P oi=2->False):∀ (fuel:Nat) (l:List Nat) (listed:Array Bool) (a:Act) (w:World),l.length=fuel->listed.size=ops.size->Closed ops listed->
 l.Pairwise (· < ·)->(∀ x,x∈l↔x<ops.size/\listed.getD x false=false)->((∃ x∈l,x<m)->Same B w0 w)->wpS P ops (Ac P ops B w0 fl Q) (Same B w0) m l a w->wpAny P .any ops (Ac P ops B w0 fl Q) fuel listed a w
 | 0,l,listed,a,w,hlen,hsz,hcl,hs,hm,_,h => by
   have hl0:l=[]:=List.eq_nil_of_length_eq_zero hlen
   subst hl0
   refine⟨?_,h⟩
   refine List.eq_nil_iff_forall_not_mem.2 fun j hj=>?_
   obtain⟨h0,o,ho,_⟩:=mem_ready.1 hj
   have hjl:j<ops.size:=(Array.getElem?_eq_some_iff.1 ho).1
   have:=(hm j).2 ⟨hjl,getD_both h0⟩
   cases this
 | fuel + 1,l,listed,a,w,hlen,hsz,hcl,hs,hm,hSl,h => by
   have both:∀ x,x<ops.size->listed.getD x false=false->listed.getD x true=false:=fun x hx hf=>getD_in (by omega) hf
   refine⟨fun hr=>?_,fun i hi=>?_⟩
   ·exfalso
    cases l with
    | nil=>cases hlen
    | cons k l =>
      have hm0:=(hm k).1 (by simp)
      obtain⟨o,ho⟩:∃ o,ops[k]? = some o:=⟨_,Array.getElem?_eq_getElem hm0.1⟩
      have:k∈Region.ready .any ops listed:=mem_ready.2 ⟨both k hm0.1 hm0.2,o,ho,fun e he hb=>by
       have hlt:=hA.top k o ho e he hb
       cases hx:listed.getD e.on false with
       | true=>rfl
       | false =>
         have hin:=(hm e.on).2 ⟨by omega,hx⟩
         rcases List.mem_cons.1 hin with h1|h1
         ·omega
         ·have:=(List.pairwise_cons.1 hs).1 _ h1
          omega⟩
      rw[hr] at this
      cases this
   ·obtain⟨hun,oi,hoi,hall⟩:=mem_ready.1 hi
    have hil:i<ops.size:=(Array.getElem?_eq_some_iff.1 hoi).1
    have hin:i∈l:=(hm i).2 ⟨hil,getD_both hun⟩
    obtain⟨ks,rest,rfl⟩:=List.append_of_mem hin
    have hpw:=List.pairwise_append.1 hs
    have hlt:∀ x∈ks++i::rest,x<ops.size:=fun x hx=>((hm x).1 hx).1
    have hks:∀ k∈ks,BL P ops k i=true\/(i<m/\C9 P ops fl k i=true):=fun k hk=>by
     have hki:k<i:=hpw.2.2 k hk i (by simp)
     rcases hA.pair i k hil hki with hw|hp
     ·have:=CZ hcl ops.size i k oi hoi hall hw
      have hk2:=((hm k).1 (by simp[hk])).2
      rw[hk2] at this
      cases this
     ·exact hp
    have hfr:wpOp P ops (Ac P ops B w0 fl Q) i (fun a' w' => (((∃ x∈ks++rest,x<m)->Same B w0 w')/\wpS P ops (Ac P ops B w0 fl Q) (Same B w0) m (ks++rest) a' w')\/((∀ x∈ks++rest,x ∉ fl)/\wpOps P ops (Ac P ops B w0 fl Q) (ks++rest) a' w')) a w:=by
     have hgt:∀ x∈rest,i<x:=fun x hx=>(List.pairwise_cons.1 hpw.2.1).1 x hx
     by_cases him:i<m
     ·have h4 : wpS P ops (Ac P ops B w0 fl Q) (Same B w0) m (i :: (ks ++ rest)) a w :=by
       cases ks with
       | nil=>exact h
       | cons k ks =>
         exact gN hA him (k::ks) a w (hSl ⟨i,hin,him⟩) hlt hs (fun x hx=>by
          rcases hks x hx with h|⟨_,h⟩
          ·exact gM h
          ·exact h) h
      exact wpOp_mono (fun a1 w1 hh=>.inl ⟨fun _=>hh.1 him,hh.2⟩) (show wpOp P ops _ i (fun a' w' => (i<m->Same B w0 w')/\wpS P ops (Ac P ops B w0 fl Q) (Same B w0) m (ks++rest) a' w') a w from h4)
     ·have gT : ∀ k ∈ ks,BL P ops k i = true :=fun k hk => by
       rcases hks k hk with h|⟨h,_⟩
       ·exact h
       ·exact absurd h him
      by_cases hip:kind P oi=0\/kind P oi=1
      ·obtain⟨v,hy,_,_,hK⟩:=U2 hA hoi hip (by omega) ks a w hlt hs gT h
       exact Yl.mk hoi hy (.inl ⟨fun⟨x,hx,hxm⟩=>hSl ⟨x,(by simp at hx ⊢;rcases hx with h|h<;>simp[h]),hxm⟩,hK⟩)
      ·have hq:=Yw hA ks a w hlt hs gT (Gy _ _ _ h)
       rw[wpOps_cons] at hq
       refine wpOp_mono (fun a1 w1 hh=>.inr ⟨fun x hx hf=>?_,hh⟩) hq
       rcases List.mem_append.1 hx with h1|h1
       ·obtain⟨ox,hox⟩:∃ o,ops[x]? = some o:=⟨_,Array.getElem?_eq_getElem (hlt x (by simp[h1]))⟩
        have hk1:=(hA.flm x hf).2 ox hox
        obtain⟨_,hc⟩:=IL (gT x h1) hox hoi
        rcases hc with hc|hc|⟨_,hc⟩
        ·exact hip (.inl hc)
        ·omega
        ·rcases hc with hc|hc
         ·exact hip (.inr hc)
         ·have h2:=(hA.flm x hf).1
          exact vR x hf i (by omega) oi hoi hc
       ·have:=hgt x h1
        have:=(hA.flm x hf).1
        omega
    refine wpOp_mono (fun a' w' hh=>?_) hfr
    rcases hh with ⟨hS',hK⟩|⟨hnf,hK⟩
    ·refine WJ hA vR fuel (ks++rest) _ a' w' (by simp at hlen ⊢;omega) (by simp[hsz]) ?_ ?_ ?_ hS' hK
     ·intro j o ho hl e he hb
      by_cases hij:i=j
      ·subst hij
       have:o=oi:=Option.some.inj (ho.symm.trans hoi)
       subst this
       exact getD_set_true (hall e he hb)
      ·refine getD_set_true (hcl j o ho ?_ e he hb)
       rw[getD_set_ne false (by exact hij)] at hl
       exact hl
     ·exact List.pairwise_append.2 ⟨hpw.1,(List.pairwise_cons.1 hpw.2.1).2,fun x hx y hy=>hpw.2.2 x hx y (by simp[hy])⟩
     ·intro x
      have hx:=hm x
      have hne:x∈ks++rest->i≠x:=by
       intro hxm e
       subst e
       rcases List.mem_append.1 hxm with h1|h1
       ·have:=hpw.2.2 i h1 i (by simp)
        omega
       ·have:=(List.pairwise_cons.1 hpw.2.1).1 i h1
        omega
      constructor
      ·intro hxm
       have h1:=hx.1 (by simp at hxm ⊢;rcases hxm with h|h<;>simp[h])
       exact⟨h1.1,by rw[getD_set_ne false (hne hxm)];exact h1.2⟩
      ·rintro⟨h1,h2⟩
       by_cases hix:i=x
       ·subst hix
        simp[hsz,h1] at h2
       ·rw[getD_set_ne false hix] at h2
        have:=hx.2 ⟨h1,h2⟩
        simp at this ⊢
        rcases this with h|h|h
        ·exact .inl h
        ·exact absurd h.symm hix
        ·exact .inr h
    ·refine WI hA fuel (ks++rest) _ a' w' (by simp at hlen ⊢;omega) (by simp[hsz]) ?_ ?_ ?_ hnf hK
     ·intro j o ho hl e he hb
      by_cases hij:i=j
      ·subst hij
       have:o=oi:=Option.some.inj (ho.symm.trans hoi)
       subst this
       exact getD_set_true (hall e he hb)
      ·refine getD_set_true (hcl j o ho ?_ e he hb)
       rw[getD_set_ne false (by exact hij)] at hl
       exact hl
     ·exact List.pairwise_append.2 ⟨hpw.1,(List.pairwise_cons.1 hpw.2.1).2,fun x hx y hy=>hpw.2.2 x hx y (by simp[hy])⟩
     ·intro x
      have hx:=hm x
      have hne:x∈ks++rest->i≠x:=by
       intro hxm e
       subst e
       rcases List.mem_append.1 hxm with h1|h1
       ·have:=hpw.2.2 i h1 i (by simp)
        omega
       ·have:=(List.pairwise_cons.1 hpw.2.1).1 i h1
        omega
      constructor
      ·intro hxm
       have h1:=hx.1 (by simp at hxm ⊢;rcases hxm with h|h<;>simp[h])
       exact⟨h1.1,by rw[getD_set_ne false (hne hxm)];exact h1.2⟩
      ·rintro⟨h1,h2⟩
       by_cases hix:i=x
       ·subst hix
        simp[hsz,h1] at h2
       ·rw[getD_set_ne false hix] at h2
        have:=hx.2 ⟨h1,h2⟩
        simp at this ⊢
        rcases this with h|h|h
        ·exact .inl h
        ·exact absurd h.symm hix
        ·exact .inr h
theorem upM (hA:OkM P ops fl m):∀ (l:List Nat) (a:Act) (w:World),(∀ x∈l,x<ops.size)->l.Pairwise (· < ·)->((∃ x∈l,x<m)->Same B w0 w)->
 wpC P ops (Ac P ops B w0 fl Q) (Same B w0) m l a w->wpS P ops (Ac P ops B w0 fl Q) (Same B w0) m l a w
 | [],_,_,_,_,_,h=>h
 | i :: l,a,w,hl,hs,hS,h => by
   have h0:=OE _ _ _ h
   have hs':=List.pairwise_cons.1 hs
   obtain⟨o,hi⟩:∃ o,ops[i]? = some o:=⟨_,Array.getElem?_eq_getElem (hl i (by simp))⟩
   have h:wpOp P ops (Ac P ops B w0 fl Q) i (fun a' w' => (i<m->wild P ops i=true->Same B w0 w')/\wpC P ops (Ac P ops B w0 fl Q) (Same B w0) m l a' w') a w:=h
   show wpOp P ops (Ac P ops B w0 fl Q) i (fun a' w' => (i<m->Same B w0 w')/\wpS P ops (Ac P ops B w0 fl Q) (Same B w0) m l a' w') a w
   have Po:∀ a' w',(i<m->Same B w0 w')->wpC P ops (Ac P ops B w0 fl Q) (Same B w0) m l a' w' -> wpS P ops (Ac P ops B w0 fl Q) (Same B w0) m l a' w':=fun a' w' hS' hh=>
    upM hA l a' w' (fun x hx=>hl x (by simp[hx])) hs'.2 (fun⟨x,hx,hxm⟩=>hS' (by have:=hs'.1 x hx;omega)) hh
   by_cases him:i<m
   ·have hSw:=hS ⟨i,by simp,him⟩
    by_cases hwd:wild P ops i=true
    ·exact wpOp_mono (fun a' w' hh=>⟨fun hm=>hh.1 hm hwd,Po a' w' (fun hm=>hh.1 hm hwd) hh.2⟩) h
    ·have hn : Region.wanted o (yielded ops a.tmps) = true → LB P (execOp a.eval o) :=by
      simp only[wild,hi,Bool.and_eq_true,bne_iff_ne,ne_eq,not_and,Classical.not_not] at hwd
      intro hw
      by_cases h0k:kind P o=0
      ·have h0g:wpOps P ops (Ends P ops (fun _ a w=>allIn B w0 ops a fl/\Q .normal a w)) (i::l) a w:=Cc (fun e a w he=>Bz he) _ _ _ h0
       exact(BK hl h0g hi h0k (fun hn x hx o' ho' t ht=>hA.keep i o hi (.inl hn) x (by
        rcases List.mem_cons.1 hx with h|h
        ·omega
        ·have:=hs'.1 x h;omega) o' ho' t ht) hw).news
      ·by_cases h1k:kind P o=1
       ·exact(C8 h1k).news
       ·exact FM (hwd ⟨h0k,h1k⟩)
     obtain⟨v,w',hy,hc,hh⟩:=Dn Ac.Br hi hn h
     have UY : Same B w0 w':=hSw.more (hy.more hn)
     exact Yl.mk hi hy ⟨fun _=>UY,Po _ _ (fun _=>UY) hh⟩
   ·exact wpOp_mono (fun a' w' hh=>⟨fun hm=>absurd hm him,Po a' w' (fun hm=>absurd hm him) hh.2⟩) h
end
def mZ (P:Program)(ops:Array Oper)(m:Nat):Bool:=(List.range ops.size).all fun i=>decide (i<m) || (match ops[i]? with|some o=>kind P o != 2|none=>true)
theorem QN {id:Nat}{l:List Oper}{a:Act}{w:World}(B:Nat->Prop)(fl:List Nat)(m:Nat)(cs:List Nat)(hm:P.follows .mixedOrders=true)(hA:(U1 P l.toArray fl m&&mZ P l.toArray m)=true)(hC:NC P l.toArray m cs l.length 0=true)
 (h:Bg P l.toArray (Ac P l.toArray B w.drew fl Q) (Same B w.drew) cs l a w.drew):(Code.region id l.toArray true).wp P Q a w:=by
 rw[Bool.and_eq_true] at hA
 obtain⟨hA,hN⟩:=hA
 have hA:=WH hA
 refine Code.wp_mono (Q:=Ac P l.toArray B w.drew fl Q) (fun e a' w' he=>by obtain⟨rfl,_,_,h⟩:=he;exact h) (wp_region_any hm ?_)
 have hlt:∀ x∈List.range l.toArray.size,x<l.toArray.size:=fun x hx=>List.mem_range.1 hx
 refine WJ hA (fun x _ i hi oi hoi hk=>?_) l.toArray.size (List.range l.toArray.size) _ a _ (by simp) (by simp) ?_ List.pairwise_lt_range (fun x=>by
  constructor
  ·intro hx
   have:=List.mem_range.1 hx
   exact⟨this,by simp only[Array.getD_eq_getD_getElem?];simp at this ⊢;simp[this]⟩
  ·exact fun hx=>List.mem_range.2 hx.1) (fun _=>Same.refl _ _) ?_
 ·have hil:i<l.toArray.size:=(Array.getElem?_eq_some_iff.1 hoi).1
  have:=(List.all_eq_true.1 hN) i (List.mem_range.2 hil)
  rw[hoi] at this
  simp[hk] at this
  omega
 ·intro j o ho hl
  rw[getD_replicate_false] at hl
  cases hl
 ·refine upM hA _ _ _ hlt List.pairwise_lt_range (fun _=>Same.refl _ _) ?_
  rw[List.range_eq_range',show l.toArray.size=l.length from by simp]
  exact Kg cs l 0 a _ (by simp) hC h
end
end Lex
section
open Go
theorem Lex.zm{P:Program}{id:Nat}{l:List Oper}{Q:Exit->Act->World->Prop}{a:Act}{w:World}(B:Nat->Prop)(fl:List Nat)(m:Nat)(cs:List Nat)(h:Lex.Bg P l.toArray (Lex.Ac P l.toArray B w.drew fl Q) (Lex.Same B w.drew) cs l a w.drew)(hm:P.follows .mixedOrders=true:=by kernel_rfl)(hA:(Lex.U1 P l.toArray fl m&&Lex.mZ P l.toArray m)=true:=by kernel_rfl)(hC:Lex.NC P l.toArray m cs l.length 0=true:=by kernel_rfl):(Code.region id l.toArray true).wp P Q a w:=Lex.QN B fl m cs hm hA hC h
end
end
section
open Go Go.RowKit Go.Maps
namespace Own
theorem IQ (b i:Nat)(p:Ab)(ag:Bool):(Bl b i p ag).sig.chains.length=67/\(Bl b i p ag).sig.path.length=1/\(Bl b i p ag).name.size=2:=by
 unfold Bl Sig.Bb
 dsimp only
 refine⟨by simp,rfl,rfl⟩
end Own
theorem WK (W:World)(n:Int)(a:Option Addr)(k c:Nat):(Instr.field 24 (.agg #[.int .i64 n,.slice a k c]) 1).run Tryz.prog W=.ok (.slice a k c) W:=by kernel_rfl
theorem IU (b i:Nat)(p:Own.Ab)(ag:Bool)(v:Value)(w:World)(hb:b<256)(hi:i<2)(h0:0<=p.id)(h1:p.id<9223372036854775808)(h2:p.path.size<=1000000)(h3:p.digest.size<=1000000)(A:Own.Ce)(hA:A=Own.Bl b i p ag){bi ii:Int}(hbi:bi=b)(hii:ii=i):
 Calls Tryz.prog 35 #[.int .u8 bi,.int .i64 ii,.agg #[.int .i64 p.id,.string p.path,.string p.digest,.int .i64 p.opened,.int .i64 p.expires,v],.bool ag] w (QJ w A):=by
 rw[hA,hbi,hii]
 exact O4 b i p ag v w hb hi h0 h1 h2 h3
theorem WL (w:World)(hM:Fx w):Calls Tryz.prog 10 #[] w fun e w' => e=.returned (.bool true)/\Below w.heap.size w w':=by
 obtain⟨q0,q1,q2,q3,o0,o1,o2,o3,p,m,h⟩:=Own.awP
 have hsp:=fun W=>JL 3 2 W (by omega)
 have hdg:=fun W=>Jd 1 W (by omega)
 have hsb:=fun W (hW:Below w.heap.size w W)=>FV ⟨5,[]⟩ 10 3 ⟨#[97,47,98]⟩ (Az.Ah 1) (.slice none 0 0) W (hM.below hW) (Af.nil _ _) (by simp) (by simp)
 simp only[h.sub] at hsb
 have hln:q0.props.length=1:=by rw[h.q0p];rfl
 have gU:q0.props=[p]:=h.q0p
 have hso:o0.spaces=[Own.Bn 3 2]:=by rw[h.o0e]
 have hko:o0.keys=[]:=by rw[h.o0e]
 have hco:o0.count=0:=by rw[h.o0e]
 rw[<- hso] at hsp
 obtain⟨A0,hA0⟩:∃ A,A=Own.Bl 0 0 p true:=⟨_,rfl⟩
 obtain⟨A1,hA1⟩:∃ A,A=Own.Bl 1 0 p true:=⟨_,rfl⟩
 obtain⟨A2,hA2⟩:∃ A,A=Own.Bl 2 0 p false:=⟨_,rfl⟩
 have hl0:=Own.IQ 0 0 p true;have hl1:=Own.IQ 1 0 p true;have hl2:=Own.IQ 2 0 p false
 have hv1:=h.v1;have hv2:=h.v2;have hv3:=h.v3
 rw[<- hA0] at hv1 hl0;rw[<- hA1] at hv2 hl1;rw[<- hA2] at hv3 hl2
 have HSP:=zh hsp;have HDG:=zh hdg;have HSB:=zh hsb;have HLN:=zh hln;have qb:=zh gU;have HKO:=zh hko;have HCO:=zh hco;have HAW:=zh h;have HPF:=zh (And.intro h.id0 (And.intro h.id1 (And.intro h.pl h.dl)));have HMX:=zh hM
 have HA0:=zh hA0;have HA1:=zh hA1;have HA2:=zh hA2;have HL0:=zh hl0;have HL1:=zh hl1;have HL2:=zh hl2;have HV1:=zh hv1;have HV2:=zh hv2;have HV3:=zh hv3
 generalize Az.Ah 1=DG at HDG HSB
 clear hsp hdg hsb hln gU hso hko hco h hM hA0 hA1 hA2 hl0 hl1 hl2 hv1 hv2 hv3
 go_enter Tryz.func10,Tryz.ntmps10
 go_wp2_with fail
 refine(HSP.out _).mono ?_
 rintro e w1 ⟨sv,rfl,hS,hb1⟩
 obtain⟨sa,sc,rfl⟩:=hS.len
 have hb2:=hb1.trans (((Below.refl w1.heap.size w1).alloc (Nat.le_refl _) (.cells #[.int .i64 0,.slice sa o0.spaces.length sc,.slice none 0 0] 38)).mono hb1.size)
 obtain⟨gO,hgO⟩:∃ g,g=w1.heap.size:=⟨_,rfl⟩
 have hO2:=At.new w1 38 #[.int .i64 0,.slice sa o0.spaces.length sc,.slice none 0 0]
 have hS2:=hS.below ((Below.refl w1.heap.size w1).alloc (Nat.le_refl _) (.cells #[.int .i64 0,.slice sa o0.spaces.length sc,.slice none 0 0] 38))
 have vS:w.heap.size<=gO:=by rw[hgO];exact hb1.size
 rw[<- hgO] at hO2
 have HB2:=zh hb2;have HO2:=zh hO2;have HS2:=zh hS2;have HGO:=zh hgO
 clear hb1 hb2 hO2 hS hS2 hgO
 go_upto_region 2 with fail
 rw[<- HGO.out]
 generalize w1.alloc (.cells #[.int .i64 0,.slice sa o0.spaces.length sc,.slice none 0 0] 38)=w2 at*
 clear HGO
 go_wp2_with fail
 refine(HDG.out _).mono ?_
 rintro e w3 ⟨rfl,hb3⟩
 have HB3:=zh (HB2.out.trans (hb3.mono HB2.out.size));have HO3:=zh (HO2.out.below hb3 HO2.out.lt);have HS3:=zh (HS2.out.below hb3)
 clear hb3 HB2 HO2 HS2
 go_wp2_with fail
 refine(HSB.out _ HB3.out).mono ?_
 rintro e w4 ⟨⟨qv,rfl,qv',rfl,hpo⟩,hb4⟩
 obtain⟨qa,qc,rfl⟩:=hpo.one
 have hp4:Own.AX w4 (.slice qa q0.props.length qc) q0.props:=hpo.props
 have Ml:Below w4.heap.size w4 (w4.alloc (.cells #[.int .i64 q0.next,.slice qa q0.props.length qc] 24)):=zb
 have hb5:=hb4.trans (Ml.mono hb4.size)
 have hQ5:=At.new w4 24 #[.int .i64 q0.next,.slice qa q0.props.length qc]
 have hO5:=HO3.out.below hb5 HO3.out.lt
 have hls:LS (w4.alloc (.cells #[.int .i64 q0.next,.slice qa q0.props.length qc] 24)) gO w4.heap.size o0 q0 sa sc none 0 qa qc:=
  ⟨by rw[HCO.out,HKO.out];exact hO5,hQ5,HS3.out.below hb5,by rw[HKO.out];exact Af.nil _ _,hp4.below Ml⟩
 obtain⟨gQ,hgQ⟩:∃ g,g=w4.heap.size:=⟨_,rfl⟩
 have vT:w.heap.size<=gQ:=by rw[hgQ];exact(HB3.out.trans (hb4.mono HB3.out.size)).size
 rw[<- hgQ] at hls
 have HB5:=zh (HB3.out.trans (hb5.mono HB3.out.size));have L5:=zh hls;have HGQ:=zh hgQ
 clear hp4 Ml hb5 hQ5 hO5 hls hgQ hb4 hpo HB3 HO3 HS3
 go_upto_region 3 with fail
 rw[<- HGQ.out]
 generalize w4.alloc (.cells #[.int .i64 q0.next,.slice qa q0.props.length qc] 24)=w5 at*
 clear HGQ
 obtain⟨q0c,q1c⟩:=L5.out.atQ.c2
 have d1:((q0.props.length:Int) != 1)=false:=by rw[HLN.out];rfl
 have d0:0<q0.props.length:=by rw[HLN.out];omega
 have hvd:=Dv q0 (.slice qa q0.props.length qc) w5 (HMX.out.below HB5.out) L5.out.ps (by rw[HLN.out];omega) (fun x hx=>by have:=HAW.out.f0.lv x hx;omega)
 rw[HAW.out.ok0] at hvd
 have HVD:=zh hvd;clear hvd
 go_wp2_with fail
 refine HVD.out.mono ?_
 rintro e w6 ⟨rfl,hb6⟩
 have L6:=zh (L5.out.below hb6);have HB6:=zh (HB5.out.trans (hb6.mono HB5.out.size))
 clear hb6 q0c q1c L5 HB5 HVD
 obtain⟨q0c,q1c⟩:=L6.out.atQ.c2
 obtain⟨b,o',vv,hqa,hbl,e0,e1,e2,e3,e4,e5,hvv⟩:=Own.AX.cells L6.out.ps d0
 obtain⟨va,vc,rfl⟩:=hvv.len
 generalize q0.props[0].Aq.length=vl at*
 clear hvv
 subst hqa
 simp only[Nat.zero_mul,Nat.add_zero,qb.out,List.getElem_cons_zero] at e0 e1 e2 e3 e4 e5
 have hb7:Below w6.heap.size w6 (w6.alloc (.cells #[.int .i64 p.id,.string p.path,.string p.digest,.int .i64 p.opened,.int .i64 p.expires,.slice va vl vc] 46)):=zb
 have hP7:=At.new w6 46 #[.int .i64 p.id,.string p.path,.string p.digest,.int .i64 p.opened,.int .i64 p.expires,.slice va vl vc]
 obtain⟨gP,hgP⟩:∃ g,g=w6.heap.size:=⟨_,rfl⟩
 rw[<- hgP] at hP7
 have L7:=zh (L6.out.below hb7);have HB7:=zh (HB6.out.trans (hb7.mono HB6.out.size));have HP7:=zh hP7;have HGP:=zh hgP
 clear hb7 hP7 hgP L6 HB6
 go_upto_region 6 with fail
 rw[<- HGP.out]
 generalize w6.alloc (.cells #[.int .i64 p.id,.string p.path,.string p.digest,.int .i64 p.opened,.int .i64 p.expires,.slice va vl vc] 46)=w7 at*
 clear HGP q0c q1c e0 e1 e2 e3 e4 e5
 have WM:=HPF.out.1;have WO:=HPF.out.2.1;have WQ:=HPF.out.2.2.1;have hdl0:=HPF.out.2.2.2
 obtain⟨q0c,q1c⟩:=L7.out.atQ.c2;obtain⟨o0c,o1c,o2c⟩:=L7.out.atO.c3
 obtain⟨p0c,p1c,p2c,p3c,p4c,p5c⟩:=HP7.out.c6
 have HXQ:=zh (zi q0c)
 have HXO:=zh (zi o0c)
 have QO:=zh (IU 0 0 p true (.slice va vl vc) w7.drew (by omega) (by omega) WM WO WQ hdl0 A0 HA0.out (bi:=0) (ii:=0) rfl rfl)
 clear WM WO WQ hdl0
 go_wp2_with fail
 refine Lex.zm (fun k=>k=gQ\/k=gO) [0,1] 5 [5] ?_
 simp only[Lex.Bg,zd]
 go_wp2_with fail
 refine QO.out.mono ?_
 rintro e za ⟨cv,pv,rfl,hoc,hop,hb⟩
 have hbx:Below w7.heap.size w7 za:=(Below.refl w7.heap.size w7).drew.trans hb
 have qd:=zh (L7.out.below hbx);have Za:=zh (HB7.out.trans (hbx.mono HB7.out.size));have gV:=zh (HP7.out.below hbx HP7.out.lt);have kV:=zh hbx;have OC:=zh hoc;have OP:=zh hop
 clear hb hbx hoc hop q0c q1c o0c o1c o2c p0c p1c p2c p3c p4c p5c QO
 have HVT:=zh (qd.out.EZ (HMX.out.below Za.out) HAW.out.f0 5 true A0 OC.out OP.out HL0.out.1.symm HL0.out.2.1.symm (by have h1:=HL0.out.1;have h2:=HL0.out.2.1;have h3:=HL0.out.2.2;omega) HV1.out)
 go_wp2_with fail
 refine Lex.Mid.intro (fun k _ hkl=>kV.out.block _ hkl) ?_
 obtain⟨zax,zay,zaz,rfl⟩:=Ae OC.out
 obtain⟨za0,za1,za2,rfl⟩:=Ae OP.out
 go_wp2_with fail
 refine HVT.out.mono ?_
 rintro e gW ⟨iq,iw,iy,iA,iB,iC,rfl,hs,hk,hp,hb⟩
 dsimp only at hs hk hp ⊢
 have hbx:=kV.out.trans (hb.mono kV.out.size)
 have hlb:=qd.out.below hb
 have hlp:=hlb.put hs hk hp
 have hbw:=Za.out.trans (hb.mono Za.out.size)
 have Zb:=zh (gV.out.below hb gV.out.lt);have vU:=zh hbx;have QS:=zh hlb;have vV:=zh hlp;have ng:=zh hbw
 clear hs hk hp hb hbx hlb hlp hbw HVT qd Za gV OC OP
 obtain⟨q0c,q1c⟩:=QS.out.atQ.c2;obtain⟨o0c,o1c,o2c⟩:=QS.out.atO.c3
 have q0f:=QS.out.atQ.free 0;have q1f:=QS.out.atQ.free 1;have o0f:=QS.out.atO.free 0;have o1f:=QS.out.atO.free 1;have o2f:=QS.out.atO.free 2
 have hne:=QS.out.ne
 have hne' : gQ≠gO:=fun e=>hne e.symm
 go_wp2_with fail
 refine Lex.zk ⟨⟨.inl rfl,HXQ.out⟩,⟨.inr rfl,HXO.out⟩,trivial⟩ ?_
 have HBc:=zh (ng.out.trans (Nt gW gO gQ o1 q1 iq iw iy iA iB iC vS vT))
 have iD:gP≠gO:=Zb.out.ne QS.out.atO (by decide)
 have iE:gP≠gQ:=Zb.out.ne QS.out.atQ (by decide)
 have HPc:=zh (show At (lsW gW gO gQ o1 q1 iq iw iy iA iB iC) gP 46 #[.int .i64 p.id,.string p.path,.string p.digest,.int .i64 p.opened,.int .i64 p.expires,.slice va vl vc] by
  unfold At
  rw[Ta _ _ _ _ _ _ _ _ _ _ _ gP iD iE]
  exact Zb.out)
 clear q0c q1c o0c o1c o2c q0f q1f o0f o1f o2f hne hne' iD iE HXQ HXO kV vU QS ng Zb
 go_upto_region 7 with fail
 have hLW:((((gW.setCell ⟨gQ,0,none⟩ (.int .i64 (q1).next)).setCell ⟨gQ,1,none⟩ (.slice iB (q1).props.length iC)).setCell ⟨gO,0,none⟩ (.int .i64 (o1).count)).setCell ⟨gO,1,none⟩ (.slice iq (o1).spaces.length iw)).setCell ⟨gO,2,none⟩ (.slice iy (o1).keys.length iA)=lsW gW gO gQ o1 q1 iq iw iy iA iB iC:=rfl
 rw[hLW]
 clear hLW
 generalize lsW gW gO gQ o1 q1 iq iw iy iA iB iC=zq at*
 have kW:=HBc;have qg:=HPc;have Lx1:=vV
 clear HBc HPc vV
 have hag:=GV q1 o1 5 _ _ _ zq (HMX.out.below kW.out) Lx1.out.ps Lx1.out.sp Lx1.out.ks HAW.out.f1.lp HAW.out.f1.lv (by have:=HAW.out.f1.ls;omega) (by have:=HAW.out.f1.lk;omega) (fun x hx=>by have:=HAW.out.f1.lm x hx;omega)
 rw[HAW.out.a1] at hag
 have HAG:=zh hag
 clear hag
 obtain⟨q0c,q1c⟩:=Lx1.out.atQ.c2;obtain⟨o0c,o1c,o2c⟩:=Lx1.out.atO.c3
 go_wp2_with fail
 refine HAG.out.mono ?_
 rintro e iF ⟨rfl,hb⟩
 have qj:=zh (Lx1.out.below hb);have ni:=zh (kW.out.trans (hb.mono kW.out.size));have iG:=zh (qg.out.below hb qg.out.lt)
 clear hb q0c q1c o0c o1c o2c HAG Lx1 kW qg
 go_upto_region 9 with fail
 have WM:=HPF.out.1;have WO:=HPF.out.2.1;have WQ:=HPF.out.2.2.1;have hdl0:=HPF.out.2.2.2
 obtain⟨q0c,q1c⟩:=qj.out.atQ.c2;obtain⟨o0c,o1c,o2c⟩:=qj.out.atO.c3
 obtain⟨p0c,p1c,p2c,p3c,p4c,p5c⟩:=iG.out.c6
 have HXQ:=zh (zi q0c)
 have HXO:=zh (zi o0c)
 have QO:=zh (IU 1 0 p true (.slice va vl vc) iF.drew (by omega) (by omega) WM WO WQ hdl0 A1 HA1.out (bi:=1) (ii:=0) rfl rfl)
 clear WM WO WQ hdl0
 go_wp2_with fail
 refine Lex.zm (fun k=>k=gQ\/k=gO) [0,1] 5 [5] ?_
 simp only[Lex.Bg,zd]
 go_wp2_with fail
 refine QO.out.mono ?_
 rintro e zu ⟨cv,pv,rfl,hoc,hop,hb⟩
 have hbx:Below iF.heap.size iF zu:=(Below.refl iF.heap.size iF).drew.trans hb
 have ql:=zh (qj.out.below hbx);have Zc:=zh (ni.out.trans (hbx.mono ni.out.size));have iH:=zh (iG.out.below hbx iG.out.lt);have kX:=zh hbx;have OC:=zh hoc;have OP:=zh hop
 clear hb hbx hoc hop q0c q1c o0c o1c o2c p0c p1c p2c p3c p4c p5c QO
 have HVT:=zh (ql.out.EZ (HMX.out.below Zc.out) HAW.out.f1 5 true A1 OC.out OP.out HL1.out.1.symm HL1.out.2.1.symm (by have h1:=HL1.out.1;have h2:=HL1.out.2.1;have h3:=HL1.out.2.2;omega) HV2.out)
 go_wp2_with fail
 refine Lex.Mid.intro (fun k _ hkl=>kX.out.block _ hkl) ?_
 obtain⟨za3,za4,za5,rfl⟩:=Ae OC.out
 obtain⟨za6,za7,za8,rfl⟩:=Ae OP.out
 go_wp2_with fail
 refine HVT.out.mono ?_
 rintro e iI ⟨iJ,iK,iL,iM,iN,iO,rfl,hs,hk,hp,hb⟩
 dsimp only at hs hk hp ⊢
 have hbx:=kX.out.trans (hb.mono kX.out.size)
 have hlb:=ql.out.below hb
 have hlp:=hlb.put hs hk hp
 have hbw:=Zc.out.trans (hb.mono Zc.out.size)
 have Zd:=zh (iH.out.below hb iH.out.lt);have vW:=zh hbx;have QT:=zh hlb;have vX:=zh hlp;have nk:=zh hbw
 clear hs hk hp hb hbx hlb hlp hbw HVT ql Zc iH OC OP
 obtain⟨q0c,q1c⟩:=QT.out.atQ.c2;obtain⟨o0c,o1c,o2c⟩:=QT.out.atO.c3
 have q0f:=QT.out.atQ.free 0;have q1f:=QT.out.atQ.free 1;have o0f:=QT.out.atO.free 0;have o1f:=QT.out.atO.free 1;have o2f:=QT.out.atO.free 2
 have hne:=QT.out.ne
 have hne' : gQ≠gO:=fun e=>hne e.symm
 go_wp2_with fail
 refine Lex.zk ⟨⟨.inl rfl,HXQ.out⟩,⟨.inr rfl,HXO.out⟩,trivial⟩ ?_
 have HBc:=zh (nk.out.trans (Nt iI gO gQ o2 q2 iJ iK iL iM iN iO vS vT))
 have iD:gP≠gO:=Zd.out.ne QT.out.atO (by decide)
 have iE:gP≠gQ:=Zd.out.ne QT.out.atQ (by decide)
 have HPc:=zh (show At (lsW iI gO gQ o2 q2 iJ iK iL iM iN iO) gP 46 #[.int .i64 p.id,.string p.path,.string p.digest,.int .i64 p.opened,.int .i64 p.expires,.slice va vl vc] by
  unfold At
  rw[Ta _ _ _ _ _ _ _ _ _ _ _ gP iD iE]
  exact Zd.out)
 clear q0c q1c o0c o1c o2c q0f q1f o0f o1f o2f hne hne' iD iE HXQ HXO kX vW QT nk Zd
 go_upto_region 10 with fail
 have hLW:((((iI.setCell ⟨gQ,0,none⟩ (.int .i64 (q2).next)).setCell ⟨gQ,1,none⟩ (.slice iN (q2).props.length iO)).setCell ⟨gO,0,none⟩ (.int .i64 (o2).count)).setCell ⟨gO,1,none⟩ (.slice iJ (o2).spaces.length iK)).setCell ⟨gO,2,none⟩ (.slice iL (o2).keys.length iM)=lsW iI gO gQ o2 q2 iJ iK iL iM iN iO:=rfl
 rw[hLW]
 clear hLW
 generalize lsW iI gO gQ o2 q2 iJ iK iL iM iN iO=zw at*
 have kY:=HBc;have qm:=HPc;have Lx2:=vX
 clear HBc HPc vX
 have hag:=GV q2 o2 5 _ _ _ zw (HMX.out.below kY.out) Lx2.out.ps Lx2.out.sp Lx2.out.ks HAW.out.f2.lp HAW.out.f2.lv (by have:=HAW.out.f2.ls;omega) (by have:=HAW.out.f2.lk;omega) (fun x hx=>by have:=HAW.out.f2.lm x hx;omega)
 rw[HAW.out.a2] at hag
 have HAG:=zh hag
 clear hag
 obtain⟨q0c,q1c⟩:=Lx2.out.atQ.c2;obtain⟨o0c,o1c,o2c⟩:=Lx2.out.atO.c3
 go_wp2_with fail
 refine HAG.out.mono ?_
 rintro e Yx ⟨rfl,hb⟩
 have aY:=zh (Lx2.out.below hb);have Ze:=zh (kY.out.trans (hb.mono kY.out.size));have iP:=zh (qm.out.below hb qm.out.lt)
 clear hb q0c q1c o0c o1c o2c HAG Lx2 kY qm
 go_upto_region 12 with fail
 have WM:=HPF.out.1;have WO:=HPF.out.2.1;have WQ:=HPF.out.2.2.1;have hdl0:=HPF.out.2.2.2
 obtain⟨q0c,q1c⟩:=aY.out.atQ.c2;obtain⟨o0c,o1c,o2c⟩:=aY.out.atO.c3
 obtain⟨p0c,p1c,p2c,p3c,p4c,p5c⟩:=iP.out.c6
 have HXQ:=zh (zi q0c)
 have HXO:=zh (zi o0c)
 have QO:=zh (fun W' => IU 2 0 p false (.slice va vl vc) W' (by omega) (by omega) WM WO WQ hdl0 A2 HA2.out (bi:=2) (ii:=0) rfl rfl)
 clear WM WO WQ hdl0
 go_wp2_with fail
 refine Lex.Cj (fun k=>k=gQ\/k=gO) [0,1] [10,11] 14 [.pure 4,.call,.call,.pure 4,.new,.new] [1,1] (by kernel_rfl) (by kernel_rfl) (by kernel_rfl) ?_
 simp only[Lex.Fq,Lex.Bg,zd]
 have BD:=zh (show Below Yx.heap.size Yx Yx.drew from(Below.refl _ _).drew)
 have ZD:=zh (show Yx.drew.heap.size=Yx.heap.size by rw[Ar])
 go_wp2_with fail
 refine Lex.GU.intro ?_
 intro za9 hg
 have iQ:=zh (BD.out.trans (hg.mono BD.out.size));have iR:=zh hg
 clear hg q0c q1c o0c o1c o2c p0c p1c p2c p3c p4c p5c
 go_wp2_with fail
 refine(QO.out _).mono ?_
 rintro e zaA ⟨cv,pv,rfl,hoc,hop,hb⟩
 obtain⟨zaB,zaC,zaD,rfl⟩:=Ae hoc
 obtain⟨zaE,zaF,zaG,rfl⟩:=Ae hop
 have iT:=zh (iQ.out.trans (hb.mono iQ.out.size));have Zf:=zh (iR.out.trans (hb.mono iR.out.size));have BB:=zh hb;have OC:=zh hoc;have OP:=zh hop
 clear hb hoc hop
 go_wp2_with fail
 refine Lex.JR.intro (fun k _ hkl=>Zf.out.block _ hkl) (Lex.Kept.of_below BB.out) ?_
 intro zaH hg
 have hbc:=iT.out.trans (hg.mono iT.out.size)
 have hlc:=aY.out.below hbc
 have HVT:=zh (hlc.EZ (HMX.out.below (Ze.out.trans (hbc.mono Ze.out.size))) HAW.out.f2 5 false A2 (own_below OC.out hg) (own_below OP.out hg) HL2.out.1.symm HL2.out.2.1.symm (by have h1:=HL2.out.1;have h2:=HL2.out.2.1;have h3:=HL2.out.2.2;omega) HV3.out)
 have iU:=zh hbc;have iV:=zh (Zf.out.trans (hg.mono Zf.out.size))
 clear hbc hlc hg BB OC OP QO iQ iR
 go_wp2_with fail
 refine HVT.out.mono ?_
 rintro e zaI ⟨kZ,lg,lq,lu,l5,l6,rfl,hs,hk,hp,hb⟩
 dsimp only at hs hk hp ⊢
 have iW:=zh (iU.out.trans (hb.mono iU.out.size));have Zg:=zh (iV.out.trans (hb.mono iV.out.size));have BB:=zh hb
 have HS:=zh hs;have HK:=zh hk;have HPP:=zh hp
 clear hs hk hp hb HVT iT Zf
 go_wp2_with fail
 refine Lex.JR.intro (fun k _ hkl=>Zg.out.block _ hkl) (Lex.Kept.of_below BB.out) ?_
 go_wp2_with fail
 refine Lex.GU.intro ?_
 intro zx hwe
 go_wp2_with fail
 refine Lex.Nr.intro (fun zaJ hg hkk _=>?_)
 have hs:=hkk.at_
 obtain⟨RP,hgq⟩:∃ g,g=zx.heap.size:=⟨_,rfl⟩
 have vY:Yx.heap.size<=RP:=by rw[hgq,<- ZD.out];exact hwe
 rw[<- hgq] at hs
 have iX:=zh (iW.out.trans (hg.mono iW.out.size));have iY:=zh (Zg.out.trans (hg.mono Zg.out.size));have iZ:=zh hs;have HS1:=zh (HS.out.below hg);have HK1:=zh (HK.out.below hg);have vZ:=zh (HPP.out.below hg)
 rw[<- hgq]
 clear hg hkk hs hgq hwe HS HK HPP BB iU iV
 intro zy hwh
 go_wp2_with fail
 refine Lex.Nr.intro (fun jc hg hkk _=>?_)
 have hs:=hkk.at_
 obtain⟨RQ,hgo⟩:∃ g,g=zy.heap.size:=⟨_,rfl⟩
 have wm:Yx.heap.size<=RQ:=by rw[hgo,<- ZD.out];exact hwh
 rw[<- hgo] at hs
 have hlz:LS jc RQ RP Own.Ap.none Own.Queue.none none 0 none 0 none 0:=⟨hs,iZ.out.below hg iZ.out.lt,Af.nil _ _,Af.nil _ _,Af.nil _ _⟩
 have O5:=zh hlz
 have hlp:=hlz.put (HS1.out.below hg) (HK1.out.below hg) (vZ.out.below hg)
 have hbe:=iX.out.trans (hg.mono iX.out.size)
 have hbw:=hbe.trans (Nt jc RQ RP o3 q3 kZ lg lq lu l5 l6 wm vY)
 have jd:=zh (iY.out.trans (hg.mono iY.out.size));have aZ:=zh hlp;have wu:=zh (aY.out.below hbw);have wB:=zh (iP.out.below hbw iP.out.lt);have Zh:=zh (Ze.out.trans (hbw.mono Ze.out.size))
 rw[<- hgo]
 clear hg hkk hs hgo hwh hlz hlp hbe hbw HS1 HK1 vZ iZ iX iY iW Zg
 have q0c:=O5.out.atQ.cell 0;have q1c:=O5.out.atQ.cell 1;have o0c:=O5.out.atO.cell 0;have o1c:=O5.out.atO.cell 1;have o2c:=O5.out.atO.cell 2
 simp only[List.getElem?_toArray,List.getElem?_cons_zero,List.getElem?_cons_succ,Own.Ap.none,Own.Queue.none,List.length_nil] at q0c q1c o0c o1c o2c
 have q0f:=O5.out.atQ.free 0;have q1f:=O5.out.atQ.free 1;have o0f:=O5.out.atO.free 0;have o1f:=O5.out.atO.free 1;have o2f:=O5.out.atO.free 2
 have hne:=O5.out.ne
 have hne' : RP≠RQ:=fun e=>hne e.symm
 have hlQ:=aY.out.atQ.lt;have hlO:=aY.out.atO.lt
 go_wp2_with fail
 refine Lex.Mid.intro (fun k hk hkl=>by
  have h3:k≠RP:=by rcases hk with hk|hk<;>omega
  rw[zo h3,zo h3]
  exact jd.out.block _ hkl) ?_
 go_wp2_with fail
 refine Lex.Mid.intro (fun k hk hkl=>by
  have h3:k≠RP:=by rcases hk with hk|hk<;>omega
  have h4:k≠RQ:=by rcases hk with hk|hk<;>omega
  rw[zo h4,zo h4,zo h4,zo h3,zo h3]
  exact jd.out.block _ hkl) ?_
 go_wp2_with fail
 refine Lex.zk ⟨⟨.inl rfl,HXQ.out⟩,⟨.inr rfl,HXO.out⟩,trivial⟩ ?_
 clear q0c q1c o0c o1c o2c q0f q1f o0f o1f o2f hne hne' hlQ hlO HXQ HXO O5 jd BD ZD
 go_upto_region 13 with fail
 have hLW:((((jc.setCell ⟨RP,0,none⟩ (.int .i64 q3.next)).setCell ⟨RP,1,none⟩ (.slice l5 q3.props.length l6)).setCell ⟨RQ,0,none⟩ (.int .i64 o3.count)).setCell ⟨RQ,1,none⟩ (.slice kZ o3.spaces.length lg)).setCell ⟨RQ,2,none⟩ (.slice lq o3.keys.length lu)=lsW jc RQ RP o3 q3 kZ lg lq lu l5 l6:=rfl
 rw[hLW]
 clear hLW
 generalize lsW jc RQ RP o3 q3 kZ lg lq lu l5 l6=wx4 at*
 have hag:=GV q3 o3 5 _ _ _ wx4 (HMX.out.below Zh.out) aZ.out.ps aZ.out.sp aZ.out.ks HAW.out.f3.lp HAW.out.f3.lv (by have:=HAW.out.f3.ls;omega) (by have:=HAW.out.f3.lk;omega) (fun x hx=>by have:=HAW.out.f3.lm x hx;omega)
 rw[HAW.out.a3] at hag
 have HAG:=zh hag
 clear hag
 obtain⟨q0c,q1c⟩:=aZ.out.atQ.c2;obtain⟨o0c,o1c,o2c⟩:=aZ.out.atO.c3
 go_wp2_with fail
 refine HAG.out.mono ?_
 rintro e w8 ⟨rfl,hb⟩
 have L8:=zh (wu.out.below hb);have HB8:=zh (Zh.out.trans (hb.mono Zh.out.size))
 clear hb q0c q1c o0c o1c o2c HAG aZ wu Zh wB
 go_upto_region 15 with fail
 have qo:=Og q2 o2 13 5 _ _ _ w8 (HMX.out.below HB8.out) L8.out.ps L8.out.sp L8.out.ks HAW.out.f2.lp HAW.out.f2.lv (by have:=HAW.out.f2.ls;omega) (by have:=HAW.out.f2.lk;omega) (fun x hx=>by have:=HAW.out.f2.lm x hx;omega)
 rw[HAW.out.m13] at qo
 have wC:=zh qo
 clear qo
 obtain⟨q0c,q1c⟩:=L8.out.atQ.c2;obtain⟨o0c,o1c,o2c⟩:=L8.out.atO.c3
 go_wp2_with fail
 refine wC.out.mono ?_
 rintro e w9 ⟨⟨qv9,pv9,rfl,_,_⟩,hb⟩
 have L9:=zh (L8.out.below hb);have HB9:=zh (HB8.out.trans (hb.mono HB8.out.size))
 clear hb q0c q1c o0c o1c o2c wC L8 HB8
 go_upto_region 16 with fail
 have qp:=Og q2 o2 12 5 _ _ _ w9 (HMX.out.below HB9.out) L9.out.ps L9.out.sp L9.out.ks HAW.out.f2.lp HAW.out.f2.lv (by have:=HAW.out.f2.ls;omega) (by have:=HAW.out.f2.lk;omega) (fun x hx=>by have:=HAW.out.f2.lm x hx;omega)
 rw[HAW.out.m12] at qp
 have wD:=zh qp
 clear qp
 obtain⟨q0c,q1c⟩:=L9.out.atQ.c2;obtain⟨o0c,o1c,o2c⟩:=L9.out.atO.c3
 go_wp2_with fail
 refine wD.out.mono ?_
 rintro e w10 ⟨⟨zaK,zaL,rfl,⟨zaM,rfl,wE⟩,wF⟩,hb⟩
 obtain⟨qx,qy,rfl⟩:=wE.len
 obtain⟨qz,q8,rfl⟩:=wF.len
 have L10:=zh (L9.out.below hb);have WE:=zh (HB9.out.trans (hb.mono HB9.out.size));have HMI:=zh HAW.out.mid
 dsimp only[List.length_nil]
 clear hb q0c q1c o0c o1c o2c wD L9 HB9 wE wF
 obtain⟨mid,mpa,mdi,mop,mex,mvs⟩:=m
 dsimp only at HMI ⊢
 obtain rfl:mid=5:=HMI.out
 clear HMI
 go_upto_region 17 with fail
 have B11:=zh (show AQ w10 _ [(24,#[.int .i64 6,.slice qx 0 qy]),(46,#[.int .i64 5,.string mpa,.string mdi,.int .i64 mop,.int .i64 mex,.slice qz mvs.length q8])] from(((Fg.nil w10).push 24 #[.int .i64 6,.slice qx 0 qy]).push 46 #[.int .i64 5,.string mpa,.string mdi,.int .i64 mop,.int .i64 mex,.slice qz mvs.length q8]).boxes)
 have L11:=zh (L10.out.below B11.out.under);have VT:=zh (WE.out.trans (B11.out.under.mono WE.out.size))
 clear L10 WE
 generalize ((w10.alloc (.cells #[.int .i64 6,.slice qx 0 qy] 24)).alloc (.cells #[.int .i64 5,.string mpa,.string mdi,.int .i64 mop,.int .i64 mex,.slice qz mvs.length q8] 46))=w11 at*
 have hwd:=JQ q2 5 _ w11 (HMX.out.below VT.out) L11.out.ps HAW.out.f2.lp HAW.out.f2.lv
 rw[HAW.out.wd] at hwd
 have HWD:=zh hwd
 clear hwd
 obtain⟨q0c,q1c⟩:=L11.out.atQ.c2
 go_wp2_with fail
 refine HWD.out.mono ?_
 rintro e w12 ⟨⟨zaN,rfl,zaO,rfl,hpo⟩,hb⟩
 obtain⟨q9,qA,rfl⟩:=hpo.one
 dsimp only[List.length_nil]
 have B12:=zh (B11.out.step hb);have L12:=zh (L11.out.below hb);have qB:=zh (VT.out.trans (hb.mono VT.out.size))
 have zI:=B12.out.size
 clear hb q0c q1c HWD hpo L11 VT B11
 have C13:=zh (show AQ w12 _ [(24,#[.int .i64 6,.slice q9 0 qA])] from((Fg.nil w12).push 24 #[.int .i64 6,.slice q9 0 qA]).boxes)
 have B13:=zh (B12.out.step C13.out.under);have L13:=zh (L12.out.below C13.out.under);have qC:=zh (qB.out.trans (C13.out.under.mono qB.out.size))
 clear L12 qB B12
 go_upto_region 18 with fail
 generalize (w12.alloc (.cells #[.int .i64 6,.slice q9 0 qA] 24))=w13 at*
 have hex:=Un q2 13 _ w13 (HMX.out.below qC.out) L13.out.ps HAW.out.f2.lp HAW.out.f2.lv
 rw[HAW.out.ex] at hex
 have HEX:=zh hex
 clear hex
 obtain⟨q0c,q1c⟩:=L13.out.atQ.c2
 obtain⟨x00,x01⟩:=B13.out.Ry rfl
 have x10:w13.cell? ⟨w10.heap.size+1,0,none⟩=some (.int .i64 5):=B13.out.cell 1 0 rfl rfl
 obtain⟨y00,y01⟩:=C13.out.Ry rfl
 go_wp2_with fail
 refine HEX.out.mono ?_
 rintro e w14 ⟨⟨zaP,rfl,zaQ,rfl,hpo⟩,hb⟩
 obtain⟨zaR,zaS,rfl⟩:=hpo.one
 dsimp only[List.length_nil]
 have z8:=zh (qC.out.trans (hb.mono qC.out.size))
 clear hb hpo
 go_wp2_with fail
 rw[WK]
 go_wp2_with fail
 go_ret
 exact⟨rfl,z8.out⟩
end
section
open Go
namespace Az
/-! ### cut functions -/
def cut (n:Nat)(f:Nat->Nat)(i:Nat):Nat:=if i<n then f i else 0
theorem Ib (n:Nat)(f:Nat->Nat):Ci f 0 n=Aa n (cut n f):=by
 rw[QA]
 exact Fp n _ _ (fun i hi=>by unfold cut;rw[if_pos hi])
theorem nu {n:Nat}{f:Nat->Nat}(h:∀ i,i<n->f i<4294967296):W (cut n f):=fun i=>by
 unfold cut
 split
 ·exact h i (by assumption)
 ·simp
theorem QU {n:Nat}{f:Nat->Nat}{i:Nat}(h:i<n):cut n f i=f i:=by unfold cut;rw[if_pos h]
theorem Ef (n k:Nat):Ci (fun _=>k) 0 n=Aa n fun _=>k:=QA n _
/-! ### wG -/
theorem qD (a b:Nat):Dj 0 a b=a:=by unfold Dj;simp
theorem JW {a b:Nat}(ha:a<4294967296)(hb:b<4294967296):Dj 4294967295 a b=b:=by
 unfold Dj
 rw[DJ,Nat.mod_eq_of_lt (Cu ha hb),<- Nat.xor_assoc,Nat.xor_self,Nat.zero_xor]
theorem Dy (n:Nat)(G f g:Nat->Nat)(hG:W G)(hf:W f)(hg:W g):Dj (Aa n G) (Aa n f) (Aa n g)=Aa n fun i=>Dj (G i) (f i) (g i):=by
 unfold Dj
 rw[Da n f g hf.d hg.d,Ei n _ G (fun i=>Nat.lt_trans (Cu (hf i) (hg i)) (by decide)) hG.d,Da n f _ hf.d (fun i=>Nat.lt_trans (Cv _ (Cu (hf i) (hg i))) (by decide))]
def VF.bl (G:Nat->Nat)(u v:VF):VF:=⟨fun i=>Dj (G i) (u.a i) (v.a i),fun i=>Dj (G i) (u.b i) (v.b i),fun i=>Dj (G i) (u.c i) (v.c i),fun i=>Dj (G i) (u.d i) (v.d i),fun i=>Dj (G i) (u.e i) (v.e i),fun i=>Dj (G i) (u.f i) (v.f i),fun i=>Dj (G i) (u.g i) (v.g i),fun i=>Dj (G i) (u.h i) (v.h i)⟩
theorem GN {G f g:Nat->Nat}(hf:W f)(hg:W g):W fun i=>Dj (G i) (f i) (g i):=fun i=>Cu (hf i) (Cv _ (Cu (hf i) (hg i)))
theorem l7 (n:Nat)(G:Nat->Nat)(hG:W G)(u v:VF)(hu:u.ok)(hv:v.ok):(VF.bl G u v).ok/\Xi (Aa n G) (u.pack n) (v.pack n)=(VF.bl G u v).pack n:=by
 refine⟨⟨GN hu.a hv.a,GN hu.b hv.b,GN hu.c hv.c,GN hu.d hv.d,GN hu.e hv.e,GN hu.f hv.f,GN hu.g hv.g,GN hu.h hv.h⟩,?_⟩
 unfold Xi VF.pack VF.bl
 dsimp only
 rw[Dy n G _ _ hG hu.a hv.a,Dy n G _ _ hG hu.b hv.b,Dy n G _ _ hG hu.c hv.c,Dy n G _ _ hG hu.d hv.d,Dy n G _ _ hG hu.e hv.e,Dy n G _ _ hG hu.f hv.f,Dy n G _ _ hG hu.g hv.g,Dy n G _ _ hG hu.h hv.h]
theorem qE {G:Nat->Nat}(u v:VF){i:Nat}(h:G i=0):(VF.bl G u v).at i=u.at i:=by
 unfold VF.bl VF.at
 simp only[h,qD]
theorem qF {G:Nat->Nat}{u v:VF}(hu:u.ok)(hv:v.ok){i:Nat}(h:G i=4294967295):(VF.bl G u v).at i=v.at i:=by
 unfold VF.bl VF.at
 simp only[h]
 rw[JW (hu.a i) (hv.a i),JW (hu.b i) (hv.b i),JW (hu.c i) (hv.c i),JW (hu.d i) (hv.d i),JW (hu.e i) (hv.e i),JW (hu.f i) (hv.f i),JW (hu.g i) (hv.g i),JW (hu.h i) (hv.h i)]
/-! ### the table of one key -/
def WR (base d:Nat):Nat->Nat->V->V
 | 0,_,v=>v
 | n+1,p,v=>WR base d n (p+1) (if p<d then cmp IVN (stepW (base+p) v) else v)
theorem Tc (base d:Nat):∀ (n p:Nat) (v:V),d<=p->WR base d n p v=v
 | 0,_,_,_=>rfl
 | n + 1,p,v,h => by
   rw[WR,if_neg (by omega),Tc base d n (p+1) v (by omega)]
theorem Zi (base d:Nat):∀ (n p:Nat) (v:V),p<=d->d<=p+n->WR base d n p v=Cr base (d-p) p v
 | 0,p,v,h1,h2 => by
   rw[show d-p=0 by omega]
   rfl
 | n + 1,p,v,h1,h2 => by
   by_cases h:p<d
   ·rw[WR,if_pos h,Zi base d n (p+1) _ (by omega) (by omega),show d-p=(d-(p+1))+1 by omega,J7]
   ·rw[Tc base d (n+1) p v (by omega),show d-p=0 by omega]
    rfl
theorem WS (base:Nat->Nat):∀ (k p:Nat) (v:VF),v.ok->(∀ i,base i+(p+k)<4294967296)->p+k<=15->
 ∃ u:VF,u.ok/\bL (mask 1072) (ones 1072) (Aa 1072 base) k p (v.pack 1072)=u.pack 1072/\∀ i,i<1072->u.at i=WR (base i) (i%16) k p (v.at i)
 | 0,p,v,hv,_,_=>⟨v,hv,rfl,fun _ _=>rfl⟩
 | k + 1,p,v,hv,hb,hp => by
   obtain⟨s,s1,s2,s3⟩:=Le 1072 v hv base p (fun i=>Nat.lt_of_le_of_lt (Nat.add_le_add_left (Nat.le_add_right _ _) _) (hb i))
   have hG:W (cut 1072 (gP p)):=nu (fun i _=>by unfold gP;split<;>simp)
   obtain⟨b1,b2⟩:=l7 1072 (cut 1072 (gP p)) hG v s hv s1
   obtain⟨u,u1,u2,u3⟩:=WS base k (p+1) _ b1 (fun i=>by rw[show p+1+k=p+(k+1) by omega];exact hb i) (by omega)
   refine⟨u,u1,?_,fun i hi=>?_⟩
   ·rw[bL,BI,force_eq,BI,UA,s2,Ib,b2,u2]
   ·rw[u3 i hi]
    show _=WR (base i) (i%16) k (p+1) (if p<i%16 then cmp IVN (stepW (base i+p) (v.at i)) else v.at i)
    refine congrArg (WR (base i) (i%16) k (p+1)) ?_
    have e:=QU (f:=gP p) hi
    by_cases h:p<i%16
    ·rw[if_pos h,qF hv s1 (by rw[e];unfold gP;rw[if_pos h]),s3]
    ·rw[if_neg h,qE v s (by rw[e];unfold gP;rw[if_neg h])]
theorem Nu (n:Nat)(base:Nat->Nat):∀ (k p:Nat) (v:VF),v.ok->(∀ i,base i+(p+k)<4294967296)->
 ∃ u:VF,u.ok/\OU (mask n) (ones n) (Aa n base) k p (v.pack n)=u.pack n/\∀ i,u.at i=Cr (base i) k p (v.at i)
 | 0,p,v,hv,_=>⟨v,hv,rfl,fun _=>rfl⟩
 | k + 1,p,v,hv,hb => by
   obtain⟨s,s1,s2,s3⟩:=Le n v hv base p (fun i=>Nat.lt_of_le_of_lt (Nat.add_le_add_left (Nat.le_add_right _ _) _) (hb i))
   obtain⟨u,u1,u2,u3⟩:=Nu n base k (p+1) s s1 (fun i=>by rw[show p+1+k=p+(k+1) by omega];exact hb i)
   refine⟨u,u1,?_,fun i=>?_⟩
   ·rw[OU,BI,UA,s2,u2]
   ·rw[u3,s3,J7]
theorem IW {k:Nat}(h:k<4294967296):W fun _=>k:=fun _=>h
theorem Zj (n b key:Nat)(hb:b<256)(hk:key<256)(c:Nat->Nat)(hc:∀ i,i<n->c i<256)(X:Nat)(hX:X=Aa n (cut n fun i=>wd4 b key (c i) 128)):
 ∃ u:VF,u.ok/\Lu (mask n) (ones n) (IVP (ones n)) (ones n*wd4 2 b b b) (ones n*wd4 b b b b) (ones n*wd4 b b b b) (ones n*wd4 b b b b) (ones n*wd4 b b b b) (ones n*wd4 b b b b) (ones n*wd4 b b b b) (ones n*wd4 b b b b) X 0 0 0 0 0 0 (ones n*280)=u.pack n/\∀ i,i<n->u.at i=cmp IVN (CX b key (c i)):=by
 have w2:W fun _=>wd4 2 b b b:=IW (En (by omega) hb hb hb)
 have ws:W fun _=>wd4 b b b b:=IW (En hb hb hb hb)
 have w8:W (cut n fun i=>wd4 b key (c i) 128):=nu fun i h=>En hb hk (hc i h) (by omega)
 have w0:W fun _=>0:=IW (by simp)
 obtain⟨u,h1,h2,h3⟩:=GY n VF.iv Sr _ _ _ _ _ _ _ _ _ (fun _=>0) (fun _=>0) (fun _=>0) (fun _=>0) (fun _=>0) (fun _=>0) (fun _=>280) w2 ws ws ws ws ws ws ws w8 w0 w0 w0 w0 w0 w0 (IW (by simp))
 refine⟨u,h1,?_,fun i hi=>?_⟩
 ·rw[Lv,hX,AZ,AZ,AZ,Kn,<- Df n]
  exact h2
 ·rw[h3,QU hi]
  unfold cmp CX
  rfl
def B16 (key i:Nat):Nat:=wd4 3 key (i/16) 0
theorem je (b key:Nat)(hb:b<256)(hk:key<128):∃ u:Nat->VF,(∀ d,d<16->(u d).ok)/\nL b key=(List.range 16).map (fun d=>(u d).pack 1072)/\
 ∀ d,d<16->∀ i,i<1072->(u d).at i=Cr (B16 key i) (15-d) d (Cr (B16 key i) (i%16) 0 (cmp IVN (CX b key (i/16)))):=by
 obtain⟨s,s1,s2,s3⟩:=Zj 1072 b key hb (by omega) (fun i=>i/16) (fun i hi=>by omega) _ rfl
 have hB:∀ i,cut 1072 (B16 key) i+15<4294967296:=fun i=>by
  unfold cut
  split
  ·rename_i h
   unfold B16 wd4
   omega
  ·simp
 obtain⟨x,x1,x2,x3⟩:=WS (cut 1072 (B16 key)) 15 0 s s1 (fun i=>hB i) (by omega)
 have hw:∀ d,d<16->∃ u:VF,u.ok/\OU (mask 1072) (ones 1072) (Aa 1072 (cut 1072 (B16 key))) (15-d) d (x.pack 1072)=u.pack 1072/\∀ i,u.at i=Cr (cut 1072 (B16 key) i) (15-d) d (x.at i):=fun d hd=>
  Nu 1072 (cut 1072 (B16 key)) (15-d) d x x1 (fun i=>by rw[show d+(15-d)=15 by omega];exact hB i)
 refine⟨fun d=>if h:d<16 then (hw d h).choose else x,fun d hd=>?_,?_,fun d hd i hi=>?_⟩
 ·simp only[dif_pos hd]
  exact(hw d hd).choose_spec.1
 ·unfold nL
  rw[force_eq,force_eq,force_eq,BI,BI,Ef,Ef]
  rw[show Ci (fun i=>wd4 3 key (i/16) 0) 0 1072=Aa 1072 (cut 1072 (B16 key)) from Ib 1072 (B16 key)]
  have e1:nK (Aa 1072 fun _=>4294967295) (Aa 1072 fun _=>1) b key=s.pack 1072:=by
   rw[<- s2]
   unfold nK
   rw[Ib]
   unfold mask ones
   exact congrArg _ rfl
  rw[e1]
  rw[show bL (Aa 1072 fun _=>4294967295) (Aa 1072 fun _=>1) (Aa 1072 (cut 1072 (B16 key))) 15 0 (s.pack 1072)=x.pack 1072 from x2]
  refine List.map_congr_left fun d hd=>?_
  have hd:=List.mem_range.1 hd
  simp only[dif_pos hd]
  exact(hw d hd).choose_spec.2.1
 ·simp only[dif_pos hd]
  rw[(hw d hd).choose_spec.2.2 i,x3 i hi,s3 i hi,QU hi,Zi _ _ 15 0 _ (by omega) (by omega),Nat.sub_zero]
end Az
namespace Az
def VF.fl (v:VF):List (Nat->Nat):=[v.a,v.b,v.c,v.d,v.e,v.f,v.g,v.h]
theorem U3 (v:VF)(n:Nat):(v.pack n).list=v.fl.map (Aa n):=rfl
theorem ny (v:VF)(i:Nat):(v.at i).list=v.fl.map (· i):=rfl
theorem l8 {v:VF}(h:v.ok):∀ f∈v.fl,W f:=by
 obtain⟨h1,h2,h3,h4,h5,h6,h7,h8⟩:=h
 intro f hf
 simp only[VF.fl,List.mem_cons,List.not_mem_nil,or_false] at hf
 rcases hf with rfl|rfl|rfl|rfl|rfl|rfl|rfl|rfl<;>assumption
/-! ### digits -/
def rs:List Nat:=[28,24,20,16,12,8,4,0]
def ME (f:Nat->Nat):List (Nat->Nat):=rs.map fun r=>fun i=>(f i >>> r)%16
def OA (w:Nat):List Nat:=rs.map fun r=>(w >>> r)%16
theorem YP (x:Nat):x &&& 15=x%16:=Nat.and_two_pow_sub_one_eq_mod x 4
theorem Dz (n:Nat)(f:Nat->Nat)(hf:W f)(r:Nat)(hr:r<=28):GQ (mask n) (ones n) (Aa n f) r=Aa n fun i=>(f i >>> r)%16:=by
 unfold GQ
 rw[EB n f r hf.d (by omega),AZ,Ei n _ _ (fun i=>Nat.lt_trans (Nat.mod_lt _ (by decide)) (by decide)) (fun _=>by decide)]
 congr 1
 funext i
 rw[YP]
 omega
theorem bf (n:Nat)(v:VF)(hv:v.ok):bM (mask n) (ones n) (v.pack n)=(v.fl.flatMap ME).map (Aa n):=by
 have h:∀ f,W f->[GQ (mask n) (ones n) (Aa n f) 28,GQ (mask n) (ones n) (Aa n f) 24,GQ (mask n) (ones n) (Aa n f) 20,GQ (mask n) (ones n) (Aa n f) 16,GQ (mask n) (ones n) (Aa n f) 12,GQ (mask n) (ones n) (Aa n f) 8,GQ (mask n) (ones n) (Aa n f) 4,GQ (mask n) (ones n) (Aa n f) 0]=(ME f).map (Aa n):=fun f hf=>by
  rw[Dz n f hf 28 (by omega),Dz n f hf 24 (by omega),Dz n f hf 20 (by omega),Dz n f hf 16 (by omega),Dz n f hf 12 (by omega),Dz n f hf 8 (by omega),Dz n f hf 4 (by omega),Dz n f hf 0 (by omega)]
  rfl
 have hw:=l8 hv
 unfold bM
 rw[U3]
 generalize v.fl=l at hw
 induction l with
 | nil=>rfl
 | cons f l ih =>
   rw[List.map_cons,List.flatMap_cons,List.flatMap_cons,List.map_append,ih (fun g hg=>hw g (List.mem_cons_of_mem _ hg)),h f (hw f List.mem_cons_self)]
theorem wH:∀ x,x<16->15 ^^^ x=15-x:=by decide
theorem WT (n:Nat):∀ fs:List (Nat->Nat),(∀ f∈fs,∀ i,f i<16)->j4 (ones n) (fs.map (Aa n))=Aa n fun i=>Sig.total (fs.map (· i))
 | [],_=>(Df n).symm
 | f :: fs,h => by
   have hf:=h f List.mem_cons_self
   rw[List.map_cons,j4,WT n fs (fun g hg=>h g (List.mem_cons_of_mem _ hg)),AZ,Da n _ f (fun _=>by decide) (fun i=>Nat.lt_trans (hf i) (by decide)),BF]
   congr 1
   funext i
   unfold Sig.total
   rw[List.map_cons,List.map_cons,List.sum_cons,wH _ (hf i)]
theorem Zk (l:List (Nat->Nat)):∀ f∈l.flatMap ME,∀ i,f i<16:=fun f hf i=>by
 obtain⟨g,_,hg⟩:=List.mem_flatMap.1 hf
 unfold ME at hg
 obtain⟨r,_,rfl⟩:=List.mem_map.1 hg
 exact Nat.mod_lt _ (by decide)
def QV (v:VF):List (Nat->Nat):=v.fl.flatMap ME++[fun i=>(Sig.total ((v.fl.flatMap ME).map (· i)) >>> 8)%16,fun i=>(Sig.total ((v.fl.flatMap ME).map (· i)) >>> 4)%16,fun i=>(Sig.total ((v.fl.flatMap ME).map (· i)) >>> 0)%16]
def D5 (v:V):List Nat:=v.list.flatMap OA++[(Sig.total (v.list.flatMap OA) >>> 8)%16,(Sig.total (v.list.flatMap OA) >>> 4)%16,(Sig.total (v.list.flatMap OA) >>> 0)%16]
theorem l9 (l:List (Nat->Nat))(i:Nat):(l.flatMap ME).map (· i)=(l.map (· i)).flatMap OA:=by
 induction l with
 | nil=>rfl
 | cons f l ih =>
   rw[List.flatMap_cons,List.map_append,ih,List.map_cons,List.flatMap_cons]
   have e:(ME f).map (· i)=OA (f i):=by
    unfold ME OA
    rw[List.map_map]
    rfl
   rw[e]
theorem Zl (v:VF)(i:Nat):(QV v).map (· i)=D5 (v.at i):=by
 unfold QV D5
 rw[List.map_append,l9,ny]
 rfl
theorem U4 (v:VF):∀ f∈QV v,∀ i,f i<16:=fun f hf i=>by
 unfold QV at hf
 rcases List.mem_append.1 hf with h|h
 ·exact Zk _ f h i
 ·simp only[List.mem_cons,List.not_mem_nil,or_false] at h
  rcases h with rfl|rfl|rfl<;>exact Nat.mod_lt _ (by decide)
theorem jf (v:VF):(QV v).length=67:=rfl
theorem WU (n:Nat)(v:VF)(hv:v.ok):j5 (mask n) (ones n) (v.pack n)=(QV v).map (Aa n):=by
 have hlt:=Zk v.fl
 have hlen:(v.fl.flatMap ME).length=64:=rfl
 unfold j5
 rw[Cb,force_eq,bf n v hv,WT n _ hlt]
 have hw:W fun i=>Sig.total ((v.fl.flatMap ME).map (· i)):=fun i=>by
  have:=Sig.Ho ((v.fl.flatMap ME).map (· i))
  rw[List.length_map,hlen] at this
  show Sig.total _<4294967296
  omega
 rw[Dz n _ hw 8 (by omega),Dz n _ hw 4 (by omega),Dz n _ hw 0 (by omega)]
 unfold QV
 rw[List.map_append]
 rfl
theorem u8n {x:Nat}(h:x<256):(x.toUInt8).toNat=x:=by simp[Nat.mod_eq_of_lt h]
theorem jg (w:Nat)(hw:w<4294967296):((AV w).flatMap fun b=>[b.toNat/16,b.toNat%16])=OA w:=by
 unfold AV OA rs
 simp only[List.flatMap_cons,List.flatMap_nil,List.append_nil,List.cons_append,List.nil_append,List.map_cons,List.map_nil]
 rw[u8n (show w/16777216<256 by omega),u8n (show w/65536%256<256 by omega),u8n (show w/256%256<256 by omega),u8n (show w%256<256 by omega)]
 simp only[Nat.shiftRight_eq_div_pow,Nat.reducePow]
 simp only[List.cons.injEq,and_true]
 refine⟨?_,?_,?_,?_,?_,?_,?_,?_⟩<;>(first|omega|trivial)
theorem WV (m:ByteArray)(v:V)(hv:Vok v)(h:(Sha.sha m).data.toList=v.list.flatMap AV):Sig.digits m=D5 v:=by
 have e:Sig.GR (Sha.sha m)=v.list.flatMap OA:=by
  unfold Sig.GR
  rw[h,List.flatMap_assoc,List.flatMap_def,List.flatMap_def]
  congr 1
  exact List.map_congr_left fun w hw=>jg w (Iy hv w hw)
 have ht:=Sig.Ho (v.list.flatMap OA)
 rw[show(v.list.flatMap OA).length=64 from rfl] at ht
 unfold Sig.digits D5
 rw[e]
 simp only[Nat.shiftRight_eq_div_pow,Nat.reducePow]
 congr 1
 simp only[List.cons.injEq,and_true]
 refine⟨?_,?_,?_⟩<;>(first|omega|trivial)
/-! ### lanes of lanes -/
theorem WW (n X:Nat):KM (n+1) X=force (Nat.mod X 18446744073709551616) (fun x=>force (Nat.shiftRight X 64) fun X=>x::KM n X):=rfl
theorem lC (Z a:Nat)(l:List Nat):pk Z (a::l)=force (pk Z l) fun r=>force (Nat.mod (Nat.shiftRight Z (Nat.mul 64 a)) 18446744073709551616) fun x=>Nat.add x (Nat.mul 18446744073709551616 r):=rfl
theorem QW:∀ (n:Nat) (f:Nat->Nat),D f->KM n (Aa n f)=(List.range n).map f
 | 0,_,_=>rfl
 | n + 1,f,hf => by
   have ih:=QW n (fun i=>f (i+1)) (fun i=>hf _)
   rw[WW,force_eq,force_eq]
   show(Aa (n+1) f%18446744073709551616)::KM n (Aa (n+1) f >>> 64)=_
   have e1:Aa (n+1) f=f 0+18446744073709551616*Aa n (fun i=>f (i+1)):=rfl
   rw[e1,Nat.add_mul_mod_self_left,Nat.mod_eq_of_lt (hf 0),Nat.shiftRight_eq_div_pow,show(2:Nat)^64=18446744073709551616 by decide,Nat.add_mul_div_left _ _ (by decide),Nat.div_eq_of_lt (hf 0),Nat.zero_add,ih,List.range_succ_eq_map,List.map_cons,List.map_map]
   rfl
theorem Td:∀ (k n:Nat) (f:Nat->Nat),D f->Aa (k+n) f >>> (64*k)=Aa n fun i=>f (k+i)
 | 0,n,f,_ => by
   rw[Nat.mul_zero,Nat.shiftRight_zero,Nat.zero_add]
   congr 1
   funext i
   rw[Nat.zero_add]
 | k + 1,n,f,hf => by
   have ih:=Td k n (fun i=>f (i+1)) (fun i=>hf _)
   rw[show k+1+n=(k+n)+1 by omega,show 64*(k+1)=64+64*k by omega,Nat.shiftRight_add]
   have e1:Aa (k+n+1) f >>> 64=Aa (k+n) (fun i=>f (i+1)):=by
    show(f 0+18446744073709551616*Aa (k+n) (fun i=>f (i+1))) >>> 64=_
    rw[Nat.shiftRight_eq_div_pow,show(2:Nat)^64=18446744073709551616 by decide,Nat.add_mul_div_left _ _ (by decide),Nat.div_eq_of_lt (hf 0),Nat.zero_add]
   rw[e1,ih]
   congr 1
   funext i
   congr 1
   omega
theorem Zm:∀ (n:Nat) (f:Nat->Nat),D f->Aa n f<18446744073709551616^n
 | 0,_,_=>by show 0<1;omega
 | n + 1,f,hf => by
   have ih:=Zm n (fun i=>f (i+1)) (fun i=>hf _)
   have h0:=hf 0
   show f 0+18446744073709551616*Aa n (fun i=>f (i+1))<_
   rw[Nat.pow_succ]
   have:18446744073709551616*(Aa n (fun i=>f (i+1))+1)<=18446744073709551616*18446744073709551616^n:=Nat.mul_le_mul_left _ ih
   rw[Nat.mul_comm (18446744073709551616^n)]
   omega
theorem QY:∀ (m k:Nat) (f:Nat->Nat),Aa (m+k) f=Aa m f+18446744073709551616^m*Aa k fun i=>f (m+i)
 | 0,k,f => by
   rw[Nat.zero_add,Nat.pow_zero,Nat.one_mul]
   show _=0+_
   rw[Nat.zero_add]
   congr 1
   funext i
   rw[Nat.zero_add]
 | m + 1,k,f => by
   have ih:=QY m k (fun i=>f (i+1))
   rw[show m+1+k=(m+k)+1 by omega]
   show f 0+18446744073709551616*Aa (m+k) (fun i=>f (i+1))=(f 0+18446744073709551616*Aa m (fun i=>f (i+1)))+_
   have e:(fun i=>f (m+i+1))=fun i=>f (m+1+i):=funext fun i=>congrArg f (by omega)
   rw[ih,e,Nat.mul_add,Nat.pow_succ,Nat.mul_comm (18446744073709551616^m) 18446744073709551616,Nat.mul_assoc,Nat.add_assoc]
theorem nC:(18446744073709551616:Nat)^16=179769313486231590772930519078902473361797697894230657273430081157732675805500963132708477322407536021120113879871393357658789768814416622492847430639474124377767893424865485276302219601246094119453082952085005768838150682342462881473913110540827237163350510684586298239947245938479716304835356329624224137216:=by decide
theorem jh (c P:Nat):Y9 c P=(P >>> (1024*c))%18446744073709551616^16:=by rw[nC];rfl
theorem lD (c:Nat)(f:V->Nat)(v:V)(T:List V):zP c f (v::T)=Y9 c (f v)+18446744073709551616^16*zP c f T:=by rw[zP,force_eq,force_eq,nC]
theorem Yy (c:Nat)(hc:c<67)(f:Nat->Nat)(hf:D f):Y9 c (Aa 1072 f)=Aa 16 fun i=>f (c*16+i):=by
 obtain⟨r,hr⟩:∃ r,1072=c*16+(16+r):=⟨1072-c*16-16,by omega⟩
 rw[jh,show 1024*c=64*(c*16) by omega,hr,Td _ _ f hf,QY 16,Nat.add_mul_mod_self_left]
 exact Nat.mod_eq_of_lt (Zm 16 _ (fun i=>hf _))
theorem ji (c:Nat)(hc:c<67)(p:V->Nat):∀ (T:List V) (gs:List (Nat->Nat)),(∀ g∈gs,D g)->T.map p=gs.map (Aa 1072)->zP c p T=Aa (16*T.length) fun j=>(gs.getD (j/16) fun _=>0) (c*16+j%16)
 | [],_,_,_=>rfl
 | v::T,[],_,h=>by simp at h
 | v :: T,g :: gs,hg,h => by
   simp only[List.map_cons,List.cons.injEq] at h
   have ih:=ji c hc p T gs (fun g' hg' => hg g' (List.mem_cons_of_mem _ hg')) h.2
   have e1:Aa 16 (fun i=>g (c*16+i))=Aa 16 fun j=>((g::gs).getD (j/16) fun _=>0) (c*16+j%16):=Fp 16 _ _ (fun i hi=>by rw[show i/16=0 by omega,show i%16=i by omega];rfl)
   have e2:(fun j=>(gs.getD (j/16) fun _=>0) (c*16+j%16))=fun i=>((g::gs).getD ((16+i)/16) fun _=>0) (c*16+(16+i)%16):=funext fun i=>by
    rw[show(16+i)/16=i/16+1 by omega,show(16+i)%16=i%16 by omega]
    rfl
   rw[lD,ih,h.1,Yy c hc g (hg g List.mem_cons_self),List.length_cons,show 16*(T.length+1)=16+16*T.length by omega,QY 16,e1,e2]
theorem Zn (Z N:Nat)(z:Nat->Nat)(hz:D z)(hZ:Z=Aa N z):∀ l:List Nat,(∀ a∈l,a<N)->pk Z l=Aa l.length fun k=>z (l.getD k 0)
 | [],_=>rfl
 | a :: l,h => by
   have ih:=Zn Z N z hz hZ l (fun x hx=>h x (List.mem_cons_of_mem _ hx))
   rw[lC,force_eq,force_eq]
   show lane a Z+18446744073709551616*pk Z l=_
   rw[ih,hZ,Bv N a z hz (h a List.mem_cons_self)]
   rfl
end Az
namespace Az
def VF.of (g:Nat->V):VF:=⟨fun i=>(g i).a,fun i=>(g i).b,fun i=>(g i).c,fun i=>(g i).d,fun i=>(g i).e,fun i=>(g i).f,fun i=>(g i).g,fun i=>(g i).h⟩
theorem wI (g:Nat->V)(i:Nat):(VF.of g).at i=g i:=rfl
theorem nD {g:Nat->V}(h:∀ i,Vok (g i)):(VF.of g).ok:=⟨fun i=>(h i).a,fun i=>(h i).b,fun i=>(h i).c,fun i=>(h i).d,fun i=>(h i).e,fun i=>(h i).f,fun i=>(h i).g,fun i=>(h i).h⟩
theorem wJ (n:Nat)(g:Nat->V):(VF.of g).fl.map (Aa n)=[Aa n fun i=>(g i).a,Aa n fun i=>(g i).b,Aa n fun i=>(g i).c,Aa n fun i=>(g i).d,Aa n fun i=>(g i).e,Aa n fun i=>(g i).f,Aa n fun i=>(g i).g,Aa n fun i=>(g i).h]:=rfl
theorem nG (n:Nat)(v:VF):(v.pack n).a=Aa n v.a:=rfl
theorem wK (n:Nat)(v:VF):(v.pack n).b=Aa n v.b:=rfl
theorem wL (n:Nat)(v:VF):(v.pack n).c=Aa n v.c:=rfl
theorem wM (n:Nat)(v:VF):(v.pack n).d=Aa n v.d:=rfl
theorem wN (n:Nat)(v:VF):(v.pack n).e=Aa n v.e:=rfl
theorem wO (n:Nat)(v:VF):(v.pack n).f=Aa n v.f:=rfl
theorem wP (n:Nat)(v:VF):(v.pack n).g=Aa n v.g:=rfl
theorem wQ (n:Nat)(v:VF):(v.pack n).h=Aa n v.h:=rfl
/-! ### ends -/
def WX (u:Nat->VF)(c d1 d2:Nat):V:=(u d2).at (c*16+d1)
theorem Te {α β : Type}(f:Nat -> α)(p : α -> β):((List.range 16).map f).map p=(List.range 16).map fun d=>p (f d):=List.map_map
theorem Fv (u:Nat->VF)(hu:∀ d,d<16->(u d).ok)(c:Nat)(hc:c<67)(f1 f2:Nat->Nat)(h1:∀ i,f1 i<16)(h2:∀ i,f2 i<16)(p:V->Nat)(q:VF->Nat->Nat)(hp:∀ v:VF,p (v.pack 1072)=Aa 1072 (q v))(hq:∀ (v:VF) (i:Nat),p (v.at i)=q v i)(hw:∀ v:VF,v.ok->W (q v)):
 (force (zP c p ((List.range 16).map fun d=>(u d).pack 1072)) fun Z=>pk Z (KM 256 (Aa 256 f2*16+Aa 256 f1)))=Aa 256 fun i=>p (WX u c (f1 i) (f2 i)):=by
 have e1:Aa 256 f2*16+Aa 256 f1=Aa 256 fun i=>f2 i*16+f1 i:=by rw[ES,BF]
 have hD:D fun i=>f2 i*16+f1 i:=fun i=>by have:=h1 i;have:=h2 i;show f2 i*16+f1 i<_;omega
 have hz:=ji c hc p ((List.range 16).map fun d=>(u d).pack 1072) ((List.range 16).map fun d=>q (u d)) (fun g hg=>by
  obtain⟨d,hd,rfl⟩:=List.mem_map.1 hg
  exact(hw _ (hu d (List.mem_range.1 hd))).d) (by rw[Te,Te];exact List.map_congr_left fun d _=>hp (u d))
 rw[List.length_map,List.length_range] at hz
 have hzd:D fun j=>(((List.range 16).map fun d=>q (u d)).getD (j/16) fun _=>0) (c*16+j%16):=fun j=>by
  by_cases hj:j/16<16
  ·have e:((List.range 16).map fun d=>q (u d)).getD (j/16) (fun _=>0)=q (u (j/16)):=by simp[List.getD,hj]
   show(((List.range 16).map fun d=>q (u d)).getD (j/16) fun _=>0) (c*16+j%16)<_
   rw[e]
   exact(hw _ (hu _ hj)).d _
  ·have e:((List.range 16).map fun d=>q (u d)).getD (j/16) (fun _=>0)=fun _=>0:=by simp[List.getD,hj]
   show(((List.range 16).map fun d=>q (u d)).getD (j/16) fun _=>0) (c*16+j%16)<_
   rw[e]
   show 0<18446744073709551616
   decide
 rw[force_eq,e1,QW 256 _ hD,Zn _ 256 _ hzd hz _ (fun a ha=>by
  obtain⟨i,_,rfl⟩:=List.mem_map.1 ha
  have:=h1 i;have:=h2 i
  show f2 i*16+f1 i<256
  omega),List.length_map,List.length_range]
 refine Fp 256 _ _ fun i hi=>?_
 have e2:((List.range 256).map fun i=>f2 i*16+f1 i).getD i 0=f2 i*16+f1 i:=by simp[List.getD,hi]
 have a1:=h1 i;have a2:=h2 i
 rw[e2,show(f2 i*16+f1 i)/16=f2 i by omega,show(f2 i*16+f1 i)%16=f1 i by omega]
 have e3:((List.range 16).map fun d=>q (u d)).getD (f2 i) (fun _=>0)=q (u (f2 i)):=by simp[List.getD,a2]
 rw[e3]
 exact(hq _ _).symm
def Oh (u:Nat->VF):Nat->List (Nat->Nat)->List (Nat->Nat)->List (Nat->Nat)
 | c,f1::l1,f2::l2=>(VF.of fun i=>WX u c (f1 i) (f2 i)).fl++Oh u (c+1) l1 l2
 | _,_,_=>[]
theorem Tf (u:Nat->VF)(hu:∀ d,d<16->(u d).ok):∀ (l1 l2:List (Nat->Nat)) (c:Nat),(∀ f∈l1,∀ i,f i<16)->(∀ f∈l2,∀ i,f i<16)->c+l1.length<=67->
 YA ((List.range 16).map fun d=>(u d).pack 1072) c (l1.map (Aa 256)) (l2.map (Aa 256))=(Oh u c l1 l2).map (Aa 256)
 | [],l2,c,_,_,_=>by cases l2<;>rfl
 | f1::l1,[],c,_,_,_=>rfl
 | f1 :: l1,f2 :: l2,c,h1,h2,hc => by
   rw[List.length_cons] at hc
   have ih:=Tf u hu l1 l2 (c+1) (fun f hf=>h1 f (List.mem_cons_of_mem _ hf)) (fun f hf=>h2 f (List.mem_cons_of_mem _ hf)) (by omega)
   have g1:=h1 f1 List.mem_cons_self;have g2:=h2 f2 List.mem_cons_self
   rw[List.map_cons,List.map_cons,YA,force_eq,Cb,Cb,ih,Oh,List.map_append]
   refine congrArg (· ++ _) ?_
   rw[lQ,wJ]
   have hc' : c<67:=by omega
   have ha:=Fv u hu c hc' f1 f2 g1 g2 V.a VF.a (nG 1072) (fun _ _=>rfl) (fun v h=>h.a)
   have hb:=Fv u hu c hc' f1 f2 g1 g2 V.b VF.b (wK 1072) (fun _ _=>rfl) (fun v h=>h.b)
   have hc:=Fv u hu c hc' f1 f2 g1 g2 V.c VF.c (wL 1072) (fun _ _=>rfl) (fun v h=>h.c)
   have hd:=Fv u hu c hc' f1 f2 g1 g2 V.d VF.d (wM 1072) (fun _ _=>rfl) (fun v h=>h.d)
   have he:=Fv u hu c hc' f1 f2 g1 g2 V.e VF.e (wN 1072) (fun _ _=>rfl) (fun v h=>h.e)
   have hf:=Fv u hu c hc' f1 f2 g1 g2 V.f VF.f (wO 1072) (fun _ _=>rfl) (fun v h=>h.f)
   have hg:=Fv u hu c hc' f1 f2 g1 g2 V.g VF.g (wP 1072) (fun _ _=>rfl) (fun v h=>h.g)
   have hh:=Fv u hu c hc' f1 f2 g1 g2 V.h VF.h (wQ 1072) (fun _ _=>rfl) (fun v h=>h.h)
   generalize KM 256 (Aa 256 f2*16+Aa 256 f1)=l at*
   generalize ((List.range 16).map fun d=>(u d).pack 1072)=T at*
   generalize Aa 256=F at*
   rw[ha,hb,hc,hd,he,hf,hg,hh]
def Oi (u:Nat->VF):Nat->List Nat->List Nat->List Nat
 | c,d1::l1,d2::l2=>(WX u c d1 d2).list++Oi u (c+1) l1 l2
 | _,_,_=>[]
theorem WY (u:Nat->VF)(i:Nat):∀ (l1 l2:List (Nat->Nat)) (c:Nat),(Oh u c l1 l2).map (· i)=Oi u c (l1.map (· i)) (l2.map (· i))
 | [],l2,c=>by cases l2<;>rfl
 | f1::l1,[],c=>rfl
 | f1 :: l1,f2 :: l2,c => by
   rw[Oh,List.map_append,WY u i l1 l2 (c+1),List.map_cons,List.map_cons,Oi,<- ny,wI]
theorem Zo (u:Nat->VF)(hu:∀ d,d<16->(u d).ok):∀ (l1 l2:List (Nat->Nat)) (c:Nat),(∀ f∈l2,∀ i,f i<16)->∀ g∈Oh u c l1 l2,W g
 | [],l2,c,_,g,hg=>by cases l2<;>cases hg
 | f1::l1,[],c,_,g,hg=>by cases hg
 | f1 :: l1,f2 :: l2,c,h,g,hg => by
   rw[Oh] at hg
   rcases List.mem_append.1 hg with hg|hg
   ·exact l8 (nD fun i=>(hu _ (h f2 List.mem_cons_self i)).at _) g hg
   ·exact Zo u hu l1 l2 (c+1) (fun f hf=>h f (List.mem_cons_of_mem _ hf)) g hg
/-! ### messages of whole words,in lanes -/
def shF:(Nat->Nat)->List (Nat->Nat)->List (Nat->Nat)
 | t,[]=>[fun i=>t i*16777216+8388608]
 | t,w::ws=>(fun i=>t i*16777216+w i/256)::shF (fun i=>w i%256) ws
theorem qG (x:Nat):x &&& 255=x%256:=Nat.and_two_pow_sub_one_eq_mod x 8
theorem U5 (n:Nat):∀ (ws:List (Nat->Nat)) (t:Nat->Nat),(∀ w∈ws,W w)->shP (mask n) (ones n) (Aa n t) (ws.map (Aa n))=(shF t ws).map (Aa n)
 | [],t,_ => by
   rw[List.map_nil,shP,AZ,ES,BF]
   rfl
 | w :: ws,t,h => by
   have hw:=h w List.mem_cons_self
   have e1:(Aa n w >>> 8) &&& mask n=Aa n fun i=>w i/256:=by
    rw[EB n w 8 hw.d (by omega)]
    congr 1
    funext i
    have:=hw i
    rw[Nat.shiftRight_eq_div_pow,show(2:Nat)^8=256 by decide]
    omega
   have e2:Aa n w &&& (ones n*255)=Aa n fun i=>w i%256:=by
    rw[AZ,Ei n w _ hw.d (fun _=>by decide)]
    simp only[qG]
   rw[List.map_cons,shP,e1,e2,U5 n ws _ (fun x hx=>h x (List.mem_cons_of_mem _ hx)),ES,BF,shF,List.map_cons]
theorem Yz (i:Nat):∀ (ws:List (Nat->Nat)) (t:Nat->Nat),(shF t ws).map (· i)=shW (t i) (ws.map (· i))
 | [],t => by
   show[t i*16777216+8388608]=[wd4 (t i) 128 0 0]
   unfold wd4
   congr 1
 | w::ws,t=>by rw[shF,List.map_cons,Yz i ws,List.map_cons,shW]
theorem jk:∀ (ws:List (Nat->Nat)) (t:Nat->Nat),(∀ i,t i<256)->(∀ w∈ws,W w)->∀ g∈shF t ws,W g
 | [],t,ht,_,g,hg => by
   rw[shF,List.mem_singleton] at hg
   rw[hg]
   intro i
   have:=ht i
   show t i*16777216+8388608<_
   omega
 | w :: ws,t,ht,h,g,hg => by
   rw[shF] at hg
   rcases List.mem_cons.1 hg with rfl|hg
   ·intro i
    have:=ht i;have:=h w List.mem_cons_self i
    show t i*16777216+w i/256<_
    omega
   ·exact jk ws _ (fun i=>Nat.mod_lt _ (by decide)) (fun x hx=>h x (List.mem_cons_of_mem _ hx)) g hg
theorem bg (n:Nat)(fs:List (Nat->Nat))(j:Nat):(fs.map (Aa n)).getD j 0=Aa n (fs.getD j fun _=>0):=by
 rw[List.getD_eq_getElem?_getD,List.getD_eq_getElem?_getD,List.getElem?_map]
 cases fs[j]? with
 | none=>exact(Df n).symm
 | some f=>rfl
theorem getD_at (i:Nat)(fs:List (Nat->Nat))(j:Nat):(fs.map (· i)).getD j 0=(fs.getD j fun _=>0) i:=by
 rw[List.getD_eq_getElem?_getD,List.getD_eq_getElem?_getD,List.getElem?_map]
 cases fs[j]? <;> rfl
theorem DN {fs:List (Nat->Nat)}(h:∀ f∈fs,W f)(j:Nat):W (fs.getD j fun _=>0):=by
 rw[List.getD_eq_getElem?_getD]
 cases e:fs[j]? with
 | none=>exact fun _=>by simp
 | some f=>exact h f (List.mem_of_getElem? e)
theorem Nv (n:Nat):∀ (k:Nat) (v:VF) (fs:List (Nat->Nat)),v.ok->(∀ f∈fs,W f)->
 ∃ u:VF,u.ok/\UC (mask n) (ones n) k (v.pack n) (fs.map (Aa n))=u.pack n/\∀ i,u.at i=Cq k (v.at i) (fs.map (· i))
 | 0,v,fs,hv,_=>⟨v,hv,rfl,fun _=>rfl⟩
 | k + 1,v,fs,hv,h => by
   obtain⟨s,s1,s2,s3⟩:=GY n v hv _ _ _ _ _ _ _ _ _ _ _ _ _ _ _ _ (DN h 0) (DN h 1) (DN h 2) (DN h 3) (DN h 4) (DN h 5) (DN h 6) (DN h 7) (DN h 8) (DN h 9) (DN h 10) (DN h 11) (DN h 12) (DN h 13) (DN h 14) (DN h 15)
   obtain⟨u,u1,u2,u3⟩:=Nv n k s (fs.drop 16) s1 (fun f hf=>h f (List.mem_of_mem_drop hf))
   refine⟨u,u1,?_,fun i=>?_⟩
   ·rw[UC,BI,<- List.map_drop]
    unfold qR
    simp only[bg]
    rw[Lv,s2,u2]
   ·rw[u3,s3,List.map_drop,Cq]
    refine congrArg (fun x=>Cq k x _) ?_
    unfold cmp
    simp only[getD_at]
theorem bn (n:Nat)(fs:List (Nat->Nat))(h:∀ f∈fs,W f):∃ u:VF,u.ok/\bN (mask n) (ones n) (fs.map (Aa n))=u.pack n/\∀ i,u.at i=Cq 34 IVN (Cg (fs.map (· i))):=by
 have hw:∀ f∈shF (fun _=>0) fs++[fun _=>0,fun _=>0,fun _=>0,fun _=>0,fun _=>0,fun _=>0,fun _=>17160],W f:=fun f hf=>by
  rcases List.mem_append.1 hf with hf|hf
  ·exact jk fs _ (fun _=>by decide) h f hf
  ·simp only[List.mem_cons,List.not_mem_nil,or_false] at hf
   rcases hf with rfl|rfl|rfl|rfl|rfl|rfl|rfl<;>exact fun _=>by simp
 obtain⟨u,u1,u2,u3⟩:=Nv n 34 VF.iv _ Sr hw
 refine⟨u,u1,?_,fun i=>?_⟩
 ·unfold bN
  rw[Cb,Kn,<- u2,List.map_append,<- U5 n fs _ h,Df,AZ]
  simp only[List.map_cons,List.map_nil,Df]
 ·rw[u3,List.map_append,Yz]
  rfl
theorem bq (n:Nat)(x:VF)(hx:x.ok)(y:V)(hy:Vok y):∃ u:VF,u.ok/\bO (mask n) (ones n) (x.pack n) y=u.pack n/\∀ i,u.at i=Cq 2 IVN (CK ((x.at i).list++y.list)):=by
 have hc:(VF.of fun _=>y).ok:=nD fun _=>hy
 have hcp:Xj (ones n) y=(VF.of fun _=>y).pack n:=by
  unfold Xj VF.pack VF.of
  simp only[AZ]
 have hws:∀ f∈x.fl++(VF.of fun _=>y).fl,W f:=fun f hf=>by
  rcases List.mem_append.1 hf with hf|hf
  ·exact l8 hx f hf
  ·exact l8 hc f hf
 have hw:∀ f∈shF (fun _=>1) (x.fl++(VF.of fun _=>y).fl)++[fun _=>0,fun _=>0,fun _=>0,fun _=>0,fun _=>0,fun _=>0,fun _=>0,fun _=>0,fun _=>0,fun _=>0,fun _=>0,fun _=>0,fun _=>0,fun _=>0,fun _=>520],W f:=fun f hf=>by
  rcases List.mem_append.1 hf with hf|hf
  ·exact jk _ _ (fun _=>by decide) hws f hf
  ·simp only[List.mem_cons,List.not_mem_nil,or_false] at hf
   rcases hf with rfl|rfl|rfl|rfl|rfl|rfl|rfl|rfl|rfl|rfl|rfl|rfl|rfl|rfl|rfl<;>exact fun _=>by simp
 obtain⟨u,u1,u2,u3⟩:=Nv n 2 VF.iv _ Sr hw
 refine⟨u,u1,?_,fun i=>?_⟩
 ·unfold bO
  rw[Cb,Kn,<- u2,List.map_append,<- U5 n _ _ hws,List.map_append,hcp,U3,U3,AZ]
  simp only[List.map_cons,List.map_nil,Df]
  rfl
 ·rw[u3,List.map_append,Yz,List.map_append]
  rfl
end Az
namespace Az
/-! ### messages -/
def RS (g j y d:Nat):List Nat:=[wd4 g j 3 97,wd4 47 y 32 0+d,d*16843009,d*16843009,d*16843009,d*16843009,d*16843009,d*16843009,d*16843009,d*16843008+128,0,0,0,0,0,312]
theorem WZ (g j y:Nat)(hg:g<256)(hj:j<256)(hy:y<256):∃ u:VF,u.ok/\msgP (mask 256) (ones 256) (Aa 256 (cut 256 fun i=>i)) g j y=u.pack 256/\∀ i,i<256->u.at i=cmp IVN (RS g j y i):=by
 have hd:∀ i,cut 256 (fun i=>i) i<256:=fun i=>by
  unfold cut
  split
  ·assumption
  ·decide
 have w0:W fun _=>0:=IW (by simp)
 have wa:W fun _=>wd4 g j 3 97:=IW (En hg hj (by omega) (by omega))
 have wb:W fun i=>wd4 47 y 32 0+cut 256 (fun i=>i) i:=fun i=>by
  have:=hd i
  show wd4 47 y 32 0+cut 256 (fun i=>i) i<_
  unfold wd4
  omega
 have wc:W fun i=>cut 256 (fun i=>i) i*16843009:=fun i=>by
  have:=hd i
  show cut 256 (fun i=>i) i*16843009<_
  omega
 have we:W fun i=>cut 256 (fun i=>i) i*16843008+128:=fun i=>by
  have:=hd i
  show cut 256 (fun i=>i) i*16843008+128<_
  omega
 obtain⟨u,h1,h2,h3⟩:=GY 256 VF.iv Sr _ _ _ _ _ _ _ _ _ _ (fun _=>0) (fun _=>0) (fun _=>0) (fun _=>0) (fun _=>0) (fun _=>312) wa wb wc wc wc wc wc wc wc we w0 w0 w0 w0 w0 (IW (by simp))
 refine⟨u,h1,?_,fun i hi=>?_⟩
 ·unfold msgP
  rw[Df 256] at h2
  rw[Lv,AZ,AZ,AZ,AZ,ES,ES,BF,BF,Kn]
  exact h2
 ·rw[h3,QU hi]
  unfold cmp RS
  rfl
theorem lF (d:Nat):d*16843009=wd4 d d d d:=by unfold wd4;omega
theorem nH (g j y d:Nat)(hg:g<256)(hj:j<256)(hy:y<256)(hd:d<256)(m:ByteArray)(hm:m.data.toList=[g.toUInt8,j.toUInt8,3,97,47,y.toUInt8,32]++List.replicate 32 d.toUInt8):(Sha.sha m).data.toList=(cmp IVN (RS g j y d)).list.flatMap AV:=by
 have hz:m.size=39:=by rw[<- Sha.Bj,hm];simp
 have e2:wd4 47 y 32 0+d=wd4 47 y 32 d:=rfl
 have e3:d*16843008+128=wd4 d d d 128:=by unfold wd4;omega
 rw[<- Na]
 refine Qg _ (RS g j y d) 1 ?_ rfl ?_
 ·rw[Sha.Aw,hm,Gs _ 39 hz]
  unfold RS
  rw[lF,e2,e3]
  simp only[List.flatMap_cons,List.flatMap_nil,Iw hg hj (show 3<256 by omega) (show 97<256 by omega),Iw (show 47<256 by omega) hy (show 32<256 by omega) hd,Iw hd hd hd hd,Iw hd hd hd (show 128<256 by omega)]
  rfl
 ·intro w hw
  have h1:=En hg hj (show 3<256 by omega) (show 97<256 by omega)
  have h2:=En (show 47<256 by omega) hy (show 32<256 by omega) hd
  simp only[RS,List.mem_cons,List.not_mem_nil,or_false] at hw
  rcases hw with rfl|rfl|rfl|rfl|rfl|rfl|rfl|rfl|rfl|rfl|rfl|rfl|rfl|rfl|rfl|rfl
  ·exact h1
  ·exact h2
  all_goals omega
/-! ### leaves and nodes -/
theorem wR (v:Nat->V)(l:List Nat):(l.flatMap fun c=>(v c).list).length=8*l.length:=by
 induction l with
 | nil=>rfl
 | cons c l ih=>rw[List.flatMap_cons,List.length_append,ih,V7,List.length_cons];omega
theorem Xa (l:Nat->ByteArray)(v:Nat->V)(hv:∀ c,c<67->Vok (v c))(hl:∀ c,c<67->(l c).data.toList=(v c).list.flatMap AV):
 (Sig.EH ((List.range 67).map l)).data.toList=(Cq 34 IVN (Cg ((List.range 67).flatMap fun c=>(v c).list))).list.flatMap AV:=by
 obtain⟨ws,hws⟩:∃ ws,ws=(List.range 67).flatMap fun c=>(v c).list:=⟨_,rfl⟩
 have hlt:∀ w∈ws,w<4294967296:=fun w hm=>by
  rw[hws] at hm
  obtain⟨c,hc,hm⟩:=List.mem_flatMap.1 hm
  exact Iy (hv c (List.mem_range.1 hc)) w hm
 have hlen:ws.length=536:=by rw[hws,wR,List.length_range]
 have hm:(Sig.b1 0++Cod.cat ((List.range 67).map l)).data.toList=0::ws.flatMap AV:=by
  have key:((List.range 67).map l).flatMap (fun x=>x.data.toList)=(List.range 67).flatMap fun c=>((v c).list).flatMap AV:=by
   rw[List.flatMap_map,List.flatMap_def,List.flatMap_def]
   refine congrArg List.flatten (List.map_congr_left fun c hc=>?_)
   exact hl c (List.mem_range.1 hc)
  rw[Sha.Aw,Q9,hws,SK,key]
  rfl
 have hz:(Sig.b1 0++Cod.cat ((List.range 67).map l)).size=2145:=by
  rw[<- Sha.Bj,hm,List.length_cons,Gq,hlen]
 unfold Sig.EH
 rw[<- hws]
 refine Qg _ (Cg ws) 34 ?_ ?_ ?_
 ·rw[Sha.Aw,hm,Gs _ 2145 hz]
  unfold Cg
  rw[List.flatMap_append,Fj ws 0 (by omega) hlt]
  simp only[List.cons_append,List.append_assoc]
  rfl
 ·unfold Cg
  rw[List.length_append,Ms,hlen]
  rfl
 ·intro w hmem
  unfold Cg at hmem
  rcases List.mem_append.1 hmem with h|h
  ·exact Q8 ws 0 (by omega) hlt w h
  ·simp only[List.mem_cons,List.not_mem_nil,or_false] at h
   rcases h with rfl|rfl|rfl|rfl|rfl|rfl|rfl<;>simp
theorem jl (a b:ByteArray)(x y:V)(hx:Vok x)(hy:Vok y)(ha:a.data.toList=x.list.flatMap AV)(hb:b.data.toList=y.list.flatMap AV):
 (Sha.sha (Sig.b1 1++a++b)).data.toList=(Cq 2 IVN (CK (x.list++y.list))).list.flatMap AV:=by
 obtain⟨ws,hws⟩:∃ ws,ws=x.list++y.list:=⟨_,rfl⟩
 have hlt:∀ w∈ws,w<4294967296:=fun w hm=>by
  rw[hws] at hm
  rcases List.mem_append.1 hm with hm|hm
  ·exact Iy hx w hm
  ·exact Iy hy w hm
 have hlen:ws.length=16:=by rw[hws,List.length_append];rfl
 have hm:(Sig.b1 1++a++b).data.toList=1::ws.flatMap AV:=by
  rw[Sha.Aw,Sha.Aw,ha,hb,hws,List.flatMap_append]
  rfl
 have hz:(Sig.b1 1++a++b).size=65:=by
  rw[<- Sha.Bj,hm,List.length_cons,Gq,hlen]
 rw[<- hws]
 refine Qg _ (CK ws) 2 ?_ ?_ ?_
 ·rw[Sha.Aw,hm,Gs _ 65 hz]
  unfold CK
  rw[List.flatMap_append,Fj ws 1 (by omega) hlt]
  simp only[List.cons_append,List.append_assoc]
  rfl
 ·unfold CK
  rw[List.length_append,Ms,hlen]
  rfl
 ·intro w hmem
  unfold CK at hmem
  rcases List.mem_append.1 hmem with h|h
  ·exact Q8 ws 1 (by omega) hlt w h
  ·simp only[List.mem_cons,List.not_mem_nil,or_false] at h
   rcases h with rfl|rfl|rfl|rfl|rfl|rfl|rfl|rfl|rfl|rfl|rfl|rfl|rfl|rfl|rfl<;>simp
theorem qH {a:ByteArray}{x:V}(h:a.data.toList=x.list.flatMap AV):a.size=32:=by
 rw[<- Sha.Bj,h,Gq]
 rfl
theorem U6 (n:Nat)(ws:List Nat):K5 n IVN ws=Cq n IVN ws:=JM n IVN ws
theorem jm (x y:V):bQ x y=Cq 2 IVN (CK (x.list++y.list)):=by
 unfold bQ
 rw[Cb,U6]
/-! ### the two leaves of a key -/
theorem QZ (n i:Nat)(u:VF)(hu:u.ok)(h:i<n):YB i (u.pack n)=u.at i:=by
 unfold YB VF.pack VF.at
 rw[Bv n i _ hu.a.d h,Bv n i _ hu.b.d h,Bv n i _ hu.c.d h,Bv n i _ hu.d.d h,Bv n i _ hu.e.d h,Bv n i _ hu.f.d h,Bv n i _ hu.g.d h,Bv n i _ hu.h.d h]
def lG (b key c:Nat):V:=Cr (wd4 3 key c 0) 15 0 (cmp IVN (CX b key c))
theorem jo (b key c:Nat)(hb:b<256)(hk:key<128)(hc:c<128):(Sig.chain key c 0 15 (Sig.secret (Ah b) key c)).data.toList=(lG b key c).list.flatMap AV/\Vok (lG b key c):=
 Md key c hk hc 15 0 _ _ (Ld _ _) (Qh b key c hb hk hc) (by omega)
def JX (b key:Nat):V:=Cq 34 IVN (Cg ((List.range 67).flatMap fun c=>(lG b key c).list))
theorem MF (b key:Nat):Vok (JX b key):=Em _ _ _ J6
theorem Zp (b key:Nat)(hb:b<256)(hk:key<128):(Sig.leaf (Ah b) key).data.toList=(JX b key).list.flatMap AV:=
 Xa _ _ (fun c hc=>(jo b key c hb hk (by omega)).2) (fun c hc=>(jo b key c hb hk (by omega)).1)
theorem jq (b:Nat)(hb:b<256)(u:Nat->VF)(hu:∀ d,d<16->(u d).ok)(hat:∀ d,d<16->∀ i,i<1072->(u d).at i=Cr (B16 0 i) (15-d) d (Cr (B16 0 i) (i%16) 0 (cmp IVN (CX b 0 (i/16))))):
 bP ((List.range 16).map fun d=>(u d).pack 1072)=JX b 0:=by
 unfold bP JX
 rw[Cb,U6]
 refine congrArg (fun x=>Cq 34 IVN (Cg x)) ?_
 rw[List.flatMap_def,List.flatMap_def]
 refine congrArg List.flatten (List.map_congr_left fun c hc=>congrArg V.list ?_)
 have hc:=List.mem_range.1 hc
 have e:((List.range 16).map fun d=>(u d).pack 1072).getD 15 IVN=(u 15).pack 1072:=by
  rw[List.getD_eq_getElem?_getD,List.getElem?_map,List.getElem?_range (by omega)]
  simp only[Option.map_some,Option.getD_some]
 have hi:c*16+15<1072:=by omega
 rw[e,QZ 1072 _ _ (hu 15 (by omega)) hi,hat 15 (by omega) _ hi]
 unfold B16 lG
 rw[show(c*16+15)/16=c by omega,show(c*16+15)%16=15 by omega,Nat.sub_self,Cr]
theorem bA (b:Nat)(hb:b<256):Xk b=JX b 1:=by
 obtain⟨s,s1,s2,s3⟩:=Zj 67 b 1 hb (by omega) (fun i=>i) (fun i hi=>by omega) _ rfl
 have hB:∀ i,cut 67 (fun i=>wd4 3 1 i 0) i+(0+15)<4294967296:=fun i=>by
  unfold cut
  split
  ·show wd4 3 1 i 0+(0+15)<_
   unfold wd4
   omega
  ·simp
 obtain⟨x,x1,x2,x3⟩:=Nu 67 (cut 67 fun i=>wd4 3 1 i 0) 15 0 s s1 hB
 unfold Xk
 rw[force_eq,force_eq,force_eq,BI,BI,Cb,U6,Ef,Ef]
 have e1:Lu (Aa 67 fun _=>4294967295) (Aa 67 fun _=>1) (IVP (Aa 67 fun _=>1)) ((Aa 67 fun _=>1)*wd4 2 b b b) ((Aa 67 fun _=>1)*wd4 b b b b) ((Aa 67 fun _=>1)*wd4 b b b b) ((Aa 67 fun _=>1)*wd4 b b b b) ((Aa 67 fun _=>1)*wd4 b b b b) ((Aa 67 fun _=>1)*wd4 b b b b) ((Aa 67 fun _=>1)*wd4 b b b b) ((Aa 67 fun _=>1)*wd4 b b b b) (Ci (fun i=>wd4 b 1 i 128) 0 67) 0 0 0 0 0 0 ((Aa 67 fun _=>1)*280)=s.pack 67:=by
  rw[Ib]
  exact s2
 rw[e1,Ib]
 rw[show OU (Aa 67 fun _=>4294967295) (Aa 67 fun _=>1) (Aa 67 (cut 67 fun i=>wd4 3 1 i 0)) 15 0 (s.pack 67)=x.pack 67 from x2]
 unfold JX
 refine congrArg (fun x=>Cq 34 IVN (Cg x)) ?_
 rw[List.flatMap_def,List.flatMap_def]
 refine congrArg List.flatten (List.map_congr_left fun c hc=>congrArg V.list ?_)
 have hc:=List.mem_range.1 hc
 rw[QZ 67 c x x1 hc,x3,s3 c hc,QU hc]
 rfl
end Az
namespace Az
theorem Ra (u:Nat->VF):∀ (k c:Nat) (l1 l2:List Nat),l1.length=k->l2.length=k->Oi u c l1 l2=(List.range k).flatMap fun j=>(WX u (c+j) (l1.getD j 0) (l2.getD j 0)).list
 | 0,c,l1,l2,h1,h2 => by
   obtain rfl:=List.length_eq_zero_iff.1 h1
   obtain rfl:=List.length_eq_zero_iff.1 h2
   rfl
 | k+1,c,[],l2,h1,h2=>by cases h1
 | k+1,c,a::l1,[],h1,h2=>by cases h2
 | k + 1,c,a :: l1,b :: l2,h1,h2 => by
   rw[Oi,Ra u k (c+1) l1 l2 (by simpa using h1) (by simpa using h2),List.range_succ_eq_map,List.flatMap_cons,List.flatMap_map]
   refine congrArg _ ?_
   rw[List.flatMap_def,List.flatMap_def]
   refine congrArg List.flatten (List.map_congr_left fun j hj=>?_)
   rw[show c+1+j=c+j.succ by omega,List.getD_cons_succ,List.getD_cons_succ]
theorem bB (b g:Nat)(hb:b<256)(hg:g<256)(h:OV b g=true):∃ u:Nat->VF,(∀ d,d<16->(u d).ok)/\
 (∀ d,d<16->∀ i,i<1072->(u d).at i=Cr (B16 0 i) (15-d) d (Cr (B16 0 i) (i%16) 0 (cmp IVN (CX b 0 (i/16)))))/\
 ∀ i,i<256->(Cq 2 IVN (CK ((Cq 34 IVN (Cg (Oi u 0 (D5 (cmp IVN (RS g 0 120 i))) (D5 (cmp IVN (RS g 1 121 i)))))).list++(JX b 1).list))).a≠(Cq 2 IVN (CK ((JX b 0).list++(JX b 1).list))).a:=by
 obtain⟨u,hu,ht,hat⟩:=je b 0 hb (by omega)
 refine⟨u,hu,hat,fun i hi=>?_⟩
 obtain⟨v1,a1,a2,a3⟩:=WZ g 0 120 hg (by omega) (by omega)
 obtain⟨v2,b1,b2,b3⟩:=WZ g 1 121 hg (by omega) (by omega)
 unfold OV at h
 rw[OT,ht,BI,BI,BI,jq b hb u hu hat,bA b hb,force_eq,force_eq,force_eq,BI,BI,Cb,Cb,Cb,BI,BI,Ef,Ef,Ib] at h
 rw[show Aa 256 (fun _=>4294967295)=mask 256 from rfl,show Aa 256 (fun _=>1)=ones 256 from rfl,a2,b2,WU 256 v1 a1,WU 256 v2 b1,Tf u hu (QV v1) (QV v2) 0 (U4 v1) (U4 v2) (by rw[jf];omega)] at h
 obtain⟨x,x1,x2,x3⟩:=bn 256 (Oh u 0 (QV v1) (QV v2)) (Zo u hu _ _ _ (U4 v2))
 rw[x2] at h
 obtain⟨z,z1,z2,z3⟩:=bq 256 x x1 (JX b 1) (MF b 1)
 rw[z2] at h
 have h2:=List.all_eq_true.1 h i (List.mem_range.2 hi)
 rw[nG,Bv 256 i _ z1.a.d hi,jm] at h2
 have e:z.a i=(Cq 2 IVN (CK ((Cq 34 IVN (Cg (Oi u 0 (D5 (cmp IVN (RS g 0 120 i))) (D5 (cmp IVN (RS g 1 121 i)))))).list++(JX b 1).list))).a:=by
  show(z.at i).a=_
  rw[z3,x3,WY,Zl,Zl,a3 i hi,b3 i hi]
 rw[e] at h2
 intro he
 rw[he] at h2
 have e2:∀ n:Nat,Nat.beq n n=true:=fun n=>Nat.beq_refl n
 rw[e2] at h2
 cases h2
theorem bC (x z:ByteArray):Sig.given x 0 2 [z]=some (Sig.node x z):=rfl
theorem lH (b g i:Nat)(hb:b<256)(u:Nat->VF)(hu:∀ d,d<16->(u d).ok)(hat:∀ d,d<16->∀ i,i<1072->(u d).at i=Cr (B16 0 i) (15-d) d (Cr (B16 0 i) (i%16) 0 (cmp IVN (CX b 0 (i/16)))))(M1 M2:ByteArray)(v1 v2:V)(q1:Sig.digits M1=D5 v1)(q2:Sig.digits M2=D5 v2):
 (Sig.EH (Sig.ends 0 M2 (Sig.Bb (Ah b) 0 M1).chains)).data.toList=(Cq 34 IVN (Cg (Oi u 0 (D5 v1) (D5 v2)))).list.flatMap AV:=by
 have l1:(D5 v1).length=67:=by rw[<- q1];exact Sig.Io _
 have l2:(D5 v2).length=67:=by rw[<- q2];exact Sig.Io _
 have p1:∀ c,(D5 v1).getD c 0<=15:=fun c=>by rw[<- q1];exact Sig.Jr _ _
 have p2:∀ c,(D5 v2).getD c 0<=15:=fun c=>by rw[<- q2];exact Sig.Jr _ _
 rw[Ra u 67 0 _ _ l1 l2]
 have hv:∀ c,c<67->WX u (0+c) ((D5 v1).getD c 0) ((D5 v2).getD c 0)=Cr (wd4 3 0 c 0) (15-(D5 v2).getD c 0) ((D5 v2).getD c 0) (Cr (wd4 3 0 c 0) ((D5 v1).getD c 0) 0 (cmp IVN (CX b 0 c))):=fun c hc=>by
  have:=p1 c;have:=p2 c
  unfold WX
  rw[hat _ (by omega) _ (by omega)]
  unfold B16
  rw[show((0+c)*16+(D5 v1).getD c 0)/16=c by omega,show((0+c)*16+(D5 v1).getD c 0)%16=(D5 v1).getD c 0 by omega]
 have hw:∀ c,c<67->(Sig.chain 0 c ((D5 v2).getD c 0) (15-(D5 v2).getD c 0) (Sig.chain 0 c 0 ((D5 v1).getD c 0) (Sig.secret (Ah b) 0 c))).data.toList=(WX u (0+c) ((D5 v1).getD c 0) ((D5 v2).getD c 0)).list.flatMap AV/\Vok (WX u (0+c) ((D5 v1).getD c 0) ((D5 v2).getD c 0)):=fun c hc=>by
  have:=p1 c;have:=p2 c
  rw[hv c hc]
  obtain⟨c1,c2⟩:=Md 0 c (by omega) (by omega) ((D5 v1).getD c 0) 0 _ _ (Ld _ _) (Qh b 0 c hb (by omega) (by omega)) (by omega)
  exact Md 0 c (by omega) (by omega) _ _ _ _ c2 c1 (by omega)
 have he:Sig.ends 0 M2 (Sig.Bb (Ah b) 0 M1).chains=(List.range 67).map fun c=>Sig.chain 0 c ((D5 v2).getD c 0) (15-(D5 v2).getD c 0) (Sig.chain 0 c 0 ((D5 v1).getD c 0) (Sig.secret (Ah b) 0 c)):=by
  unfold Sig.ends Sig.Bb
  rw[q1,q2]
  refine List.map_congr_left fun c hc=>?_
  have hc:=List.mem_range.1 hc
  refine congrArg _ ?_
  rw[List.getD_eq_getElem?_getD,List.getElem?_map,List.getElem?_range hc]
  rfl
 rw[he]
 exact Xa _ _ (fun c hc=>(hw c hc).2) (fun c hc=>(hw c hc).1)
theorem IX (b g i:Nat)(hb:b<256)(hg:g<256)(hi:i<256)(h:OV b g=true)(M1 M2:ByteArray)
 (e1:M1.data.toList=[g.toUInt8,0,3,97,47,120,32]++List.replicate 32 i.toUInt8) (e2:M2.data.toList=[g.toUInt8,1,3,97,47,121,32]++List.replicate 32 i.toUInt8):
 Sig.verify (Sig.Dq (Ah b)) M2 (Sig.Bb (Ah b) 0 M1)=false:=by
 obtain⟨u,hu,hat,hne⟩:=bB b g hb hg h
 have q1:=WV M1 _ (Ld _ _) (nH g 0 120 i hg (by omega) (by omega) hi M1 e1)
 have q2:=WV M2 _ (Ld _ _) (nH g 1 121 i hg (by omega) (by omega) hi M2 e2)
 have hx:=lH b g i hb u hu hat M1 M2 _ _ q1 q2
 cases hv:Sig.verify (Sig.Dq (Ah b)) M2 (Sig.Bb (Ah b) 0 M1) with
 | false=>rfl
 | true =>
   exfalso
   refine hne i hi ?_
   unfold Sig.verify at hv
   rw[Bool.and_eq_true] at hv
   have hq:=hv.2
   unfold Sig.included at hq
   rw[Bool.and_eq_true] at hq
   have hq:=of_decide_eq_true hq.2
   rw[Sig.Gj,Sig.Iq] at hq
   obtain⟨X,hX⟩:∃ X,X=Sig.EH (Sig.ends 0 M2 (Sig.Bb (Ah b) 0 M1).chains):=⟨_,rfl⟩
   rw[<- hX] at hx
   have hq2:Sig.given X 0 2 [Sig.leaf (Ah b) 1]=some (Sig.root (Sig.leaves (Ah b) 2)):=by rw[hX];exact hq
   rw[bC] at hq2
   have hq3:=Option.some.inj hq2
   have hl:Sig.leaves (Ah b) 2=[Sig.leaf (Ah b) 0,Sig.leaf (Ah b) 1]:=rfl
   rw[hl,Sig.LG _ _ (Sig.Db _ _) (Sig.Db _ _)] at hq3
   unfold Sig.node at hq3
   rw[if_pos ⟨qH hx,Sig.Db _ _⟩] at hq3
   have hq4:=congrArg (fun x:ByteArray=>x.data.toList) hq3
   have l1:=Zp b 1 hb (by omega)
   rw[jl _ _ _ _ (Em _ _ _ J6) (MF b 1) hx l1,jl _ _ _ _ (MF b 0) (MF b 1) (Zp b 0 hb (by omega)) l1] at hq4
   have hq5:=congrArg (List.take 4) hq4
   have q:∀ v:V,(v.list.flatMap AV).take 4=AV v.a:=fun v=>by
    unfold V.list
    rw[List.flatMap_cons,List.take_append_of_le_length (by rw[Dc];exact Nat.le_refl _),List.take_of_length_le (by rw[Dc];exact Nat.le_refl _)]
   rw[q,q] at hq5
   exact SL (Em _ _ _ J6).a (Em _ _ _ J6).a hq5
end Az
namespace Az
theorem Xb (b:Nat)(hb:b<2)(ag:Bool)(i:Nat)(hi:i<256)(M1 M2:ByteArray)
 (e1:M1.data.toList=[if ag then 13 else 14,0,3,97,47,120,32]++List.replicate 32 i.toUInt8) (e2:M2.data.toList=[if ag then 13 else 14,1,3,97,47,121,32]++List.replicate 32 i.toUInt8):
 Sig.verify (Sig.Dq (Ah b)) M2 (Sig.Bb (Ah b) 0 M1)=false:=by
 rcases(show b=0\/b=1 by omega) with rfl|rfl<;>cases ag
 ·exact IX 0 14 i (by omega) (by omega) hi Zv M1 M2 e1 e2
 ·exact IX 0 13 i (by omega) (by omega) hi Zu M1 M2 e1 e2
 ·exact IX 1 14 i (by omega) (by omega) hi Zx M1 M2 e1 e2
 ·exact IX 1 13 i (by omega) (by omega) hi Zw M1 M2 e1 e2
end Az
namespace Own
theorem bD (d:Nat):(Az.Ah d).data.toList=List.replicate 32 d.toUInt8:=by unfold Az.Ah;simp
theorem Xc (i:Nat)(hi:i<128)(y:UInt8)(d:Nat)(ag:Bool):(Ay (BG i ⟨#[97,47,y]⟩ (Az.Ah d) 0 9) ag).data.toList=[if ag then 13 else 14,i.toUInt8,3,97,47,y,32]++List.replicate 32 d.toUInt8:=by
 unfold Ay BG Cod.text
 dsimp only
 have e1:(Az.Ah d).size=32:=EL d
 rw[Sha.Aw,Sha.Aw,Sha.Aw,Sha.Aw,Sha.Aw,Int.toNat_natCast,Az.GI i hi,e1,Az.GI 32 (by omega),show(⟨#[97,47,y]⟩:ByteArray).size=3 from rfl,Az.GI 3 (by omega),bD]
 rfl
theorem bE {nx:Int}{p p' : Ab}(h0:0<=nx)(h1:nx<=1099511627776)(hp:Bh p=true)(hp' : Bh p' = true)(h:p.id<p'.id)(h' : p'.id<nx):A9 ⟨nx,[p,p']⟩=true:=by
 unfold A9 late
 dsimp only
 have h2:p.id<nx:=by omega
 have e:Ai (fun p=>Bh p&&decide (p.id<nx)) (fun x y=>decide (x.id<y.id)) none [p,p']=true:=by simp[Ai,hp,hp',h,h',h2]
 rw[e]
 simp only[Bool.and_true,Bool.and_eq_true,decide_eq_true_eq]
 exact⟨⟨h0,h1⟩,by show 2<=64;omega⟩
theorem Y3 {nx size window:Int}{path dg:ByteArray}{p:Ab}(h0:0<=nx)(h1:nx<1099511627776)(hp:Bt path=true)(hd:Sig.digest dg=true)(hs:0<=size/\size<=late)(hw:1<=window/\window<=256)(hq:A9 ⟨nx,[p]⟩=true)(hne:p.path≠path):
 Eo ⟨nx,[p]⟩ size window path dg=(⟨nx+1,[p,BG nx path dg size window]⟩,nx,0):=by
 unfold Eo
 rw[hq,hp,hd,if_neg (by decide),if_neg (by have:=hs;have:=hw;omega),if_neg (by decide),if_neg (by decide),if_neg (by simp[hne]),if_neg (by simp[late];omega)]
 rfl
theorem Xd {n b:Nat}{th nx id:Int}{L:List Ab}{p p' : Ab}{ag:Bool}(h1:n<=3)(h3:1<=th)(h4:th<=n)(hb:b<n)(hq:A9 ⟨nx,L⟩=true)(hf:CW L id=some p')(hpp:Bt p'.path=true)(hbl:belongs p'.path ⟨#[97]⟩=true)
 (hv:Sig.verify (Sig.Dq (Az.Ah b)) (Ay p' ag) (Sig.Bb (Az.Ah b) 0 (Ay p ag))=false):
 EZ ⟨nx,L⟩ (DL (Bn n th) []) id ag (Bl b 0 p ag)=(.none,.none,18):=by
 have hsp:=JN (show 1<=n by omega) h1 h3 h4
 unfold EZ
 rw[hq,Lj hsp Ky.nil]
 dsimp only
 rw[if_neg (by decide),hf]
 dsimp only
 rw[Ut hsp rfl Ky.nil hpp hbl]
 rw[<- Us] at hv
 unfold Bl
 generalize Sig.Bb (Az.Ah b) 0 (Ay p ag)=sg at*
 have hfm:find (Bn n th).members (Ag b).name=some (Ag b):=Yj hb (by omega)
 dsimp only
 rw[hfm]
 dsimp only
 rw[hv,if_pos rfl]
theorem Y4 {n b:Nat}{th nx:Int}{K:List KeyUse}{p:Ab}{V:List Vote}{ag:Bool}(h1:n<=3)(h3:1<=th)(h4:th<=n)(hb:b<n)(hK:Ky K)(hp:FC p)(hV:Kz V)(hnx:p.id<nx)(hnx2:nx<=1099511627776)(hu:0<Bc K (Ag b).pub):
 EZ ⟨nx,[Al p V]⟩ (DL (Bn n th) K) p.id ag (Bl b 0 p ag)=(.none,.none,8):=by
 have hsp:=JN (show 1<=n by omega) h1 h3 h4
 have hq:A9 ⟨nx,[Al p V]⟩=true:=DI (by have:=hp.id0;omega) hnx2 (EP hp hV) hnx
 have hf:CW [Al p V] p.id=some (Al p V):=by simp[CW,Al]
 unfold EZ
 rw[hq,Lj hsp hK]
 dsimp only
 rw[if_neg (by decide),hf]
 dsimp only
 rw[Ut hsp rfl hK (show Bt (Al p V).path=true from hp.path) hp.bel]
 have hv:Sig.verify (Ag b).pub (Ay p ag) (Sig.Bb (Az.Ah b) 0 (Ay p ag))=true:=by rw[Us];exact Sig.NG (Az.Ah b) 0 (by omega) (Ay p ag)
 have hx:=QD (Az.Ah b) 0 (Ay p ag)
 unfold Bl
 generalize Sig.Bb (Az.Ah b) 0 (Ay p ag)=sg at*
 have hfm:find (Bn n th).members (Ag b).name=some (Ag b):=Yj hb (by omega)
 dsimp only
 rw[hfm]
 dsimp only
 rw[SN,hv,if_neg (fun h=>by cases h),hx,if_pos (show((0:Nat):Int)<Bc (DL (Bn n th) K).keys (Ag b).pub from hu)]
structure OnP (b d:Nat) (ag:Bool) (q0 q1 qw r1 r2:Queue) (o0 o1:Ap) (p:Ab):Prop where
 o0e:o0=⟨0,[Bn 2 1],[]⟩
 sub:Eo ⟨0,[]⟩ 0 9 ⟨#[97,47,120]⟩ (Az.Ah d)=(q0,0,0)
 q0p:q0.props=[p]
 id0:0<=p.id
 id1:p.id<9223372036854775808
 pl:p.path.size<=1000000
 dl:p.digest.size<=1000000
 v1:EZ q0 o0 0 ag (Bl b 0 p ag)=(q1,o1,0)
 v2:EZ q1 o1 0 ag (Bl b 0 p ag)=(.none,.none,8)
 wd:Fa q1 0=(qw,0)
 s1:Eo q1 0 9 ⟨#[97,47,121]⟩ (Az.Ah d)=(r1,1,0)
 s2:Eo qw 0 9 ⟨#[97,47,121]⟩ (Az.Ah d)=(r2,1,0)
 v3:EZ r1 o0 1 ag (Bl b 0 p ag)=(.none,.none,18)
 v4:EZ r2 o0 1 ag (Bl b 0 p ag)=(.none,.none,18)
 f0:Fits o0 q0
 f1:Fits o1 q1
 fw:Fits o0 qw
 g1:Fits o0 r1
 g2:Fits o0 r2
theorem onP (b d:Nat)(hb:b<2)(hd:d<256)(ag:Bool):∃ q0 q1 qw r1 r2 o0 o1 p,OnP b d ag q0 q1 qw r1 r2 o0 o1 p:=by
 have hp:FC (BG 0 ⟨#[97,47,120]⟩ (Az.Ah d) 0 9):=Nn (by decide) (by decide) (by decide) (by decide) (Dw d) (by decide) (by decide)
 have hp' : FC (BG 1 ⟨#[97,47,121]⟩ (Az.Ah d) 0 9):=Nn (by decide) (by decide) (by decide) (by decide) (Dw d) (by decide) (by decide)
 have hm1:=Xc 0 (by omega) 120 d ag
 have hm2:=Xc 1 (by omega) 121 d ag
 have hv:=Az.Xb b hb ag d hd (Ay (BG 0 ⟨#[97,47,120]⟩ (Az.Ah d) 0 9) ag) (Ay (BG 1 ⟨#[97,47,121]⟩ (Az.Ah d) 0 9) ag) hm1 hm2
 clear hm1 hm2
 have hsub:=IG (nx:=0) (size:=0) (window:=9) (path:=⟨#[97,47,120]⟩) (dg:=Az.Ah d) (by decide) (by decide) (by decide) (Dw d) (by decide) (by decide)
 have hsub2:=IG (nx:=1) (size:=0) (window:=9) (path:=⟨#[97,47,121]⟩) (dg:=Az.Ah d) (by decide) (by decide) (by decide) (Dw d) (by decide) (by decide)
 have wT:=fun(p:Ab)=>Y3 (p:=p) (nx:=1) (size:=0) (window:=9) (path:=⟨#[97,47,121]⟩) (dg:=Az.Ah d) (by decide) (by decide) (by decide) (Dw d) (by decide) (by decide)
 have Lm:(BG 0 ⟨#[97,47,120]⟩ (Az.Ah d) 0 9).id=0:=rfl
 have hpv:Al (BG 0 ⟨#[97,47,120]⟩ (Az.Ah d) 0 9) []=BG 0 ⟨#[97,47,120]⟩ (Az.Ah d) 0 9:=rfl
 have hpd:(BG 0 ⟨#[97,47,120]⟩ (Az.Ah d) 0 9).digest.size=32:=EL d
 have hpp:(BG 0 ⟨#[97,47,120]⟩ (Az.Ah d) 0 9).path.size=3:=rfl
 have hne:(BG 0 ⟨#[97,47,120]⟩ (Az.Ah d) 0 9).path≠⟨#[97,47,121]⟩:=by show(⟨#[97,47,120]⟩:ByteArray)≠⟨#[97,47,121]⟩;decide
 have wU : (BG 1 ⟨#[97,47,121]⟩ (Az.Ah d) 0 9).id=1:=rfl
 have zaT : Al (BG 1 ⟨#[97,47,121]⟩ (Az.Ah d) 0 9) []=BG 1 ⟨#[97,47,121]⟩ (Az.Ah d) 0 9:=rfl
 have wV : (BG 1 ⟨#[97,47,121]⟩ (Az.Ah d) 0 9).Aq=[]:=rfl
 have wW : Bh (BG 1 ⟨#[97,47,121]⟩ (Az.Ah d) 0 9)=true:=EP hp' Kz.nil
 generalize BG 0 ⟨#[97,47,120]⟩ (Az.Ah d) 0 9=p at*
 generalize BG 1 ⟨#[97,47,121]⟩ (Az.Ah d) 0 9=p' at*
 have hV0:=Kz.nil
 have hV1:=hV0.put (by simp) ⟨(Ag b).name,(Ag b).pub,ag⟩ (Mt b)
 have hK0:=Ky.nil
 have hK1:=hK0.use b 1 (by decide) (by decide)
 have n1:Bc (use [] ⟨(Ag b).pub,1⟩) (Ag b).pub=1:=by rw[Gv hK0.srt,if_pos rfl]
 have l1:=MC [] ⟨(Ag b).pub,1⟩
 simp only[List.length_nil] at l1
 have hpl:=JO Vote.name ⟨(Ag b).name,(Ag b).pub,ag⟩ []
 rw[<- Du] at hpl
 simp only[List.length_nil] at hpl
 have hv1:=Uu (n:=2) (b:=b) (i:=0) (th:=1) (nx:=1) (ag:=ag) (by omega) (by decide) (by decide) hK0 hp hV0 (by simp) (by omega) (by decide) hb (by omega) (Int.le_refl _)
 have hv2:=Y4 (n:=2) (th:=1) (b:=b) (nx:=1) (ag:=ag) (by omega) (by decide) (by decide) hb hK1 hp hV1 (by omega) (by decide) (by rw[n1];decide)
 have hwd:=QE (nx:=1) hp hV1 (by omega) (by decide)
 rw[Lm] at hv1 hv2 hwd
 have hq1:A9 ⟨1,[Al p (Bq [] ⟨(Ag b).name,(Ag b).pub,ag⟩)]⟩=true:=DI (by decide) (by decide) (EP hp hV1) (by show p.id<1;omega)
 have hs1:=wT (Al p (Bq [] ⟨(Ag b).name,(Ag b).pub,ag⟩)) hq1 hne
 have zA:A9 ⟨1+1,[Al p (Bq [] ⟨(Ag b).name,(Ag b).pub,ag⟩),p']⟩=true:=bE (by decide) (by decide) (EP hp hV1) wW (by show p.id<p'.id;omega) (by omega)
 have zB:A9 ⟨1+1,[p']⟩=true:=DI (by decide) (by decide) wW (by omega)
 have hf1:CW [Al p (Bq [] ⟨(Ag b).name,(Ag b).pub,ag⟩),p'] 1=some p':=by
  have:(Al p (Bq [] ⟨(Ag b).name,(Ag b).pub,ag⟩)).id≠1:=by show p.id≠1;omega
  simp[CW,this,wU]
 have hf2:CW [p'] 1=some p':=by simp[CW,wU]
 have hv3:=Xd (n:=2) (th:=1) (p:=p) (ag:=ag) (by omega) (by decide) (by decide) hb zA hf1 hp'.path hp'.bel hv
 have hv4:=Xd (n:=2) (th:=1) (p:=p) (ag:=ag) (by omega) (by decide) (by decide) hb zB hf2 hp'.path hp'.bel hv
 generalize Bq [] ⟨(Ag b).name,(Ag b).pub,ag⟩=V at*
 refine⟨⟨1,[Al p []]⟩,⟨1,[Al p V]⟩,⟨1,[]⟩,⟨1+1,[Al p V,p']⟩,⟨1+1,[p']⟩,DL (Bn 2 1) [],DL (Bn 2 1) (use [] ⟨(Ag b).pub,1⟩),p,?_⟩
 refine { o0e:=rfl,sub:=by rw[hsub,hpv];rfl,q0p:=by show[Al p []]=[p];rw[hpv],id0:=by omega,id1:=by omega,pl:=by omega,dl:=by omega,v1:=hv1,v2:=hv2,wd:=hwd,s1:=hs1,s2:=hsub2,v3:=hv3,v4:=hv4,f0:=?_,f1:=?_,fw:=?_,g1:=?_,g2:=?_ }
 ·exact IK (by omega) (by simp) (by simp) (fun x hx=>by rw[List.mem_singleton.1 hx];simp[Al])
 ·exact IK (by omega) (by omega) (by simp) (fun x hx=>by rw[List.mem_singleton.1 hx];show V.length<=_;omega)
 ·exact IK (by omega) (by simp) (by simp) (fun x hx=>by cases hx)
 ·exact IK (by omega) (by simp) (by simp) (fun x hx => by
   simp only[List.mem_cons,List.not_mem_nil,or_false] at hx
   rcases hx with rfl|rfl
   ·show V.length<=_;omega
   ·rw[wV];simp)
 ·exact IK (by omega) (by simp) (by simp) (fun x hx=>by rw[List.mem_singleton.1 hx,wV];simp)
end Own
end
section
open Go Go.RowKit Go.Maps
structure QB (w:World) (g:Nat) (q:Own.Queue) (qa:Option Addr) (qc:Nat):Prop where
 at_:At w g 24 #[.int .i64 q.next,.slice qa q.props.length qc]
 ps:Own.AX w (.slice qa q.props.length qc) q.props
theorem QB.store {w:World}{g:Nat}{q r:Own.Queue}{qa ra:Option Addr}{qc rc:Nat}(h:QB w g q qa qc)(hp:Own.AX w (.slice ra r.props.length rc) r.props):QB ((w.setCell ⟨g,0,none⟩ (.int .i64 r.next)).setCell ⟨g,1,none⟩ (.slice ra r.props.length rc)) g r ra rc:=by
 have n0:Own.Fu w g:=Own.Fu.at_ h.at_ rfl
 have hz:w.heap.size<=((w.setCell ⟨g,0,none⟩ (.int .i64 r.next)).setCell ⟨g,1,none⟩ (.slice ra r.props.length rc)).heap.size:=by simp[World.setCell]
 have k1:∀ k,k≠g->((w.setCell ⟨g,0,none⟩ (.int .i64 r.next)).setCell ⟨g,1,none⟩ (.slice ra r.props.length rc)).heap[k]? = w.heap[k]? :=fun k hk=>by rw[zo hk,zo hk]
 exact⟨(h.at_.set 0 _).set 1 _,Own.AX.store hp n0 hz k1⟩
def nI (w9:World)(gX:Nat)(o0:Own.Ap)(A:Own.Ce)(ag:Bool)(dg:ByteArray)(wx:World):Prop:=
 ∃ X R Qn On xa xc,Own.Eo X 0 9 ⟨#[97,47,121]⟩ dg=(R,1,0)/\Own.EZ R o0 1 ag A=(Qn,On,18)/\Fits o0 X/\Fits o0 R/\QB wx gX X xa xc/\Below w9.heap.size w9 wx
theorem bF (b d:Int)(ag wdr:Bool)(w:World)(hM:Fx w)(hb:0<=b/\b<256)(hd:0<=d/\d<256):Calls Tryz.prog 7 #[.int .u8 b,.int .u8 d,.bool ag,.bool wdr] w fun e w' => e=.returned (.bool true)/\Below w.heap.size w w':=by
 obtain⟨bb,hbb⟩:∃ n:Nat,b%2=n:=⟨(b%2).toNat,by omega⟩
 obtain⟨dn,rfl⟩:∃ n:Nat,d=n:=⟨d.toNat,by omega⟩
 have hb2:bb<2:=by omega
 have hd2:dn<256:=by omega
 obtain⟨q0,q1,qw,r1,r2,o0,o1,p,h⟩:=Own.onP bb dn hb2 hd2 ag
 have haw:=fun W (hW:Fx W)=>WL W hW
 have hsp:=fun W=>JL 2 1 W (by omega)
 have hdg:=fun W=>Jd dn W hd2
 have hsb:=fun W (hW:Below w.heap.size w W)=>FV ⟨0,[]⟩ 0 9 ⟨#[97,47,120]⟩ (Az.Ah dn) (.slice none 0 0) W (hM.below hW) (Af.nil _ _) (by simp) (by simp)
 simp only[h.sub] at hsb
 have hln:q0.props.length=1:=by rw[h.q0p];rfl
 have gU:q0.props=[p]:=h.q0p
 have hso:o0.spaces=[Own.Bn 2 1]:=by rw[h.o0e]
 have hko:o0.keys=[]:=by rw[h.o0e]
 have hco:o0.count=0:=by rw[h.o0e]
 rw[<- hso] at hsp
 obtain⟨A,hA⟩:∃ A,A=Own.Bl bb 0 p ag:=⟨_,rfl⟩
 have hl:=Own.IQ bb 0 p ag
 have hv1:=h.v1;have hv2:=h.v2;have hv3:=h.v3;have hv4:=h.v4;have hs1:=h.s1;have hs2:=h.s2
 rw[<- hA] at hv1 hv2 hv3 hv4 hl
 have QO:=zh (fun(vl:Nat) (va:Option Addr) (vc:Nat) W' => IU bb 0 p ag (.slice va vl vc) W' (by omega) (by omega) h.id0 h.id1 h.pl h.dl A hA (bi:=b%2) (ii:=0) hbb rfl)
 have wX:=zh haw;have HSP:=zh hsp;have HDG:=zh hdg;have HSB:=zh hsb;have HLN:=zh hln;have qb:=zh gU;have HKO:=zh hko;have HCO:=zh hco;have HMX:=zh hM
 have HL:=zh hl;have HV1:=zh hv1;have HV2:=zh hv2;have HV3:=zh hv3;have HV4:=zh hv4;have HS1:=zh hs1;have HS2:=zh hs2;have HWD:=zh h.wd
 have F0:=zh h.f0;have F1:=zh h.f1;have FW:=zh h.fw;have G1:=zh h.g1;have G2:=zh h.g2
 have f1' : Fits o0 q1:=⟨h.f1.lp,h.f1.lv,h.f0.ls,h.f0.lk,h.f0.lm⟩
 have F1':=zh f1'
 generalize Az.Ah dn=DG at HDG HSB HS1 HS2
 generalize Own.Queue.none=Qn at HV2 HV3 HV4
 generalize Own.Ap.none=On at HV2 HV3 HV4
 clear haw hsp hdg hsb hln gU hso hko hco hM hl hv1 hv2 hv3 hv4 hs1 hs2 h f1' hA hbb hb2 hd2 hd
 go_enter Tryz.func7,Tryz.ntmps7
 go_wp2_with fail
 refine(wX.out _ HMX.out).mono ?_
 rintro e w0 ⟨rfl,hb0⟩
 have HB0:=zh hb0
 clear hb0 wX
 go_wp2_with fail
 refine(HSP.out _).mono ?_
 rintro e w1 ⟨sv,rfl,hS,hb1⟩
 obtain⟨sa,sc,rfl⟩:=hS.len
 have hb1:=HB0.out.trans (hb1.mono HB0.out.size)
 have hb2:=hb1.trans (((Below.refl w1.heap.size w1).alloc (Nat.le_refl _) (.cells #[.int .i64 0,.slice sa o0.spaces.length sc,.slice none 0 0] 38)).mono hb1.size)
 obtain⟨gO,hgO⟩:∃ g,g=w1.heap.size:=⟨_,rfl⟩
 have hO2:=At.new w1 38 #[.int .i64 0,.slice sa o0.spaces.length sc,.slice none 0 0]
 have hS2:=hS.below ((Below.refl w1.heap.size w1).alloc (Nat.le_refl _) (.cells #[.int .i64 0,.slice sa o0.spaces.length sc,.slice none 0 0] 38))
 rw[<- hgO] at hO2
 have HB2:=zh hb2;have HO2:=zh hO2;have wY:=zh hS2;have HGO:=zh hgO
 clear hb1 hb2 hO2 hS hS2 hgO HB0
 go_upto_region 4 with fail
 rw[<- HGO.out]
 generalize w1.alloc (.cells #[.int .i64 0,.slice sa o0.spaces.length sc,.slice none 0 0] 38)=w2 at*
 clear HGO
 go_wp2_with fail
 refine(HDG.out _).mono ?_
 rintro e w3 ⟨rfl,hb3⟩
 have HB3:=zh (HB2.out.trans (hb3.mono HB2.out.size));have HO3:=zh (HO2.out.below hb3 HO2.out.lt);have HS3:=zh (wY.out.below hb3)
 clear hb3 HB2 HO2 wY
 go_wp2_with fail
 refine(HSB.out _ HB3.out).mono ?_
 rintro e w4 ⟨⟨qv,rfl,qv',rfl,hpo⟩,hb4⟩
 obtain⟨qa,qc,rfl⟩:=hpo.one
 have hp4:Own.AX w4 (.slice qa q0.props.length qc) q0.props:=hpo.props
 have Ml:Below w4.heap.size w4 (w4.alloc (.cells #[.int .i64 q0.next,.slice qa q0.props.length qc] 24)):=zb
 have hb5:=hb4.trans (Ml.mono hb4.size)
 have hQ5:=At.new w4 24 #[.int .i64 q0.next,.slice qa q0.props.length qc]
 have hO5:=HO3.out.below hb5 HO3.out.lt
 have hls:LS (w4.alloc (.cells #[.int .i64 q0.next,.slice qa q0.props.length qc] 24)) gO w4.heap.size o0 q0 sa sc none 0 qa qc:=
  ⟨by rw[HCO.out,HKO.out];exact hO5,hQ5,HS3.out.below hb5,by rw[HKO.out];exact Af.nil _ _,hp4.below Ml⟩
 obtain⟨gQ,hgQ⟩:∃ g,g=w4.heap.size:=⟨_,rfl⟩
 rw[<- hgQ] at hls
 have HB6:=zh (HB3.out.trans (hb5.mono HB3.out.size));have L6:=zh hls;have HGQ:=zh hgQ
 clear hp4 Ml hb5 hQ5 hO5 hls hgQ hb4 hpo HB3 HO3 HS3 HSB
 go_upto_region 5 with fail
 rw[<- HGQ.out]
 generalize w4.alloc (.cells #[.int .i64 q0.next,.slice qa q0.props.length qc] 24)=w6 at*
 clear HGQ
 have d1:((q0.props.length:Int) != 1)=false:=by rw[HLN.out];rfl
 have d0:0<q0.props.length:=by rw[HLN.out];omega
 obtain⟨q0c,q1c⟩:=L6.out.atQ.c2
 obtain⟨gb,o',vv,hqa,hbl,e0,e1,e2,e3,e4,e5,hvv⟩:=Own.AX.cells L6.out.ps d0
 obtain⟨va,vc,rfl⟩:=hvv.len
 generalize q0.props[0].Aq.length=vl at*
 clear hvv
 subst hqa
 simp only[Nat.zero_mul,Nat.add_zero,qb.out,List.getElem_cons_zero] at e0 e1 e2 e3 e4 e5
 go_upto_region 7 with fail
 go_wp2_with fail
 refine(QO.out _ _ _ _).mono ?_
 rintro e w7 ⟨cv,pv,rfl,hoc,hop,hb7⟩
 obtain⟨ca,cm,cc,rfl⟩:=Ae hoc
 obtain⟨pa,pm,pc,rfl⟩:=Ae hop
 clear q0c q1c e0 e1 e2 e3 e4 e5 d1 d0 hbl QO
 have hba:Below w7.heap.size w7 (w7.alloc (.cells #[.string A.name,.int .i64 A.sig.index,.slice ca cm cc,.slice pa pm pc] 43)):=zb
 have hA8:=At.new w7 43 #[.string A.name,.int .i64 A.sig.index,.slice ca cm cc,.slice pa pm pc]
 obtain⟨gA,hgA⟩:∃ g,g=w7.heap.size:=⟨_,rfl⟩
 rw[<- hgA] at hA8
 have hbb:=hb7.trans (hba.mono hb7.size)
 have L8:=zh (L6.out.below hbb);have HB8:=zh (HB6.out.trans (hbb.mono HB6.out.size));have HA8:=zh hA8;have OC8:=zh (own_below hoc hba);have OP8:=zh (own_below hop hba);have HGA:=zh hgA
 clear hb7 hba hA8 hgA hbb hoc hop L6 HB6
 go_upto_region 8 with fail
 rw[<- HGA.out]
 generalize w7.alloc (.cells #[.string A.name,.int .i64 A.sig.index,.slice ca cm cc,.slice pa pm pc] 43)=w8 at*
 clear HGA
 obtain⟨q0c,q1c⟩:=L8.out.atQ.c2;obtain⟨o0c,o1c,o2c⟩:=L8.out.atO.c3;obtain⟨a0c,a1c,a2c,a3c⟩:=HA8.out.c4
 have HVT:=zh (L8.out.EZ (HMX.out.below HB8.out) F0.out 0 ag A OC8.out OP8.out HL.out.1.symm HL.out.2.1.symm (by have h1:=HL.out.1;have h2:=HL.out.2.1;have h3:=HL.out.2.2;omega) HV1.out)
 go_wp2_with fail
 refine HVT.out.mono ?_
 rintro e w9 ⟨sa1,sc1,ka1,kc1,qa1,qc1,rfl,hs,hk,hp,hb⟩
 dsimp only at hs hk hp ⊢
 have L9:=zh (L8.out.below hb);have HB9:=zh (HB8.out.trans (hb.mono HB8.out.size));have HA9:=zh (HA8.out.below hb HA8.out.lt);have OC9:=zh (own_below OC8.out hb);have OP9:=zh (own_below OP8.out hb)
 have SP:=zh hs;have KS:=zh hk;have PS:=zh hp
 clear hs hk hp hb q0c q1c o0c o1c o2c a0c a1c a2c a3c HVT L8 HB8 HA8 OC8 OP8
 go_upto_region 9 with fail
 obtain⟨hl,hbz⟩:=LS.two SP.out KS.out PS.out
 obtain⟨gY,hgY⟩:∃ g,g=w9.heap.size+1:=⟨_,rfl⟩
 obtain⟨gX,hgX⟩:∃ g,g=w9.heap.size:=⟨_,rfl⟩
 have wZ:w9.heap.size<=gX:=by omega
 rw[<- hgY,<- hgX] at hl
 have LX:=zh hl;have BZ:=zh hbz
 rw[<- hgY]
 rw[<- hgX]
 clear hl hbz hgY hgX SP KS PS
 generalize (w9.alloc (.cells #[.int .i64 q1.next,.slice qa1 q1.props.length qc1] 24)).alloc (.cells #[.int .i64 o1.count,.slice sa1 o1.spaces.length sc1,.slice ka1 o1.keys.length kc1] 38)=w10 at*
 have q0c:=LX.out.atQ.cell 0;have q1c:=LX.out.atQ.cell 1;have o0c:=LX.out.atO.cell 0;have o1c:=LX.out.atO.cell 1;have o2c:=LX.out.atO.cell 2
 have jr:=HA9.out.below BZ.out HA9.out.lt
 have a0c:=jr.cell 0;have a1c:=jr.cell 1;have a2c:=jr.cell 2;have a3c:=jr.cell 3
 simp only[zg] at q0c q1c o0c o1c o2c a0c a1c a2c a3c
 clear jr
 have HVT:=zh (LX.out.EZ (HMX.out.below (HB9.out.trans (BZ.out.mono HB9.out.size))) F1.out 0 ag A (own_below OC9.out BZ.out) (own_below OP9.out BZ.out) HL.out.1.symm HL.out.2.1.symm (by have h1:=HL.out.1;have h2:=HL.out.2.1;have h3:=HL.out.2.2;omega) HV2.out)
 go_upto_region 11 with fail
 go_wp2_with fail
 refine HVT.out.mono ?_
 rintro e w11 ⟨sa2,sc2,ka2,kc2,qa2,qc2,rfl,hs,hk,hp,hb⟩
 dsimp only at hs hk hp ⊢
 obtain⟨_,hbz⟩:=LS.two hs hk hp
 have hbt:=hb.trans (hbz.mono hb.size)
 have QX:=zh (show QB _ gX q1 qa1 qc1 from⟨LX.out.atQ.below hbt LX.out.atQ.lt,LX.out.ps.below hbt⟩);have BZ2:=zh (BZ.out.trans (hbt.mono BZ.out.size))
 clear hs hk hp hb hbz hbt q0c q1c o0c o1c o2c a0c a1c a2c a3c HVT LX BZ
 go_upto_region 12 with fail
 generalize (w11.alloc (.cells #[.int .i64 Qn.next,.slice qa2 Qn.props.length qc2] 24)).alloc (.cells #[.int .i64 On.count,.slice sa2 On.spaces.length sc2,.slice ka2 On.keys.length kc2] 38)=w12 at*
 go_upto_region 14 with fail
 cases wdr
 ·have hcut:nI w9 gX o0 A ag DG w12:=⟨q1,r1,Qn,On,qa1,qc1,HS1.out,HV3.out,F1'.out,G1.out,QX.out,BZ2.out⟩
  clear QX BZ2
  go_upto_region 18 with fail
  obtain⟨X,R,Qz,Oz,xa,xc,hs,hv,hfx,hfr,hqx,hbz⟩:=hcut
  have HSX:=zh hs;have HVX:=zh hv;have HFX:=zh hfx;have HFR:=zh hfr;have QX:=zh hqx;have BZ:=zh hbz
  have HBc:=zh (HB9.out.trans (hbz.mono HB9.out.size))
  clear hs hv hfx hfr hqx hbz HV1 HV2 HV3 HV4 HS1 HS2 HWD F0 F1 FW G1 G2 F1'
  obtain⟨q0c,q1c⟩:=QX.out.at_.c2
  have HXQ:=zh (zi q0c)
  go_wp2_with fail
  refine Lex.Cj (fun k=>k=gX) [0] [8] 11 [.pure 2,.call,.call,.pure 4,.new] [1] (by kernel_rfl) (by kernel_rfl) (by kernel_rfl) ?_
  simp only[Lex.Fq,Lex.Bg,zd]
  have BD:=zh (show Below w12.heap.size w12 w12.drew from(Below.refl _ _).drew)
  have ZD:=zh (show w12.drew.heap.size=w12.heap.size by rw[Ar])
  go_wp2_with fail
  refine Lex.GU.intro ?_
  intro wa hg
  have BEa:=zh (BD.out.trans (hg.mono BD.out.size));have BXa:=zh hg
  clear hg q0c q1c
  go_wp2_with fail
  refine(HDG.out _).mono ?_
  rintro e wb ⟨rfl,hb⟩
  have BEb:=zh (BEa.out.trans (hb.mono BEa.out.size));have BXb:=zh (BXa.out.trans (hb.mono BXa.out.size));have BB:=zh hb
  clear hb
  go_wp2_with fail
  refine Lex.JR.intro (fun k _ hkl=>BXb.out.block _ hkl) (Lex.Kept.of_below BB.out) ?_
  intro wd hg
  have hbc:=BEb.out.trans (hg.mono BEb.out.size)
  have hst:=FV X 0 9 ⟨#[97,47,121]⟩ DG _ wd (HMX.out.below (HBc.out.trans (hbc.mono HBc.out.size))) (QX.out.ps.below hbc) HFX.out.lp HFX.out.lv
  rw[HSX.out] at hst
  have HST:=zh hst
  have BEc:=zh hbc;have BXc:=zh (BXb.out.trans (hg.mono BXb.out.size))
  clear hbc hst hg BB BEa BXa
  go_wp2_with fail
  refine HST.out.mono ?_
  rintro e we ⟨⟨qv,rfl,qv',rfl,hpo⟩,hb⟩
  obtain⟨ra,rc,rfl⟩:=hpo.one
  have HPP:=zh (show Own.AX we (.slice ra R.props.length rc) R.props from hpo.props)
  have BEd:=zh (BEc.out.trans (hb.mono BEc.out.size));have BXd:=zh (BXc.out.trans (hb.mono BXc.out.size));have BB:=zh hb
  clear hb hpo HST BEb BXb
  go_wp2_with fail
  refine Lex.JR.intro (fun k _ hkl=>BXd.out.block _ hkl) (Lex.Kept.of_below BB.out) ?_
  go_wp2_with fail
  refine Lex.GU.intro ?_
  intro wf hwf
  go_wp2_with fail
  refine Lex.Nr.intro (fun wg hg hkk _=>?_)
  have hs:=hkk.at_
  obtain⟨gZ,hgz⟩:∃ g,g=wf.heap.size:=⟨_,rfl⟩
  have hgZ:w12.heap.size<=gZ:=by rw[hgz,<- ZD.out];exact hwf
  rw[<- hgz] at hs
  have HZ:=zh hs;have BEg:=zh (BEd.out.trans (hg.mono BEd.out.size));have BXg:=zh (BXd.out.trans (hg.mono BXd.out.size));have HPG:=zh (HPP.out.below hg)
  rw[<- hgz]
  clear hg hkk hs hgz hwf HPP BB BEc BXc BEd BXd
  obtain⟨q0c,q1c⟩:=HZ.out.c2
  have q0f:=HZ.out.free 0;have q1f:=HZ.out.free 1
  have hlX:=QX.out.at_.lt
  go_wp2_with fail
  refine Lex.Mid.intro (fun k hk hkl=>by
   have h3:k≠gZ:=by omega
   rw[zo h3,zo h3]
   exact BXg.out.block _ hkl) ?_
  go_wp2_with fail
  refine Lex.zk ⟨⟨rfl,HXQ.out⟩,trivial⟩ ?_
  have hz:=QB.store (q:=⟨0,[]⟩) (r:=R) ⟨HZ.out,Af.nil _ _⟩ HPG.out
  have hbz:=(BEg.out.setCell (p:=⟨gZ,0,none⟩) hgZ (.int .i64 R.next)).setCell (p:=⟨gZ,1,none⟩) hgZ (.slice ra R.props.length rc)
  have BT:=zh (BZ.out.trans (hbz.mono BZ.out.size))
  have HBz:=zh (HBc.out.trans (hbz.mono HBc.out.size))
  have hl9:=L9.out.below BT.out
  have LZ:=zh (show LS _ gO gZ o0 R sa sc none 0 ra rc from⟨hl9.atO,hz.at_,hl9.sp,hl9.ks,hz.ps⟩)
  clear hz hbz hl9 q0c q1c q0f q1f hlX hgZ HXQ HZ HPG BEg BXg BZ HBc QX BD ZD
  go_upto_region 19 with fail
  generalize (wg.setCell ⟨gZ,0,none⟩ (.int .i64 R.next)).setCell ⟨gZ,1,none⟩ (.slice ra R.props.length rc)=wz at*
  have q0c:=LZ.out.atQ.cell 0;have q1c:=LZ.out.atQ.cell 1;have o0c:=LZ.out.atO.cell 0;have o1c:=LZ.out.atO.cell 1;have o2c:=LZ.out.atO.cell 2
  have hAz:=HA9.out.below BT.out HA9.out.lt
  have a0c:=hAz.cell 0;have a1c:=hAz.cell 1;have a2c:=hAz.cell 2;have a3c:=hAz.cell 3
  simp only[zg] at q0c q1c o0c o1c o2c a0c a1c a2c a3c
  clear hAz
  have HVT:=zh (LZ.out.EZ (HMX.out.below HBz.out) HFR.out 1 ag A (own_below OC9.out BT.out) (own_below OP9.out BT.out) HL.out.1.symm HL.out.2.1.symm (by have h1:=HL.out.1;have h2:=HL.out.2.1;have h3:=HL.out.2.2;omega) HVX.out)
  go_wp2_with fail
  refine HVT.out.mono ?_
  rintro e wv ⟨sa4,sc4,ka4,kc4,qa4,qc4,rfl,hs,hk,hp,hb⟩
  dsimp only at hs hk hp ⊢
  obtain⟨_,hbz⟩:=LS.two hs hk hp
  have hbt:=hb.trans (hbz.mono hb.size)
  have HBe:=zh (HBz.out.trans (hbt.mono HBz.out.size))
  clear hs hk hp hb hbz hbt q0c q1c o0c o1c o2c a0c a1c a2c a3c HVT LZ BT HBz
  go_upto_region 20 with fail
  go_wp2_with fail
  go_ret
  exact⟨rfl,HBe.out⟩
 ·have q0c:=QX.out.at_.cell 0;have q1c:=QX.out.at_.cell 1
  simp only[zg] at q0c q1c
  have hw:=JQ q1 0 _ w12 (HMX.out.below (HB9.out.trans (BZ2.out.mono HB9.out.size))) QX.out.ps F1'.out.lp F1'.out.lv
  rw[HWD.out] at hw
  have HW:=zh hw
  clear hw
  go_wp2_with fail
  refine HW.out.mono ?_
  rintro e w13 ⟨⟨zaU,rfl,zaV,rfl,hpo⟩,Yv⟩
  obtain⟨qa3,qc3,rfl⟩:=hpo.one
  have hq3:QB w13 gX q1 qa1 qc1:=⟨QX.out.at_.below Yv QX.out.at_.lt,QX.out.ps.below Yv⟩
  have hst:=QB.store (r:=qw) hq3 hpo.props
  have hbz:=((BZ2.out.trans (Yv.mono BZ2.out.size)).setCell (p:=⟨gX,0,none⟩) wZ (.int .i64 qw.next)).setCell (p:=⟨gX,1,none⟩) wZ (.slice qa3 qw.props.length qc3)
  have HST:=zh hst;have HBZ:=zh hbz;have HQ3:=zh hq3
  clear hst hbz hq3 hpo Yv q0c q1c HW
  have q0f:=HQ3.out.at_.free 0;have q1f:=HQ3.out.at_.free 1
  obtain⟨q0c,q1c⟩:=HQ3.out.at_.c2
  go_upto_region 18 with fail
  have hcut:nI w9 gX o0 A ag DG ((w13.setCell ⟨gX,0,none⟩ (.int .i64 qw.next)).setCell ⟨gX,1,none⟩ (.slice qa3 qw.props.length qc3)):=⟨qw,r2,Qn,On,qa3,qc3,HS2.out,HV4.out,FW.out,G2.out,HST.out,HBZ.out⟩
  clear q0c q1c q0f q1f HQ3 HST HBZ QX BZ2
  generalize (w13.setCell ⟨gX,0,none⟩ (.int .i64 qw.next)).setCell ⟨gX,1,none⟩ (.slice qa3 qw.props.length qc3)=w14 at*
  obtain⟨X,R,Qz,Oz,xa,xc,hs,hv,hfx,hfr,hqx,hbz⟩:=hcut
  have HSX:=zh hs;have HVX:=zh hv;have HFX:=zh hfx;have HFR:=zh hfr;have QX:=zh hqx;have BZ:=zh hbz
  have HBc:=zh (HB9.out.trans (hbz.mono HB9.out.size))
  clear hs hv hfx hfr hqx hbz HV1 HV2 HV3 HV4 HS1 HS2 HWD F0 F1 FW G1 G2 F1'
  obtain⟨q0c,q1c⟩:=QX.out.at_.c2
  have HXQ:=zh (zi q0c)
  go_wp2_with fail
  refine Lex.Cj (fun k=>k=gX) [0] [8] 11 [.pure 2,.call,.call,.pure 4,.new] [1] (by kernel_rfl) (by kernel_rfl) (by kernel_rfl) ?_
  simp only[Lex.Fq,Lex.Bg,zd]
  have BD:=zh (show Below w14.heap.size w14 w14.drew from(Below.refl _ _).drew)
  have ZD:=zh (show w14.drew.heap.size=w14.heap.size by rw[Ar])
  go_wp2_with fail
  refine Lex.GU.intro ?_
  intro wa hg
  have BEa:=zh (BD.out.trans (hg.mono BD.out.size));have BXa:=zh hg
  clear hg q0c q1c
  go_wp2_with fail
  refine(HDG.out _).mono ?_
  rintro e wb ⟨rfl,hb⟩
  have BEb:=zh (BEa.out.trans (hb.mono BEa.out.size));have BXb:=zh (BXa.out.trans (hb.mono BXa.out.size));have BB:=zh hb
  clear hb
  go_wp2_with fail
  refine Lex.JR.intro (fun k _ hkl=>BXb.out.block _ hkl) (Lex.Kept.of_below BB.out) ?_
  intro wd hg
  have hbc:=BEb.out.trans (hg.mono BEb.out.size)
  have hst:=FV X 0 9 ⟨#[97,47,121]⟩ DG _ wd (HMX.out.below (HBc.out.trans (hbc.mono HBc.out.size))) (QX.out.ps.below hbc) HFX.out.lp HFX.out.lv
  rw[HSX.out] at hst
  have HST:=zh hst
  have BEc:=zh hbc;have BXc:=zh (BXb.out.trans (hg.mono BXb.out.size))
  clear hbc hst hg BB BEa BXa
  go_wp2_with fail
  refine HST.out.mono ?_
  rintro e we ⟨⟨qv,rfl,qv',rfl,hpo⟩,hb⟩
  obtain⟨ra,rc,rfl⟩:=hpo.one
  have HPP:=zh (show Own.AX we (.slice ra R.props.length rc) R.props from hpo.props)
  have BEd:=zh (BEc.out.trans (hb.mono BEc.out.size));have BXd:=zh (BXc.out.trans (hb.mono BXc.out.size));have BB:=zh hb
  clear hb hpo HST BEb BXb
  go_wp2_with fail
  refine Lex.JR.intro (fun k _ hkl=>BXd.out.block _ hkl) (Lex.Kept.of_below BB.out) ?_
  go_wp2_with fail
  refine Lex.GU.intro ?_
  intro wf hwf
  go_wp2_with fail
  refine Lex.Nr.intro (fun wg hg hkk _=>?_)
  have hs:=hkk.at_
  obtain⟨gZ,hgz⟩:∃ g,g=wf.heap.size:=⟨_,rfl⟩
  have hgZ:w14.heap.size<=gZ:=by rw[hgz,<- ZD.out];exact hwf
  rw[<- hgz] at hs
  have HZ:=zh hs;have BEg:=zh (BEd.out.trans (hg.mono BEd.out.size));have BXg:=zh (BXd.out.trans (hg.mono BXd.out.size));have HPG:=zh (HPP.out.below hg)
  rw[<- hgz]
  clear hg hkk hs hgz hwf HPP BB BEc BXc BEd BXd
  obtain⟨q0c,q1c⟩:=HZ.out.c2
  have q0f:=HZ.out.free 0;have q1f:=HZ.out.free 1
  have hlX:=QX.out.at_.lt
  go_wp2_with fail
  refine Lex.Mid.intro (fun k hk hkl=>by
   have h3:k≠gZ:=by omega
   rw[zo h3,zo h3]
   exact BXg.out.block _ hkl) ?_
  go_wp2_with fail
  refine Lex.zk ⟨⟨rfl,HXQ.out⟩,trivial⟩ ?_
  have hz:=QB.store (q:=⟨0,[]⟩) (r:=R) ⟨HZ.out,Af.nil _ _⟩ HPG.out
  have hbz:=(BEg.out.setCell (p:=⟨gZ,0,none⟩) hgZ (.int .i64 R.next)).setCell (p:=⟨gZ,1,none⟩) hgZ (.slice ra R.props.length rc)
  have BT:=zh (BZ.out.trans (hbz.mono BZ.out.size))
  have HBz:=zh (HBc.out.trans (hbz.mono HBc.out.size))
  have hl9:=L9.out.below BT.out
  have LZ:=zh (show LS _ gO gZ o0 R sa sc none 0 ra rc from⟨hl9.atO,hz.at_,hl9.sp,hl9.ks,hz.ps⟩)
  clear hz hbz hl9 q0c q1c q0f q1f hlX hgZ HXQ HZ HPG BEg BXg BZ HBc QX BD ZD
  go_upto_region 19 with fail
  generalize (wg.setCell ⟨gZ,0,none⟩ (.int .i64 R.next)).setCell ⟨gZ,1,none⟩ (.slice ra R.props.length rc)=wz at*
  have q0c:=LZ.out.atQ.cell 0;have q1c:=LZ.out.atQ.cell 1;have o0c:=LZ.out.atO.cell 0;have o1c:=LZ.out.atO.cell 1;have o2c:=LZ.out.atO.cell 2
  have hAz:=HA9.out.below BT.out HA9.out.lt
  have a0c:=hAz.cell 0;have a1c:=hAz.cell 1;have a2c:=hAz.cell 2;have a3c:=hAz.cell 3
  simp only[zg] at q0c q1c o0c o1c o2c a0c a1c a2c a3c
  clear hAz
  have HVT:=zh (LZ.out.EZ (HMX.out.below HBz.out) HFR.out 1 ag A (own_below OC9.out BT.out) (own_below OP9.out BT.out) HL.out.1.symm HL.out.2.1.symm (by have h1:=HL.out.1;have h2:=HL.out.2.1;have h3:=HL.out.2.2;omega) HVX.out)
  go_wp2_with fail
  refine HVT.out.mono ?_
  rintro e wv ⟨sa4,sc4,ka4,kc4,qa4,qc4,rfl,hs,hk,hp,hb⟩
  dsimp only at hs hk hp ⊢
  obtain⟨_,hbz⟩:=LS.two hs hk hp
  have hbt:=hb.trans (hbz.mono hb.size)
  have HBe:=zh (HBz.out.trans (hbt.mono HBz.out.size))
  clear hs hk hp hb hbz hbt q0c q1c o0c o1c o2c a0c a1c a2c a3c HVT LZ BT HBz
  go_upto_region 20 with fail
  go_wp2_with fail
  go_ret
  exact⟨rfl,HBe.out⟩
end
section
open Go Go.ChangeShapes Go.WideShapes Go.RowKit Go.Maps
section
variable {H:Type} {enc:TypeId × Value->H}
theorem Gx {a:Assume}{C:Checked}{os:Os}{f:FuncId}{fn:Func}{s:ChangeSpec}{conds:List PathCond}{apart fresh handsOn again:Bool}{X:World->Array Value->Prop}
 (hX:∀ (w w' : World) (args:Array Value),w.heap=w'.heap->X w args->X w' args)
 (own:ownKnob C.prog.godebug=none) (started:os.Started) (noInit:C.prog.inits.idxOf? f=none) (hfn:C.prog.funcs[f]? = some fn)
 (witness : ∃ (w : World) (tape : Tape) (i : Input),w.os = os ∧ (w.forCall tape i).Shaped C.prog ∧ i.vars = [] ∧ Input.okWide C.prog (w.forCall tape i) .any w.heap.size f i ∧
   ((s.pre enc C.prog fn conds apart (w.forCall tape i).memory i.args/\X (w.forCall tape i).memory i.args)/\sizedMet enc C.prog fn (OpenSpec.ofChange s) apart (w.forCall tape i).memory i.args)/\a.holds C.prog (lone (Frame.enter C.prog f i.args .normal) [] (w.forCall tape i)))
 (contract : ∀ (W : World) (base : Nat) (args : Array Value) (ds gs : List (DataW H)) (before : List MemPlace),
   (∀ (j:Nat) t v,fn.params[j]? = some t->args[j]? = some v->Value.okWide C.prog W .any base t v)->
   DataW.Whole enc C.prog fn.params.toList s.vars apart W args.toList ds gs before->
   conds.all (PathCond.test C.prog ⟨fn.params.toList,ds,s.plain.varTypes C.prog,gs⟩)=true->
   (DataW.weightsEach C.prog (fn.params.toList++s.plain.varTypes C.prog) (ds++gs)).all (· <= reachBytes)=true->X W args->W.ShapedOpen C.prog->
   a.holds C.prog (lone (Frame.enter C.prog f args .normal) [] W)->
   Calls C.prog f args W fun e W' => ∃ v,e=.returned v/\s.post enc C.prog fn apart fresh handsOn again W args v W'):
 ReturnsInHanded a C os f .any (fun w args=>(s.pre enc C.prog fn conds apart w args/\X w args)/\sizedMet enc C.prog fn (OpenSpec.ofChange s) apart w args) (s.post enc C.prog fn apart fresh handsOn again):=by
 refine returnsInHanded_of_calls own started noInit witness ?_
 intro w tape i _ hsh _ hok hpre hholds
 obtain⟨_,_,_,fn',hfn',_,_,_,_,hval⟩:=hok
 have e:fn' = fn:=Option.some.inj (hfn'.symm.trans hfn)
 subst e
 obtain⟨⟨⟨ds,gs,before,hw,hc⟩,hx⟩,hz⟩:=hpre
 have hw':=DataW.Whole.of_heap (w':=w.forCall tape i) (by rfl) hw
 refine(contract (w.forCall tape i) w.heap.size i.args ds gs before hval hw' hc (hz.weights hw) (hX _ _ _ (by rfl) hx) hsh hholds).mono fun e W' ⟨v,he,hp⟩=>?_
 subst he
 exact ChangeSpec.post_blind hp
theorem lI {W:World}(h:W.ShapedOpen Tryz.prog):Fx W:=
 Go.Proofs.cell_of_shapedOpen_int (zero:=#[.int .i64 0]) (t:=3) h (of_decide_eq_true (by kernel_rfl)) (by kernel_rfl) rfl (by kernel_rfl) (by kernel_rfl) Tryz.underlying3
end
end
section
open Go Go.ChangeShapes Go.WideShapes Go.ChangeAt Go.RowKit
theorem Xe:ownKnob Tryz.prog.godebug=none:=by kernel_rfl
theorem U7 (os:Os)(started:os.Started)(H:Type)(enc:TypeId × Value->H):
 ReturnsInHanded {} Tryz.checked os 7 .any (fun w args=>(Rows.reviewOnceSpec.pre enc Tryz.prog Tryz.f7 Rows.reviewOnceRow.domain false w args/\laidMetH Tryz.prog Rows.reviewOnceRow.laid w)/\sizedMet enc Tryz.prog Tryz.f7 (OpenSpec.ofChange Rows.reviewOnceSpec) false w args)
  (Rows.reviewOnceSpec.post enc Tryz.prog Tryz.f7 false true false false):=by
 refine Gx (C:=Tryz.checked) (X:=fun w _=>laidMetH Tryz.prog Rows.reviewOnceRow.laid w) (fun _ _ _ hh h=>h.of_heap hh) Xe started (by kernel_rfl) Tryz.func7
  (ChangeSpec.witness_shaped (enc :=enc) (C :=Tryz.checked) (os :=os) (X :=fun w _ => laidMetH Tryz.prog Rows.reviewOnceRow.laid w) false (World.laidAll Tryz.prog os Rows.reviewOnceRow.laid) #[.int .u8 0,.int .u8 0,.bool false,.bool false] 8 (World.laidAll_os _ _ _)
    (World.shaped_of_ZipB (by kernel_rfl) (by kernel_rfl)) (by kernel_rfl) (by kernel_rfl) (by kernel_rfl)
    (by rw[MakeChecks.laidMetH_plain _ _ _ (by kernel_rfl)];exact laidMet_laidAll _ (by kernel_rfl) (by kernel_rfl))) ?_
 intro W base args ds gs before hval0 hW _ hz0 _ hsh _
 have hM:=lI hsh
 have hval:∀ (j:Nat) t v,Tryz.f7.params[j]? = some t->args[j]? = some v->Value.okWide Tryz.prog W .any base t v:=hval0
 have hW':=hW
 obtain⟨p,q,hA0,hV,rfl,_,_⟩:=hW
 have hA:DataW.TrodAll enc Tryz.prog W 0 (fun _=>true) true Tryz.f7.params.toList args.toList ds p:=hA0
 rw[Tryz.params7] at hA hval
 obtain⟨v0,v1,v2,v3,d0,d1,d2,d3,p0,p1,p2,p3,rfl,rfl,rfl,h0,h1,h2,h3⟩:=trodAll_four hA
 obtain⟨rfl,rfl⟩:=trodVars_none hV
 obtain⟨x0,rfl,rfl,rfl,wx0⟩:=open_int Tryz.underlying5 (hval 0 5 v0 rfl rfl) h0
 have hx0:0<=x0/\x0<256:=by
  have:=wx0
  simp[Lit.wf,IntKind.has] at this
  have h1:IntKind.u8.min=0:=by decide
  have h2:IntKind.u8.max=255:=by decide
  omega
 obtain⟨x1,rfl,rfl,rfl,wx1⟩:=open_int Tryz.underlying5 (hval 1 5 v1 rfl rfl) h1
 have hx1:0<=x1/\x1<256:=by
  have:=wx1
  simp[Lit.wf,IntKind.has] at this
  have h1:IntKind.u8.min=0:=by decide
  have h2:IntKind.u8.max=255:=by decide
  omega
 obtain⟨x2,rfl,rfl,rfl⟩:=open_bool Tryz.underlying4 (hval 2 4 v2 rfl rfl) h2
 obtain⟨x3,rfl,rfl,rfl⟩:=open_bool Tryz.underlying4 (hval 3 4 v3 rfl rfl) h3
 have e1:Rows.reviewOnceSpec.fn H ([.lit (.int .u8 x0),.lit (.int .u8 x1),.lit (.bool x2),.lit (.bool x3)]++[]) = { results:=[.lit (.bool true)],args:=[.lit (.int .u8 x0),.lit (.int .u8 x1),.lit (.bool x2),.lit (.bool x3)] } :=by simp[Rows.reviewOnceSpec]
 refine(bF x0 x1 x2 x3 W hM hx0 hx1).mono fun e W' ⟨he,hb⟩=>?_
 subst he
 refine⟨_,rfl,_,_,_,[],[]++([]++([]++([]++[]))),[],by simpa using hW',?_,?_,?_,hb.frame _,fun h=>by cases h⟩
 ·rw[e1];exact trodAll_mk1 (shut_bool Tryz.underlying4 true)
 ·rw[e1];exact(trodAll_cons_mk (shut_int Tryz.underlying5 wx0) (trodAll_cons_mk (shut_int Tryz.underlying5 wx1) (trodAll_cons_mk (shut_bool Tryz.underlying4 x2) (trodAll_cons_mk (shut_bool Tryz.underlying4 x3) trodAll_mk0))))
 ·rw[e1];rfl
theorem Xf:Rows.ReviewOnceSaid:=
 OpenClaim.holds_of_wide 7 Tryz.f7 rfl rfl rfl rfl rfl rfl rfl ⟨rfl,rfl,rfl,rfl,rfl⟩ rfl rfl rfl rfl rfl (by kernel_rfl) Tryz.func7 (by kernel_rfl)
  (of_decide_eq_true (by kernel_rfl)) (by unfold Func.isWrapper;first|(rw[if_pos (by decide +kernel)];kernel_rfl)|(rw[if_neg (by decide +kernel)];exact⟨rfl,rfl⟩))
  (fun os started H enc _=>U7 os started H enc)
theorem ronce_card:Rows.ReviewOnceCardSaid:=
 Claim7.holds_tied_plain_at .later [] [.data,.pinned] true Rows.reviewOnceCard.stood.harness false Xf (fun _ h=>by cases h) (by kernel_rfl) (fun _ h=>by cases h) reviewOnce_row_tie rfl ⟨rfl,rfl⟩ (by kernel_rfl) rfl
  (fun f fn hf hfn => by
    obtain rfl : f = 7 := Option.some.inj ((show Tryz.prog.funcNamed "modcert/modcertlaw54.ReviewOnce" = some 7 by kernel_rfl).symm.trans hf) |>.symm
    obtain rfl:fn=Tryz.f7:=(Option.some.inj (Tryz.func7.symm.trans hfn)).symm
    exact⟨by kernel_rfl,fun j t ht=>by
     rw[Tryz.params7] at ht
     have hm:t∈[5,5,4,4]:=by simpa using Array.mem_of_getElem? ht
     have hall:([5,5,4,4].all fun u => !Tryz.prog.wantsStandIn u)=true:=by kernel_rfl
     exact(show Tryz.prog.wantsStandIn t=false by simpa using List.all_eq_true.1 hall t hm)⟩)
  (by kernel_rfl)
end
end Go.Proofs.YtnijhlphcjjpbaaGreatDoor
