/- Regions with loads beside calls, whose last operations store into what the loads read: the loads' blocks need to stand only as long as a load may float; The laws' example stands; The reference's comparisons answer true where both sides read as one value; The law ReviewMerges holds, for any arguments; The wrap that keeps the laid tables and the world's shape; bytealg.MaxLen stands in a world of that shape; Slices of structs that came in, with what each element reads; Members, keys, votes, spaces, proposals, queues, owners, approvals that came in; ReviewMerges returns true for every input; the input reads as it did. -/
import Derived.HandedShaped
import Derived.OpenShut
import Derived.ProofKit
import Derived.SliceStrings
import Derived.Stop.Joined
import Derived.Deep.Strs
import Derived.Deep.SlicePairs
import Derived.ChangeMaps5
import Derived.Test.YtnijhlphcjjpbaaGreatDoorRows
import Derived.Test.YtnijhlphcjjpbaaGreatDoorCards
import Derived.Test.YtnijhlphcjjpbaaGreatDoorTie
import Derived.LaidMore
import Derived.Lay
import Derived.SevenTiedAt
import Derived.Test.YtnijhlphcjjpbaaGreatDoorShkMg1
import Derived.Test.YtnijhlphcjjpbaaGreatDoorShkMg2
import Derived.Test.YtnijhlphcjjpbaaGreatDoorShkMg3
import Derived.Test.YtnijhlphcjjpbaaGreatDoorShkMg4
import Derived.Test.YtnijhlphcjjpbaaGreatDoorShkMg5
import Derived.Test.YtnijhlphcjjpbaaGreatDoorShkMg6
import Derived.Test.YtnijhlphcjjpbaaGreatDoorShkMg7
set_option linter.unusedVariables false
set_option linter.unusedSimpArgs false
set_option maxRecDepth 100000
set_option maxHeartbeats 16000000
namespace Go.Proofs.YtnijhlphcjjpbaaGreatDoor
section
open Go
namespace Lex
section
variable {P:Program} {ops:Array Oper} {Q:Exit->Act->World->Prop}
def okAllM (P:Program) (ops:Array Oper) (fl:List Nat) (m:Nat):Bool:=
 Region.noSelect ops&&
 okRows ops (fun a b=>okPair P ops a b || (decide (b<m)&&okPairN P ops fl a b)) ops.size ops.size 0 0&&
 ((List.range ops.size).all fun k => match ops[k]? with
   | some o => !needs o || (List.range ops.size).all fun i=>decide (i<k) || (match ops[i]? with | some o' => (match o'.dst with | some t => !(o.looksAt ops).contains t | none=>true) | none=>true)
   | none=>true)&&
 (fl.all fun k => match ops[k]? with
   | some o=>(List.range ops.size).all fun i=>decide (i<k) || (match ops[i]? with | some o' => (match o'.dst with | some t => !(o.looksAt ops).contains t | none=>true) | none=>true)
   | none=>true)&&
 (fl.all fun k=>decide (k<m)&&match ops[k]? with | some o=>kind P o==1 | none=>false)
structure OkM (P:Program) (ops:Array Oper) (fl:List Nat) (m:Nat):Prop where
 sel:∀ (j:Nat) (o:Oper) (cs:Array SelectCase) (b:Bool),ops[j]? = some o->o.op≠.select cs b
 top:∀ (b:Nat) (ob:Oper),ops[b]? = some ob->∀ e∈ob.after,Region.binds .any e=true->e.on<b
 pair:∀ b a,b<ops.size->a<b->waits ops ops.size b a=true\/okPair P ops a b=true\/(b<m/\okPairN P ops fl a b=true)
 keep:∀ (k:Nat) (o:Oper),ops[k]? = some o->needs o=true\/k∈fl->∀ i,k<=i->∀ (o' : Oper),ops[i]? = some o' -> ∀ t,o'.dst=some t->t ∉ o.looksAt ops
 flm:∀ k∈fl,k<m/\∀ o,ops[k]? = some o->kind P o=1
theorem okAllM_spec {fl:List Nat} {m:Nat} (h:okAllM P ops fl m=true):OkM P ops fl m:=by
 simp only[okAllM,Bool.and_eq_true,List.all_eq_true,List.mem_range] at h
 obtain⟨⟨⟨⟨h1,h2⟩,h3⟩,h4⟩,h5⟩:=h
 refine⟨fun j o cs b hj=>Region.noSelect_spec h1 j o cs b hj,fun b ob hb e he hbi=>?_,fun b a hb ha=>?_,fun k o hk hn i hki o' hi t ht=>?_,fun k hk=>?_⟩
 ·exact(okRows_waits h2 hb).1 e he hbi
 ·have:=(okRows_waits h2 (Array.getElem?_eq_getElem hb)).2 a ha
  simpa using this
 ·have hkl:k<ops.size:=(Array.getElem?_eq_some_iff.1 hk).1
  have hil:i<ops.size:=(Array.getElem?_eq_some_iff.1 hi).1
  have key:((List.range ops.size).all fun i=>decide (i<k) || (match ops[i]? with | some o' => (match o'.dst with | some t => !(o.looksAt ops).contains t | none=>true) | none=>true))=true:=by
   rcases hn with hn | hn
   ·have:=h3 k hkl
    rw[hk] at this
    simpa [hn] using this
   ·have:=h4 k hn
    rw[hk] at this
    exact this
  simp only[List.all_eq_true,List.mem_range] at key
  have:=key i hil
  rw[hi] at this
  simp only[ht,Bool.or_eq_true,decide_eq_true_eq] at this
  rcases this with this | this
  ·omega
  ·simpa using this
 ·obtain⟨q1,q2⟩:=h5 k hk
  refine⟨by simpa using q1,fun o ho=>?_⟩
  rw[ho] at q2
  simpa using q2
theorem okPair_N {fl:List Nat} {a b:Nat} (h:okPair P ops a b=true):okPairN P ops fl a b=true:=by
 unfold okPair at h
 unfold okPairN
 split at h
 ·rename_i oa ob ha hb
  simp only[ha,hb,Bool.and_eq_true,Bool.or_eq_true] at h ⊢
  refine⟨h.1,.inl (.inl ?_)⟩
  simpa [or_assoc] using h.2
 ·cases h
theorem okPair_of {fl:List Nat} {a b:Nat} (h:okPairN P ops fl a b=true) (ha' : a ∉ fl) (hb' : b ∉ fl):okPair P ops a b=true:=by
 unfold okPairN at h
 unfold okPair
 split at h
 ·rename_i oa ob ha hb
  simp only[ha,hb,Bool.and_eq_true,Bool.or_eq_true,List.contains_iff_mem,ha',hb',and_false,or_false] at h ⊢
  refine⟨h.1,?_⟩
  simpa [or_assoc] using h.2
 ·cases h
theorem pair_apart {a b:Nat} {oa ob:Oper} (h:okPair P ops a b=true) (ha:ops[a]? = some oa) (hb:ops[b]? = some ob):oa.apart ops ob=true/\(kind P ob=0\/kind P oa=0\/(kind P oa=1/\(kind P ob=1\/kind P ob=2))):=by
 simp only[okPair,ha,hb,Bool.and_eq_true,Bool.or_eq_true,beq_iff_eq] at h
 exact⟨h.1,by simpa [or_assoc] using h.2⟩
section
variable {B:Nat->Prop} {w0:World} {fl:List Nat} {m:Nat}
theorem frontQ (hA:OkM P ops fl m) {i:Nat} {rest:List Nat} : ∀ (ks:List Nat) (a:Act) (w:World),(∀ x∈ks++i::rest,x<ops.size)->(ks++i::rest).Pairwise (· < ·)->
 (∀ k∈ks,okPair P ops k i=true)->wpOps P ops (EndsN P ops B w0 fl Q) (ks++i::rest) a w->wpOps P ops (EndsN P ops B w0 fl Q) (i::(ks++rest)) a w
 | [],_,_,_,_,_,h=>h
 | k :: ks,a,w,hl,hs,hp,h => by
   have hs' :=List.pairwise_cons.1 hs
   have h0:=h
   rw[List.cons_append,wpOps_cons] at h
   have h1:wpOp P ops (EndsN P ops B w0 fl Q) k (fun a' w' => wpOps P ops (EndsN P ops B w0 fl Q) (i::(ks++rest)) a' w') a w:=
    wpOp_mono (fun a' w' hh=>frontQ hA ks a' w' (fun x hx=>hl x (by simp at hx ⊢;right;exact hx)) hs'.2 (fun x hx=>hp x (by simp[hx])) hh) h
   have hkl:k<ops.size:=hl k (by simp)
   have hil:i<ops.size:=hl i (by simp)
   obtain⟨ok,hk⟩:∃ o,ops[k]? = some o:=⟨_,Array.getElem?_eq_getElem hkl⟩
   obtain⟨oi,hi⟩:∃ o,ops[i]? = some o:=⟨_,Array.getElem?_eq_getElem hil⟩
   obtain⟨hap,hc⟩:=pair_apart (hp k (by simp)) hk hi
   have h0g:wpOps P ops (Ends P ops (fun _ a w=>allIn B w0 ops a fl/\Q .normal a w)) (k::ks++i::rest) a w:=wpOps_post (fun e a w he=>ends_of_endsN he) _ _ _ h0
   have h2:wpOp P ops (EndsN P ops B w0 fl Q) k (fun a' w' => wpOp P ops (EndsN P ops B w0 fl Q) i (wpOps P ops (EndsN P ops B w0 fl Q) (ks++rest)) a' w') a w:=
    wpOp_mono (fun a' w' hh=>by rw[wpOps_cons] at hh;exact hh) h1
   show wpOps P ops (EndsN P ops B w0 fl Q) (i::(k::(ks++rest))) a w
   rw[wpOps_cons]
   refine wpOp_mono (fun a' w' hh=>?_) (swap EndsN.noExit hk hi hap (fun cs b=>hA.sel k ok cs b hk) (fun cs b=>hA.sel i oi cs b hi) ?_ h2)
   ·rw[wpOps_cons];exact hh
   ·rcases hc with hc | hc | ⟨hc1,hc2⟩
    ·refine .inl (good_here (l:=k::ks++i::rest) hl h0g hi hc fun hn x hx o' ho' t ht=>?_)
     by_cases hxi:i<=x
     ·exact hA.keep i oi hi (.inl hn) x hxi o' ho' t ht
     ·have hxm : x ∈ k :: ks :=by
       rcases List.mem_append.1 hx with h | h
       ·exact h
       ·rcases List.mem_cons.1 h with h | h
        ·omega
        ·have:=(List.pairwise_append.1 hs).2.1
         have:=(List.pairwise_cons.1 this).1 x h
         omega
      exact(Oper.apart_spec (pair_apart (hp x hxm) ho' hi).1).1 t ht
    ·refine .inr (.inl (good_here (l:=k::ks++i::rest) hl h0g hk hc fun hn x hx o' ho' t ht=>?_))
     refine hA.keep k ok hk (.inl hn) x ?_ o' ho' t ht
     rcases List.mem_cons.1 hx with h | h
     ·omega
     ·have:=hs'.1 x h;omega
    ·exact .inr (.inr ⟨fun _=>reads_of hc1,fun _=>kind_news hc2⟩)
theorem frontY (hA:OkM P ops fl m) {i:Nat} {oi:Oper} (hi:ops[i]? = some oi) (hip:kind P oi=0\/kind P oi=1) (him:m<=i) {rest:List Nat} : ∀ (ks:List Nat) (a:Act) (w:World),(∀ x∈ks++i::rest,x<ops.size)->(ks++i::rest).Pairwise (· < ·)->
 (∀ k∈ks,okPair P ops k i=true)->wpS P ops (EndsN P ops B w0 fl Q) (Same B w0) m (ks++i::rest) a w->
 ∃ v,Yl P ops oi a w v w/\(kind P oi=0->∀ w2,Yl P ops oi a w2 v w2)/\(∀ w2,More w w2->Yl P ops oi a w2 v w2)/\wpS P ops (EndsN P ops B w0 fl Q) (Same B w0) m (ks++rest) (a.put oi.dst v) w
 | [],a,w,hl,hs,hp,h => by
   have h0:=wpS_ops _ _ _ h
   have h0g:wpOps P ops (Ends P ops (fun _ a w=>allIn B w0 ops a fl/\Q .normal a w)) (i::rest) a w:=wpOps_post (fun e a w he=>ends_of_endsN he) _ _ _ h0
   have hq:kind P oi=0->Region.wanted oi (yielded ops a.tmps)=true->Quiet P (execOp a.eval oi):=fun hc=>good_here (l:=i::rest) hl h0g hi hc fun hn x hx o' ho' t ht=>hA.keep i oi hi (.inl hn) x (by
    rcases List.mem_cons.1 hx with h | h
    ·omega
    ·have:=(List.pairwise_cons.1 hs).1 x h;omega) o' ho' t ht
   have hre:Region.wanted oi (yielded ops a.tmps)=true->Reads P (execOp a.eval oi):=fun hw=>by
    rcases hip with hc | hc
    ·intro n w w' hr
     obtain⟨q1,q2,q3⟩:=hq hc hw n w w' hr
     exact⟨q1,q2,fun w2 _=>q3 w2⟩
    ·exact reads_of hc
   have h:wpOp P ops (EndsN P ops B w0 fl Q) i (fun a' w' => (i<m->Same B w0 w')/\wpS P ops (EndsN P ops B w0 fl Q) (Same B w0) m rest a' w') a w:=h
   obtain⟨v,w',hy,_,hK⟩:=yl_of EndsN.noExit hi (fun hw=>(hre hw).news) h
   obtain⟨rfl,hm⟩:=hy.reads hre
   exact⟨v,hy,fun hc=>(hy.quiet (hq hc)).2,hm,hK⟩
 | k :: ks,a,w,hl,hs,hp,h => by
   have hs' :=List.pairwise_cons.1 hs
   obtain⟨ok,hk⟩:∃ o,ops[k]? = some o:=⟨_,Array.getElem?_eq_getElem (hl k (by simp))⟩
   obtain⟨hap,hc⟩:=pair_apart (hp k (by simp)) hk hi
   have hap:=Oper.apart_spec hap
   have hseli:∀ cs b,oi.op≠.select cs b:=fun cs b=>hA.sel i oi cs b hi
   have hselk:∀ cs b,ok.op≠.select cs b:=fun cs b=>hA.sel k ok cs b hk
   have hds:∀ t,oi.dst=some t->ok.dst≠some t:=fun t ht hk' => hap.2.1 t hk' ht
   have hl' : ∀ x∈ks++i::rest,x<ops.size:=fun x hx=>hl x (by simp at hx ⊢;right;exact hx)
   have hp' : ∀ x∈ks,okPair P ops x i=true:=fun x hx=>hp x (by simp[hx])
   have h0g:wpOps P ops (Ends P ops (fun _ a w=>allIn B w0 ops a fl/\Q .normal a w)) (k::ks++i::rest) a w:=wpOps_post (fun e a w he=>ends_of_endsN he) _ _ _ (wpS_ops _ _ _ h)
   have h:wpOp P ops (EndsN P ops B w0 fl Q) k (fun a' w' => (k<m->Same B w0 w')/\wpS P ops (EndsN P ops B w0 fl Q) (Same B w0) m (ks++i::rest) a' w') a w:=h
   have done:∀ v,(∀ a1 w1,Rch a ok.dst a1->wpS P ops (EndsN P ops B w0 fl Q) (Same B w0) m (ks++i::rest) a1 w1->wpS P ops (EndsN P ops B w0 fl Q) (Same B w0) m (ks++rest) (a1.put oi.dst v) w1)->wpS P ops (EndsN P ops B w0 fl Q) (Same B w0) m (k::(ks++rest)) (a.put oi.dst v) w:=fun v hv=>by
    show wpOp P ops (EndsN P ops B w0 fl Q) k (fun a' w' => (k<m->Same B w0 w')/\wpS P ops (EndsN P ops B w0 fl Q) (Same B w0) m (ks++rest) a' w') (a.put oi.dst v) w
    exact xfer_in EndsN.noExit hk hselk hap.2.2 hds h fun a1 w1 hR hh=>⟨hh.1,hv a1 w1 hR hh.2⟩
   have two:kind P oi=0->_:=fun hc0=>(show ∃ v,Yl P ops oi a w v w/\(kind P oi=0->∀ w2,Yl P ops oi a w2 v w2)/\(∀ w2,More w w2->Yl P ops oi a w2 v w2)/\wpS P ops (EndsN P ops B w0 fl Q) (Same B w0) m (k::(ks++rest)) (a.put oi.dst v) w by
    obtain⟨a1,w1,hR,hh⟩:=wpOp_ex EndsN.noExit hk h
    obtain⟨v,hy,hy0,_,_⟩:=frontY hA hi hip him ks a1 w1 hl' hs'.2 hp' hh.2
    have he:=hR.exec (o:=oi) (ops:=ops) hseli hap.1
    have hall:∀ w2,Yl P ops oi a w2 v w2:=fun w2=>(hy0 hc0 w2).same ⟨he.1.symm,he.2.symm⟩
    refine⟨v,hall w,fun _=>hall,fun w2 _=>hall w2,done v fun a2 w2 hR2 hh2=>?_⟩
    obtain⟨v2,hy2,_,_,hK2⟩:=frontY hA hi hip him ks a2 w2 hl' hs'.2 hp' hh2
    have he2:=hR2.exec (o:=oi) (ops:=ops) hseli hap.1
    obtain⟨rfl,_⟩:=hy2.det ((hall w2).same he2)
    exact hK2)
   have three:kind P ok=0\/kind P ok=1->_:=fun hkd=>(show ∃ v,Yl P ops oi a w v w/\(kind P oi=0->∀ w2,Yl P ops oi a w2 v w2)/\(∀ w2,More w w2->Yl P ops oi a w2 v w2)/\wpS P ops (EndsN P ops B w0 fl Q) (Same B w0) m (k::(ks++rest)) (a.put oi.dst v) w by
    have hre:Region.wanted ok (yielded ops a.tmps)=true->Reads P (execOp a.eval ok):=fun hw=>by
     rcases hkd with hc | hc
     ·intro n w w' hr
      obtain⟨q1,q2,q3⟩:=good_here (l:=k::ks++i::rest) hl h0g hk hc (fun hn x hx o' ho' t ht=>hA.keep k ok hk (.inl hn) x (by
       rcases List.mem_cons.1 hx with h | h
       ·omega
       ·have:=hs'.1 x h;omega) o' ho' t ht) hw n w w' hr
      exact⟨q1,q2,fun w2 _=>q3 w2⟩
     ·exact reads_of hc
    obtain⟨vk,w1,hyk,hSk,hh⟩:=yl_of EndsN.noExit hk (fun hw=>(hre hw).news) h
    obtain⟨rfl,_⟩:=hyk.reads hre
    obtain⟨v,hy,hy0,hym,hK⟩:=frontY hA hi hip him ks _ w1 hl' hs'.2 hp' hh
    have he:=(Rch.put_ a ok.dst vk).exec (o:=oi) (ops:=ops) hseli hap.1
    have hek:=(Rch.put_ a oi.dst v).exec (o:=ok) (ops:=ops) hselk hap.2.2
    refine⟨v,hy.same ⟨he.1.symm,he.2.symm⟩,fun hc w2=>(hy0 hc w2).same ⟨he.1.symm,he.2.symm⟩,fun w2 hw2=>(hym w2 hw2).same ⟨he.1.symm,he.2.symm⟩,?_⟩
    show wpOp P ops (EndsN P ops B w0 fl Q) k (fun a' w' => (k<m->Same B w0 w')/\wpS P ops (EndsN P ops B w0 fl Q) (Same B w0) m (ks++rest) a' w') (a.put oi.dst v) w1
    exact Yl.mk hk (hyk.same hek) ⟨hSk,by rw[Act.put_comm a v vk hds];exact hK⟩)
   rcases hc with hc | hc | ⟨hc,_⟩
   ·exact two hc
   ·exact three (.inl hc)
   ·exact three (.inr hc)
theorem frontM (hA:OkM P ops fl m) {i:Nat} (him:i<m) {rest:List Nat} : ∀ (ks:List Nat) (a:Act) (w:World),Same B w0 w->(∀ x∈ks++i::rest,x<ops.size)->(ks++i::rest).Pairwise (· < ·)->
 (∀ k∈ks,okPairN P ops fl k i=true)->wpS P ops (EndsN P ops B w0 fl Q) (Same B w0) m (ks++i::rest) a w->wpS P ops (EndsN P ops B w0 fl Q) (Same B w0) m (i::(ks++rest)) a w
 | [],_,_,_,_,_,_,h=>h
 | k :: ks,a,w,hS,hl,hs,hp,h => by
   have hsel:=hA.sel
   have hkeep:=hA.keep
   have hs' :=List.pairwise_cons.1 hs
   have h0:=wpS_ops _ _ _ h
   have hki:k<i:=hs'.1 i (by simp)
   have h:wpOp P ops (EndsN P ops B w0 fl Q) k (fun a' w' => (k<m->Same B w0 w')/\wpS P ops (EndsN P ops B w0 fl Q) (Same B w0) m (ks++i::rest) a' w') a w:=h
   have h1:wpOp P ops (EndsN P ops B w0 fl Q) k (fun a' w' => Same B w0 w' /\ wpS P ops (EndsN P ops B w0 fl Q) (Same B w0) m (i::(ks++rest)) a' w') a w:=
    wpOp_mono (fun a' w' hh=>⟨hh.1 (by omega),frontM hA him ks a' w' (hh.1 (by omega)) (fun x hx=>hl x (by simp at hx ⊢;right;exact hx)) hs'.2 (fun x hx=>hp x (by simp[hx])) hh.2⟩) h
   have hkl:k<ops.size:=hl k (by simp)
   have hil:i<ops.size:=hl i (by simp)
   obtain⟨ok,hk⟩:∃ o,ops[k]? = some o:=⟨_,Array.getElem?_eq_getElem hkl⟩
   obtain⟨oi,hi⟩:∃ o,ops[i]? = some o:=⟨_,Array.getElem?_eq_getElem hil⟩
   have hpk:=hp k (by simp)
   simp only[okPairN,hk,hi,Bool.and_eq_true,Bool.or_eq_true,beq_iff_eq,List.contains_iff_mem] at hpk
   obtain⟨hap,hc⟩:=hpk
   have h2:wpOp P ops (EndsN P ops B w0 fl Q) k (fun a' w' => Same B w0 w' /\ wpOp P ops (EndsN P ops B w0 fl Q) i (fun a'' w'' => Same B w0 w'' /\ wpS P ops (EndsN P ops B w0 fl Q) (Same B w0) m (ks++rest) a'' w'') a' w') a w:=
    wpOp_mono (fun a' w' hh=>⟨hh.1,wpOp_mono (fun a'' w'' h3=>⟨h3.1 him,h3.2⟩) (show wpOp P ops _ i (fun a'' w'' => (i<m->Same B w0 w'')/\wpS P ops _ (Same B w0) m (ks++rest) a'' w'') a' w' from hh.2)⟩) h1
   have behind_i:∀ x∈k::ks++i::rest,∀ o',ops[x]? = some o' -> (needs oi=true\/i∈fl)->∀ t,o'.dst=some t->t ∉ oi.looksAt ops:=fun x hx o' ho' hn t ht=>by
    by_cases hxi:i<=x
    ·exact hkeep i oi hi hn x hxi o' ho' t ht
    ·have hxm : x ∈ k :: ks :=by
      rcases List.mem_append.1 hx with h | h
      ·exact h
      ·rcases List.mem_cons.1 h with h | h
       ·omega
       ·have:=(List.pairwise_append.1 hs).2.1
        have:=(List.pairwise_cons.1 this).1 x h
        omega
     have hpx:=hp x hxm
     simp only[okPairN,ho',hi,Bool.and_eq_true] at hpx
     exact(Oper.apart_spec hpx.1).1 t ht
   have behind_k:∀ x∈k::ks++i::rest,∀ o',ops[x]? = some o' -> (needs ok=true\/k∈fl)->∀ t,o'.dst=some t->t ∉ ok.looksAt ops:=fun x hx o' ho' hn t ht=>by
    refine hkeep k ok hk hn x ?_ o' ho' t ht
    rcases List.mem_cons.1 hx with h | h
    ·omega
    ·have:=hs'.1 x h;omega
   have h0g:wpOps P ops (Ends P ops (fun _ a w=>allIn B w0 ops a fl/\Q .normal a w)) (k::ks++i::rest) a w:=wpOps_post (fun e a w he=>ends_of_endsN he) _ _ _ h0
   have h3:=swapS (S:=Same B w0) EndsN.noExit hk hi hap (fun cs b=>hsel k ok cs b hk) (fun cs b=>hsel i oi cs b hi) hS ?_ h2
   ·show wpOp P ops _ i (fun a' w' => (i<m->Same B w0 w')/\wpS P ops _ (Same B w0) m (k::(ks++rest)) a' w') a w
    refine wpOp_mono (fun a' w' hh=>⟨fun _=>hh.1,?_⟩) h3
    show wpOp P ops _ k (fun a'' w'' => (k<m->Same B w0 w'')/\wpS P ops _ (Same B w0) m (ks++rest) a'' w'') a' w'
    exact wpOp_mono (fun a'' w'' h4=>⟨fun _=>h4.1,h4.2⟩) hh.2
   ·rcases hc with (((hc | hc) | ⟨hc1,hc2⟩) | ⟨hc,hm⟩) | ⟨hc,hm⟩
    ·have hq:=good_here (l:=k::ks++i::rest) hl h0g hi hc fun hn x hx o' ho' t ht=>behind_i x hx o' ho' (.inl hn) t ht
     exact .inl ⟨fun hw=>(hq hw).firm,fun hw=>(hq hw).news⟩
    ·have hq:=good_here (l:=k::ks++i::rest) hl h0g hk hc fun hn x hx o' ho' t ht=>behind_k x hx o' ho' (.inl hn) t ht
     exact .inr (.inl ⟨fun hw=>(hq hw).firm,fun hw=>(hq hw).news⟩)
    ·exact .inr (.inr ⟨fun _=>reads_of hc1,fun _=>kind_news hc2⟩)
    ·exact .inr (.inl ⟨inB_here (l:=k::ks++i::rest) hl h0 hk hc hm fun x hx o' ho' t ht=>behind_k x hx o' ho' (.inr hm) t ht,fun _=>kind_news (.inl hc)⟩)
    ·exact .inl ⟨inB_here (l:=k::ks++i::rest) hl h0 hi hc hm fun x hx o' ho' t ht=>behind_i x hx o' ho' (.inr hm) t ht,fun _=>kind_news (.inl hc)⟩
theorem any_of_Q (hA:OkM P ops fl m):∀ (fuel:Nat) (l:List Nat) (listed:Array Bool) (a:Act) (w:World),l.length=fuel->listed.size=ops.size->Closed ops listed->
 l.Pairwise (· < ·)->(∀ x,x∈l↔x<ops.size/\listed.getD x false=false)->(∀ x∈l,x ∉ fl)->wpOps P ops (EndsN P ops B w0 fl Q) l a w->wpAny P .any ops (EndsN P ops B w0 fl Q) fuel listed a w
 | 0,l,listed,a,w,hlen,hsz,hcl,hs,hm,_,h => by
   have hl0:l=[]:=List.eq_nil_of_length_eq_zero hlen
   subst hl0
   refine⟨?_,h⟩
   refine List.eq_nil_iff_forall_not_mem.2 fun j hj=>?_
   obtain⟨h0,o,ho,_⟩:=mem_ready.1 hj
   have hjl:j<ops.size:=(Array.getElem?_eq_some_iff.1 ho).1
   have:=(hm j).2 ⟨hjl,getD_both h0⟩
   cases this
 | fuel + 1,l,listed,a,w,hlen,hsz,hcl,hs,hm,hnf,h => by
   have both:∀ x,x<ops.size->listed.getD x false=false->listed.getD x true=false:=fun x hx hf=>getD_in (by omega) hf
   refine⟨fun hr=>?_,fun i hi=>?_⟩
   ·exfalso
    cases l with
    | nil=>cases hlen
    | cons k l =>
      have hm0:=(hm k).1 (by simp)
      obtain⟨o,ho⟩:∃ o,ops[k]? = some o:=⟨_,Array.getElem?_eq_getElem hm0.1⟩
      have:k∈Region.ready .any ops listed:=mem_ready.2 ⟨both k hm0.1 hm0.2,o,ho,fun e he hb=>by
       have hlt:=hA.top k o ho e he hb
       cases hx:listed.getD e.on false with
       | true=>rfl
       | false =>
         have hin:=(hm e.on).2 ⟨by omega,hx⟩
         rcases List.mem_cons.1 hin with h1 | h1
         ·omega
         ·have:=(List.pairwise_cons.1 hs).1 _ h1
          omega⟩
      rw[hr] at this
      cases this
   ·obtain⟨hun,oi,hoi,hall⟩:=mem_ready.1 hi
    have hil:i<ops.size:=(Array.getElem?_eq_some_iff.1 hoi).1
    have hin:i∈l:=(hm i).2 ⟨hil,getD_both hun⟩
    obtain⟨ks,rest,rfl⟩:=List.append_of_mem hin
    have hpw:=List.pairwise_append.1 hs
    have hlt:∀ x∈ks++i::rest,x<ops.size:=fun x hx=>((hm x).1 hx).1
    have hks:∀ k∈ks,okPair P ops k i=true\/(i<m/\okPairN P ops fl k i=true):=fun k hk=>by
     have hki:k<i:=hpw.2.2 k hk i (by simp)
     rcases hA.pair i k hil hki with hw | hp
     ·have:=waits_listed hcl ops.size i k oi hoi hall hw
      have hk2:=((hm k).1 (by simp[hk])).2
      rw[hk2] at this
      cases this
     ·exact hp
    have hks2:∀ k∈ks,okPair P ops k i=true:=fun k hk=>by
     rcases hks k hk with h | ⟨_,h⟩
     ·exact h
     ·exact okPair_of h (hnf k (by simp[hk])) (hnf i (by simp))
    have hfr:=frontQ hA ks a w hlt hs hks2 h
    rw[wpOps_cons] at hfr
    refine wpOp_mono (fun a' w' hh=>?_) hfr
    refine any_of_Q hA fuel (ks++rest) _ a' w' (by simp at hlen ⊢;omega) (by simp[hsz]) ?_ ?_ ?_ (fun x hx=>hnf x (by simp at hx ⊢;rcases hx with h | h <;> simp[h])) hh
    ·intro j o ho hl e he hb
     by_cases hij:i=j
     ·subst hij
      have:o=oi:=Option.some.inj (ho.symm.trans hoi)
      subst this
      exact getD_set_true (hall e he hb)
     ·refine getD_set_true (hcl j o ho ?_ e he hb)
      rw[getD_set_ne false (by exact hij)] at hl
      exact hl
    ·exact List.pairwise_append.2 ⟨hpw.1,(List.pairwise_cons.1 hpw.2.1).2,fun x hx y hy=>hpw.2.2 x hx y (by simp[hy])⟩
    ·intro x
     have hx:=hm x
     have hne:x∈ks++rest->i≠x:=by
      intro hxm e
      subst e
      rcases List.mem_append.1 hxm with h1 | h1
      ·have:=hpw.2.2 i h1 i (by simp)
       omega
      ·have:=(List.pairwise_cons.1 hpw.2.1).1 i h1
       omega
     constructor
     ·intro hxm
      have h1:=hx.1 (by simp at hxm ⊢;rcases hxm with h | h <;> simp[h])
      exact⟨h1.1,by rw[getD_set_ne false (hne hxm)];exact h1.2⟩
     ·rintro⟨h1,h2⟩
      by_cases hix:i=x
      ·subst hix
       simp[hsz,h1] at h2
      ·rw[getD_set_ne false hix] at h2
       have:=hx.2 ⟨h1,h2⟩
       simp at this ⊢
       rcases this with h | h | h
       ·exact .inl h
       ·exact absurd h.symm hix
       ·exact .inr h
theorem any_of_M (hA:OkM P ops fl m) (hfl2:∀ x∈fl,∀ i,m<=i->∀ oi,ops[i]? = some oi->kind P oi=2->False):∀ (fuel:Nat) (l:List Nat) (listed:Array Bool) (a:Act) (w:World),l.length=fuel->listed.size=ops.size->Closed ops listed->
 l.Pairwise (· < ·)->(∀ x,x∈l↔x<ops.size/\listed.getD x false=false)->((∃ x∈l,x<m)->Same B w0 w)->wpS P ops (EndsN P ops B w0 fl Q) (Same B w0) m l a w->wpAny P .any ops (EndsN P ops B w0 fl Q) fuel listed a w
 | 0,l,listed,a,w,hlen,hsz,hcl,hs,hm,_,h => by
   have hl0:l=[]:=List.eq_nil_of_length_eq_zero hlen
   subst hl0
   refine⟨?_,h⟩
   refine List.eq_nil_iff_forall_not_mem.2 fun j hj=>?_
   obtain⟨h0,o,ho,_⟩:=mem_ready.1 hj
   have hjl:j<ops.size:=(Array.getElem?_eq_some_iff.1 ho).1
   have:=(hm j).2 ⟨hjl,getD_both h0⟩
   cases this
 | fuel + 1,l,listed,a,w,hlen,hsz,hcl,hs,hm,hSl,h => by
   have both:∀ x,x<ops.size->listed.getD x false=false->listed.getD x true=false:=fun x hx hf=>getD_in (by omega) hf
   refine⟨fun hr=>?_,fun i hi=>?_⟩
   ·exfalso
    cases l with
    | nil=>cases hlen
    | cons k l =>
      have hm0:=(hm k).1 (by simp)
      obtain⟨o,ho⟩:∃ o,ops[k]? = some o:=⟨_,Array.getElem?_eq_getElem hm0.1⟩
      have:k∈Region.ready .any ops listed:=mem_ready.2 ⟨both k hm0.1 hm0.2,o,ho,fun e he hb=>by
       have hlt:=hA.top k o ho e he hb
       cases hx:listed.getD e.on false with
       | true=>rfl
       | false =>
         have hin:=(hm e.on).2 ⟨by omega,hx⟩
         rcases List.mem_cons.1 hin with h1 | h1
         ·omega
         ·have:=(List.pairwise_cons.1 hs).1 _ h1
          omega⟩
      rw[hr] at this
      cases this
   ·obtain⟨hun,oi,hoi,hall⟩:=mem_ready.1 hi
    have hil:i<ops.size:=(Array.getElem?_eq_some_iff.1 hoi).1
    have hin:i∈l:=(hm i).2 ⟨hil,getD_both hun⟩
    obtain⟨ks,rest,rfl⟩:=List.append_of_mem hin
    have hpw:=List.pairwise_append.1 hs
    have hlt:∀ x∈ks++i::rest,x<ops.size:=fun x hx=>((hm x).1 hx).1
    have hks:∀ k∈ks,okPair P ops k i=true\/(i<m/\okPairN P ops fl k i=true):=fun k hk=>by
     have hki:k<i:=hpw.2.2 k hk i (by simp)
     rcases hA.pair i k hil hki with hw | hp
     ·have:=waits_listed hcl ops.size i k oi hoi hall hw
      have hk2:=((hm k).1 (by simp[hk])).2
      rw[hk2] at this
      cases this
     ·exact hp
    have hfr:wpOp P ops (EndsN P ops B w0 fl Q) i (fun a' w' => (((∃ x∈ks++rest,x<m)->Same B w0 w')/\wpS P ops (EndsN P ops B w0 fl Q) (Same B w0) m (ks++rest) a' w')\/((∀ x∈ks++rest,x ∉ fl)/\wpOps P ops (EndsN P ops B w0 fl Q) (ks++rest) a' w')) a w:=by
     have hgt:∀ x∈rest,i<x:=fun x hx=>(List.pairwise_cons.1 hpw.2.1).1 x hx
     by_cases him:i<m
     ·have h4 : wpS P ops (EndsN P ops B w0 fl Q) (Same B w0) m (i :: (ks ++ rest)) a w :=by
       cases ks with
       | nil=>exact h
       | cons k ks =>
         exact frontM hA him (k::ks) a w (hSl ⟨i,hin,him⟩) hlt hs (fun x hx=>by
          rcases hks x hx with h | ⟨_,h⟩
          ·exact okPair_N h
          ·exact h) h
      exact wpOp_mono (fun a1 w1 hh=>.inl ⟨fun _=>hh.1 him,hh.2⟩) (show wpOp P ops _ i (fun a' w' => (i<m->Same B w0 w')/\wpS P ops (EndsN P ops B w0 fl Q) (Same B w0) m (ks++rest) a' w') a w from h4)
     ·have hks2 : ∀ k ∈ ks,okPair P ops k i = true :=fun k hk => by
       rcases hks k hk with h | ⟨h,_⟩
       ·exact h
       ·exact absurd h him
      by_cases hip:kind P oi=0\/kind P oi=1
      ·obtain⟨v,hy,_,_,hK⟩:=frontY hA hoi hip (by omega) ks a w hlt hs hks2 h
       exact Yl.mk hoi hy (.inl ⟨fun⟨x,hx,hxm⟩=>hSl ⟨x,(by simp at hx ⊢;rcases hx with h | h <;> simp[h]),hxm⟩,hK⟩)
      ·have hq:=frontQ hA ks a w hlt hs hks2 (wpS_ops _ _ _ h)
       rw[wpOps_cons] at hq
       refine wpOp_mono (fun a1 w1 hh=>.inr ⟨fun x hx hf=>?_,hh⟩) hq
       rcases List.mem_append.1 hx with h1 | h1
       ·obtain⟨ox,hox⟩:∃ o,ops[x]? = some o:=⟨_,Array.getElem?_eq_getElem (hlt x (by simp[h1]))⟩
        have hk1:=(hA.flm x hf).2 ox hox
        obtain⟨_,hc⟩:=pair_apart (hks2 x h1) hox hoi
        rcases hc with hc | hc | ⟨_,hc⟩
        ·exact hip (.inl hc)
        ·omega
        ·rcases hc with hc | hc
         ·exact hip (.inr hc)
         ·have h2:=(hA.flm x hf).1
          exact hfl2 x hf i (by omega) oi hoi hc
       ·have:=hgt x h1
        have:=(hA.flm x hf).1
        omega
    refine wpOp_mono (fun a' w' hh=>?_) hfr
    rcases hh with ⟨hS',hK⟩ | ⟨hnf,hK⟩
    ·refine any_of_M hA hfl2 fuel (ks++rest) _ a' w' (by simp at hlen ⊢;omega) (by simp[hsz]) ?_ ?_ ?_ hS' hK
     ·intro j o ho hl e he hb
      by_cases hij:i=j
      ·subst hij
       have:o=oi:=Option.some.inj (ho.symm.trans hoi)
       subst this
       exact getD_set_true (hall e he hb)
      ·refine getD_set_true (hcl j o ho ?_ e he hb)
       rw[getD_set_ne false (by exact hij)] at hl
       exact hl
     ·exact List.pairwise_append.2 ⟨hpw.1,(List.pairwise_cons.1 hpw.2.1).2,fun x hx y hy=>hpw.2.2 x hx y (by simp[hy])⟩
     ·intro x
      have hx:=hm x
      have hne:x∈ks++rest->i≠x:=by
       intro hxm e
       subst e
       rcases List.mem_append.1 hxm with h1 | h1
       ·have:=hpw.2.2 i h1 i (by simp)
        omega
       ·have:=(List.pairwise_cons.1 hpw.2.1).1 i h1
        omega
      constructor
      ·intro hxm
       have h1:=hx.1 (by simp at hxm ⊢;rcases hxm with h | h <;> simp[h])
       exact⟨h1.1,by rw[getD_set_ne false (hne hxm)];exact h1.2⟩
      ·rintro⟨h1,h2⟩
       by_cases hix:i=x
       ·subst hix
        simp[hsz,h1] at h2
       ·rw[getD_set_ne false hix] at h2
        have:=hx.2 ⟨h1,h2⟩
        simp at this ⊢
        rcases this with h | h | h
        ·exact .inl h
        ·exact absurd h.symm hix
        ·exact .inr h
    ·refine any_of_Q hA fuel (ks++rest) _ a' w' (by simp at hlen ⊢;omega) (by simp[hsz]) ?_ ?_ ?_ hnf hK
     ·intro j o ho hl e he hb
      by_cases hij:i=j
      ·subst hij
       have:o=oi:=Option.some.inj (ho.symm.trans hoi)
       subst this
       exact getD_set_true (hall e he hb)
      ·refine getD_set_true (hcl j o ho ?_ e he hb)
       rw[getD_set_ne false (by exact hij)] at hl
       exact hl
     ·exact List.pairwise_append.2 ⟨hpw.1,(List.pairwise_cons.1 hpw.2.1).2,fun x hx y hy=>hpw.2.2 x hx y (by simp[hy])⟩
     ·intro x
      have hx:=hm x
      have hne:x∈ks++rest->i≠x:=by
       intro hxm e
       subst e
       rcases List.mem_append.1 hxm with h1 | h1
       ·have:=hpw.2.2 i h1 i (by simp)
        omega
       ·have:=(List.pairwise_cons.1 hpw.2.1).1 i h1
        omega
      constructor
      ·intro hxm
       have h1:=hx.1 (by simp at hxm ⊢;rcases hxm with h | h <;> simp[h])
       exact⟨h1.1,by rw[getD_set_ne false (hne hxm)];exact h1.2⟩
      ·rintro⟨h1,h2⟩
       by_cases hix:i=x
       ·subst hix
        simp[hsz,h1] at h2
       ·rw[getD_set_ne false hix] at h2
        have:=hx.2 ⟨h1,h2⟩
        simp at this ⊢
        rcases this with h | h | h
        ·exact .inl h
        ·exact absurd h.symm hix
        ·exact .inr h
theorem upM (hA:OkM P ops fl m):∀ (l:List Nat) (a:Act) (w:World),(∀ x∈l,x<ops.size)->l.Pairwise (· < ·)->((∃ x∈l,x<m)->Same B w0 w)->
 wpC P ops (EndsN P ops B w0 fl Q) (Same B w0) m l a w->wpS P ops (EndsN P ops B w0 fl Q) (Same B w0) m l a w
 | [],_,_,_,_,_,h=>h
 | i :: l,a,w,hl,hs,hS,h => by
   have h0:=wpC_ops _ _ _ h
   have hs' :=List.pairwise_cons.1 hs
   obtain⟨o,hi⟩:∃ o,ops[i]? = some o:=⟨_,Array.getElem?_eq_getElem (hl i (by simp))⟩
   have h:wpOp P ops (EndsN P ops B w0 fl Q) i (fun a' w' => (i<m->wild P ops i=true->Same B w0 w')/\wpC P ops (EndsN P ops B w0 fl Q) (Same B w0) m l a' w') a w:=h
   show wpOp P ops (EndsN P ops B w0 fl Q) i (fun a' w' => (i<m->Same B w0 w')/\wpS P ops (EndsN P ops B w0 fl Q) (Same B w0) m l a' w') a w
   have rec_:∀ a' w',(i<m->Same B w0 w')->wpC P ops (EndsN P ops B w0 fl Q) (Same B w0) m l a' w' -> wpS P ops (EndsN P ops B w0 fl Q) (Same B w0) m l a' w' :=fun a' w' hS' hh=>
    upM hA l a' w' (fun x hx=>hl x (by simp[hx])) hs'.2 (fun⟨x,hx,hxm⟩=>hS' (by have:=hs'.1 x hx;omega)) hh
   by_cases him:i<m
   ·have hSw:=hS ⟨i,by simp,him⟩
    by_cases hwd:wild P ops i=true
    ·exact wpOp_mono (fun a' w' hh=>⟨fun hm=>hh.1 hm hwd,rec_ a' w' (fun hm=>hh.1 hm hwd) hh.2⟩) h
    ·have hn : Region.wanted o (yielded ops a.tmps) = true → News P (execOp a.eval o) :=by
      simp only[wild,hi,Bool.and_eq_true,bne_iff_ne,ne_eq,not_and,Classical.not_not] at hwd
      intro hw
      by_cases h0k:kind P o=0
      ·have h0g:wpOps P ops (Ends P ops (fun _ a w=>allIn B w0 ops a fl/\Q .normal a w)) (i::l) a w:=wpOps_post (fun e a w he=>ends_of_endsN he) _ _ _ h0
       exact(good_here hl h0g hi h0k (fun hn x hx o' ho' t ht=>hA.keep i o hi (.inl hn) x (by
        rcases List.mem_cons.1 hx with h | h
        ·omega
        ·have:=hs'.1 x h;omega) o' ho' t ht) hw).news
      ·by_cases h1k:kind P o=1
       ·exact(reads_of h1k).news
       ·exact news_of (hwd ⟨h0k,h1k⟩)
     obtain⟨v,w',hy,hc,hh⟩:=yl_of EndsN.noExit hi hn h
     have hSw' : Same B w0 w' :=hSw.more (hy.more hn)
     exact Yl.mk hi hy ⟨fun _=>hSw',rec_ _ _ (fun _=>hSw') hh⟩
   ·exact wpOp_mono (fun a' w' hh=>⟨fun hm=>absurd hm him,rec_ a' w' (fun hm=>absurd hm him) hh.2⟩) h
end
def noNew (P:Program) (ops:Array Oper) (m:Nat):Bool:=(List.range ops.size).all fun i=>decide (i<m) || (match ops[i]? with | some o=>kind P o != 2 | none=>true)
theorem wp_region_lexM {id:Nat} {l:List Oper} {a:Act} {w:World} (B:Nat->Prop) (fl:List Nat) (m:Nat) (cs:List Nat) (hm:P.follows .mixedOrders=true) (hA:(okAllM P l.toArray fl m&&noNew P l.toArray m)=true) (hC:cutOK P l.toArray m cs l.length 0=true)
 (h:wpCuts P l.toArray (EndsN P l.toArray B w.drew fl Q) (Same B w.drew) cs l a w.drew):(Code.region id l.toArray true).wp P Q a w:=by
 rw[Bool.and_eq_true] at hA
 obtain⟨hA,hN⟩:=hA
 have hA:=okAllM_spec hA
 refine Code.wp_mono (Q:=EndsN P l.toArray B w.drew fl Q) (fun e a' w' he=>by obtain⟨rfl,_,_,h⟩:=he;exact h) (wp_region_any hm ?_)
 have hlt:∀ x∈List.range l.toArray.size,x<l.toArray.size:=fun x hx=>List.mem_range.1 hx
 refine any_of_M hA (fun x _ i hi oi hoi hk=>?_) l.toArray.size (List.range l.toArray.size) _ a _ (by simp) (by simp) ?_ List.pairwise_lt_range (fun x=>by
  constructor
  ·intro hx
   have:=List.mem_range.1 hx
   exact⟨this,by simp only[Array.getD_eq_getD_getElem?];simp at this ⊢;simp[this]⟩
  ·exact fun hx=>List.mem_range.2 hx.1) (fun _=>Same.refl _ _) ?_
 ·have hil:i<l.toArray.size:=(Array.getElem?_eq_some_iff.1 hoi).1
  have:=(List.all_eq_true.1 hN) i (List.mem_range.2 hil)
  rw[hoi] at this
  simp[hk] at this
  omega
 ·intro j o ho hl
  rw[getD_replicate_false] at hl
  cases hl
 ·refine upM hA _ _ _ hlt List.pairwise_lt_range (fun _=>Same.refl _ _) ?_
  rw[List.range_eq_range',show l.toArray.size=l.length from by simp]
  exact cuts_spec cs l 0 a _ (by simp) hC h
end
end Lex
end
section
open Go Go.RowKit Go.Maps
namespace Own
theorem ballot_len (b i:Nat) (p:Proposal) (ag:Bool):(ballot54 b i p ag).sig.chains.length=67/\(ballot54 b i p ag).sig.path.length=1/\(ballot54 b i p ag).name.size=2:=by
 unfold ballot54 Sig.signOf
 dsimp only
 refine⟨by simp,rfl,rfl⟩
end Own
theorem field_props (W:World) (n:Int) (a:Option Addr) (k c:Nat):(Instr.field 24 (.agg #[.int .i64 n,.slice a k c]) 1).run Tryz.prog W=.ok (.slice a k c) W:=by kernel_rfl
theorem law_ballot (b i:Nat) (p:Own.Proposal) (ag:Bool) (v:Value) (w:World) (hb:b<256) (hi:i<2) (h0:0<=p.id) (h1:p.id<9223372036854775808) (h2:p.path.size<=1000000) (h3:p.digest.size<=1000000) (A:Own.Approval) (hA:A=Own.ballot54 b i p ag) {bi ii:Int} (hbi:bi=b) (hii:ii=i):
 Calls Tryz.prog 35 #[.int .u8 bi,.int .i64 ii,.agg #[.int .i64 p.id,.string p.path,.string p.digest,.int .i64 p.opened,.int .i64 p.expires,v],.bool ag] w (BallotPost w A):=by
 rw[hA,hbi,hii]
 exact law54ballot_any b i p ag v w hb hi h0 h1 h2 h3
theorem awake54_any (w:World) (hM:MaxL w):Calls Tryz.prog 10 #[] w fun e w' => e=.returned (.bool true)/\Below w.heap.size w w' :=by
 obtain⟨q0,q1,q2,q3,o0,o1,o2,o3,p,m,h⟩:=Own.awP
 have hsp:=fun W=>law54space_any 3 2 W (by omega)
 have hdg:=fun W=>law54digest_any 1 W (by omega)
 have hsb:=fun W (hW:Below w.heap.size w W)=>rvSubmit_any ⟨5,[]⟩ 10 3 ⟨#[97,47,98]⟩ (Lane.seedB 1) (.slice none 0 0) W (hM.below hW) (ListF.nil _ _) (by simp) (by simp)
 simp only[h.sub] at hsb
 have hln:q0.props.length=1:=by rw[h.q0p];rfl
 have hq00:q0.props=[p]:=h.q0p
 have hso:o0.spaces=[Own.space54 3 2]:=by rw[h.o0e]
 have hko:o0.keys=[]:=by rw[h.o0e]
 have hco:o0.count=0:=by rw[h.o0e]
 rw[<- hso] at hsp
 obtain⟨A0,hA0⟩:∃ A,A=Own.ballot54 0 0 p true:=⟨_,rfl⟩
 obtain⟨A1,hA1⟩:∃ A,A=Own.ballot54 1 0 p true:=⟨_,rfl⟩
 obtain⟨A2,hA2⟩:∃ A,A=Own.ballot54 2 0 p false:=⟨_,rfl⟩
 have hl0:=Own.ballot_len 0 0 p true;have hl1:=Own.ballot_len 1 0 p true;have hl2:=Own.ballot_len 2 0 p false
 have hv1:=h.v1;have hv2:=h.v2;have hv3:=h.v3
 rw[<- hA0] at hv1 hl0;rw[<- hA1] at hv2 hl1;rw[<- hA2] at hv3 hl2
 have HSP:=zh hsp;have HDG:=zh hdg;have HSB:=zh hsb;have HLN:=zh hln;have HQ00:=zh hq00;have HKO:=zh hko;have HCO:=zh hco;have HAW:=zh h;have HPF:=zh (And.intro h.id0 (And.intro h.id1 (And.intro h.pl h.dl)));have HMX:=zh hM
 have HA0:=zh hA0;have HA1:=zh hA1;have HA2:=zh hA2;have HL0:=zh hl0;have HL1:=zh hl1;have HL2:=zh hl2;have HV1:=zh hv1;have HV2:=zh hv2;have HV3:=zh hv3
 generalize Lane.seedB 1=DG at HDG HSB
 clear hsp hdg hsb hln hq00 hso hko hco h hM hA0 hA1 hA2 hl0 hl1 hl2 hv1 hv2 hv3
 go_enter Tryz.func10,Tryz.ntmps10
 go_wp2_with fail
 refine(HSP.out _).mono ?_
 rintro e w1 ⟨sv,rfl,hS,hb1⟩
 obtain⟨sa,sc,rfl⟩:=hS.len
 have hb2:=hb1.trans (((Below.refl w1.heap.size w1).alloc (Nat.le_refl _) (.cells #[.int .i64 0,.slice sa o0.spaces.length sc,.slice none 0 0] 38)).mono hb1.size)
 obtain⟨gO,hgO⟩:∃ g,g=w1.heap.size:=⟨_,rfl⟩
 have hO2:=At.new w1 38 #[.int .i64 0,.slice sa o0.spaces.length sc,.slice none 0 0]
 have hS2:=hS.below ((Below.refl w1.heap.size w1).alloc (Nat.le_refl _) (.cells #[.int .i64 0,.slice sa o0.spaces.length sc,.slice none 0 0] 38))
 have hgOw:w.heap.size<=gO:=by rw[hgO];exact hb1.size
 rw[<- hgO] at hO2
 have HB2:=zh hb2;have HO2:=zh hO2;have HS2:=zh hS2;have HGO:=zh hgO
 clear hb1 hb2 hO2 hS hS2 hgO
 go_upto_region 2 with fail
 rw[<- HGO.out]
 generalize w1.alloc (.cells #[.int .i64 0,.slice sa o0.spaces.length sc,.slice none 0 0] 38)=w2 at*
 clear HGO
 go_wp2_with fail
 refine(HDG.out _).mono ?_
 rintro e w3 ⟨rfl,hb3⟩
 have HB3:=zh (HB2.out.trans (hb3.mono HB2.out.size));have HO3:=zh (HO2.out.below hb3 HO2.out.lt);have HS3:=zh (HS2.out.below hb3)
 clear hb3 HB2 HO2 HS2
 go_wp2_with fail
 refine(HSB.out _ HB3.out).mono ?_
 rintro e w4 ⟨⟨qv,rfl,qv',rfl,hpo⟩,hb4⟩
 obtain⟨qa,qc,rfl⟩:=hpo.one
 have hp4:Own.PropsC w4 (.slice qa q0.props.length qc) q0.props:=hpo.props
 have hb45:Below w4.heap.size w4 (w4.alloc (.cells #[.int .i64 q0.next,.slice qa q0.props.length qc] 24)):=(Below.refl _ _).alloc (Nat.le_refl _) _
 have hb5:=hb4.trans (hb45.mono hb4.size)
 have hQ5:=At.new w4 24 #[.int .i64 q0.next,.slice qa q0.props.length qc]
 have hO5:=HO3.out.below hb5 HO3.out.lt
 have hls:LS (w4.alloc (.cells #[.int .i64 q0.next,.slice qa q0.props.length qc] 24)) gO w4.heap.size o0 q0 sa sc none 0 qa qc:=
  ⟨by rw[HCO.out,HKO.out];exact hO5,hQ5,HS3.out.below hb5,by rw[HKO.out];exact ListF.nil _ _,hp4.below hb45⟩
 obtain⟨gQ,hgQ⟩:∃ g,g=w4.heap.size:=⟨_,rfl⟩
 have hgQw:w.heap.size<=gQ:=by rw[hgQ];exact(HB3.out.trans (hb4.mono HB3.out.size)).size
 rw[<- hgQ] at hls
 have HB5:=zh (HB3.out.trans (hb5.mono HB3.out.size));have L5:=zh hls;have HGQ:=zh hgQ
 clear hp4 hb45 hb5 hQ5 hO5 hls hgQ hb4 hpo HB3 HO3 HS3
 go_upto_region 3 with fail
 rw[<- HGQ.out]
 generalize w4.alloc (.cells #[.int .i64 q0.next,.slice qa q0.props.length qc] 24)=w5 at*
 clear HGQ
 obtain⟨q0c,q1c⟩:=L5.out.atQ.c2
 have d1:((q0.props.length:Int) != 1)=false:=by rw[HLN.out];rfl
 have d0:0<q0.props.length:=by rw[HLN.out];omega
 have hvd:=rvValid_any q0 (.slice qa q0.props.length qc) w5 (HMX.out.below HB5.out) L5.out.ps (by rw[HLN.out];omega) (fun x hx=>by have:=HAW.out.f0.lv x hx;omega)
 rw[HAW.out.ok0] at hvd
 have HVD:=zh hvd;clear hvd
 go_wp2_with fail
 refine HVD.out.mono ?_
 rintro e w6 ⟨rfl,hb6⟩
 have L6:=zh (L5.out.below hb6);have HB6:=zh (HB5.out.trans (hb6.mono HB5.out.size))
 clear hb6 q0c q1c L5 HB5 HVD
 obtain⟨q0c,q1c⟩:=L6.out.atQ.c2
 obtain⟨b,o',vv,hqa,hbl,e0,e1,e2,e3,e4,e5,hvv⟩:=Own.PropsC.cells L6.out.ps d0
 obtain⟨va,vc,rfl⟩:=hvv.len
 generalize q0.props[0].votes.length=vl at*
 clear hvv
 subst hqa
 simp only[Nat.zero_mul,Nat.add_zero,HQ00.out,List.getElem_cons_zero] at e0 e1 e2 e3 e4 e5
 have hb7:Below w6.heap.size w6 (w6.alloc (.cells #[.int .i64 p.id,.string p.path,.string p.digest,.int .i64 p.opened,.int .i64 p.expires,.slice va vl vc] 46)):=(Below.refl _ _).alloc (Nat.le_refl _) _
 have hP7:=At.new w6 46 #[.int .i64 p.id,.string p.path,.string p.digest,.int .i64 p.opened,.int .i64 p.expires,.slice va vl vc]
 obtain⟨gP,hgP⟩:∃ g,g=w6.heap.size:=⟨_,rfl⟩
 rw[<- hgP] at hP7
 have L7:=zh (L6.out.below hb7);have HB7:=zh (HB6.out.trans (hb7.mono HB6.out.size));have HP7:=zh hP7;have HGP:=zh hgP
 clear hb7 hP7 hgP L6 HB6
 go_upto_region 6 with fail
 rw[<- HGP.out]
 generalize w6.alloc (.cells #[.int .i64 p.id,.string p.path,.string p.digest,.int .i64 p.opened,.int .i64 p.expires,.slice va vl vc] 46)=w7 at*
 clear HGP q0c q1c e0 e1 e2 e3 e4 e5
 have hid0:=HPF.out.1;have hid1:=HPF.out.2.1;have hpl0:=HPF.out.2.2.1;have hdl0:=HPF.out.2.2.2
 obtain⟨q0c,q1c⟩:=L7.out.atQ.c2;obtain⟨o0c,o1c,o2c⟩:=L7.out.atO.c3
 obtain⟨p0c,p1c,p2c,p3c,p4c,p5c⟩:=HP7.out.c6
 have HXQ:=zh (show(w7.cell? ⟨gQ,0,none⟩).isSome=true by rw[q0c];rfl)
 have HXO:=zh (show(w7.cell? ⟨gO,0,none⟩).isSome=true by rw[o0c];rfl)
 have HBAL:=zh (law_ballot 0 0 p true (.slice va vl vc) w7.drew (by omega) (by omega) hid0 hid1 hpl0 hdl0 A0 HA0.out (bi:=0) (ii:=0) rfl rfl)
 clear hid0 hid1 hpl0 hdl0
 go_wp2_with fail
 refine Lex.wp_region_lexM (fun k=>k=gQ\/k=gO) [0,1] 5 [5] (by kernel_rfl) (by kernel_rfl) (by kernel_rfl) ?_
 simp only[Lex.wpCuts,List.take_succ_cons,List.take_zero,List.drop_succ_cons,List.drop_zero]
 go_wp2_with fail
 refine HBAL.out.mono ?_
 rintro e wx1a ⟨cv,pv,rfl,hoc,hop,hb⟩
 have hbx:Below w7.heap.size w7 wx1a:=(Below.refl w7.heap.size w7).drew.trans hb
 have Lx1a:=zh (L7.out.below hbx);have HBx1a:=zh (HB7.out.trans (hbx.mono HB7.out.size));have HPx1a:=zh (HP7.out.below hbx HP7.out.lt);have HXx1:=zh hbx;have OC:=zh hoc;have OP:=zh hop
 clear hb hbx hoc hop q0c q1c o0c o1c o2c p0c p1c p2c p3c p4c p5c HBAL
 have HVT:=zh (Lx1a.out.vote (HMX.out.below HBx1a.out) HAW.out.f0 5 true A0 OC.out OP.out HL0.out.1.symm HL0.out.2.1.symm (by have h1:=HL0.out.1;have h2:=HL0.out.2.1;have h3:=HL0.out.2.2;omega) HV1.out)
 go_wp2_with fail
 refine Lex.Mid.intro (fun k _ hkl=>HXx1.out.block _ hkl) ?_
 obtain⟨cax1,cmx1,ccx1,rfl⟩:=own_slice OC.out
 obtain⟨pax1,pmx1,pcx1,rfl⟩:=own_slice OP.out
 go_wp2_with fail
 refine HVT.out.mono ?_
 rintro e wx1b ⟨sax1,scx1,kax1,kcx1,qax1,qcx1,rfl,hs,hk,hp,hb⟩
 dsimp only at hs hk hp ⊢
 have hbx:=HXx1.out.trans (hb.mono HXx1.out.size)
 have hlb:=Lx1a.out.below hb
 have hlp:=hlb.put hs hk hp
 have hbw:=HBx1a.out.trans (hb.mono HBx1a.out.size)
 have HPx1b:=zh (HPx1a.out.below hb HPx1a.out.lt);have HXx1b:=zh hbx;have Lx1b:=zh hlb;have Lx1p:=zh hlp;have HBx1b:=zh hbw
 clear hs hk hp hb hbx hlb hlp hbw HVT Lx1a HBx1a HPx1a OC OP
 obtain⟨q0c,q1c⟩:=Lx1b.out.atQ.c2;obtain⟨o0c,o1c,o2c⟩:=Lx1b.out.atO.c3
 have q0f:=Lx1b.out.atQ.free 0;have q1f:=Lx1b.out.atQ.free 1;have o0f:=Lx1b.out.atO.free 0;have o1f:=Lx1b.out.atO.free 1;have o2f:=Lx1b.out.atO.free 2
 have hne:=Lx1b.out.ne
 have hne' : gQ≠gO:=fun e=>hne e.symm
 go_wp2_with fail
 refine Lex.EndsN.intro (by kernel_rfl) ⟨⟨.inl rfl,HXQ.out⟩,⟨.inr rfl,HXO.out⟩,trivial⟩ ?_
 have HBc:=zh (HBx1b.out.trans (lsW_below wx1b gO gQ o1 q1 sax1 scx1 kax1 kcx1 qax1 qcx1 hgOw hgQw))
 have hpn1:gP≠gO:=HPx1b.out.ne Lx1b.out.atO (by decide)
 have hpn2:gP≠gQ:=HPx1b.out.ne Lx1b.out.atQ (by decide)
 have HPc:=zh (show At (lsW wx1b gO gQ o1 q1 sax1 scx1 kax1 kcx1 qax1 qcx1) gP 46 #[.int .i64 p.id,.string p.path,.string p.digest,.int .i64 p.opened,.int .i64 p.expires,.slice va vl vc] by
  unfold At
  rw[lsW_other _ _ _ _ _ _ _ _ _ _ _ gP hpn1 hpn2]
  exact HPx1b.out)
 clear q0c q1c o0c o1c o2c q0f q1f o0f o1f o2f hne hne' hpn1 hpn2 HXQ HXO HXx1 HXx1b Lx1b HBx1b HPx1b
 go_upto_region 7 with fail
 have hLW:((((wx1b.setCell ⟨gQ,0,none⟩ (.int .i64 (q1).next)).setCell ⟨gQ,1,none⟩ (.slice qax1 (q1).props.length qcx1)).setCell ⟨gO,0,none⟩ (.int .i64 (o1).count)).setCell ⟨gO,1,none⟩ (.slice sax1 (o1).spaces.length scx1)).setCell ⟨gO,2,none⟩ (.slice kax1 (o1).keys.length kcx1)=lsW wx1b gO gQ o1 q1 sax1 scx1 kax1 kcx1 qax1 qcx1:=rfl
 rw[hLW]
 clear hLW
 generalize lsW wx1b gO gQ o1 q1 sax1 scx1 kax1 kcx1 qax1 qcx1=wx1c at*
 have HBx1:=HBc;have HPx1:=HPc;have Lx1:=Lx1p
 clear HBc HPc Lx1p
 have hag:=rvAgreedX_any q1 o1 5 _ _ _ wx1c (HMX.out.below HBx1.out) Lx1.out.ps Lx1.out.sp Lx1.out.ks HAW.out.f1.lp HAW.out.f1.lv (by have:=HAW.out.f1.ls;omega) (by have:=HAW.out.f1.lk;omega) (fun x hx=>by have:=HAW.out.f1.lm x hx;omega)
 rw[HAW.out.a1] at hag
 have HAG:=zh hag
 clear hag
 obtain⟨q0c,q1c⟩:=Lx1.out.atQ.c2;obtain⟨o0c,o1c,o2c⟩:=Lx1.out.atO.c3
 go_wp2_with fail
 refine HAG.out.mono ?_
 rintro e wx1g ⟨rfl,hb⟩
 have Lx1g:=zh (Lx1.out.below hb);have HBx1g:=zh (HBx1.out.trans (hb.mono HBx1.out.size));have HPx1g:=zh (HPx1.out.below hb HPx1.out.lt)
 clear hb q0c q1c o0c o1c o2c HAG Lx1 HBx1 HPx1
 go_upto_region 9 with fail
 have hid0:=HPF.out.1;have hid1:=HPF.out.2.1;have hpl0:=HPF.out.2.2.1;have hdl0:=HPF.out.2.2.2
 obtain⟨q0c,q1c⟩:=Lx1g.out.atQ.c2;obtain⟨o0c,o1c,o2c⟩:=Lx1g.out.atO.c3
 obtain⟨p0c,p1c,p2c,p3c,p4c,p5c⟩:=HPx1g.out.c6
 have HXQ:=zh (show(wx1g.cell? ⟨gQ,0,none⟩).isSome=true by rw[q0c];rfl)
 have HXO:=zh (show(wx1g.cell? ⟨gO,0,none⟩).isSome=true by rw[o0c];rfl)
 have HBAL:=zh (law_ballot 1 0 p true (.slice va vl vc) wx1g.drew (by omega) (by omega) hid0 hid1 hpl0 hdl0 A1 HA1.out (bi:=1) (ii:=0) rfl rfl)
 clear hid0 hid1 hpl0 hdl0
 go_wp2_with fail
 refine Lex.wp_region_lexM (fun k=>k=gQ\/k=gO) [0,1] 5 [5] (by kernel_rfl) (by kernel_rfl) (by kernel_rfl) ?_
 simp only[Lex.wpCuts,List.take_succ_cons,List.take_zero,List.drop_succ_cons,List.drop_zero]
 go_wp2_with fail
 refine HBAL.out.mono ?_
 rintro e wx2a ⟨cv,pv,rfl,hoc,hop,hb⟩
 have hbx:Below wx1g.heap.size wx1g wx2a:=(Below.refl wx1g.heap.size wx1g).drew.trans hb
 have Lx2a:=zh (Lx1g.out.below hbx);have HBx2a:=zh (HBx1g.out.trans (hbx.mono HBx1g.out.size));have HPx2a:=zh (HPx1g.out.below hbx HPx1g.out.lt);have HXx2:=zh hbx;have OC:=zh hoc;have OP:=zh hop
 clear hb hbx hoc hop q0c q1c o0c o1c o2c p0c p1c p2c p3c p4c p5c HBAL
 have HVT:=zh (Lx2a.out.vote (HMX.out.below HBx2a.out) HAW.out.f1 5 true A1 OC.out OP.out HL1.out.1.symm HL1.out.2.1.symm (by have h1:=HL1.out.1;have h2:=HL1.out.2.1;have h3:=HL1.out.2.2;omega) HV2.out)
 go_wp2_with fail
 refine Lex.Mid.intro (fun k _ hkl=>HXx2.out.block _ hkl) ?_
 obtain⟨cax2,cmx2,ccx2,rfl⟩:=own_slice OC.out
 obtain⟨pax2,pmx2,pcx2,rfl⟩:=own_slice OP.out
 go_wp2_with fail
 refine HVT.out.mono ?_
 rintro e wx2b ⟨sax2,scx2,kax2,kcx2,qax2,qcx2,rfl,hs,hk,hp,hb⟩
 dsimp only at hs hk hp ⊢
 have hbx:=HXx2.out.trans (hb.mono HXx2.out.size)
 have hlb:=Lx2a.out.below hb
 have hlp:=hlb.put hs hk hp
 have hbw:=HBx2a.out.trans (hb.mono HBx2a.out.size)
 have HPx2b:=zh (HPx2a.out.below hb HPx2a.out.lt);have HXx2b:=zh hbx;have Lx2b:=zh hlb;have Lx2p:=zh hlp;have HBx2b:=zh hbw
 clear hs hk hp hb hbx hlb hlp hbw HVT Lx2a HBx2a HPx2a OC OP
 obtain⟨q0c,q1c⟩:=Lx2b.out.atQ.c2;obtain⟨o0c,o1c,o2c⟩:=Lx2b.out.atO.c3
 have q0f:=Lx2b.out.atQ.free 0;have q1f:=Lx2b.out.atQ.free 1;have o0f:=Lx2b.out.atO.free 0;have o1f:=Lx2b.out.atO.free 1;have o2f:=Lx2b.out.atO.free 2
 have hne:=Lx2b.out.ne
 have hne' : gQ≠gO:=fun e=>hne e.symm
 go_wp2_with fail
 refine Lex.EndsN.intro (by kernel_rfl) ⟨⟨.inl rfl,HXQ.out⟩,⟨.inr rfl,HXO.out⟩,trivial⟩ ?_
 have HBc:=zh (HBx2b.out.trans (lsW_below wx2b gO gQ o2 q2 sax2 scx2 kax2 kcx2 qax2 qcx2 hgOw hgQw))
 have hpn1:gP≠gO:=HPx2b.out.ne Lx2b.out.atO (by decide)
 have hpn2:gP≠gQ:=HPx2b.out.ne Lx2b.out.atQ (by decide)
 have HPc:=zh (show At (lsW wx2b gO gQ o2 q2 sax2 scx2 kax2 kcx2 qax2 qcx2) gP 46 #[.int .i64 p.id,.string p.path,.string p.digest,.int .i64 p.opened,.int .i64 p.expires,.slice va vl vc] by
  unfold At
  rw[lsW_other _ _ _ _ _ _ _ _ _ _ _ gP hpn1 hpn2]
  exact HPx2b.out)
 clear q0c q1c o0c o1c o2c q0f q1f o0f o1f o2f hne hne' hpn1 hpn2 HXQ HXO HXx2 HXx2b Lx2b HBx2b HPx2b
 go_upto_region 10 with fail
 have hLW:((((wx2b.setCell ⟨gQ,0,none⟩ (.int .i64 (q2).next)).setCell ⟨gQ,1,none⟩ (.slice qax2 (q2).props.length qcx2)).setCell ⟨gO,0,none⟩ (.int .i64 (o2).count)).setCell ⟨gO,1,none⟩ (.slice sax2 (o2).spaces.length scx2)).setCell ⟨gO,2,none⟩ (.slice kax2 (o2).keys.length kcx2)=lsW wx2b gO gQ o2 q2 sax2 scx2 kax2 kcx2 qax2 qcx2:=rfl
 rw[hLW]
 clear hLW
 generalize lsW wx2b gO gQ o2 q2 sax2 scx2 kax2 kcx2 qax2 qcx2=wx2c at*
 have HBx2:=HBc;have HPx2:=HPc;have Lx2:=Lx2p
 clear HBc HPc Lx2p
 have hag:=rvAgreedX_any q2 o2 5 _ _ _ wx2c (HMX.out.below HBx2.out) Lx2.out.ps Lx2.out.sp Lx2.out.ks HAW.out.f2.lp HAW.out.f2.lv (by have:=HAW.out.f2.ls;omega) (by have:=HAW.out.f2.lk;omega) (fun x hx=>by have:=HAW.out.f2.lm x hx;omega)
 rw[HAW.out.a2] at hag
 have HAG:=zh hag
 clear hag
 obtain⟨q0c,q1c⟩:=Lx2.out.atQ.c2;obtain⟨o0c,o1c,o2c⟩:=Lx2.out.atO.c3
 go_wp2_with fail
 refine HAG.out.mono ?_
 rintro e wx2g ⟨rfl,hb⟩
 have Lx2g:=zh (Lx2.out.below hb);have HBx2g:=zh (HBx2.out.trans (hb.mono HBx2.out.size));have HPx2g:=zh (HPx2.out.below hb HPx2.out.lt)
 clear hb q0c q1c o0c o1c o2c HAG Lx2 HBx2 HPx2
 go_upto_region 12 with fail
 have hid0:=HPF.out.1;have hid1:=HPF.out.2.1;have hpl0:=HPF.out.2.2.1;have hdl0:=HPF.out.2.2.2
 obtain⟨q0c,q1c⟩:=Lx2g.out.atQ.c2;obtain⟨o0c,o1c,o2c⟩:=Lx2g.out.atO.c3
 obtain⟨p0c,p1c,p2c,p3c,p4c,p5c⟩:=HPx2g.out.c6
 have HXQ:=zh (show(wx2g.cell? ⟨gQ,0,none⟩).isSome=true by rw[q0c];rfl)
 have HXO:=zh (show(wx2g.cell? ⟨gO,0,none⟩).isSome=true by rw[o0c];rfl)
 have HBAL:=zh (fun W' => law_ballot 2 0 p false (.slice va vl vc) W' (by omega) (by omega) hid0 hid1 hpl0 hdl0 A2 HA2.out (bi:=2) (ii:=0) rfl rfl)
 clear hid0 hid1 hpl0 hdl0
 go_wp2_with fail
 refine Lex.wp_region_hav (fun k=>k=gQ\/k=gO) [0,1] [10,11] 14 [.pure 4,.call,.call,.pure 4,.new,.new] [1,1] (by kernel_rfl) (by kernel_rfl) (by kernel_rfl) ?_
 simp only[Lex.wpHav,Lex.wpCuts,List.take_succ_cons,List.take_zero,List.drop_succ_cons,List.drop_zero]
 have BD:=zh (show Below wx2g.heap.size wx2g wx2g.drew from(Below.refl _ _).drew)
 have ZD:=zh (show wx2g.drew.heap.size=wx2g.heap.size by rw[drew_heap])
 go_wp2_with fail
 refine Lex.PEnd.intro ?_
 intro wx3a hg
 have BEx3a:=zh (BD.out.trans (hg.mono BD.out.size));have BXx3a:=zh hg
 clear hg q0c q1c o0c o1c o2c p0c p1c p2c p3c p4c p5c
 go_wp2_with fail
 refine(HBAL.out _).mono ?_
 rintro e wx3b ⟨cv,pv,rfl,hoc,hop,hb⟩
 obtain⟨cax3,cmx3,ccx3,rfl⟩:=own_slice hoc
 obtain⟨pax3,pmx3,pcx3,rfl⟩:=own_slice hop
 have BEx3b:=zh (BEx3a.out.trans (hb.mono BEx3a.out.size));have BXx3b:=zh (BXx3a.out.trans (hb.mono BXx3a.out.size));have BB:=zh hb;have OC:=zh hoc;have OP:=zh hop
 clear hb hoc hop
 go_wp2_with fail
 refine Lex.CEnd.intro (fun k _ hkl=>BXx3b.out.block _ hkl) (Lex.Kept.of_below BB.out) ?_
 intro wx3c hg
 have hbc:=BEx3b.out.trans (hg.mono BEx3b.out.size)
 have hlc:=Lx2g.out.below hbc
 have HVT:=zh (hlc.vote (HMX.out.below (HBx2g.out.trans (hbc.mono HBx2g.out.size))) HAW.out.f2 5 false A2 (own_below OC.out hg) (own_below OP.out hg) HL2.out.1.symm HL2.out.2.1.symm (by have h1:=HL2.out.1;have h2:=HL2.out.2.1;have h3:=HL2.out.2.2;omega) HV3.out)
 have BEx3c:=zh hbc;have BXx3c:=zh (BXx3b.out.trans (hg.mono BXx3b.out.size))
 clear hbc hlc hg BB OC OP HBAL BEx3a BXx3a
 go_wp2_with fail
 refine HVT.out.mono ?_
 rintro e wx3d ⟨sax3,scx3,kax3,kcx3,qax3,qcx3,rfl,hs,hk,hp,hb⟩
 dsimp only at hs hk hp ⊢
 have BEx3d:=zh (BEx3c.out.trans (hb.mono BEx3c.out.size));have BXx3d:=zh (BXx3c.out.trans (hb.mono BXx3c.out.size));have BB:=zh hb
 have HS:=zh hs;have HK:=zh hk;have HPP:=zh hp
 clear hs hk hp hb HVT BEx3b BXx3b
 go_wp2_with fail
 refine Lex.CEnd.intro (fun k _ hkl=>BXx3d.out.block _ hkl) (Lex.Kept.of_below BB.out) ?_
 go_wp2_with fail
 refine Lex.PEnd.intro ?_
 intro wx3e hwe
 go_wp2_with fail
 refine Lex.NEnd.intro (fun wx3f hg hkk _=>?_)
 have hs:=hkk.at_
 obtain⟨gQx3,hgq⟩:∃ g,g=wx3e.heap.size:=⟨_,rfl⟩
 have hgQx3:wx2g.heap.size<=gQx3:=by rw[hgq,<- ZD.out];exact hwe
 rw[<- hgq] at hs
 have BEx3f:=zh (BEx3d.out.trans (hg.mono BEx3d.out.size));have BXx3f:=zh (BXx3d.out.trans (hg.mono BXx3d.out.size));have GQx3f:=zh hs;have HS1:=zh (HS.out.below hg);have HK1:=zh (HK.out.below hg);have HPP1:=zh (HPP.out.below hg)
 rw[<- hgq]
 clear hg hkk hs hgq hwe HS HK HPP BB BEx3c BXx3c
 intro wx3h hwh
 go_wp2_with fail
 refine Lex.NEnd.intro (fun wx3i hg hkk _=>?_)
 have hs:=hkk.at_
 obtain⟨gOx3,hgo⟩:∃ g,g=wx3h.heap.size:=⟨_,rfl⟩
 have hgOx3:wx2g.heap.size<=gOx3:=by rw[hgo,<- ZD.out];exact hwh
 rw[<- hgo] at hs
 have hlz:LS wx3i gOx3 gQx3 Own.Owners.none Own.Queue.none none 0 none 0 none 0:=⟨hs,GQx3f.out.below hg GQx3f.out.lt,ListF.nil _ _,ListF.nil _ _,ListF.nil _ _⟩
 have Lx3z:=zh hlz
 have hlp:=hlz.put (HS1.out.below hg) (HK1.out.below hg) (HPP1.out.below hg)
 have hbe:=BEx3f.out.trans (hg.mono BEx3f.out.size)
 have hbw:=hbe.trans (lsW_below wx3i gOx3 gQx3 o3 q3 sax3 scx3 kax3 kcx3 qax3 qcx3 hgOx3 hgQx3)
 have BXx3i:=zh (BXx3f.out.trans (hg.mono BXx3f.out.size));have Lx3n:=zh hlp;have Lx3o:=zh (Lx2g.out.below hbw);have HPx3n:=zh (HPx2g.out.below hbw HPx2g.out.lt);have HBx3n:=zh (HBx2g.out.trans (hbw.mono HBx2g.out.size))
 rw[<- hgo]
 clear hg hkk hs hgo hwh hlz hlp hbe hbw HS1 HK1 HPP1 GQx3f BEx3f BXx3f BEx3d BXx3d
 have q0c:=Lx3z.out.atQ.cell 0;have q1c:=Lx3z.out.atQ.cell 1;have o0c:=Lx3z.out.atO.cell 0;have o1c:=Lx3z.out.atO.cell 1;have o2c:=Lx3z.out.atO.cell 2
 simp only[List.getElem?_toArray,List.getElem?_cons_zero,List.getElem?_cons_succ,Own.Owners.none,Own.Queue.none,List.length_nil] at q0c q1c o0c o1c o2c
 have q0f:=Lx3z.out.atQ.free 0;have q1f:=Lx3z.out.atQ.free 1;have o0f:=Lx3z.out.atO.free 0;have o1f:=Lx3z.out.atO.free 1;have o2f:=Lx3z.out.atO.free 2
 have hne:=Lx3z.out.ne
 have hne' : gQx3≠gOx3:=fun e=>hne e.symm
 have hlQ:=Lx2g.out.atQ.lt;have hlO:=Lx2g.out.atO.lt
 go_wp2_with fail
 refine Lex.Mid.intro (fun k hk hkl=>by
  have h3:k≠gQx3:=by rcases hk with hk | hk <;> omega
  rw[heap_setCell_other _ _ _ _ h3,heap_setCell_other _ _ _ _ h3]
  exact BXx3i.out.block _ hkl) ?_
 go_wp2_with fail
 refine Lex.Mid.intro (fun k hk hkl=>by
  have h3:k≠gQx3:=by rcases hk with hk | hk <;> omega
  have h4:k≠gOx3:=by rcases hk with hk | hk <;> omega
  rw[heap_setCell_other _ _ _ _ h4,heap_setCell_other _ _ _ _ h4,heap_setCell_other _ _ _ _ h4,heap_setCell_other _ _ _ _ h3,heap_setCell_other _ _ _ _ h3]
  exact BXx3i.out.block _ hkl) ?_
 go_wp2_with fail
 refine Lex.EndsN.intro (by kernel_rfl) ⟨⟨.inl rfl,HXQ.out⟩,⟨.inr rfl,HXO.out⟩,trivial⟩ ?_
 clear q0c q1c o0c o1c o2c q0f q1f o0f o1f o2f hne hne' hlQ hlO HXQ HXO Lx3z BXx3i BD ZD
 go_upto_region 13 with fail
 have hLW:((((wx3i.setCell ⟨gQx3,0,none⟩ (.int .i64 q3.next)).setCell ⟨gQx3,1,none⟩ (.slice qax3 q3.props.length qcx3)).setCell ⟨gOx3,0,none⟩ (.int .i64 o3.count)).setCell ⟨gOx3,1,none⟩ (.slice sax3 o3.spaces.length scx3)).setCell ⟨gOx3,2,none⟩ (.slice kax3 o3.keys.length kcx3)=lsW wx3i gOx3 gQx3 o3 q3 sax3 scx3 kax3 kcx3 qax3 qcx3:=rfl
 rw[hLW]
 clear hLW
 generalize lsW wx3i gOx3 gQx3 o3 q3 sax3 scx3 kax3 kcx3 qax3 qcx3=wx4 at*
 have hag:=rvAgreedX_any q3 o3 5 _ _ _ wx4 (HMX.out.below HBx3n.out) Lx3n.out.ps Lx3n.out.sp Lx3n.out.ks HAW.out.f3.lp HAW.out.f3.lv (by have:=HAW.out.f3.ls;omega) (by have:=HAW.out.f3.lk;omega) (fun x hx=>by have:=HAW.out.f3.lm x hx;omega)
 rw[HAW.out.a3] at hag
 have HAG:=zh hag
 clear hag
 obtain⟨q0c,q1c⟩:=Lx3n.out.atQ.c2;obtain⟨o0c,o1c,o2c⟩:=Lx3n.out.atO.c3
 go_wp2_with fail
 refine HAG.out.mono ?_
 rintro e w8 ⟨rfl,hb⟩
 have L8:=zh (Lx3o.out.below hb);have HB8:=zh (HBx3n.out.trans (hb.mono HBx3n.out.size))
 clear hb q0c q1c o0c o1c o2c HAG Lx3n Lx3o HBx3n HPx3n
 go_upto_region 15 with fail
 have hm13:=rvMerge_any q2 o2 13 5 _ _ _ w8 (HMX.out.below HB8.out) L8.out.ps L8.out.sp L8.out.ks HAW.out.f2.lp HAW.out.f2.lv (by have:=HAW.out.f2.ls;omega) (by have:=HAW.out.f2.lk;omega) (fun x hx=>by have:=HAW.out.f2.lm x hx;omega)
 rw[HAW.out.m13] at hm13
 have HM13:=zh hm13
 clear hm13
 obtain⟨q0c,q1c⟩:=L8.out.atQ.c2;obtain⟨o0c,o1c,o2c⟩:=L8.out.atO.c3
 go_wp2_with fail
 refine HM13.out.mono ?_
 rintro e w9 ⟨⟨qv9,pv9,rfl,_,_⟩,hb⟩
 have L9:=zh (L8.out.below hb);have HB9:=zh (HB8.out.trans (hb.mono HB8.out.size))
 clear hb q0c q1c o0c o1c o2c HM13 L8 HB8
 go_upto_region 16 with fail
 have hm12:=rvMerge_any q2 o2 12 5 _ _ _ w9 (HMX.out.below HB9.out) L9.out.ps L9.out.sp L9.out.ks HAW.out.f2.lp HAW.out.f2.lv (by have:=HAW.out.f2.ls;omega) (by have:=HAW.out.f2.lk;omega) (fun x hx=>by have:=HAW.out.f2.lm x hx;omega)
 rw[HAW.out.m12] at hm12
 have HM12:=zh hm12
 clear hm12
 obtain⟨q0c,q1c⟩:=L9.out.atQ.c2;obtain⟨o0c,o1c,o2c⟩:=L9.out.atO.c3
 go_wp2_with fail
 refine HM12.out.mono ?_
 rintro e w10 ⟨⟨qv10,pv10,rfl,⟨qw10,rfl,hq10⟩,hv10⟩,hb⟩
 obtain⟨qa10,qc10,rfl⟩:=hq10.len
 obtain⟨pa10,pc10,rfl⟩:=hv10.len
 have L10:=zh (L9.out.below hb);have HB10:=zh (HB9.out.trans (hb.mono HB9.out.size));have HMI:=zh HAW.out.mid
 dsimp only[List.length_nil]
 clear hb q0c q1c o0c o1c o2c HM12 L9 HB9 hq10 hv10
 obtain⟨mid,mpa,mdi,mop,mex,mvs⟩:=m
 dsimp only at HMI ⊢
 obtain rfl:mid=5:=HMI.out
 clear HMI
 go_upto_region 17 with fail
 have B11:=zh (show Boxes w10 ((w10.alloc (.cells #[.int .i64 6,.slice qa10 0 qc10] 24)).alloc (.cells #[.int .i64 5,.string mpa,.string mdi,.int .i64 mop,.int .i64 mex,.slice pa10 mvs.length pc10] 46)) [(24,#[.int .i64 6,.slice qa10 0 qc10]),(46,#[.int .i64 5,.string mpa,.string mdi,.int .i64 mop,.int .i64 mex,.slice pa10 mvs.length pc10])] from(((Fresh.nil w10).push 24 #[.int .i64 6,.slice qa10 0 qc10]).push 46 #[.int .i64 5,.string mpa,.string mdi,.int .i64 mop,.int .i64 mex,.slice pa10 mvs.length pc10]).boxes)
 have L11:=zh (L10.out.below B11.out.under);have HB11:=zh (HB10.out.trans (B11.out.under.mono HB10.out.size))
 clear L10 HB10
 generalize ((w10.alloc (.cells #[.int .i64 6,.slice qa10 0 qc10] 24)).alloc (.cells #[.int .i64 5,.string mpa,.string mdi,.int .i64 mop,.int .i64 mex,.slice pa10 mvs.length pc10] 46))=w11 at*
 have hwd:=rvWithdraw_any q2 5 _ w11 (HMX.out.below HB11.out) L11.out.ps HAW.out.f2.lp HAW.out.f2.lv
 rw[HAW.out.wd] at hwd
 have HWD:=zh hwd
 clear hwd
 obtain⟨q0c,q1c⟩:=L11.out.atQ.c2
 go_wp2_with fail
 refine HWD.out.mono ?_
 rintro e w12 ⟨⟨qv12,rfl,qw12,rfl,hpo⟩,hb⟩
 obtain⟨qa12,qc12,rfl⟩:=hpo.one
 dsimp only[List.length_nil]
 have B12:=zh (B11.out.step hb);have L12:=zh (L11.out.below hb);have HB12:=zh (HB11.out.trans (hb.mono HB11.out.size))
 have h1012:=B12.out.size
 clear hb q0c q1c HWD hpo L11 HB11 B11
 have C13:=zh (show Boxes w12 (w12.alloc (.cells #[.int .i64 6,.slice qa12 0 qc12] 24)) [(24,#[.int .i64 6,.slice qa12 0 qc12])] from((Fresh.nil w12).push 24 #[.int .i64 6,.slice qa12 0 qc12]).boxes)
 have B13:=zh (B12.out.step C13.out.under);have L13:=zh (L12.out.below C13.out.under);have HB13:=zh (HB12.out.trans (C13.out.under.mono HB12.out.size))
 clear L12 HB12 B12
 go_upto_region 18 with fail
 generalize (w12.alloc (.cells #[.int .i64 6,.slice qa12 0 qc12] 24))=w13 at*
 have hex:=rvExpire_any q2 13 _ w13 (HMX.out.below HB13.out) L13.out.ps HAW.out.f2.lp HAW.out.f2.lv
 rw[HAW.out.ex] at hex
 have HEX:=zh hex
 clear hex
 obtain⟨q0c,q1c⟩:=L13.out.atQ.c2
 obtain⟨x00,x01⟩:=B13.out.d0_2 rfl
 have x10:w13.cell? ⟨w10.heap.size+1,0,none⟩=some (.int .i64 5):=B13.out.cell 1 0 rfl rfl
 obtain⟨y00,y01⟩:=C13.out.d0_2 rfl
 go_wp2_with fail
 refine HEX.out.mono ?_
 rintro e w14 ⟨⟨qv14,rfl,qw14,rfl,hpo⟩,hb⟩
 obtain⟨qa14,qc14,rfl⟩:=hpo.one
 dsimp only[List.length_nil]
 have HB14:=zh (HB13.out.trans (hb.mono HB13.out.size))
 clear hb hpo
 go_wp2_with fail
 rw[field_props]
 go_wp2_with fail
 go_ret
 exact⟨rfl,HB14.out⟩
end
section
open Go Go.RowKit Go.Maps
theorem equalIn_bool (D:Nat) (a c:Bool) (w:World):(Op.equalIn (D+1) 4 (.bool a) (.bool c)).run Tryz.prog w=.ok (a==c) w:=by
 rw[Op.equalIn]
 simp[Tryz.underlying4]
theorem beq_self (a:ByteArray):(a==a)=true:=by rw[ba_beq];simp
theorem neq_vote_self (a b:ByteArray) (c:Bool) (w:World):(binOp .neq 82 (.agg #[.string a,.string b,.bool c]) (.agg #[.string a,.string b,.bool c])).run Tryz.prog w=.ok (.bool false) w:=by
 have hs:Tryz.prog.stoodInHeld 82=false:=by kernel_rfl
 have e1:=equalIn_string 9998 a a w
 have e2:=equalIn_string 9998 b b w
 have e3:=equalIn_bool 9998 c c w
 have s1:∀ w,(sizeOf 9).run Tryz.prog w=.ok 1 w:=fun w=>by kernel_rfl
 have s2:∀ w,(isAgg 9).run Tryz.prog w=.ok false w:=fun w=>by kernel_rfl
 have s3:∀ w,(sizeOf 4).run Tryz.prog w=.ok 1 w:=fun w=>by kernel_rfl
 have s4:∀ w,(isAgg 4).run Tryz.prog w=.ok false w:=fun w=>by kernel_rfl
 have h2:(Op.equal 82 (.agg #[.string a,.string b,.bool c]) (.agg #[.string a,.string b,.bool c])).run Tryz.prog w=.ok true w:=by
  show(Op.equalIn (9998+2) 82 _ _).run Tryz.prog w=_
  rw[beq_self] at e1 e2
  rw[Op.equalIn]
  simp[Tryz.underlying82,hs,part,e1,e2,e3,s1,s2,s3,s4,Result.andThen]
 simp[binOp,h2,Result.andThen]
theorem r54SameP_any (p:Own.Proposal) (v1 v2:Value) (w:World) (h1:Own.VotesC w v1 p.votes) (h2:Own.VotesC w v2 p.votes) (hl:p.votes.length<=140737488355328):
 Calls Tryz.prog 32 #[.agg #[.int .i64 p.id,.string p.path,.string p.digest,.int .i64 p.opened,.int .i64 p.expires,v1],.agg #[.int .i64 p.id,.string p.path,.string p.digest,.int .i64 p.opened,.int .i64 p.expires,v2]] w fun e w' => e=.returned (.bool true)/\Below w.heap.size w w' :=by
 obtain⟨id,pa,di,op,ex,l⟩:=p
 dsimp only at*
 obtain⟨a1,c1,rfl⟩:=h1.len
 obtain⟨a2,c2,rfl⟩:=h2.len
 have F1:=zh (show Boxes w ((w.alloc (.cells #[.int .i64 id,.string pa,.string di,.int .i64 op,.int .i64 ex,.slice a1 l.length c1] 46)).alloc (.cells #[.int .i64 id,.string pa,.string di,.int .i64 op,.int .i64 ex,.slice a2 l.length c2] 46)) [(46,#[.int .i64 id,.string pa,.string di,.int .i64 op,.int .i64 ex,.slice a1 l.length c1]),(46,#[.int .i64 id,.string pa,.string di,.int .i64 op,.int .i64 ex,.slice a2 l.length c2])] from(((Fresh.nil w).push 46 #[.int .i64 id,.string pa,.string di,.int .i64 op,.int .i64 ex,.slice a1 l.length c1]).push 46 #[.int .i64 id,.string pa,.string di,.int .i64 op,.int .i64 ex,.slice a2 l.length c2]).boxes)
 have x00:((w.alloc (.cells #[.int .i64 id,.string pa,.string di,.int .i64 op,.int .i64 ex,.slice a1 l.length c1] 46)).alloc (.cells #[.int .i64 id,.string pa,.string di,.int .i64 op,.int .i64 ex,.slice a2 l.length c2] 46)).cell? ⟨w.heap.size,0,none⟩=some (.int .i64 id):=F1.out.cell 0 0 rfl rfl
 have x01:((w.alloc (.cells #[.int .i64 id,.string pa,.string di,.int .i64 op,.int .i64 ex,.slice a1 l.length c1] 46)).alloc (.cells #[.int .i64 id,.string pa,.string di,.int .i64 op,.int .i64 ex,.slice a2 l.length c2] 46)).cell? ⟨w.heap.size,1,none⟩=some (.string pa):=F1.out.cell 0 1 rfl rfl
 have x02:((w.alloc (.cells #[.int .i64 id,.string pa,.string di,.int .i64 op,.int .i64 ex,.slice a1 l.length c1] 46)).alloc (.cells #[.int .i64 id,.string pa,.string di,.int .i64 op,.int .i64 ex,.slice a2 l.length c2] 46)).cell? ⟨w.heap.size,2,none⟩=some (.string di):=F1.out.cell 0 2 rfl rfl
 have x03:((w.alloc (.cells #[.int .i64 id,.string pa,.string di,.int .i64 op,.int .i64 ex,.slice a1 l.length c1] 46)).alloc (.cells #[.int .i64 id,.string pa,.string di,.int .i64 op,.int .i64 ex,.slice a2 l.length c2] 46)).cell? ⟨w.heap.size,3,none⟩=some (.int .i64 op):=F1.out.cell 0 3 rfl rfl
 have x04:((w.alloc (.cells #[.int .i64 id,.string pa,.string di,.int .i64 op,.int .i64 ex,.slice a1 l.length c1] 46)).alloc (.cells #[.int .i64 id,.string pa,.string di,.int .i64 op,.int .i64 ex,.slice a2 l.length c2] 46)).cell? ⟨w.heap.size,4,none⟩=some (.int .i64 ex):=F1.out.cell 0 4 rfl rfl
 have x05:((w.alloc (.cells #[.int .i64 id,.string pa,.string di,.int .i64 op,.int .i64 ex,.slice a1 l.length c1] 46)).alloc (.cells #[.int .i64 id,.string pa,.string di,.int .i64 op,.int .i64 ex,.slice a2 l.length c2] 46)).cell? ⟨w.heap.size,5,none⟩=some (.slice a1 l.length c1):=F1.out.cell 0 5 rfl rfl
 have x10:((w.alloc (.cells #[.int .i64 id,.string pa,.string di,.int .i64 op,.int .i64 ex,.slice a1 l.length c1] 46)).alloc (.cells #[.int .i64 id,.string pa,.string di,.int .i64 op,.int .i64 ex,.slice a2 l.length c2] 46)).cell? ⟨w.heap.size+1,0,none⟩=some (.int .i64 id):=F1.out.cell 1 0 rfl rfl
 have x11:((w.alloc (.cells #[.int .i64 id,.string pa,.string di,.int .i64 op,.int .i64 ex,.slice a1 l.length c1] 46)).alloc (.cells #[.int .i64 id,.string pa,.string di,.int .i64 op,.int .i64 ex,.slice a2 l.length c2] 46)).cell? ⟨w.heap.size+1,1,none⟩=some (.string pa):=F1.out.cell 1 1 rfl rfl
 have x12:((w.alloc (.cells #[.int .i64 id,.string pa,.string di,.int .i64 op,.int .i64 ex,.slice a1 l.length c1] 46)).alloc (.cells #[.int .i64 id,.string pa,.string di,.int .i64 op,.int .i64 ex,.slice a2 l.length c2] 46)).cell? ⟨w.heap.size+1,2,none⟩=some (.string di):=F1.out.cell 1 2 rfl rfl
 have x13:((w.alloc (.cells #[.int .i64 id,.string pa,.string di,.int .i64 op,.int .i64 ex,.slice a1 l.length c1] 46)).alloc (.cells #[.int .i64 id,.string pa,.string di,.int .i64 op,.int .i64 ex,.slice a2 l.length c2] 46)).cell? ⟨w.heap.size+1,3,none⟩=some (.int .i64 op):=F1.out.cell 1 3 rfl rfl
 have x14:((w.alloc (.cells #[.int .i64 id,.string pa,.string di,.int .i64 op,.int .i64 ex,.slice a1 l.length c1] 46)).alloc (.cells #[.int .i64 id,.string pa,.string di,.int .i64 op,.int .i64 ex,.slice a2 l.length c2] 46)).cell? ⟨w.heap.size+1,4,none⟩=some (.int .i64 ex):=F1.out.cell 1 4 rfl rfl
 have x15:((w.alloc (.cells #[.int .i64 id,.string pa,.string di,.int .i64 op,.int .i64 ex,.slice a1 l.length c1] 46)).alloc (.cells #[.int .i64 id,.string pa,.string di,.int .i64 op,.int .i64 ex,.slice a2 l.length c2] 46)).cell? ⟨w.heap.size+1,5,none⟩=some (.slice a2 l.length c2):=F1.out.cell 1 5 rfl rfl
 have H1:=zh h1;have H2:=zh h2
 clear h1 h2
 go_enter Tryz.func32,Tryz.ntmps32
 go_wp2_with fail
 generalize ((w.alloc (.cells #[.int .i64 id,.string pa,.string di,.int .i64 op,.int .i64 ex,.slice a1 l.length c1] 46)).alloc (.cells #[.int .i64 id,.string pa,.string di,.int .i64 op,.int .i64 ex,.slice a2 l.length c2] 46))=w1 at*
 go_loopw [5] (fun i wr=>∃ k:Nat,k<=l.length/\i=.int .i64 k/\Below w1.heap.size w1 wr) (fun i _=>l.length - (intOf i).toNat)
 case atStart=>exact⟨0,by omega,rfl,Below.refl _ _⟩
 case round=>
  obtain⟨k,hk,rfl,hb⟩:=hrel
  have HBW:=zh hb;have FR:=zh (F1.out.step hb)
  clear hb
  (try clear x00);(try clear x01);(try clear x02);(try clear x03);(try clear x04);(try clear x05);(try clear x10);(try clear x11);(try clear x12);(try clear x13);(try clear x14);(try clear x15)
  have x05:wr.cell? ⟨w.heap.size,5,none⟩=some (.slice a1 l.length c1):=FR.out.cell 0 5 rfl rfl
  have x15:wr.cell? ⟨w.heap.size+1,5,none⟩=some (.slice a2 l.length c2):=FR.out.cell 1 5 rfl rfl
  by_cases hlt:k<l.length
  case neg=>
   have dk:decide ((k:Int)<l.length)=false:=decide_eq_false (by omega)
   go_wp2_with fail
   go_ret
   exact⟨rfl,FR.out.under⟩
  have dk:decide ((k:Int)<l.length)=true:=decide_eq_true (by omega)
  obtain⟨b,o,ha,hbl,e0,e1,e2⟩:=Own.VotesC.cells (H1.out.below FR.out.under) hlt
  obtain⟨b',o',ha',hbl',e0',e1',e2'⟩:=Own.VotesC.cells (H2.out.below FR.out.under) hlt
  subst ha
  subst ha'
  obtain⟨x,hx⟩:∃ x,x=l[k]:=⟨_,rfl⟩
  rw[<- hx] at e0 e1 e2 e0' e1' e2'
  obtain⟨n,pu,ag⟩:=x
  dsimp only at e0 e1 e2 e0' e1' e2'
  have hne:=neq_vote_self n pu ag
  clear hx
  go_wp2_with fail
  go_quiet (fail)
  go_wp2_with fail
  go_round
  case measure=>simp[intOf];omega
  case rel=>exact⟨k+1,by omega,by go_num,below_drewN HBW.out nq⟩
theorem r54Same_any (q:Own.Queue) (v1 v2:Value) (w:World) (h1:Own.PropsC w v1 q.props) (h2:Own.PropsC w v2 q.props) (hl:q.props.length<=140737488355328) (hv:∀ p∈q.props,p.votes.length<=140737488355328):
 Calls Tryz.prog 18 #[.agg #[.int .i64 q.next,v1],.agg #[.int .i64 q.next,v2]] w fun e w' => e=.returned (.bool true)/\Below w.heap.size w w' :=by
 obtain⟨nx,l⟩:=q
 dsimp only at*
 obtain⟨a1,c1,rfl⟩:=h1.len
 obtain⟨a2,c2,rfl⟩:=h2.len
 have F1:=zh (show Boxes w ((w.alloc (.cells #[.int .i64 nx,.slice a1 l.length c1] 24)).alloc (.cells #[.int .i64 nx,.slice a2 l.length c2] 24)) [(24,#[.int .i64 nx,.slice a1 l.length c1]),(24,#[.int .i64 nx,.slice a2 l.length c2])] from(((Fresh.nil w).push 24 #[.int .i64 nx,.slice a1 l.length c1]).push 24 #[.int .i64 nx,.slice a2 l.length c2]).boxes)
 have x00:((w.alloc (.cells #[.int .i64 nx,.slice a1 l.length c1] 24)).alloc (.cells #[.int .i64 nx,.slice a2 l.length c2] 24)).cell? ⟨w.heap.size,0,none⟩=some (.int .i64 nx):=F1.out.cell 0 0 rfl rfl
 have x01:((w.alloc (.cells #[.int .i64 nx,.slice a1 l.length c1] 24)).alloc (.cells #[.int .i64 nx,.slice a2 l.length c2] 24)).cell? ⟨w.heap.size,1,none⟩=some (.slice a1 l.length c1):=F1.out.cell 0 1 rfl rfl
 have x10:((w.alloc (.cells #[.int .i64 nx,.slice a1 l.length c1] 24)).alloc (.cells #[.int .i64 nx,.slice a2 l.length c2] 24)).cell? ⟨w.heap.size+1,0,none⟩=some (.int .i64 nx):=F1.out.cell 1 0 rfl rfl
 have x11:((w.alloc (.cells #[.int .i64 nx,.slice a1 l.length c1] 24)).alloc (.cells #[.int .i64 nx,.slice a2 l.length c2] 24)).cell? ⟨w.heap.size+1,1,none⟩=some (.slice a2 l.length c2):=F1.out.cell 1 1 rfl rfl
 have H1:=zh h1;have H2:=zh h2;have HV:=zh hv
 clear h1 h2 hv
 go_enter Tryz.func18,Tryz.ntmps18
 go_wp2_with fail
 generalize ((w.alloc (.cells #[.int .i64 nx,.slice a1 l.length c1] 24)).alloc (.cells #[.int .i64 nx,.slice a2 l.length c2] 24))=w1 at*
 go_loopw [5] (fun i wr=>∃ k:Nat,k<=l.length/\i=.int .i64 k/\Below w1.heap.size w1 wr) (fun i _=>l.length - (intOf i).toNat)
 case atStart=>exact⟨0,by omega,rfl,Below.refl _ _⟩
 case round=>
  obtain⟨k,hk,rfl,hb⟩:=hrel
  have HBW:=zh hb;have FR:=zh (F1.out.step hb)
  clear hb
  (try clear x00);(try clear x01);(try clear x10);(try clear x11)
  have x01:wr.cell? ⟨w.heap.size,1,none⟩=some (.slice a1 l.length c1):=FR.out.cell 0 1 rfl rfl
  have x11:wr.cell? ⟨w.heap.size+1,1,none⟩=some (.slice a2 l.length c2):=FR.out.cell 1 1 rfl rfl
  by_cases hlt:k<l.length
  case neg=>
   have dk:decide ((k:Int)<l.length)=false:=decide_eq_false (by omega)
   go_wp2_with fail
   go_ret
   exact⟨rfl,FR.out.under⟩
  have dk:decide ((k:Int)<l.length)=true:=decide_eq_true (by omega)
  obtain⟨b,o,u,ha,hbl,e0,e1,e2,e3,e4,e5,hu⟩:=Own.PropsC.cells (H1.out.below FR.out.under) hlt
  obtain⟨b',o',u',ha',hbl',e0',e1',e2',e3',e4',e5',hu'⟩:=Own.PropsC.cells (H2.out.below FR.out.under) hlt
  subst ha
  subst ha'
  have hvl:=HV.out l[k] (List.getElem_mem hlt)
  obtain⟨x,hx⟩:∃ x,x=l[k]:=⟨_,rfl⟩
  rw[<- hx] at e0 e1 e2 e3 e4 e0' e1' e2' e3' e4' hu hu' hvl
  have hsp:=r54SameP_any x u u' wr.drew (hu.below (Below.refl _ _).drew) (hu'.below (Below.refl _ _).drew) hvl
  have HSP:=zh hsp
  clear hx hsp hu hu'
  go_wp2_with fail
  refine Lex.wp_region_lex (by kernel_rfl) (by kernel_rfl) ?_
  go_wp2_with fail
  refine HSP.out.mono ?_
  rintro e w2 ⟨rfl,hb⟩
  have HB2:=zh (HBW.out.trans (((Below.refl wr.heap.size wr).drew.trans hb).mono HBW.out.size))
  clear hb
  go_wp2_with fail
  refine Lex.Ends.intro (by kernel_rfl) ?_
  go_wp2_with fail
  go_round
  case measure=>simp[intOf];omega
  case rel=>exact⟨k+1,by omega,by go_num,HB2.out⟩
end
section
open Go Go.RowKit Go.Maps
theorem merge_len (q:Own.Queue) (o:Own.Owners) (size id:Int) (h1:q.props.length<=1000000) (h2:∀ x∈q.props,x.votes.length<=3000000):
 (Own.merge q o size id).1.props.length<=1000000/\(∀ x∈(Own.merge q o size id).1.props,x.votes.length<=3000000)/\(Own.merge q o size id).2.1.votes.length<=3000000:=by
 have z:(Own.Queue.none.props.length<=1000000)/\(∀ x∈Own.Queue.none.props,x.votes.length<=3000000)/\Own.Proposal.none.votes.length<=3000000:=⟨by simp[Own.Queue.none],(fun x hx=>by simp[Own.Queue.none] at hx),by simp[Own.Proposal.none]⟩
 unfold Own.merge
 by_cases hq:(Own.queueOK q&&Own.ownersOK o)=false
 ·rw[if_pos hq];exact z
 rw[if_neg hq]
 cases hf:Own.findP q.props id with
 | none=>exact z
 | some p =>
   dsimp only
   by_cases h3:p.expires<=size
   ·rw[if_pos h3];exact z
   rw[if_neg h3]
   by_cases h4:Own.agreedP p o=false
   ·rw[if_pos h4];exact z
   rw[if_neg h4]
   have hp:p∈q.props:=List.mem_of_find?_eq_some hf
   refine⟨Nat.le_trans (List.length_filter_le _ _) h1,fun x hx=>h2 x (List.mem_filter.1 hx).1,h2 p hp⟩
structure MP (w:World) (gA gB:Nat) (q:Own.Queue) (p:Own.Proposal) (qa:Option Addr) (qc:Nat) (va:Option Addr) (vc:Nat):Prop where
 atQ:At w gA 24 #[.int .i64 q.next,.slice qa q.props.length qc]
 atP:At w gB 46 #[.int .i64 p.id,.string p.path,.string p.digest,.int .i64 p.opened,.int .i64 p.expires,.slice va p.votes.length vc]
 ps:Own.PropsC w (.slice qa q.props.length qc) q.props
 vs:Own.VotesC w (.slice va p.votes.length vc) p.votes
theorem MP.below {w w' : World} {gA gB:Nat} {q:Own.Queue} {p:Own.Proposal} {qa va:Option Addr} {qc vc:Nat} (h:MP w gA gB q p qa qc va vc) (hb:Below w.heap.size w w'):MP w' gA gB q p qa qc va vc:=
 ⟨h.atQ.below hb h.atQ.lt,h.atP.below hb h.atP.lt,h.ps.below hb,h.vs.below hb⟩
theorem MP.two {w:World} {q:Own.Queue} {p:Own.Proposal} {qa va:Option Addr} {qc vc:Nat} (hq:Own.PropsC w (.slice qa q.props.length qc) q.props) (hv:Own.VotesC w (.slice va p.votes.length vc) p.votes):
 MP ((w.alloc (.cells #[.int .i64 q.next,.slice qa q.props.length qc] 24)).alloc (.cells #[.int .i64 p.id,.string p.path,.string p.digest,.int .i64 p.opened,.int .i64 p.expires,.slice va p.votes.length vc] 46)) w.heap.size (w.heap.size+1) q p qa qc va vc/\
  Below w.heap.size w ((w.alloc (.cells #[.int .i64 q.next,.slice qa q.props.length qc] 24)).alloc (.cells #[.int .i64 p.id,.string p.path,.string p.digest,.int .i64 p.opened,.int .i64 p.expires,.slice va p.votes.length vc] 46)):=by
 have hb:Below w.heap.size w ((w.alloc (.cells #[.int .i64 q.next,.slice qa q.props.length qc] 24)).alloc (.cells #[.int .i64 p.id,.string p.path,.string p.digest,.int .i64 p.opened,.int .i64 p.expires,.slice va p.votes.length vc] 46)):=((Below.refl _ _).alloc (Nat.le_refl _) _).alloc (by simp) _
 exact⟨⟨(At.new w 24 #[.int .i64 q.next,.slice qa q.props.length qc]).alloc _,At.new1 w (.cells #[.int .i64 q.next,.slice qa q.props.length qc] 24) 46 _,hq.below hb,hv.below hb⟩,hb⟩
theorem rmerges_any (q:Own.Queue) (o:Own.Owners) (size id:Int) (qv sv kv:Value) (w:World) (hM:MaxL w) (hP:Own.PropsC w qv q.props) (hS:Own.SpacesC w sv o.spaces) (hK:Own.KeysC w kv o.keys)
 (hql:q.props.length<=140737488355328) (hqv:∀ p∈q.props,p.votes.length<=140737488355328/\p.path.size<=140737488355328/\p.digest.size<=140737488355328/\∀ v∈p.votes,v.name.size<=140737488355328/\v.pub.size<=140737488355328)
 (hls:o.spaces.length<=140737488355328) (hlk:o.keys.length<=140737488355328) (hlm:∀ s∈o.spaces,s.members.length<=140737488355328):
 Calls Tryz.prog 5 #[.agg #[.int .i64 q.next,qv],.agg #[.int .i64 o.count,sv,kv],.int .i64 size,.int .i64 id] w fun e w' => e=.returned (.bool true)/\Below w.heap.size w w' :=by
 obtain⟨qa,qc,rfl⟩:=hP.len
 obtain⟨sa,sc,rfl⟩:=hS.len
 obtain⟨ka,kc,rfl⟩:=hK.len
 obtain⟨hl,hb⟩:=LS.two hS hK hP
 have haw:=fun W (hW:MaxL W)=>awake54_any W hW
 have HAWK:=zh haw;have HMX:=zh hM;have L0:=zh hl;have HB0:=zh hb
 clear haw hM hl hb
 go_enter Tryz.func5,Tryz.ntmps5
 go_upto_region 1 with fail
 obtain⟨gO,hgO⟩:∃ g,g=w.heap.size+1:=⟨_,rfl⟩
 obtain⟨gQ,hgQ⟩:∃ g,g=w.heap.size:=⟨_,rfl⟩
 rw[<- hgO] at L0 ⊢
 rw[<- hgQ] at L0 ⊢
 clear hgO hgQ
 generalize (w.alloc (.cells #[.int .i64 q.next,.slice qa q.props.length qc] 24)).alloc (.cells #[.int .i64 o.count,.slice sa o.spaces.length sc,.slice ka o.keys.length kc] 38)=w0 at*
 go_wp2_with fail
 refine(HAWK.out _ (HMX.out.below HB0.out)).mono ?_
 rintro e w1 ⟨rfl,hb⟩
 have L1:=zh (L0.out.below hb);have HB1:=zh (HB0.out.trans (hb.mono HB0.out.size))
 clear hb HAWK L0 HB0
 obtain⟨q0c,q1c⟩:=L1.out.atQ.c2
 have HFQ:=zh (r54Few_any q _ w1 L1.out.ps hql hqv)
 go_wp2_with fail
 refine HFQ.out.mono ?_
 rintro e w2 ⟨b,rfl,hfq,hb⟩
 have L2:=zh (L1.out.below hb);have HB2:=zh (HB1.out.trans (hb.mono HB1.out.size))
 clear hb L1 HB1 q0c q1c HFQ
 cases b with
 | false =>
   clear hfq
   go_wp2_with fail
   go_ret
   exact⟨rfl,HB2.out⟩
 | true=>
 have hfq:=hfq rfl
 have HFQ:=zh hfq
 clear hfq
 obtain⟨o0c,o1c,o2c⟩:=L2.out.atO.c3
 have HFO:=zh (r53Few_any o _ _ w2 L2.out.sp L2.out.ks hls hlk hlm)
 go_wp2_with fail
 refine HFO.out.mono ?_
 rintro e w3 ⟨b,rfl,hfo,hb⟩
 have L3:=zh (L2.out.below hb);have HB3:=zh (HB2.out.trans (hb.mono HB2.out.size))
 clear hb L2 HB2 o0c o1c o2c HFO
 cases b with
 | false =>
   clear hfo
   go_wp2_with fail
   go_ret
   exact⟨rfl,HB3.out⟩
 | true=>
 have hfo:=hfo rfl
 have HFO:=zh hfo
 clear hfo
 have hq1:q.props.length<=1000000:=by have:=HFQ.out.1;omega
 have hq2:∀ x∈q.props,x.votes.length<=3000000/\x.path.size<=140737488355328:=fun x hx=>by
  have h1:=(HFQ.out.2 x hx).1
  have h2:=(HFQ.out.2 x hx).2.1
  exact⟨by omega,by omega⟩
 have ho2:∀ x∈o.spaces,x.members.length<=140737488355328/\x.pre.size<=140737488355000:=fun x hx=>by
  have h1:=(HFO.out.2.2.1 x hx).1
  exact⟨hlm x hx,by omega⟩
 have HQ1:=zh hq1;have HQ2:=zh hq2;have HO2:=zh ho2;have HLS:=zh hls;have HLK:=zh hlk
 clear hq1 hq2 ho2 hls hlk hlm hql hqv HFQ HFO
 obtain⟨R,hR⟩:∃ R,Own.merge q o size id=R:=⟨_,rfl⟩
 have HR:=zh hR
 clear hR
 go_upto_region 5 with fail
 obtain⟨q0c,q1c⟩:=L3.out.atQ.c2;obtain⟨o0c,o1c,o2c⟩:=L3.out.atO.c3
 have HMG:=zh (rvMerge_any q o size id _ _ _ w3 (HMX.out.below HB3.out) L3.out.ps L3.out.sp L3.out.ks HQ1.out (fun x hx=>(HQ2.out x hx).1) HLS.out HLK.out (fun x hx=>(HO2.out x hx).1))
 go_wp2_with fail
 refine HMG.out.mono ?_
 rintro e wxa ⟨⟨qvx,pvx,rfl,⟨qpx,rfl,hqc⟩,hvc⟩,hb⟩
 rw[HR.out] at hqc hvc
 rw[HR.out]
 obtain⟨qax,qcx,rfl⟩:=hqc.len
 obtain⟨vax,vcx,rfl⟩:=hvc.len
 have Lxa:=zh (L3.out.below hb);have HBxa:=zh (HB3.out.trans (hb.mono HB3.out.size));have QCxa:=zh hqc;have VCxa:=zh hvc;have BC:=zh hb
 clear hqc hvc hb HMG q0c q1c o0c o1c o2c
 go_upto_region 6 with fail
 obtain⟨hm,hb⟩:=MP.two QCxa.out VCxa.out
 obtain⟨gBx,hgB⟩:∃ g,g=wxa.heap.size+1:=⟨_,rfl⟩
 obtain⟨gAx,hgA⟩:∃ g,g=wxa.heap.size:=⟨_,rfl⟩
 rw[<- hgB] at hm ⊢
 rw[<- hgA] at hm ⊢
 have Mx:=zh hm;have Lxb:=zh (Lxa.out.below hb);have HBxb:=zh (HBxa.out.trans (hb.mono HBxa.out.size))
 have BWx:=zh (BC.out.trans (hb.mono BC.out.size))
 clear hm hb hgA hgB BC QCxa VCxa Lxa HBxa
 generalize (wxa.alloc (.cells #[.int .i64 R.1.next,.slice qax R.1.props.length qcx] 24)).alloc (.cells #[.int .i64 R.2.1.id,.string R.2.1.path,.string R.2.1.digest,.int .i64 R.2.1.opened,.int .i64 R.2.1.expires,.slice vax R.2.1.votes.length vcx] 46)=wxb at*
 obtain⟨q0c,q1c⟩:=Lxb.out.atQ.c2;obtain⟨o0c,o1c,o2c⟩:=Lxb.out.atO.c3
 have HMG:=zh (r54Merge_any q o size id _ _ _ wxb Lxb.out.ps Lxb.out.sp Lxb.out.ks HQ1.out HQ2.out HLS.out HLK.out HO2.out)
 go_wp2_with fail
 refine HMG.out.mono ?_
 rintro e wya ⟨⟨qvy,pvy,rfl,⟨qpy,rfl,hqc⟩,hvc⟩,hb⟩
 rw[HR.out] at hqc hvc
 rw[HR.out]
 obtain⟨qay,qcy,rfl⟩:=hqc.len
 obtain⟨vay,vcy,rfl⟩:=hvc.len
 have Lya:=zh (Lxb.out.below hb);have HBya:=zh (HBxb.out.trans (hb.mono HBxb.out.size));have QCya:=zh hqc;have VCya:=zh hvc;have BC:=zh hb
 clear hqc hvc hb HMG q0c q1c o0c o1c o2c
 go_upto_region 7 with fail
 obtain⟨hm,hb⟩:=MP.two QCya.out VCya.out
 obtain⟨gBy,hgB⟩:∃ g,g=wya.heap.size+1:=⟨_,rfl⟩
 obtain⟨gAy,hgA⟩:∃ g,g=wya.heap.size:=⟨_,rfl⟩
 rw[<- hgB] at hm ⊢
 rw[<- hgA] at hm ⊢
 have My:=zh hm;have Lyb:=zh (Lya.out.below hb);have HByb:=zh (HBya.out.trans (hb.mono HBya.out.size))
 have BWy:=zh (BC.out.trans (hb.mono BC.out.size))
 clear hm hb hgA hgB BC QCya VCya Lya HBya
 generalize (wya.alloc (.cells #[.int .i64 R.1.next,.slice qay R.1.props.length qcy] 24)).alloc (.cells #[.int .i64 R.2.1.id,.string R.2.1.path,.string R.2.1.digest,.int .i64 R.2.1.opened,.int .i64 R.2.1.expires,.slice vay R.2.1.votes.length vcy] 46)=wyb at*
 have Mx2:=zh (Mx.out.below BWy.out)
 clear Mx BWx BWy Lxb HBxb L3 HB3
 obtain⟨q0c,q1c⟩:=Lyb.out.atQ.c2;obtain⟨o0c,o1c,o2c⟩:=Lyb.out.atO.c3
 have HXQ:=zh (show(wyb.cell? ⟨gQ,0,none⟩).isSome=true by rw[q0c];rfl)
 have HXO:=zh (show(wyb.cell? ⟨gO,0,none⟩).isSome=true by rw[o0c];rfl)
 have bd:Below wyb.heap.size wyb wyb.drew:=(Below.refl _ _).drew
 have HAG:=zh (rvAgreedX_any q o id _ _ _ wyb.drew (HMX.out.below (HByb.out.trans (bd.mono HByb.out.size))) (Lyb.out.below bd).ps (Lyb.out.below bd).sp (Lyb.out.below bd).ks HQ1.out (fun x hx=>(HQ2.out x hx).1) HLS.out HLK.out (fun x hx=>(HO2.out x hx).1))
 have BD:=zh bd
 clear bd
 go_wp2_with fail
 refine Lex.wp_region_lexM (fun k=>k=gQ\/k=gO) [4,5] 6 [4] (by kernel_rfl) (by kernel_rfl) (by kernel_rfl) ?_
 simp only[Lex.wpCuts,List.take_succ_cons,List.take_zero,List.drop_succ_cons,List.drop_zero]
 go_wp2_with fail
 refine HAG.out.mono ?_
 rintro e w5 ⟨rfl,hb⟩
 have hbx:=BD.out.trans (hb.mono BD.out.size)
 have L5:=zh (Lyb.out.below hbx);have HB5:=zh (HByb.out.trans (hbx.mono HByb.out.size));have Mx5:=zh (Mx2.out.below hbx);have My5:=zh (My.out.below hbx);have BX:=zh hbx
 clear hb hbx q0c q1c o0c o1c o2c HAG BD Lyb HByb Mx2 My
 go_wp2_with fail
 refine Lex.Mid.intro (fun k _ hkl=>BX.out.block _ hkl) ?_
 obtain⟨q0c,q1c⟩:=L5.out.atQ.c2;obtain⟨o0c,o1c,o2c⟩:=L5.out.atO.c3
 have HAR:=zh (r54Agreed_any q o id _ _ _ w5 L5.out.ps L5.out.sp L5.out.ks HQ1.out HQ2.out HLS.out HLK.out HO2.out)
 go_wp2_with fail
 refine HAR.out.mono ?_
 rintro e w6 ⟨rfl,hb⟩
 have HB6:=zh (HB5.out.trans (hb.mono HB5.out.size));have Mx6:=zh (Mx5.out.below hb);have My6:=zh (My5.out.below hb)
 clear hb q0c q1c o0c o1c o2c HAR L5 HB5 Mx5 My5
 have hrl:=merge_len q o size id HQ1.out (fun x hx=>(HQ2.out x hx).1)
 rw[HR.out] at hrl
 have HRL:=zh hrl
 clear hrl
 obtain⟨q0c,q1c⟩:=Mx6.out.atQ.c2;obtain⟨q0d,q1d⟩:=My6.out.atQ.c2
 have HSM:=zh (r54Same_any R.1 _ _ w6 Mx6.out.ps My6.out.ps (by have:=HRL.out.1;omega) (fun x hx=>by have:=HRL.out.2.1 x hx;omega))
 go_wp2_with fail
 refine HSM.out.mono ?_
 rintro e w7 ⟨rfl,hb⟩
 have HB7:=zh (HB6.out.trans (hb.mono HB6.out.size));have Mx7:=zh (Mx6.out.below hb);have My7:=zh (My6.out.below hb)
 clear hb q0c q1c q0d q1d HSM HB6 Mx6 My6
 obtain⟨p0c,p1c,p2c,p3c,p4c,p5c⟩:=Mx7.out.atP.c6;obtain⟨p0d,p1d,p2d,p3d,p4d,p5d⟩:=My7.out.atP.c6
 have HSP:=zh (r54SameP_any R.2.1 _ _ w7 Mx7.out.vs My7.out.vs (by have:=HRL.out.2.2;omega))
 go_wp2_with fail
 refine HSP.out.mono ?_
 rintro e w8 ⟨rfl,hb⟩
 have HB8:=zh (HB7.out.trans (hb.mono HB7.out.size))
 clear hb p0c p1c p2c p3c p4c p5c p0d p1d p2d p3d p4d p5d HSP HB7 Mx7 My7
 go_wp2_with fail
 refine Lex.EndsN.intro (by kernel_rfl) ⟨⟨.inl rfl,HXQ.out⟩,⟨.inr rfl,HXO.out⟩,trivial⟩ ?_
 go_wp2_with fail
 go_ret
 exact⟨rfl,HB8.out⟩
end
section
open Go Go.ChangeShapes Go.WideShapes Go.RowKit Go.Maps
section
variable {H:Type} {enc:TypeId × Value->H}
theorem returnsInHanded_and_shaped {a:Assume} {C:Checked} {os:Os} {f:FuncId} {fn:Func} {s:ChangeSpec} {conds:List PathCond} {apart fresh handsOn again:Bool} {X:World->Array Value->Prop}
 (hX:∀ (w w' : World) (args:Array Value),w.heap=w'.heap->X w args->X w' args)
 (own:ownKnob C.prog.godebug=none) (started:os.Started) (noInit:C.prog.inits.idxOf? f=none) (hfn:C.prog.funcs[f]? = some fn)
 (witness : ∃ (w : World) (tape : Tape) (i : Input),w.os = os ∧ (w.forCall tape i).Shaped C.prog ∧ i.vars = [] ∧ Input.okWide C.prog (w.forCall tape i) .any w.heap.size f i ∧
   ((s.pre enc C.prog fn conds apart (w.forCall tape i).memory i.args/\X (w.forCall tape i).memory i.args)/\sizedMet enc C.prog fn (OpenSpec.ofChange s) apart (w.forCall tape i).memory i.args)/\a.holds C.prog (lone (Frame.enter C.prog f i.args .normal) [] (w.forCall tape i)))
 (contract : ∀ (W : World) (base : Nat) (args : Array Value) (ds gs : List (DataW H)) (before : List MemPlace),
   (∀ (j:Nat) t v,fn.params[j]? = some t->args[j]? = some v->Value.okWide C.prog W .any base t v)->
   DataW.Whole enc C.prog fn.params.toList s.vars apart W args.toList ds gs before->
   conds.all (PathCond.test C.prog ⟨fn.params.toList,ds,s.plain.varTypes C.prog,gs⟩)=true->
   (DataW.weightsEach C.prog (fn.params.toList++s.plain.varTypes C.prog) (ds++gs)).all (· <= reachBytes)=true->X W args->W.ShapedOpen C.prog->
   a.holds C.prog (lone (Frame.enter C.prog f args .normal) [] W)->
   Calls C.prog f args W fun e W' => ∃ v,e=.returned v/\s.post enc C.prog fn apart fresh handsOn again W args v W'):
 ReturnsInHanded a C os f .any (fun w args=>(s.pre enc C.prog fn conds apart w args/\X w args)/\sizedMet enc C.prog fn (OpenSpec.ofChange s) apart w args) (s.post enc C.prog fn apart fresh handsOn again):=by
 refine returnsInHanded_of_calls own started noInit witness ?_
 intro w tape i _ hsh _ hok hpre hholds
 obtain⟨_,_,_,fn',hfn',_,_,_,_,hval⟩:=hok
 have e:fn' = fn:=Option.some.inj (hfn'.symm.trans hfn)
 subst e
 obtain⟨⟨⟨ds,gs,before,hw,hc⟩,hx⟩,hz⟩:=hpre
 have hw' :=DataW.Whole.of_heap (w' :=w.forCall tape i) (by rfl) hw
 refine(contract (w.forCall tape i) w.heap.size i.args ds gs before hval hw' hc (hz.weights hw) (hX _ _ _ (by rfl) hx) hsh hholds).mono fun e W' ⟨v,he,hp⟩=>?_
 subst he
 exact ChangeSpec.post_blind hp
theorem maxL_of {W:World} (h:W.ShapedOpen Tryz.prog):MaxL W:=
 Go.Proofs.cell_of_shapedOpen_int (zero:=#[.int .i64 0]) (t:=3) h (of_decide_eq_true (by kernel_rfl)) (by kernel_rfl) rfl (by kernel_rfl) (by kernel_rfl) Tryz.underlying3
end
end
section
open Go Go.ChangeShapes Go.WideShapes Go.RowKit Go.Maps
section
variable {H:Type} {enc:TypeId × Value->H}
theorem weightsAll_mem {P:Program} {e:TypeId} {p:Nat->Bool} : ∀ l:List (DataW H),(DataW.weightsAll P e l).all p=true->∀ d∈l,(d.weights P e).all p=true
 | [],_,_,h=>by cases h
 | x :: l,h,d,hd => by
   have e1:DataW.weightsAll P e (x::l)=x.weights P e++DataW.weightsAll P e l:=rfl
   rw[e1,List.all_append,Bool.and_eq_true] at h
   rcases List.mem_cons.1 hd with rfl | hd
   ·exact h.1
   ·exact weightsAll_mem l h.2 d hd
theorem rows_in {α : Type} {R:Elem α} {Good : α -> Prop} {T S:TypeId} {size B:Nat} (hu:Tryz.prog.underlying S=some (.slice T)) (hsz:Tryz.prog.cellsOf T=size) (hby:Tryz.prog.bytesOf T=B) (hB:1<=B) (hs1:1<=size) {W:World}
 (open1:∀ (n:Nat) (cs:List Value) (x:DataW H × List MemPlace),cs.length=size->DataW.trod enc Tryz.prog W 0 (fun _=>true) true n T cs=some x->(x.1.weights Tryz.prog T).all (· <= reachBytes)=true->∃ o,R Own.anyF W cs o/\Good o)
 {v:Value} {d:DataW H} {ps:List MemPlace} (h:DataW.Trod enc Tryz.prog W 0 (fun _=>true) true S v d ps) (hsl:∃ b len cap,v=.slice b len cap) (hz:(d.weights Tryz.prog S).all (· <= reachBytes)=true):
 ∃ l:List α,ListF size R Own.anyF W v l/\(∀ o∈l,Good o)/\l.length<=140737488355328:=by
 obtain⟨a0,len0,cap0,rfl⟩:=hsl
 obtain⟨n,hy⟩:=h
 rcases Deep.open_slice hu hy with ⟨hcs,_⟩ | ⟨a,len,cap,m,k,D,Pl,hcs,_,hl,_,hm,hx,hc⟩
 ·have e:Value.slice a0 len0 cap0=.slice none 0 0:=by simpa [Value.cells] using hcs
  rw[e]
  exact⟨[],ListF.nil _ _,(fun z hz=>by cases hz),Nat.zero_le _⟩
 ·have e:Value.slice a0 len0 cap0=.slice (some a) len cap:=by simpa [Value.cells] using hcs
  rw[e]
  have hm' : m=cap:=by rw[hm];rfl
  have hd:=(Prod.mk.inj hx).1
  rw[hd] at hz
  have hw:(DataW.slice ((List.range len).map D) ((List.range (m - len)).map fun j=>D (len+j))).weights Tryz.prog S=
   (((List.range len).map D).length + ((List.range (m - len)).map fun j => D (len + j)).length) * Tryz.prog.bytesOf T ::
     (DataW.weightsAll Tryz.prog T ((List.range len).map D)++DataW.weightsAll Tryz.prog T ((List.range (m - len)).map fun j=>D (len+j))):=by
   simp only[DataW.weights,hu]
  rw[hw,List.all_cons,List.all_append,Bool.and_eq_true,Bool.and_eq_true,hby] at hz
  obtain⟨h1,h2,_⟩:=hz
  have h1' :=of_decide_eq_true h1
  unfold reachBytes at h1'
  rw[List.length_map,List.length_range] at h1'
  have hlen' : len<=140737488355328:=by
   have:=Nat.mul_le_mul_left (len+((List.range (m - len)).map fun j=>D (len+j)).length) hB
   omega
  have each:∀ i,i<len->∃ (cs:List Value) (o : α),cs.length=size/\(∀ j,j<size->W.cell? (a.add (i*size+j))=cs[j]?)/\R Own.anyF W cs o/\Good o:=by
   intro i hi
   obtain⟨cs',g1,g2⟩:=hc i (by omega)
   rw[hsz] at g1
   obtain⟨_,hlen,hcell⟩:=World.cells?_some g1
   have hzi:=weightsAll_mem _ h2 (D i) (List.mem_map.2 ⟨i,List.mem_range.2 hi,rfl⟩)
   obtain⟨o,q1,q2⟩:=open1 _ cs' _ hlen g2 hzi
   exact⟨cs',o,hlen,fun j hj=>by rw[<- Deep.add_add];exact hcell j hj,q1,q2⟩
  by_cases h0:len=0
  ·subst h0
   exact⟨[],ListF.nil _ _,(fun z hz=>by cases hz),Nat.zero_le _⟩
  have ho0:Nonempty α :=by
   obtain⟨_,o,_⟩:=each 0 (by omega)
   exact⟨o⟩
  obtain⟨O,hO⟩:∃ O:Nat -> α,∀ i,i<len->∃ cs:List Value,cs.length=size/\(∀ j,j<size->W.cell? (a.add (i*size+j))=cs[j]?)/\R Own.anyF W cs (O i)/\Good (O i):=by
   refine⟨fun i=>if h:i<len then (each i h).choose_spec.choose else Classical.choice ho0,fun i hi=>?_⟩
   simp only[dif_pos hi]
   exact⟨_,(each i hi).choose_spec.choose_spec⟩
  have el:((List.range len).map O).length=len:=by rw[List.length_map,List.length_range]
  refine⟨(List.range len).map O,⟨_,_,by rw[el],.inr ?_⟩,?_,by rw[el];exact hlen'⟩
  ·obtain⟨b,o,sp⟩:=a
   obtain⟨cs0,l0,hcell,_⟩:=hO 0 (by omega)
   have hc0:=hcell 0 (by omega)
   have hsome:∃ u,cs0[0]? = some u:=⟨cs0[0]'(by omega),List.getElem?_eq_getElem (by omega)⟩
   obtain⟨u,hu0⟩:=hsome
   rw[hu0] at hc0
   cases sp with
   | some p =>
     exfalso
     unfold World.cell? Addr.add at hc0
     simp at hc0
     split at hc0 <;> simp_all
   | none =>
     have ad:∀ q,(⟨b,o,none⟩:Addr).add q=⟨b,o+q,none⟩:=fun q=>by unfold Addr.add;split <;> simp_all
     refine⟨b,o,rfl,trivial,?_,?_⟩
     ·rw[ad] at hc0
      exact block_lt hc0
     ·intro i hi
      rw[el] at hi
      obtain⟨cs,k0,k1,k2,_⟩:=hO i hi
      simp only[List.getElem_map,List.getElem_range]
      refine⟨cs,k0,fun j u hj=>?_,k2⟩
      have hjl:j<cs.length:=(List.getElem?_eq_some_iff.1 hj).1
      have:=k1 j (by omega)
      rw[ad,hj] at this
      rw[Nat.add_assoc]
      exact this
  ·intro o ho
   obtain⟨i,hi,rfl⟩:=List.mem_map.1 ho
   obtain⟨_,_,_,_,q⟩:=hO i (List.mem_range.1 hi)
   exact q
end
end
section
open Go Go.ChangeShapes Go.WideShapes Go.RowKit Go.Maps
section
variable {H:Type} {enc:TypeId × Value->H}
theorem qcInt:Tryz.prog.cellsOf 3=1:=by kernel_rfl
theorem qcString:Tryz.prog.cellsOf 9=1:=by kernel_rfl
theorem qcBool:Tryz.prog.cellsOf 4=1:=by kernel_rfl
def GMember (m:Own.Member):Prop:=m.name.size<=140737488355328/\m.pub.size<=140737488355328
def GKey (k:Own.KeyUse):Prop:=k.pub.size<=140737488355328/\(Lit.int .i64 k.next).wf=true
def GVote (v:Own.Vote):Prop:=v.name.size<=140737488355328/\v.pub.size<=140737488355328
theorem size_reach {s:ByteArray} (h:s.data.toList.length<=reachBytes):s.size<=140737488355328:=by
 unfold reachBytes at h
 have e:s.size=s.data.toList.length:=by rw[Array.length_toList];rfl
 omega
theorem member_open {W:World} (n:Nat) (cs:List Value) (x:DataW H × List MemPlace) (hl:cs.length=2) (hy:DataW.trod enc Tryz.prog W 0 (fun _=>true) true n 73 cs=some x) (hz:(x.1.weights Tryz.prog 73).all (· <= reachBytes)=true):
 ∃ o,Own.RMember Own.anyF W cs o/\GMember o:=by
 match cs,hl with
 | [c0,c1],_ =>
   obtain⟨y0,y1,m,he,_,u0,u1⟩:=ChangeShapes.trod_struct2 Tryz.underlying73 hy
   simp only[qcString,List.drop,List.take] at u0 u1
   obtain⟨s,hs,rfl,_⟩:=DataW.trod_string Tryz.underlying9 u0
   obtain⟨t,ht,rfl,_⟩:=DataW.trod_string Tryz.underlying9 u1
   simp only[List.cons.injEq,and_true] at hs ht
   subst hs;subst ht
   have hw:x.1.weights Tryz.prog 73=[s.data.toList.length,t.data.toList.length]:=by
    rw[he]
    simp only[DataW.weights,Tryz.underlying73]
    rfl
   rw[hw] at hz
   simp only[List.all_cons,List.all_nil,Bool.and_true,Bool.and_eq_true,decide_eq_true_eq] at hz
   exact⟨⟨s,t⟩,rfl,size_reach hz.1,size_reach hz.2⟩
theorem key_open {W:World} (n:Nat) (cs:List Value) (x:DataW H × List MemPlace) (hl:cs.length=2) (hy:DataW.trod enc Tryz.prog W 0 (fun _=>true) true n 91 cs=some x) (hz:(x.1.weights Tryz.prog 91).all (· <= reachBytes)=true):
 ∃ o,Own.RKey Own.anyF W cs o/\GKey o:=by
 match cs,hl with
 | [c0,c1],_ =>
   obtain⟨y0,y1,m,he,_,u0,u1⟩:=ChangeShapes.trod_struct2 Tryz.underlying91 hy
   simp only[qcString,qcInt,List.drop,List.take] at u0 u1
   obtain⟨s,hs,rfl,_⟩:=DataW.trod_string Tryz.underlying9 u0
   obtain⟨t,ht,rfl,wt⟩:=DataW.trod_int Tryz.underlying3 u1
   simp only[List.cons.injEq,and_true] at hs ht
   subst hs;subst ht
   have hw:x.1.weights Tryz.prog 91=[s.data.toList.length]:=by
    rw[he]
    simp only[DataW.weights,Tryz.underlying91]
    rfl
   rw[hw] at hz
   simp only[List.all_cons,List.all_nil,Bool.and_true,decide_eq_true_eq] at hz
   exact⟨⟨s,t⟩,rfl,size_reach hz,wt⟩
theorem vote_open {W:World} (n:Nat) (cs:List Value) (x:DataW H × List MemPlace) (hl:cs.length=3) (hy:DataW.trod enc Tryz.prog W 0 (fun _=>true) true n 82 cs=some x) (hz:(x.1.weights Tryz.prog 82).all (· <= reachBytes)=true):
 ∃ o,Own.RVote Own.anyF W cs o/\GVote o:=by
 match cs,hl with
 | [c0,c1,c2],_ =>
   obtain⟨y0,y1,y2,m,he,_,u0,u1,u2⟩:=Deep.trod_struct3 Tryz.underlying82 hy
   simp only[qcString,qcBool,List.drop,List.take] at u0 u1 u2
   obtain⟨s,hs,rfl,_⟩:=DataW.trod_string Tryz.underlying9 u0
   obtain⟨t,ht,rfl,_⟩:=DataW.trod_string Tryz.underlying9 u1
   obtain⟨b,hb,rfl⟩:=DataW.trod_bool Tryz.underlying4 u2
   simp only[List.cons.injEq,and_true] at hs ht hb
   subst hs;subst ht;subst hb
   have hw:x.1.weights Tryz.prog 82=[s.data.toList.length,t.data.toList.length]:=by
    rw[he]
    simp only[DataW.weights,Tryz.underlying82]
    rfl
   rw[hw] at hz
   simp only[List.all_cons,List.all_nil,Bool.and_true,Bool.and_eq_true,decide_eq_true_eq] at hz
   exact⟨⟨s,t,b⟩,rfl,size_reach hz.1,size_reach hz.2⟩
theorem slice_val {W:World} {S T:TypeId} (hu:Tryz.prog.underlying S=some (.slice T)) {n:Nat} {v:Value} {x:DataW H × List MemPlace} (hy:DataW.trod enc Tryz.prog W 0 (fun _=>true) true n S [v]=some x):∃ b len cap,v=.slice b len cap:=by
 rcases Deep.open_slice hu hy with ⟨hcs,_⟩ | ⟨a,len,cap,m,k,D,Pl,hcs,_⟩
 ·exact⟨none,0,0,by simpa using hcs⟩
 ·exact⟨_,len,cap,by simpa using hcs⟩
theorem rows_in1 {α : Type} {R:Elem α} {Good : α -> Prop} {T S:TypeId} {size B:Nat} (hu:Tryz.prog.underlying S=some (.slice T)) (hsz:Tryz.prog.cellsOf T=size) (hby:Tryz.prog.bytesOf T=B) (hB:1<=B) (hs1:1<=size) {W:World}
 (open1:∀ (n:Nat) (cs:List Value) (x:DataW H × List MemPlace),cs.length=size->DataW.trod enc Tryz.prog W 0 (fun _=>true) true n T cs=some x->(x.1.weights Tryz.prog T).all (· <= reachBytes)=true->∃ o,R Own.anyF W cs o/\Good o)
 {n:Nat} {v:Value} {x:DataW H × List MemPlace} (hy:DataW.trod enc Tryz.prog W 0 (fun _=>true) true n S [v]=some x) (hz:(x.1.weights Tryz.prog S).all (· <= reachBytes)=true):
 ∃ l:List α,ListF size R Own.anyF W v l/\(∀ o∈l,Good o)/\l.length<=140737488355328:=by
 obtain⟨b,len,cap,rfl⟩:=slice_val hu hy
 exact rows_in (ps:=x.2) hu hsz hby hB hs1 open1 ⟨n,hy⟩ ⟨b,len,cap,rfl⟩ hz
theorem members_in1 {W:World} {n:Nat} {v:Value} {x:DataW H × List MemPlace} (hy:DataW.trod enc Tryz.prog W 0 (fun _=>true) true n 68 [v]=some x) (hz:(x.1.weights Tryz.prog 68).all (· <= reachBytes)=true):∃ l,Own.MembersC W v l/\(∀ o∈l,GMember o)/\l.length<=140737488355328:=
 rows_in1 (B:=32) Tryz.underlying68 (by kernel_rfl) (by kernel_rfl) (by decide) (by decide) member_open hy hz
theorem keys_in1 {W:World} {n:Nat} {v:Value} {x:DataW H × List MemPlace} (hy:DataW.trod enc Tryz.prog W 0 (fun _=>true) true n 36 [v]=some x) (hz:(x.1.weights Tryz.prog 36).all (· <= reachBytes)=true):∃ l,Own.KeysC W v l/\(∀ o∈l,GKey o)/\l.length<=140737488355328:=
 rows_in1 (B:=24) Tryz.underlying36 (by kernel_rfl) (by kernel_rfl) (by decide) (by decide) key_open hy hz
theorem votes_in1 {W:World} {n:Nat} {v:Value} {x:DataW H × List MemPlace} (hy:DataW.trod enc Tryz.prog W 0 (fun _=>true) true n 44 [v]=some x) (hz:(x.1.weights Tryz.prog 44).all (· <= reachBytes)=true):∃ l,Own.VotesC W v l/\(∀ o∈l,GVote o)/\l.length<=140737488355328:=
 rows_in1 (B:=40) Tryz.underlying44 (by kernel_rfl) (by kernel_rfl) (by decide) (by decide) vote_open hy hz
theorem qcMembers:Tryz.prog.cellsOf 68=1:=by kernel_rfl
theorem qcVotes:Tryz.prog.cellsOf 44=1:=by kernel_rfl
theorem qcSpaces:Tryz.prog.cellsOf 35=1:=by kernel_rfl
theorem qcProposals:Tryz.prog.cellsOf 22=1:=by kernel_rfl
theorem qcKeyUses:Tryz.prog.cellsOf 36=1:=by kernel_rfl
def GSpace (s:Own.Space):Prop:=s.pre.size<=140737488355328/\(Lit.int .i64 s.threshold).wf=true/\(∀ m∈s.members,GMember m)/\s.members.length<=140737488355328
def GProp (p:Own.Proposal):Prop:=((Lit.int .i64 p.id).wf=true/\(Lit.int .i64 p.opened).wf=true/\(Lit.int .i64 p.expires).wf=true)/\p.path.size<=140737488355328/\p.digest.size<=140737488355328/\(∀ v∈p.votes,GVote v)/\p.votes.length<=140737488355328
theorem space_open {W:World} (n:Nat) (cs:List Value) (x:DataW H × List MemPlace) (hl:cs.length=3) (hy:DataW.trod enc Tryz.prog W 0 (fun _=>true) true n 70 cs=some x) (hz:(x.1.weights Tryz.prog 70).all (· <= reachBytes)=true):
 ∃ o,Own.RSpace Own.anyF W cs o/\GSpace o:=by
 match cs,hl with
 | [c0,c1,c2],_ =>
   obtain⟨y0,y1,y2,m,he,_,u0,u1,u2⟩:=Deep.trod_struct3 Tryz.underlying70 hy
   simp only[qcString,qcInt,qcMembers,List.drop,List.take] at u0 u1 u2
   obtain⟨s,hs,rfl,_⟩:=DataW.trod_string Tryz.underlying9 u0
   obtain⟨t,ht,rfl,wt⟩:=DataW.trod_int Tryz.underlying3 u2
   simp only[List.cons.injEq,and_true] at hs ht
   subst hs;subst ht
   have hw:x.1.weights Tryz.prog 70=s.data.toList.length::(y1.1.weights Tryz.prog 68++[]):=by
    rw[he]
    simp only[DataW.weights,Tryz.underlying70]
    rfl
   rw[hw] at hz
   simp only[List.all_cons,List.append_nil,Bool.and_eq_true,decide_eq_true_eq] at hz
   obtain⟨l,h1,h2,h3⟩:=members_in1 u1 hz.2
   exact⟨⟨s,l,t⟩,⟨c1,rfl,h1⟩,size_reach hz.1,wt,h2,h3⟩
theorem prop_open {W:World} (n:Nat) (cs:List Value) (x:DataW H × List MemPlace) (hl:cs.length=6) (hy:DataW.trod enc Tryz.prog W 0 (fun _=>true) true n 46 cs=some x) (hz:(x.1.weights Tryz.prog 46).all (· <= reachBytes)=true):
 ∃ o,Own.RProp Own.anyF W cs o/\GProp o:=by
 match cs,hl with
 | [c0,c1,c2,c3,c4,c5],_ =>
   obtain⟨xs,m,_,rfl,_,hlen,hf⟩:=DataW.trod_struct Tryz.underlying46 hy
   match xs,hlen with
   | [y0,y1,y2,y3,y4,y5],_ =>
     have u0:=hf 0 _ rfl;have u1:=hf 1 _ rfl;have u2:=hf 2 _ rfl;have u3:=hf 3 _ rfl;have u4:=hf 4 _ rfl;have u5:=hf 5 _ rfl
     change DataW.trod enc Tryz.prog W 0 (fun _=>true) true m 3 (List.take (Tryz.prog.cellsOf 3) (List.drop 0 [c0,c1,c2,c3,c4,c5]))=some y0 at u0
     change DataW.trod enc Tryz.prog W 0 (fun _=>true) true m 9 (List.take (Tryz.prog.cellsOf 9) (List.drop 1 [c0,c1,c2,c3,c4,c5]))=some y1 at u1
     change DataW.trod enc Tryz.prog W 0 (fun _=>true) true m 9 (List.take (Tryz.prog.cellsOf 9) (List.drop 2 [c0,c1,c2,c3,c4,c5]))=some y2 at u2
     change DataW.trod enc Tryz.prog W 0 (fun _=>true) true m 3 (List.take (Tryz.prog.cellsOf 3) (List.drop 3 [c0,c1,c2,c3,c4,c5]))=some y3 at u3
     change DataW.trod enc Tryz.prog W 0 (fun _=>true) true m 3 (List.take (Tryz.prog.cellsOf 3) (List.drop 4 [c0,c1,c2,c3,c4,c5]))=some y4 at u4
     change DataW.trod enc Tryz.prog W 0 (fun _=>true) true m 44 (List.take (Tryz.prog.cellsOf 44) (List.drop 5 [c0,c1,c2,c3,c4,c5]))=some y5 at u5
     simp only[qcString,qcInt,qcVotes,List.drop,List.take] at u0 u1 u2 u3 u4 u5
     obtain⟨a,ha,e0,wa⟩:=DataW.trod_int Tryz.underlying3 u0
     obtain⟨b,hb,e1,_⟩:=DataW.trod_string Tryz.underlying9 u1
     obtain⟨c,hc,e2,_⟩:=DataW.trod_string Tryz.underlying9 u2
     obtain⟨d,hd,e3,wd⟩:=DataW.trod_int Tryz.underlying3 u3
     obtain⟨e,hee,e4,we⟩:=DataW.trod_int Tryz.underlying3 u4
     have ha' : c0=.int .i64 a:=by simpa using ha
     have hb' : c1=.string b:=by simpa using hb
     have hc' : c2=.string c:=by simpa using hc
     have hd' : c3=.int .i64 d:=by simpa using hd
     have he' : c4=.int .i64 e:=by simpa using hee
     subst ha';subst hb';subst hc';subst hd';subst he'
     have hw:(DataW.agg ([y0,y1,y2,y3,y4,y5].map (·.1))).weights Tryz.prog 46=b.data.toList.length::c.data.toList.length::(y5.1.weights Tryz.prog 44++[]):=by
      simp only[DataW.weights,Tryz.underlying46,e0,e1,e2,e3,e4,List.map_cons,List.map_nil]
      rfl
     rw[hw] at hz
     simp only[List.all_cons,List.append_nil,Bool.and_eq_true,decide_eq_true_eq] at hz
     obtain⟨l,h1,h2,h3⟩:=votes_in1 u5 hz.2.2
     exact⟨⟨a,b,c,d,e,l⟩,⟨c5,rfl,h1⟩,⟨wa,wd,we⟩,size_reach hz.1,size_reach hz.2.1,h2,h3⟩
theorem spaces_in1 {W:World} {n:Nat} {v:Value} {x:DataW H × List MemPlace} (hy:DataW.trod enc Tryz.prog W 0 (fun _=>true) true n 35 [v]=some x) (hz:(x.1.weights Tryz.prog 35).all (· <= reachBytes)=true):∃ l,Own.SpacesC W v l/\(∀ o∈l,GSpace o)/\l.length<=140737488355328:=
 rows_in1 (B:=48) Tryz.underlying35 (by kernel_rfl) (by kernel_rfl) (by decide) (by decide) space_open hy hz
theorem props_in1 {W:World} {n:Nat} {v:Value} {x:DataW H × List MemPlace} (hy:DataW.trod enc Tryz.prog W 0 (fun _=>true) true n 22 [v]=some x) (hz:(x.1.weights Tryz.prog 22).all (· <= reachBytes)=true):∃ l,Own.PropsC W v l/\(∀ o∈l,GProp o)/\l.length<=140737488355328:=
 rows_in1 (B:=80) Tryz.underlying22 (by kernel_rfl) (by kernel_rfl) (by decide) (by decide) prop_open hy hz
theorem qcQueue:Tryz.prog.cellsOf 24=2:=by kernel_rfl
theorem qcOwners:Tryz.prog.cellsOf 38=3:=by kernel_rfl
theorem queue_in {W:World} {base:Nat} {v:Value} {d:DataW H} {ps:List MemPlace} (hval:Value.okWide Tryz.prog W .any base 24 v) (h:DataW.Trod enc Tryz.prog W 0 (fun _=>true) true 24 v d ps) (hz:(d.weights Tryz.prog 24).all (· <= reachBytes)=true):
 ∃ (q:Own.Queue) (u:Value),v=.agg #[.int .i64 q.next,u]/\Own.PropsC W u q.props/\(Lit.int .i64 q.next).wf=true/\(∀ p∈q.props,GProp p)/\q.props.length<=140737488355328:=by
 obtain⟨cs,rfl,hs⟩:=okWide_struct Tryz.underlying24 hval
 rw[qcQueue] at hs
 match cs,hs with
 | ⟨[c0,c1]⟩,_ =>
   obtain⟨n,hy⟩:=h
   obtain⟨y0,y1,m,he,_,u0,u1⟩:=ChangeShapes.trod_struct2 Tryz.underlying24 hy
   simp only[qcInt,qcProposals,Value.cells,List.drop,List.take] at u0 u1
   obtain⟨a,ha,rfl,wa⟩:=DataW.trod_int Tryz.underlying3 u0
   simp only[List.cons.injEq,and_true] at ha
   subst ha
   have hd:d=.agg [.lit (.int .i64 a),y1.1]:=(Prod.mk.inj he).1
   have hw:(DataW.agg [.lit (.int .i64 a),y1.1]).weights Tryz.prog 24=y1.1.weights Tryz.prog 22++[]:=by
    simp only[DataW.weights,Tryz.underlying24]
    rfl
   rw[hd,hw,List.append_nil] at hz
   obtain⟨l,h1,h2,h3⟩:=props_in1 u1 hz
   exact⟨⟨a,l⟩,c1,rfl,h1,wa,h2,h3⟩
theorem owners_in {W:World} {base:Nat} {v:Value} {d:DataW H} {ps:List MemPlace} (hval:Value.okWide Tryz.prog W .any base 38 v) (h:DataW.Trod enc Tryz.prog W 0 (fun _=>true) true 38 v d ps) (hz:(d.weights Tryz.prog 38).all (· <= reachBytes)=true):
 ∃ (o:Own.Owners) (u k:Value),v=.agg #[.int .i64 o.count,u,k]/\Own.SpacesC W u o.spaces/\Own.KeysC W k o.keys/\(Lit.int .i64 o.count).wf=true/\(∀ s∈o.spaces,GSpace s)/\(∀ k∈o.keys,GKey k)/\o.spaces.length<=140737488355328/\o.keys.length<=140737488355328:=by
 obtain⟨cs,rfl,hs⟩:=okWide_struct Tryz.underlying38 hval
 rw[qcOwners] at hs
 match cs,hs with
 | ⟨[c0,c1,c2]⟩,_ =>
   obtain⟨n,hy⟩:=h
   obtain⟨y0,y1,y2,m,he,_,u0,u1,u2⟩:=Deep.trod_struct3 Tryz.underlying38 hy
   simp only[qcInt,qcSpaces,qcKeyUses,Value.cells,List.drop,List.take] at u0 u1 u2
   obtain⟨a,ha,rfl,wa⟩:=DataW.trod_int Tryz.underlying3 u0
   simp only[List.cons.injEq,and_true] at ha
   subst ha
   have hd:d=.agg [.lit (.int .i64 a),y1.1,y2.1]:=(Prod.mk.inj he).1
   have hw:(DataW.agg [.lit (.int .i64 a),y1.1,y2.1]).weights Tryz.prog 38=y1.1.weights Tryz.prog 35++(y2.1.weights Tryz.prog 36++[]):=by
    simp only[DataW.weights,Tryz.underlying38]
    rfl
   rw[hd,hw,List.append_nil,List.all_append,Bool.and_eq_true] at hz
   obtain⟨l,h1,h2,h3⟩:=spaces_in1 u1 hz.1
   obtain⟨k,g1,g2,g3⟩:=keys_in1 u2 hz.2
   exact⟨⟨a,l,k⟩,c1,c2,rfl,h1,g1,wa,h2,g2,h3,g3⟩
end
end
section
open Go Go.ChangeShapes Go.WideShapes Go.ChangeAt Go.RowKit
theorem ownKnobNone:ownKnob Tryz.prog.godebug=none:=by kernel_rfl
theorem laidOutProg:laidOutB Tryz.prog=true:=by kernel_rfl
theorem rmerges_lifted (os:Os) (started:os.Started) (H:Type) (enc:TypeId × Value->H):
 ReturnsInHanded {} Tryz.checked os 5 .any (fun w args=>(Rows.reviewMergesSpec.pre enc Tryz.prog Tryz.f5 Rows.reviewMergesRow.domain false w args/\laidMetH Tryz.prog Rows.reviewMergesRow.laid w)/\sizedMet enc Tryz.prog Tryz.f5 (OpenSpec.ofChange Rows.reviewMergesSpec) false w args)
  (Rows.reviewMergesSpec.post enc Tryz.prog Tryz.f5 false true false false):=by
 refine returnsInHanded_and_shaped (C:=Tryz.checked) (X:=fun w _=>laidMetH Tryz.prog Rows.reviewMergesRow.laid w) (fun _ _ _ hh h=>h.of_heap hh) ownKnobNone started (by kernel_rfl) Tryz.func5
  (ChangeSpec.witness_shaped (enc :=enc) (C :=Tryz.checked) (os :=os) (X :=fun w _ => laidMetH Tryz.prog Rows.reviewMergesRow.laid w) false (World.laidAll Tryz.prog os Rows.reviewMergesRow.laid) #[.agg #[.int .i64 0,.slice none 0 0],.agg #[.int .i64 0,.slice none 0 0,.slice none 0 0],.int .i64 0,.int .i64 0] 8 (World.laidAll_os _ _ _)
    (World.shaped_of_ZipB (by kernel_rfl) (by kernel_rfl)) (by kernel_rfl) (by kernel_rfl) (by kernel_rfl)
    (by rw[MakeChecks.laidMetH_plain _ _ _ (by kernel_rfl)];exact laidMet_laidAll _ (by kernel_rfl) (by kernel_rfl))) ?_
 intro W base args ds gs before hval0 hW _ hz0 _ hsh _
 have hM:=maxL_of hsh
 have hval:∀ (j:Nat) t v,Tryz.f5.params[j]? = some t->args[j]? = some v->Value.okWide Tryz.prog W .any base t v:=hval0
 have hW' :=hW
 obtain⟨p,q,hA0,hV,rfl,_,_⟩:=hW
 have hA:DataW.TrodAll enc Tryz.prog W 0 (fun _=>true) true Tryz.f5.params.toList args.toList ds p:=hA0
 rw[Tryz.params5] at hA hval
 obtain⟨v0,v1,v2,v3,d0,d1,d2,d3,p0,p1,p2,p3,rfl,rfl,rfl,h0,h1,h2,h3⟩:=trodAll_four hA
 obtain⟨rfl,rfl⟩:=trodVars_none hV
 obtain⟨x2,rfl,rfl,rfl,wx2⟩:=open_int Tryz.underlying3 (hval 2 3 v2 rfl rfl) h2
 have hx2 : -9223372036854775808<=x2/\x2<9223372036854775808:=by
  have:=wx2
  simp[Lit.wf,IntKind.has] at this
  have h1:IntKind.i64.min = -9223372036854775808:=by decide
  have h2:IntKind.i64.max=9223372036854775807:=by decide
  omega
 obtain⟨x3,rfl,rfl,rfl,wx3⟩:=open_int Tryz.underlying3 (hval 3 3 v3 rfl rfl) h3
 have hx3 : -9223372036854775808<=x3/\x3<9223372036854775808:=by
  have:=wx3
  simp[Lit.wf,IntKind.has] at this
  have h1:IntKind.i64.min = -9223372036854775808:=by decide
  have h2:IntKind.i64.max=9223372036854775807:=by decide
  omega
 have e0:DataW.weightsEach Tryz.prog (Tryz.f5.params.toList++Rows.reviewMergesSpec.plain.varTypes Tryz.prog) ([d0,d1,DataW.lit (.int .i64 x2),DataW.lit (.int .i64 x3)]++[])=d0.weights Tryz.prog 24++(d1.weights Tryz.prog 38++[]):=by
  rw[Tryz.params5]
  rfl
 have hz0:=e0 ▸ hz0
 simp only[List.all_append,List.all_nil,Bool.and_true,Bool.and_eq_true] at hz0
 have g0:=h0
 obtain⟨q0,u0,rfl,hqp0,hqw0,hqg0,hql0⟩:=queue_in (hval 0 24 v0 rfl rfl) h0 hz0.1
 have g1:=h1
 obtain⟨o1,u1,k1,rfl,hos1,hok1,how1,hog1,hoh1,hol1,hom1⟩:=owners_in (hval 1 38 v1 rfl rfl) h1 hz0.2
 have e1:Rows.reviewMergesSpec.fn H ([d0,d1,.lit (.int .i64 x2),.lit (.int .i64 x3)]++[]) = { results:=[.lit (.bool true)],args:=[d0,d1,.lit (.int .i64 x2),.lit (.int .i64 x3)] } :=by simp[Rows.reviewMergesSpec]
 refine(rmerges_any q0 o1 x2 x3 _ _ _ W hM hqp0 hos1 hok1 hql0 (fun p hp=>⟨(hqg0 p hp).2.2.2.2,(hqg0 p hp).2.1,(hqg0 p hp).2.2.1,(hqg0 p hp).2.2.2.1⟩) hol1 hom1 (fun s hs=>(hog1 s hs).2.2.2)).mono fun e W' ⟨he,hb⟩=>?_
 subst he
 refine⟨_,rfl,_,_,_,[],p0++(p1++([]++([]++[]))),[],by simpa using hW',?_,?_,?_,hb.frame _,fun h=>by cases h⟩
 ·rw[e1];exact trodAll_mk1 (shut_bool Tryz.underlying4 true)
 ·rw[e1];exact(trodAll_cons_mk (Below.trod laidOutProg (by kernel_rfl) (of_decide_eq_true (by kernel_rfl)) h0 hb (fun z hz=>hW'.lt z (by simp[hz]))) (trodAll_cons_mk (Below.trod laidOutProg (by kernel_rfl) (of_decide_eq_true (by kernel_rfl)) h1 hb (fun z hz=>hW'.lt z (by simp[hz]))) (trodAll_cons_mk (shut_int Tryz.underlying3 wx2) (trodAll_cons_mk (shut_int Tryz.underlying3 wx3) trodAll_mk0))))
 ·rw[e1];rfl
theorem rmerges_holds:Rows.ReviewMergesSaid:=
 OpenClaim.holds_of_wide 5 Tryz.f5 rfl rfl rfl rfl rfl rfl rfl ⟨rfl,rfl,rfl,rfl,rfl⟩ rfl rfl rfl rfl rfl (by kernel_rfl) Tryz.func5 (by kernel_rfl)
  (of_decide_eq_true (by kernel_rfl)) (by unfold Func.isWrapper;first | (rw[if_pos (by decide +kernel)];kernel_rfl) | (rw[if_neg (by decide +kernel)];exact⟨rfl,rfl⟩))
  (fun os started H enc _=>rmerges_lifted os started H enc)
theorem rmerges_card:Rows.ReviewMergesCardSaid:=
 Claim7.holds_tied_plain_at .later [] [.data,.pinned] true Rows.reviewMergesCard.stood.harness false rmerges_holds (fun _ h=>by cases h) (by kernel_rfl) (fun _ h=>by cases h) reviewMerges_row_tie rfl ⟨rfl,rfl⟩ (by kernel_rfl) rfl
  (fun f fn hf hfn => by
    obtain rfl : f = 5 := Option.some.inj ((show Tryz.prog.funcNamed "modcert/modcertlaw54.ReviewMerges" = some 5 by kernel_rfl).symm.trans hf) |>.symm
    obtain rfl:fn=Tryz.f5:=(Option.some.inj (Tryz.func5.symm.trans hfn)).symm
    exact⟨by kernel_rfl,fun j t ht=>by
     rw[Tryz.params5] at ht
     have hm:t∈[24,38,3,3]:=by simpa using Array.mem_of_getElem? ht
     have hall:([24,38,3,3].all fun u => !Tryz.prog.wantsStandIn u)=true:=by kernel_rfl
     exact(show Tryz.prog.wantsStandIn t=false by simpa using List.all_eq_true.1 hall t hm)⟩)
  (by kernel_rfl)
end
end Go.Proofs.YtnijhlphcjjpbaaGreatDoor
