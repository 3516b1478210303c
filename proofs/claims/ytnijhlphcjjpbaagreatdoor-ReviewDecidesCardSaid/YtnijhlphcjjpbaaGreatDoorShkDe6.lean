/- Regions in which operations that make memory stand in no fixed order beside calls: one walk stands for all orders; where a block is made is left open; The laws' own ballot: a member's approval of a message; Lists of structs that hold strings lie outside blocks without strings; The program's reviews: a new proposal; Two members are compared by '  '; slices.Index and slices.Contains over members; The program's reviews: which proposals are agreed; The program's reviews: whether a proposal of a queue is agreed; The reviews, of the reference and of the program: a proposal is merged; The program's reviews: a copy of all proposals, each with its own row of votes; Rows of proposals with one vote mor. -/
import Derived.Test.YtnijhlphcjjpbaaGreatDoorShkDe1
import Derived.Test.YtnijhlphcjjpbaaGreatDoorShkDe3
import Derived.Test.YtnijhlphcjjpbaaGreatDoorShkDe4
import Derived.Test.YtnijhlphcjjpbaaGreatDoorShkDe5
set_option linter.unusedVariables false
set_option linter.unusedSimpArgs false
set_option maxRecDepth 100000
set_option maxHeartbeats 8000000
namespace Go.Proofs.YtnijhlphcjjpbaaGreatDoor
section
open Go Go.RowKit Go.Maps
namespace Lex
section
variable {P:Program} {ops:Array Oper} {Q:Exit->Act->World->Prop}
abbrev Grown (w w' : World):Prop:=Below w.heap.size w w'
structure Kept (lo:Nat) (w1 w' : World):Prop where
 size:w1.heap.size<=w'.heap.size
 block:∀ b,lo<=b->b<w1.heap.size->w'.heap[b]? = w1.heap[b]?
theorem Kept.refl (lo:Nat) (w:World):Kept lo w w:=⟨Nat.le_refl _,fun _ _ _=>rfl⟩
theorem Kept.of_below {lo:Nat} {w w' : World} (h:Below w.heap.size w w'):Kept lo w w' :=⟨h.size,fun b _ hb=>h.block b hb⟩
theorem Kept.grown {lo:Nat} {w1 w w' : World} (h:Kept lo w1 w) (hg:Grown w w'):Kept lo w1 w' :=
 ⟨Nat.le_trans h.size hg.size,fun b h1 h2=>(hg.block b (Nat.lt_of_lt_of_le h2 h.size)).trans (h.block b h1 h2)⟩
theorem Kept.kept {lo st:Nat} {w1 w w' : World} (h:Kept lo w1 w) (hs:st<=lo) (hg:Kept st w w'):Kept lo w1 w' :=
 ⟨Nat.le_trans h.size hg.size,fun b h1 h2=>(hg.block b (Nat.le_trans hs h1) (Nat.lt_of_lt_of_le h2 h.size)).trans (h.block b h1 h2)⟩
theorem Kept.at_ {w w' : World} {cs:Array Value} {t:TypeId} (h:Kept w.heap.size (w.alloc (.cells cs t)) w'):At w' w.heap.size t cs:=by
 have:=At.new w t cs
 unfold At at this ⊢
 rw[h.block _ (Nat.le_refl _) (by simp),this]
def Off (iv:List (Nat × Nat)) (lo hi:Nat):Prop:=∀ x∈iv,hi<=x.1\/x.2<=lo
def Bd (st:Nat) (iv:List (Nat × Nat)) (w:World):Prop:=st<=w.heap.size/\∀ x∈iv,x.2<=w.heap.size
theorem more_grown {w w' : World} (h:Grown w w'):More w w' :=fun i o hi=>by
 rw[h.block i (Array.getElem?_eq_some_iff.1 hi).1]
 exact hi
theorem Makes.below {α : Type} {s:Sem α} {w w' : World} {a : α} (h:Makes P s) (hr:s.run P w=.ok a w'):Below w.heap.size w w' :=by
 induction s generalizing w w' with
 | pure x =>
   simp only[Sem.run,Result.ok.injEq] at hr
   obtain⟨rfl,rfl⟩:=hr
   exact Below.refl _ _
 | program k ih=>exact ih P h hr
 | mark m k ih=>exact ih h hr
 | halt h0=>simp[Sem.run] at hr
 | load m ad k ih =>
   simp only[Sem.run] at hr
   split at hr
   ·exact ih _ (h _) hr
   ·split at hr
    ·exact ih _ (h _) hr
    ·simp at hr
 | getObj r k ih =>
   simp only[Sem.run] at hr
   split at hr
   ·simp at hr
   ·exact ih _ (h _) hr
   ·simp at hr
 | new o k ih =>
   simp only[Sem.run] at hr
   have h1:Below w.heap.size w { w with heap:=w.heap.push o } :=⟨rfl,rfl,rfl,by simp,fun k hk=>by
    show(w.heap.push o)[k]? = _
    rw[Array.getElem?_push]
    simp[Nat.ne_of_lt hk]⟩
   exact h1.trans ((ih _ (h _) hr).mono h1.size)
 | store m ad v k ih=>exact h.elim
 | shape r k ih=>exact h.elim
 | freeze ad n k ih=>exact h.elim
 | frozen ad k ih=>exact h.elim
 | setObj r o k ih=>exact h.elim
 | choose q k ih =>
   simp only[Sem.run] at hr
   split at hr
   ·exact((h _).run hr).elim
   ·exact((h _).run hr).elim
 | sys c k ih=>exact h.elim
theorem below_val {s:Sem Value} (h:Makes P s) {n:Next} {w w' : World} (hr:(s >>= fun x=>pure (.value x):Sem Next).run P w=.ok n w'):Below w.heap.size w w' :=by
 obtain⟨v,rfl,hv⟩:=run_val hr
 exact h.below hv
theorem below_of {o:Oper} {ρ : Operand->Value} (hk:kind P o=2) {n:Next} {w w' : World} (hr:(execOp ρ o).run P w=.ok n w'):Below w.heap.size w w' :=by
 obtain⟨dst,op,type,pos,after,guard⟩:=o
 cases op <;> simp only[kind] at hk <;> try (exact absurd hk (by decide))
 case alloc t=>exact below_val (makes_alloc _) hr
 case box t x=>exact below_val (makes_box _ _) hr
 case buildSlice t n ps=>exact below_val (makes_buildSlice _ _ _) hr
 all_goals (split at hk <;> cases hk)
theorem Yl.below2 {o:Oper} {a:Act} {w w' : World} {v:Value} (h:Yl P ops o a w v w') (hk:kind P o=2):Below w.heap.size w w' :=by
 rcases h with ⟨_,hr⟩ | ⟨_,_,rfl⟩
 ·exact below_of hk hr
 ·exact Below.refl _ _
theorem good_end {a a' : Act} {k:Nat} {o:Oper} (hk:ops[k]? = some o) (hkd:kind P o=0) (hg:goodAll P ops a' = true) (hsame:needs o=true->∀ t,t∈o.looksAt ops->a'.tmps[t]? = a.tmps[t]?):
 Region.wanted o (yielded ops a.tmps)=true->Quiet P (execOp a.eval o):=by
 intro hw
 refine quiet_of hkd ?_
 cases hn:needs o with
 | false=>exact good_free hn _
 | true =>
   replace hsame:=hsame hn
   have hg1:=Array.all_eq_true_iff_forall_mem.1 hg o (Array.mem_of_getElem? hk)
   have hev:∀ x∈o.op.operands,a'.eval x=a.eval x:=fun x hx=>eval_same fun t e=>hsame t (by
    subst e
    exact List.mem_append_left _ (List.mem_filterMap.2 ⟨.tmp t,by simpa using hx,rfl⟩))
   have hwn:Region.wanted o (yielded ops a'.tmps)=Region.wanted o (yielded ops a.tmps):=by
    unfold Region.wanted
    cases hgd:o.guard with
    | none=>rfl
    | some gw =>
      obtain⟨g,want⟩:=gw
      have:yielded ops a'.tmps g=yielded ops a.tmps g:=by
       unfold yielded
       cases hd:(ops[g]?).bind (·.dst) with
       | none=>rfl
       | some t =>
         have:=hsame t (by simp[Oper.looksAt,hgd,hd])
         simp[this]
      simp only[this]
   rw[hkd,hwn,hw] at hg1
   simp at hg1
   rw[<- good_congr o hev]
   exact hg1
theorem inB_end {B:Nat->Prop} {w0:World} {fl:List Nat} {a a' : Act} {k:Nat} {o:Oper} (hk:ops[k]? = some o) (hkd:kind P o=1) (hm:k∈fl) (hin:allIn B w0 ops a' fl)
 (hsame:∀ t,t∈o.looksAt ops->a'.tmps[t]? = a.tmps[t]?):Region.wanted o (yielded ops a.tmps)=true->Firm P (Same B w0) (execOp a.eval o):=by
 intro hw
 have hev:∀ x∈o.op.operands,a'.eval x=a.eval x:=fun x hx=>eval_same fun t e=>hsame t (by
  subst e
  exact List.mem_append_left _ (List.mem_filterMap.2 ⟨.tmp t,by simpa using hx,rfl⟩))
 have hwn:Region.wanted o (yielded ops a'.tmps)=Region.wanted o (yielded ops a.tmps):=by
  unfold Region.wanted
  cases hgd:o.guard with
  | none=>rfl
  | some gw =>
    obtain⟨g,want⟩:=gw
    have:yielded ops a'.tmps g=yielded ops a.tmps g:=by
     unfold yielded
     cases hd:(ops[g]?).bind (·.dst) with
     | none=>rfl
     | some t =>
       have:=hsame t (by simp[Oper.looksAt,hgd,hd])
       simp[this]
    simp only[this]
 have h1:=allIn_at hin k hm o hk (by rw[hwn];exact hw)
 refine firm_of hkd ?_
 obtain⟨dst,op,type,pos,after,guard⟩:=o
 cases op <;> simp only[inB] at h1 ⊢
 case load t x=>rw[<- hev x (by simp[Op.operands])];exact h1
/-! ### The walk -/
def plain (P:Program) (ops:Array Oper) (i:Nat):Bool:=match ops[i]? with | some o=>kind P o==0 || kind P o==1 | none=>false
def wpG (P:Program) (ops:Array Oper) (Q:Exit->Act->World->Prop) (S:World->Prop) (m:Nat) (fa:List Nat) (st:Nat):List Nat->List (Nat × Nat)->World->Act->World->Prop
 | [],_,wr,a,w=>w=wr/\Q .normal a w
 | i :: l,iv,wr,a,w =>
   if (i::l).any (fun x=>fa.contains x)=false then w=wr/\wpS P ops Q S m (i::l) a w
   else if fa.contains i=true then w=wr/\∀ w0,st<=w0.heap.size->wpOp P ops Q i (fun a1 w1=>∀ w',Grown w w' -> Kept w0.heap.size w1 w' -> Off iv w0.heap.size w1.heap.size->wpG P ops Q S m fa st l ((w0.heap.size,w1.heap.size)::iv) w' a1 w') a w0
   else if plain P ops i=true then wpOp P ops Q i (fun a1 w1=>wpG P ops Q S m fa st l iv wr a1 w1) a w
   else w=wr/\∀ w',Grown w w' -> wpOp P ops Q i (fun a1 w1=>S w1/\Kept st w' w1/\wpG P ops Q S m fa st l ((w'.heap.size,w1.heap.size)::iv) w1 a1 w1) a w'
section
variable {S:World->Prop} {m:Nat} {fa:List Nat} {st:Nat} {i:Nat} {l:List Nat} {iv:List (Nat × Nat)} {wr w:World} {a:Act}
theorem wpG_none (h:l.any (fun x=>fa.contains x)=false):wpG P ops Q S m fa st l iv wr a w↔w=wr/\wpS P ops Q S m l a w:=by
 cases l with
 | nil=>exact Iff.rfl
 | cons i l=>unfold wpG;rw[if_pos h]
theorem wpG_fa (h:fa.contains i=true):wpG P ops Q S m fa st (i::l) iv wr a w↔w=wr/\∀ w0,st<=w0.heap.size->wpOp P ops Q i (fun a1 w1=>∀ w',Grown w w' -> Kept w0.heap.size w1 w' -> Off iv w0.heap.size w1.heap.size->wpG P ops Q S m fa st l ((w0.heap.size,w1.heap.size)::iv) w' a1 w') a w0:=by
 conv=>lhs;unfold wpG
 rw[if_neg (by simp only[List.any_cons,h,Bool.true_or];decide),if_pos h]
theorem wpG_plain (h0:(i::l).any (fun x=>fa.contains x)=true) (h1:fa.contains i=false) (h:plain P ops i=true):wpG P ops Q S m fa st (i::l) iv wr a w↔wpOp P ops Q i (fun a1 w1=>wpG P ops Q S m fa st l iv wr a1 w1) a w:=by
 conv=>lhs;unfold wpG
 rw[if_neg (by rw[h0];decide),if_neg (by rw[h1];decide),if_pos h]
theorem wpG_wild (h0:(i::l).any (fun x=>fa.contains x)=true) (h1:fa.contains i=false) (h:plain P ops i=false):wpG P ops Q S m fa st (i::l) iv wr a w↔w=wr/\∀ w',Grown w w' -> wpOp P ops Q i (fun a1 w1=>S w1/\Kept st w' w1/\wpG P ops Q S m fa st l ((w'.heap.size,w1.heap.size)::iv) w1 a1 w1) a w' :=by
 conv=>lhs;unfold wpG
 rw[if_neg (by rw[h0];decide),if_neg (by rw[h1];decide),if_neg (by rw[h];decide)]
end
theorem wpG_iv {S:World->Prop} {m:Nat} {fa:List Nat} {st:Nat} : ∀ (l:List Nat) (iv iv2:List (Nat × Nat)) (wr:World) (a:Act) (w:World),(∀ x∈iv,x∈iv2)->wpG P ops Q S m fa st l iv wr a w->wpG P ops Q S m fa st l iv2 wr a w
 | [],_,_,_,_,_,_,h=>h
 | i :: l,iv,iv2,wr,a,w,hs,h => by
   cases h0:(i::l).any (fun x=>fa.contains x) with
   | false=>rw[wpG_none h0] at h ⊢;exact h
   | true =>
     cases h1:fa.contains i with
     | true =>
       rw[wpG_fa h1] at h ⊢
       refine⟨h.1,fun w0 hw0=>wpOp_mono (fun a1 w1 hh w' hg hk ho=>?_) (h.2 w0 hw0)⟩
       exact wpG_iv l _ _ _ _ _ (fun x hx=>by
        rcases List.mem_cons.1 hx with rfl | hx
        ·exact List.mem_cons_self
        ·exact List.mem_cons_of_mem _ (hs x hx)) (hh w' hg hk fun x hx=>ho x (hs x hx))
     | false =>
       cases h2:plain P ops i with
       | true =>
         rw[wpG_plain h0 h1 h2] at h ⊢
         exact wpOp_mono (fun a1 w1 hh=>wpG_iv l _ _ _ _ _ hs hh) h
       | false =>
         rw[wpG_wild h0 h1 h2] at h ⊢
         refine⟨h.1,fun w' hg=>wpOp_mono (fun a1 w1 hh=>⟨hh.1,hh.2.1,?_⟩) (h.2 w' hg)⟩
         exact wpG_iv l _ _ _ _ _ (fun x hx=>by
          rcases List.mem_cons.1 hx with rfl | hx
          ·exact List.mem_cons_self
          ·exact List.mem_cons_of_mem _ (hs x hx)) hh.2.2
/-! ### The condition -/
def okPairF (P:Program) (ops:Array Oper) (fl fa:List Nat) (a b:Nat):Bool:=
 match ops[a]?,ops[b]? with
 | some oa,some ob => oa.apart ops ob && (if fa.contains b then true else if fa.contains a then kind P ob == 0 || (kind P ob == 1 && fl.contains b)
    else kind P ob==0 || kind P oa==0 || (kind P oa==1&&kind P ob==1) || (kind P oa==1&&fl.contains a) || (kind P ob==1&&fl.contains b))
 | _,_=>false
def okAllF (P:Program) (ops:Array Oper) (fl fa:List Nat) (m:Nat):Bool:=
 Region.noSelect ops&&
 okRows ops (fun a b=>decide (b<m)&&okPairF P ops fl fa a b) ops.size ops.size 0 0&&
 ((List.range ops.size).all fun k => match ops[k]? with
   | some o => !needs o || (List.range ops.size).all fun i=>decide (i<k) || (match ops[i]? with | some o' => (match o'.dst with | some t => !(o.looksAt ops).contains t | none=>true) | none=>true)
   | none=>true)&&
 (fl.all fun k => match ops[k]? with
   | some o=>(List.range ops.size).all fun i=>decide (i<k) || (match ops[i]? with | some o' => (match o'.dst with | some t => !(o.looksAt ops).contains t | none=>true) | none=>true)
   | none=>true)&&
 (fa.all fun k=>decide (k<m)&&match ops[k]? with | some o=>kind P o==2 | none=>false)
structure OkF (P:Program) (ops:Array Oper) (fl fa:List Nat) (m:Nat):Prop where
 sel:∀ (j:Nat) (o:Oper) (cs:Array SelectCase) (b:Bool),ops[j]? = some o->o.op≠.select cs b
 top:∀ (b:Nat) (ob:Oper),ops[b]? = some ob->∀ e∈ob.after,Region.binds .any e=true->e.on<b
 pair:∀ b a,b<ops.size->a<b->waits ops ops.size b a=true\/(b<m/\okPairF P ops fl fa a b=true)
 keep:∀ (k:Nat) (o:Oper),ops[k]? = some o->needs o=true\/k∈fl->∀ i,k<=i->∀ (o' : Oper),ops[i]? = some o' -> ∀ t,o'.dst=some t->t ∉ o.looksAt ops
 float:∀ k,fa.contains k=true->k<m/\∀ o,ops[k]? = some o->kind P o=2
theorem okAllF_spec {fl fa:List Nat} {m:Nat} (h:okAllF P ops fl fa m=true):OkF P ops fl fa m:=by
 simp only[okAllF,Bool.and_eq_true,List.all_eq_true,List.mem_range] at h
 obtain⟨⟨⟨⟨h1,h2⟩,h3⟩,h4⟩,h5⟩:=h
 refine⟨fun j o cs b hj=>Region.noSelect_spec h1 j o cs b hj,fun b ob hb e he hbi=>?_,fun b a hb ha=>?_,fun k o hk hn i hki o' hi t ht=>?_,fun k hk=>?_⟩
 ·exact(okRows_waits h2 hb).1 e he hbi
 ·have:=(okRows_waits h2 (Array.getElem?_eq_getElem hb)).2 a ha
  simpa using this
 ·have hkl:k<ops.size:=(Array.getElem?_eq_some_iff.1 hk).1
  have hil:i<ops.size:=(Array.getElem?_eq_some_iff.1 hi).1
  have key:((List.range ops.size).all fun i=>decide (i<k) || (match ops[i]? with | some o' => (match o'.dst with | some t => !(o.looksAt ops).contains t | none=>true) | none=>true))=true:=by
   rcases hn with hn | hn
   ·have:=h3 k hkl
    rw[hk] at this
    simpa [hn] using this
   ·have:=h4 k hn
    rw[hk] at this
    exact this
  simp only[List.all_eq_true,List.mem_range] at key
  have:=key i hil
  rw[hi] at this
  simp only[ht,Bool.or_eq_true,decide_eq_true_eq] at this
  rcases this with this | this
  ·omega
  ·simpa using this
 ·have hm:k∈fa:=by simpa using hk
  obtain⟨q1,q2⟩:=h5 k hm
  refine⟨by simpa using q1,fun o ho=>?_⟩
  rw[ho] at q2
  simpa using q2
theorem OkF.apart {fl fa:List Nat} {a b:Nat} {oa ob:Oper} (h:okPairF P ops fl fa a b=true) (ha:ops[a]? = some oa) (hb:ops[b]? = some ob):oa.apart ops ob=true:=by
 simp only[okPairF,ha,hb,Bool.and_eq_true] at h
 exact h.1
/-! ### The walk comes to an end -/
section
variable {B:Nat->Prop} {wS:World} {fl fa:List Nat} {m st:Nat}
theorem mem_swap {α : Type} {x a b : α} {l:List α} (h:x∈a::b::l):x∈b::a::l:=by
 rcases List.mem_cons.1 h with rfl | h
 ·exact List.mem_cons_of_mem _ List.mem_cons_self
 ·rcases List.mem_cons.1 h with rfl | h
  ·exact List.mem_cons_self
  ·exact List.mem_cons_of_mem _ (List.mem_cons_of_mem _ h)
theorem tmps_step {i:Nat} {l:List Nat} {o:Oper} (hi:ops[i]? = some o) {a a1 a' : Act} (hR:Rch a o.dst a1) (ht:∀ t,(∀ j∈l,∀ o,ops[j]? = some o->o.dst≠some t)->a'.tmps[t]? = a1.tmps[t]?):
 ∀ t,(∀ j∈i::l,∀ o,ops[j]? = some o->o.dst≠some t)->a'.tmps[t]? = a.tmps[t]? :=fun t hn=>by
 obtain⟨v,ds,rfl⟩:=hR
 rw[ht t fun j hj o ho=>hn j (by simp[hj]) o ho]
 have:=hn i (by simp) _ hi
 cases hd:o.dst with
 | none=>rfl
 | some d =>
   have hne:d≠t:=fun e=>this (by rw[hd,e])
   simp[Act.put,Array.getElem?_setIfInBounds_ne hne]
theorem Bd.push {st:Nat} {iv:List (Nat × Nat)} {w w1:World} {lo:Nat} (h:Bd st iv w) (h1:w.heap.size<=w1.heap.size):Bd st ((lo,w1.heap.size)::iv) w1:=
 ⟨Nat.le_trans h.1 h1,fun x hx => by
   rcases List.mem_cons.1 hx with rfl | hx
   ·exact Nat.le_refl _
   ·exact Nat.le_trans (h.2 x hx) h1⟩
theorem Bd.off {st:Nat} {iv:List (Nat × Nat)} {w:World} {hi:Nat} (h:Bd st iv w):Off iv w.heap.size hi:=fun x hx=>.inr (h.2 x hx)
theorem wpG_end (hA:OkF P ops fl fa m):∀ (l:List Nat) (iv:List (Nat × Nat)) (wr:World) (a:Act) (w:World),(∀ i∈l,i<ops.size)->(l.any (fun x=>fa.contains x)=true->Bd st iv wr)->wpG P ops (EndsN P ops B wS fl Q) (Same B wS) m fa st l iv wr a w->
 ∃ a',(goodAll P ops a' = true/\allIn B wS ops a' fl)/\∀ t,(∀ i∈l,∀ o,ops[i]? = some o->o.dst≠some t)->a'.tmps[t]? = a.tmps[t]?
 | [],iv,wr,a,w,_,_,h=>⟨a,⟨h.2.2.1,h.2.2.2.1⟩,fun _ _=>rfl⟩
 | i :: l,iv,wr,a,w,hl,hb,h => by
   have hQ:NoExit (EndsN P ops B wS fl Q):=EndsN.noExit
   obtain⟨o,hi⟩:∃ o,ops[i]? = some o:=⟨_,Array.getElem?_eq_getElem (hl i (by simp))⟩
   cases h0:(i::l).any (fun x=>fa.contains x) with
   | false =>
     obtain⟨rfl,h'⟩:=(wpG_none h0).1 h
     have h2:=wpOps_post (fun e a w he=>ends_of_endsN he) _ _ _ (wpS_ops _ _ _ h')
     obtain⟨a',w',⟨_,hg,hin,_⟩,ht⟩:=fin (Q:=fun _ a w=>allIn B wS ops a fl/\Q .normal a w) (i::l) a w hl h2
     exact⟨a',⟨hg,hin⟩,ht⟩
   | true =>
     have hbd:=hb h0
     cases h1:fa.contains i with
     | true =>
       obtain⟨rfl,h'⟩:=(wpG_fa h1).1 h
       have hkd:=(hA.float i h1).2 o hi
       obtain⟨v,w1,hy,hK⟩:=yl_of hQ hi (fun _=>news_of hkd) (h' w hbd.1)
       have hb2:=hy.below2 hkd
       obtain⟨a',he,ht⟩:=wpG_end hA l _ w1 _ w1 (fun j hj=>hl j (by simp[hj])) (fun _=>hbd.push hb2.size) (hK w1 hb2 (Kept.refl _ _) hbd.off)
       exact⟨a',he,tmps_step hi (Rch.put_ a o.dst v) ht⟩
     | false =>
       cases h2:plain P ops i with
       | true =>
         obtain⟨a1,w1,hR,hK⟩:=wpOp_ex hQ hi ((wpG_plain h0 h1 h2).1 h)
         obtain⟨a',he,ht⟩:=wpG_end hA l iv wr a1 w1 (fun j hj=>hl j (by simp[hj])) (fun _=>hbd) hK
         exact⟨a',he,tmps_step hi hR ht⟩
       | false =>
         obtain⟨rfl,h'⟩:=(wpG_wild h0 h1 h2).1 h
         obtain⟨a1,w1,hR,_,hk,hK⟩:=wpOp_ex hQ hi (h' w (Below.refl _ _))
         obtain⟨a',he,ht⟩:=wpG_end hA l _ w1 a1 w1 (fun j hj=>hl j (by simp[hj])) (fun _=>hbd.push hk.size) hK
         exact⟨a',he,tmps_step hi hR ht⟩
theorem wpG_yields (hA:OkF P ops fl fa m) {i:Nat} {oi:Oper} (hi:ops[i]? = some oi) (hif:fa.contains i=true) {rest:List Nat} : ∀ (ks:List Nat) (iv:List (Nat × Nat)) (wr:World) (a:Act) (w:World),(∀ x∈ks++i::rest,x<ops.size)->(∀ k∈ks,okPairF P ops fl fa k i=true)->Bd st iv wr->
 wpG P ops (EndsN P ops B wS fl Q) (Same B wS) m fa st (ks++i::rest) iv wr a w->∀ wq,st<=wq.heap.size->∃ v w1,Yl P ops oi a wq v w1
 | [],iv,wr,a,w,hl,hp,hbd,h => fun wq hwq => by
   obtain⟨rfl,h'⟩:=(wpG_fa hif).1 h
   obtain⟨v,w1,hy,_⟩:=yl_of (EndsN.noExit) hi (fun _=>news_of ((hA.float i hif).2 oi hi)) (h' wq hwq)
   exact⟨v,w1,hy⟩
 | k :: ks,iv,wr,a,w,hl,hp,hbd,h => fun wq hwq => by
   have hQ:NoExit (EndsN P ops B wS fl Q):=EndsN.noExit
   obtain⟨ok,hk⟩:∃ o,ops[k]? = some o:=⟨_,Array.getElem?_eq_getElem (hl k (by simp))⟩
   have hap:=Oper.apart_spec (OkF.apart (hp k (by simp)) hk hi)
   have hsel:∀ cs b,oi.op≠.select cs b:=fun cs b=>hA.sel i oi cs b hi
   have h0:(k::(ks++i::rest)).any (fun x=>fa.contains x)=true:=by
    simp only[List.any_cons,List.any_append,hif,Bool.true_or,Bool.or_true]
   have back:∀ a1,Rch a ok.dst a1->(∃ v w1,Yl P ops oi a1 wq v w1)->∃ v w1,Yl P ops oi a wq v w1:=fun a1 hR ⟨v,w1,hy⟩=>by
    have he:=hR.exec (o:=oi) (ops:=ops) hsel hap.1
    exact⟨v,w1,hy.same ⟨he.1.symm,he.2.symm⟩⟩
   have hl' : ∀ x∈ks++i::rest,x<ops.size:=fun x hx=>hl x (by simp at hx ⊢;right;exact hx)
   have hp' : ∀ x∈ks,okPairF P ops fl fa x i=true:=fun x hx=>hp x (by simp[hx])
   have h:wpG P ops (EndsN P ops B wS fl Q) (Same B wS) m fa st (k::(ks++i::rest)) iv wr a w:=h
   cases h1:fa.contains k with
   | true =>
     obtain⟨rfl,h'⟩:=(wpG_fa h1).1 h
     have hkd:=(hA.float k h1).2 ok hk
     obtain⟨v,w1,hy,hK⟩:=yl_of hQ hk (fun _=>news_of hkd) (h' w hbd.1)
     have hb2:=hy.below2 hkd
     exact back _ (Rch.put_ a ok.dst v) (wpG_yields hA hi hif ks _ w1 _ w1 hl' hp' (hbd.push hb2.size) (hK w1 hb2 (Kept.refl _ _) hbd.off) wq hwq)
   | false =>
     cases h2:plain P ops k with
     | true =>
       obtain⟨a1,w1,hR,hK⟩:=wpOp_ex hQ hk ((wpG_plain h0 h1 h2).1 h)
       exact back _ hR (wpG_yields hA hi hif ks iv wr a1 w1 hl' hp' hbd hK wq hwq)
     | false =>
       obtain⟨rfl,h'⟩:=(wpG_wild h0 h1 h2).1 h
       obtain⟨a1,w1,hR,_,hkp,hK⟩:=wpOp_ex hQ hk (h' w (Below.refl _ _))
       exact back _ hR (wpG_yields hA hi hif ks _ w1 a1 w1 hl' hp' (hbd.push hkp.size) hK wq hwq)
/-! ### Steps -/
theorem plain_step (hA:OkF P ops fl fa m) {k:Nat} {ok:Oper} {L:List Nat} {iv:List (Nat × Nat)} {a:Act} {w:World} (hk:ops[k]? = some ok) (hkp:plain P ops k=true) (hkf:fa.contains k=false) (hl:∀ x∈k::L,x<ops.size) (hs:(k::L).Pairwise (· < ·))
 (hS:Same B wS w) (hb:(k::L).any (fun x=>fa.contains x)=true->Bd st iv w) (h:wpG P ops (EndsN P ops B wS fl Q) (Same B wS) m fa st (k::L) iv w a w):
 (∃ v,Yl P ops ok a w v w/\(∀ w2,More w w2->Yl P ops ok a w2 v w2)/\(kind P ok=0\/k∈fl->∀ w2,Same B wS w2->Yl P ops ok a w2 v w2)/\wpG P ops (EndsN P ops B wS fl Q) (Same B wS) m fa st L iv w (a.put ok.dst v) w):=by
 obtain⟨a',⟨hg,hin⟩,ht⟩:=wpG_end hA (k::L) iv w a w hl hb h
 have hsame:needs ok=true\/k∈fl->∀ t,t∈ok.looksAt ops->a'.tmps[t]? = a.tmps[t]? :=fun hn t hm=>ht t fun j hj o' ho' e=>hA.keep k ok hk hn j (by
  rcases List.mem_cons.1 hj with h | h
  ·omega
  ·have:=(List.pairwise_cons.1 hs).1 j h;omega) o' ho' t e hm
 have hkd:kind P ok=0\/kind P ok=1:=by simpa [plain,hk] using hkp
 have hq0:kind P ok=0->Region.wanted ok (yielded ops a.tmps)=true->Quiet P (execOp a.eval ok):=fun h0=>good_end hk h0 hg (fun hn=>hsame (.inl hn))
 have hre:Region.wanted ok (yielded ops a.tmps)=true->Reads P (execOp a.eval ok):=fun hw=>by
  rcases hkd with h0 | h1
  ·intro n w w' hr
   obtain⟨q1,q2,q3⟩:=hq0 h0 hw n w w' hr
   exact⟨q1,q2,fun w2 _=>q3 w2⟩
  ·exact reads_of h1
 have hcore:∃ v w',Yl P ops ok a w v w' /\ (∀ w'',w'' = w->w' = w'' -> wpG P ops (EndsN P ops B wS fl Q) (Same B wS) m fa st L iv w (a.put ok.dst v) w''):=by
  cases h0:(k::L).any (fun x=>fa.contains x) with
  | false =>
    have hL:L.any (fun x=>fa.contains x)=false:=by
     simp only[List.any_cons,Bool.or_eq_false_iff] at h0
     exact h0.2
    obtain⟨_,h⟩:=(wpG_none h0).1 h
    obtain⟨v,w',hy,hK⟩:=yl_of EndsN.noExit hk (fun hw=>(hre hw).news) (show wpOp P ops _ k (fun a' w' => (k<m->Same B wS w')/\wpS P ops (EndsN P ops B wS fl Q) (Same B wS) m L a' w') a w from h)
    refine⟨v,w',hy,fun w'' e1 e2=>(wpG_none hL).2 ⟨e1,?_⟩⟩
    rw[<- e2]
    exact hK.2
  | true =>
    obtain⟨v,w',hy,hK⟩:=yl_of EndsN.noExit hk (fun hw=>(hre hw).news) ((wpG_plain h0 hkf hkp).1 h)
    exact⟨v,w',hy,fun w'' _ e2=>by rw[<- e2];exact hK⟩
 obtain⟨v,w',hy,hK⟩:=hcore
 obtain⟨rfl,hm⟩:=hy.reads hre
 refine⟨v,hy,hm,fun hc=>?_,hK _ rfl rfl⟩
 have hf:Region.wanted ok (yielded ops a.tmps)=true->Firm P (Same B wS) (execOp a.eval ok):=by
  rcases hc with hc | hc
  ·exact fun hw=>(hq0 hc hw).firm
  ·rcases hkd with h0 | h1
   ·exact fun hw=>(hq0 h0 hw).firm
   ·exact inB_end hk h1 hc hin (hsame (.inr hc))
 exact(hy.firm hS hf).2
theorem wpG_of_yl {k:Nat} {ok:Oper} {L:List Nat} {iv:List (Nat × Nat)} {a:Act} {w:World} {v:Value} (hk:ops[k]? = some ok) (hkp:plain P ops k=true) (hkf:fa.contains k=false) (hS:Same B wS w) (hy:Yl P ops ok a w v w)
 (h:wpG P ops (EndsN P ops B wS fl Q) (Same B wS) m fa st L iv w (a.put ok.dst v) w):wpG P ops (EndsN P ops B wS fl Q) (Same B wS) m fa st (k::L) iv w a w:=by
 cases h0:(k::L).any (fun x=>fa.contains x) with
 | false =>
   have hL:L.any (fun x=>fa.contains x)=false:=by
    simp only[List.any_cons,Bool.or_eq_false_iff] at h0
    exact h0.2
   refine(wpG_none h0).2 ⟨rfl,?_⟩
   show wpOp P ops _ k (fun a' w' => (k<m->Same B wS w')/\wpS P ops (EndsN P ops B wS fl Q) (Same B wS) m L a' w') a w
   exact Yl.mk hk hy ⟨fun _=>hS,((wpG_none hL).1 h).2⟩
 | true=>exact(wpG_plain h0 hkf hkp).2 (Yl.mk hk hy h)
theorem wpG_of_wild {k:Nat} {L:List Nat} {iv:List (Nat × Nat)} {a:Act} {w:World} (hkp:plain P ops k=false) (hkf:fa.contains k=false)
 (h:∀ w',Grown w w' -> wpOp P ops (EndsN P ops B wS fl Q) k (fun a1 w1=>Same B wS w1/\Kept st w' w1/\wpG P ops (EndsN P ops B wS fl Q) (Same B wS) m fa st L ((w'.heap.size,w1.heap.size)::iv) w1 a1 w1) a w'):
 wpG P ops (EndsN P ops B wS fl Q) (Same B wS) m fa st (k::L) iv w a w:=by
 cases h0:(k::L).any (fun x=>fa.contains x) with
 | false =>
   have hL:L.any (fun x=>fa.contains x)=false:=by
    simp only[List.any_cons,Bool.or_eq_false_iff] at h0
    exact h0.2
   refine(wpG_none h0).2 ⟨rfl,?_⟩
   show wpOp P ops _ k (fun a' w' => (k<m->Same B wS w')/\wpS P ops (EndsN P ops B wS fl Q) (Same B wS) m L a' w') a w
   exact wpOp_mono (fun a1 w1 hh=>⟨fun _=>hh.1,((wpG_none hL).1 hh.2.2).2⟩) (h w (Below.refl _ _))
 | true=>exact(wpG_wild h0 hkf hkp).2 ⟨rfl,h⟩
theorem early (hA:OkF P ops fl fa m) {i:Nat} {oi:Oper} (hi:ops[i]? = some oi) (hif:fa.contains i=true) {rest:List Nat} {v:Value} {w0 w1:World} (hw0:st<=w0.heap.size):∀ (ks:List Nat) (iv:List (Nat × Nat)) (a:Act) (w:World),(∀ x∈ks++i::rest,x<ops.size)->(ks++i::rest).Pairwise (· < ·)->
 (∀ k∈ks,okPairF P ops fl fa k i=true)->Same B wS w->Bd st iv w->Yl P ops oi a w0 v w1->Kept w0.heap.size w1 w->Off iv w0.heap.size w1.heap.size->wpG P ops (EndsN P ops B wS fl Q) (Same B wS) m fa st (ks++i::rest) iv w a w->
 wpG P ops (EndsN P ops B wS fl Q) (Same B wS) m fa st (ks++rest) ((w0.heap.size,w1.heap.size)::iv) w (a.put oi.dst v) w
 | [],iv,a,w,hl,hs,hp,hS,hbd,hy,hkw,ho,h => by
   obtain⟨_,h⟩:=(wpG_fa hif).1 h
   obtain⟨v',w1',hy',hK⟩:=yl_of EndsN.noExit hi (fun _=>news_of ((hA.float i hif).2 oi hi)) (h w0 hw0)
   obtain⟨rfl,rfl⟩:=hy'.det hy
   exact hK w (Below.refl _ _) hkw ho
 | k :: ks,iv,a,w,hl,hs,hp,hS,hbd,hy,hkw,ho,h => by
   obtain⟨ok,hk⟩:∃ o,ops[k]? = some o:=⟨_,Array.getElem?_eq_getElem (hl k (by simp))⟩
   have hap:=Oper.apart_spec (OkF.apart (hp k (by simp)) hk hi)
   have hseli:∀ cs b,oi.op≠.select cs b:=fun cs b=>hA.sel i oi cs b hi
   have hselk:∀ cs b,ok.op≠.select cs b:=fun cs b=>hA.sel k ok cs b hk
   have hds:∀ t,oi.dst=some t->ok.dst≠some t:=fun t ht hk' => hap.2.1 t hk' ht
   have hs' :=List.pairwise_cons.1 hs
   have hl' : ∀ x∈ks++i::rest,x<ops.size:=fun x hx=>hl x (by simp at hx ⊢;right;exact hx)
   have hp' : ∀ x∈ks,okPairF P ops fl fa x i=true:=fun x hx=>hp x (by simp[hx])
   have h0:(k::(ks++i::rest)).any (fun x=>fa.contains x)=true:=by
    simp only[List.any_cons,List.any_append,hif,Bool.true_or,Bool.or_true]
   have h:wpG P ops (EndsN P ops B wS fl Q) (Same B wS) m fa st (k::(ks++i::rest)) iv w a w:=h
   show wpG P ops (EndsN P ops B wS fl Q) (Same B wS) m fa st (k::(ks++rest)) ((w0.heap.size,w1.heap.size)::iv) w (a.put oi.dst v) w
   cases h1:fa.contains k with
   | true =>
     obtain⟨_,h⟩:=(wpG_fa h1).1 h
     refine(wpG_fa h1).2 ⟨rfl,fun wk hwk=>xfer_in EndsN.noExit hk hselk hap.2.2 hds (h wk hwk) fun a1 w1k hR hK w' hg hkp hoff=>?_⟩
     have he:=hR.exec (o:=oi) (ops:=ops) hseli hap.1
     have hx:=hoff (w0.heap.size,w1.heap.size) List.mem_cons_self
     have h3:=early hA hi hif hw0 ks ((wk.heap.size,w1k.heap.size)::iv) a1 w' hl' hs'.2 hp' (hS.more (more_grown hg))
      ⟨Nat.le_trans hbd.1 hg.size,fun x hx => by
        rcases List.mem_cons.1 hx with rfl | hx
        ·exact hkp.size
        ·exact Nat.le_trans (hbd.2 x hx) hg.size⟩
      (hy.same he) (hkw.grown hg) (fun x hx' => by
        rcases List.mem_cons.1 hx' with rfl | hx'
        ·exact hx.symm
        ·exact ho x hx') (hK w' hg hkp fun x hx=>hoff x (List.mem_cons_of_mem _ hx))
     exact wpG_iv _ _ _ _ _ _ (fun x hx=>mem_swap hx) h3
   | false =>
     cases h2:plain P ops k with
     | true =>
       obtain⟨vk,hyk,hmk,_,hK⟩:=plain_step hA hk h2 h1 hl hs hS (fun _=>hbd) h
       have he:=(Rch.put_ a ok.dst vk).exec (o:=oi) (ops:=ops) hseli hap.1
       have hek:=(Rch.put_ a oi.dst v).exec (o:=ok) (ops:=ops) hselk hap.2.2
       have h3:=early hA hi hif hw0 ks iv (a.put ok.dst vk) w hl' hs'.2 hp' hS hbd (hy.same he) hkw ho hK
       refine wpG_of_yl hk h2 h1 hS (hyk.same hek) ?_
       rw[Act.put_comm a v vk hds]
       exact h3
     | false =>
       obtain⟨_,h⟩:=(wpG_wild h0 h1 h2).1 h
       refine wpG_of_wild h2 h1 fun w' hg=>xfer_in EndsN.noExit hk hselk hap.2.2 hds (h w' hg) fun a1 w1k hR hK=>?_
       obtain⟨hS1,hkp,hK⟩:=hK
       have he:=hR.exec (o:=oi) (ops:=ops) hseli hap.1
       have hkw' :=hkw.grown hg
       have h3:=early hA hi hif hw0 ks ((w'.heap.size,w1k.heap.size)::iv) a1 w1k hl' hs'.2 hp' hS1
        ⟨Nat.le_trans hbd.1 (Nat.le_trans hg.size hkp.size),fun x hx => by
          rcases List.mem_cons.1 hx with rfl | hx
          ·exact Nat.le_refl _
          ·exact Nat.le_trans (hbd.2 x hx) (Nat.le_trans hg.size hkp.size)⟩
        (hy.same he) (hkw'.kept hw0 hkp) (fun x hx' => by
          rcases List.mem_cons.1 hx' with rfl | hx'
          ·exact .inl hkw'.size
          ·exact ho x hx') hK
       exact⟨hS1,hkp,wpG_iv _ _ _ _ _ _ (fun x hx=>mem_swap hx) h3⟩
theorem frontS (hA:OkF P ops fl fa m) {i:Nat} (him:i<m) (hif:fa.contains i=false) {rest:List Nat} : ∀ (ks:List Nat) (a:Act) (w:World),(∀ k∈ks,fa.contains k=false)->Same B wS w->(∀ x∈ks++i::rest,x<ops.size)->(ks++i::rest).Pairwise (· < ·)->
 (∀ k∈ks,okPairF P ops fl fa k i=true)->wpS P ops (EndsN P ops B wS fl Q) (Same B wS) m (ks++i::rest) a w->wpS P ops (EndsN P ops B wS fl Q) (Same B wS) m (i::(ks++rest)) a w
 | [],_,_,_,_,_,_,_,h=>h
 | k :: ks,a,w,hkf,hS,hl,hs,hp,h => by
   have hs' :=List.pairwise_cons.1 hs
   have h0:=wpS_ops _ _ _ h
   have hki:k<i:=hs'.1 i (by simp)
   have h:wpOp P ops (EndsN P ops B wS fl Q) k (fun a' w' => (k<m->Same B wS w')/\wpS P ops (EndsN P ops B wS fl Q) (Same B wS) m (ks++i::rest) a' w') a w:=h
   have h1:wpOp P ops (EndsN P ops B wS fl Q) k (fun a' w' => Same B wS w' /\ wpS P ops (EndsN P ops B wS fl Q) (Same B wS) m (i::(ks++rest)) a' w') a w:=
    wpOp_mono (fun a' w' hh=>⟨hh.1 (by omega),frontS hA him hif ks a' w' (fun x hx=>hkf x (by simp[hx])) (hh.1 (by omega)) (fun x hx=>hl x (by simp at hx ⊢;right;exact hx)) hs'.2 (fun x hx=>hp x (by simp[hx])) hh.2⟩) h
   have hkl:k<ops.size:=hl k (by simp)
   have hil:i<ops.size:=hl i (by simp)
   obtain⟨ok,hk⟩:∃ o,ops[k]? = some o:=⟨_,Array.getElem?_eq_getElem hkl⟩
   obtain⟨oi,hi⟩:∃ o,ops[i]? = some o:=⟨_,Array.getElem?_eq_getElem hil⟩
   have hpk:=hp k (by simp)
   simp only[okPairF,hk,hi,hif,hkf k (by simp),if_false,Bool.false_eq_true,Bool.and_eq_true,Bool.or_eq_true,beq_iff_eq,List.contains_iff_mem] at hpk
   obtain⟨hap,hc⟩:=hpk
   have h2:wpOp P ops (EndsN P ops B wS fl Q) k (fun a' w' => Same B wS w' /\ wpOp P ops (EndsN P ops B wS fl Q) i (fun a'' w'' => Same B wS w'' /\ wpS P ops (EndsN P ops B wS fl Q) (Same B wS) m (ks++rest) a'' w'') a' w') a w:=
    wpOp_mono (fun a' w' hh=>⟨hh.1,wpOp_mono (fun a'' w'' h3=>⟨h3.1 him,h3.2⟩) (show wpOp P ops _ i (fun a'' w'' => (i<m->Same B wS w'')/\wpS P ops _ (Same B wS) m (ks++rest) a'' w'') a' w' from hh.2)⟩) h1
   have behind_i:∀ x∈k::ks++i::rest,∀ o',ops[x]? = some o' -> (needs oi=true\/i∈fl)->∀ t,o'.dst=some t->t ∉ oi.looksAt ops:=fun x hx o' ho' hn t ht=>by
    by_cases hxi:i<=x
    ·exact hA.keep i oi hi hn x hxi o' ho' t ht
    ·have hxm : x ∈ k :: ks :=by
      rcases List.mem_append.1 hx with h | h
      ·exact h
      ·rcases List.mem_cons.1 h with h | h
       ·omega
       ·have:=(List.pairwise_append.1 hs).2.1
        have:=(List.pairwise_cons.1 this).1 x h
        omega
     exact(Oper.apart_spec (OkF.apart (hp x hxm) ho' hi)).1 t ht
   have behind_k:∀ x∈k::ks++i::rest,∀ o',ops[x]? = some o' -> (needs ok=true\/k∈fl)->∀ t,o'.dst=some t->t ∉ ok.looksAt ops:=fun x hx o' ho' hn t ht=>by
    refine hA.keep k ok hk hn x ?_ o' ho' t ht
    rcases List.mem_cons.1 hx with h | h
    ·omega
    ·have:=hs'.1 x h;omega
   have h0g:wpOps P ops (Ends P ops (fun _ a w=>allIn B wS ops a fl/\Q .normal a w)) (k::ks++i::rest) a w:=wpOps_post (fun e a w he=>ends_of_endsN he) _ _ _ h0
   have h3:=swapS (S:=Same B wS) EndsN.noExit hk hi hap (fun cs b=>hA.sel k ok cs b hk) (fun cs b=>hA.sel i oi cs b hi) hS ?_ h2
   ·show wpOp P ops _ i (fun a' w' => (i<m->Same B wS w')/\wpS P ops _ (Same B wS) m (k::(ks++rest)) a' w') a w
    refine wpOp_mono (fun a' w' hh=>⟨fun _=>hh.1,?_⟩) h3
    show wpOp P ops _ k (fun a'' w'' => (k<m->Same B wS w'')/\wpS P ops _ (Same B wS) m (ks++rest) a'' w'') a' w'
    exact wpOp_mono (fun a'' w'' h4=>⟨fun _=>h4.1,h4.2⟩) hh.2
   ·rcases hc with (((hc | hc) | ⟨hc1,hc2⟩) | ⟨hc,hm⟩) | ⟨hc,hm⟩
    ·have hq:=good_here (l:=k::ks++i::rest) hl h0g hi hc fun hn x hx o' ho' t ht=>behind_i x hx o' ho' (.inl hn) t ht
     exact .inl ⟨fun hw=>(hq hw).firm,fun hw=>(hq hw).news⟩
    ·have hq:=good_here (l:=k::ks++i::rest) hl h0g hk hc fun hn x hx o' ho' t ht=>behind_k x hx o' ho' (.inl hn) t ht
     exact .inr (.inl ⟨fun hw=>(hq hw).firm,fun hw=>(hq hw).news⟩)
    ·exact .inr (.inr ⟨fun _=>reads_of hc1,fun _=>kind_news (.inl hc2)⟩)
    ·exact .inr (.inl ⟨inB_here (l:=k::ks++i::rest) hl h0 hk hc hm fun x hx o' ho' t ht=>behind_k x hx o' ho' (.inr hm) t ht,fun _=>kind_news (.inl hc)⟩)
    ·exact .inl ⟨inB_here (l:=k::ks++i::rest) hl h0 hi hc hm fun x hx o' ho' t ht=>behind_i x hx o' ho' (.inr hm) t ht,fun _=>kind_news (.inl hc)⟩
theorem any_not {l:List Nat} (h:l.any (fun x=>fa.contains x)=false):∀ x∈l,fa.contains x=false:=by
 intro x hx
 have:=List.any_eq_false.1 h x hx
 simpa using this
theorem any_sub {l l' : List Nat} (hs:∀ x∈l',x∈l) (h:l.any (fun x=>fa.contains x)=false):l'.any (fun x=>fa.contains x)=false:=
 List.any_eq_false.2 fun x hx=>by rw[any_not h x (hs x hx)];decide
theorem frontP (hA:OkF P ops fl fa m) {i:Nat} {oi:Oper} (hi:ops[i]? = some oi) (hip:plain P ops i=true) (hif:fa.contains i=false) {rest:List Nat} : ∀ (ks:List Nat) (iv:List (Nat × Nat)) (a:Act) (w:World),(∀ x∈ks++i::rest,x<ops.size)->(ks++i::rest).Pairwise (· < ·)->
 (∀ k∈ks,i<m/\okPairF P ops fl fa k i=true)->Same B wS w->((ks++i::rest).any (fun x=>fa.contains x)=true->Bd st iv w)->wpG P ops (EndsN P ops B wS fl Q) (Same B wS) m fa st (ks++i::rest) iv w a w->
 ∃ v,Yl P ops oi a w v w/\((∀ k∈ks,plain P ops k=true)\/(∀ w2,Same B wS w2->Yl P ops oi a w2 v w2))/\wpG P ops (EndsN P ops B wS fl Q) (Same B wS) m fa st (ks++rest) iv w (a.put oi.dst v) w
 | [],iv,a,w,hl,hs,hp,hS,hbd,h => by
   obtain⟨v,hy,_,_,hK⟩:=plain_step hA hi hip hif hl hs hS hbd h
   exact⟨v,hy,.inl (fun k hk=>by cases hk),hK⟩
 | k :: ks,iv,a,w,hl,hs,hp,hS,hbd,h => by
   obtain⟨ok,hk⟩:∃ o,ops[k]? = some o:=⟨_,Array.getElem?_eq_getElem (hl k (by simp))⟩
   obtain⟨him,hpk⟩:=hp k (by simp)
   have hap:=Oper.apart_spec (OkF.apart hpk hk hi)
   have hseli:∀ cs b,oi.op≠.select cs b:=fun cs b=>hA.sel i oi cs b hi
   have hselk:∀ cs b,ok.op≠.select cs b:=fun cs b=>hA.sel k ok cs b hk
   have hds:∀ t,oi.dst=some t->ok.dst≠some t:=fun t ht hk' => hap.2.1 t hk' ht
   have hs' :=List.pairwise_cons.1 hs
   have hl' : ∀ x∈ks++i::rest,x<ops.size:=fun x hx=>hl x (by simp at hx ⊢;right;exact hx)
   have hp' : ∀ x∈ks,i<m/\okPairF P ops fl fa x i=true:=fun x hx=>hp x (by simp[hx])
   have h:wpG P ops (EndsN P ops B wS fl Q) (Same B wS) m fa st (k::(ks++i::rest)) iv w a w:=h
   have hbd:(k::(ks++i::rest)).any (fun x=>fa.contains x)=true->Bd st iv w:=hbd
   obtain⟨a',⟨hg,hin⟩,ht⟩:=wpG_end hA (k::(ks++i::rest)) iv w a w hl hbd h
   have hsame:needs oi=true\/i∈fl->∀ t,t∈oi.looksAt ops->a'.tmps[t]? = a.tmps[t]? :=fun hn t hm=>ht t fun j hj o' ho' e=>by
    by_cases hij:i<=j
    ·exact hA.keep i oi hi hn j hij o' ho' t e hm
    ·have hxm : j ∈ k :: ks :=by
      rcases List.mem_append.1 (show j∈(k::ks)++i::rest from hj) with h | h
      ·exact h
      ·rcases List.mem_cons.1 h with h | h
       ·omega
       ·have:=(List.pairwise_append.1 (show((k::ks)++i::rest).Pairwise (· < ·) from hs)).2.1
        have:=(List.pairwise_cons.1 this).1 j h
        omega
     exact(Oper.apart_spec (OkF.apart (hp j hxm).2 ho' hi)).1 t e hm
   have hfirm:kind P oi=0\/(kind P oi=1/\i∈fl)->Region.wanted oi (yielded ops a.tmps)=true->Firm P (Same B wS) (execOp a.eval oi):=fun hc=>by
    rcases hc with hc | ⟨hc,hm⟩
    ·exact fun hw=>(good_end hi hc hg (fun hn=>hsame (.inl hn)) hw).firm
    ·exact inB_end hi hc hm hin (hsame (.inr hm))
   show ∃ v,Yl P ops oi a w v w/\((∀ x∈k::ks,plain P ops x=true)\/(∀ w2,Same B wS w2->Yl P ops oi a w2 v w2))/\wpG P ops (EndsN P ops B wS fl Q) (Same B wS) m fa st (k::(ks++rest)) iv w (a.put oi.dst v) w
   cases h2:plain P ops k with
   | true =>
     cases h1:fa.contains k with
     | true =>
       exfalso
       have:=(hA.float k h1).2 ok hk
       simp only[plain,hk,this] at h2
       exact absurd h2 (by decide)
     | false =>
       obtain⟨vk,hyk,hmk,hfk,hK⟩:=plain_step hA hk h2 h1 hl hs hS hbd h
       have he:=(Rch.put_ a ok.dst vk).exec (o:=oi) (ops:=ops) hseli hap.1
       have hbd' : (ks++i::rest).any (fun x=>fa.contains x)=true->Bd st iv w:=fun hx=>hbd (by simp only[List.any_cons,hx,Bool.or_true])
       obtain⟨v,hy,hc,h3⟩:=frontP hA hi hip hif ks iv (a.put ok.dst vk) w hl' hs'.2 hp' hS hbd' hK
       have hy' :=hy.same ⟨he.1.symm,he.2.symm⟩
       have hek:=(Rch.put_ a oi.dst v).exec (o:=ok) (ops:=ops) hselk hap.2.2
       refine⟨v,hy',?_,wpG_of_yl hk h2 h1 hS (hyk.same hek) (by rw[Act.put_comm a v vk hds];exact h3)⟩
       rcases hc with hc | hc
       ·exact .inl fun x hx => by
         rcases List.mem_cons.1 hx with rfl | hx
         ·exact h2
         ·exact hc x hx
       ·exact .inr fun w2 hw2=>(hc w2 hw2).same ⟨he.1.symm,he.2.symm⟩
   | false =>
     have hkd:¬ (kind P ok=0)/\¬ (kind P ok=1):=by simpa [plain,hk] using h2
     have hci:kind P oi=0\/(kind P oi=1/\i∈fl):=by
      simp only[okPairF,hk,hi,hif,if_false,Bool.false_eq_true,Bool.and_eq_true,Bool.or_eq_true,beq_iff_eq,List.contains_iff_mem,hkd.1,hkd.2,or_false,false_and,and_false,false_or] at hpk
      have:=hpk.2
      split at this
      ·simpa using this
      ·simpa [hkd.1,hkd.2] using this
     have hF:=hfirm hci
     cases h0:(k::(ks++i::rest)).any (fun x=>fa.contains x) with
     | false =>
       have hsub:∀ x∈k::(ks++rest),x∈k::(ks++i::rest):=fun x hx=>by simp at hx ⊢;rcases hx with h | h | h <;> simp[h]
       obtain⟨_,h⟩:=(wpG_none h0).1 h
       have h4:=frontS hA him hif (k::ks) a w (fun x hx=>any_not h0 x (by simp at hx ⊢;rcases hx with h | h <;> simp[h])) hS hl hs (fun x hx=>(hp x hx).2) h
       obtain⟨v,w',hy,hK⟩:=yl_of EndsN.noExit hi (fun hw n w w' hr=>by
        rcases hci with hc | ⟨hc,_⟩
        ·exact(good_end hi hc hg (fun hn=>hsame (.inl hn)) hw).news n w w' hr
        ·exact(reads_of hc).news n w w' hr) (show wpOp P ops _ i (fun a' w' => (i<m->Same B wS w')/\wpS P ops (EndsN P ops B wS fl Q) (Same B wS) m (k::(ks++rest)) a' w') a w from h4)
       obtain⟨rfl,hall⟩:=hy.firm hS hF
       exact⟨v,hy,.inr hall,(wpG_none (any_sub hsub h0)).2 ⟨rfl,hK.2⟩⟩
     | true =>
       have hbd0:=hbd h0
       have move:∀ {v:Value} (hall:∀ w2,Same B wS w2->Yl P ops oi a w2 v w2) (a1:Act) (w' : World) (iv' : List (Nat × Nat)),Rch a ok.dst a1->Same B wS w' -> Bd st iv' w' -> wpG P ops (EndsN P ops B wS fl Q) (Same B wS) m fa st (ks++i::rest) iv' w' a1 w' ->
        wpG P ops (EndsN P ops B wS fl Q) (Same B wS) m fa st (ks++rest) iv' w' (a1.put oi.dst v) w' :=fun {v} hall a1 w' iv' hR hS' hb' hK=>by
        obtain⟨v',hy',_,h3⟩:=frontP hA hi hip hif ks iv' a1 w' hl' hs'.2 hp' hS' (fun _=>hb') hK
        have he:=hR.exec (o:=oi) (ops:=ops) hseli hap.1
        obtain⟨rfl,_⟩:=hy'.det ((hall w' hS').same he)
        exact h3
       cases h1:fa.contains k with
       | true =>
         obtain⟨_,h⟩:=(wpG_fa h1).1 h
         obtain⟨vk,wk,hyk,hK⟩:=yl_of EndsN.noExit hk (fun _=>news_of ((hA.float k h1).2 ok hk)) (h w hbd0.1)
         have hgk:=hyk.below2 ((hA.float k h1).2 ok hk)
         have hSk:=hS.more (more_grown hgk)
         obtain⟨v,hy,_,_⟩:=frontP hA hi hip hif ks _ (a.put ok.dst vk) wk hl' hs'.2 hp' hSk (fun _=>hbd0.push hgk.size) (hK wk hgk (Kept.refl _ _) hbd0.off)
         have he:=(Rch.put_ a ok.dst vk).exec (o:=oi) (ops:=ops) hseli hap.1
         obtain⟨_,hall⟩:=(hy.same ⟨he.1.symm,he.2.symm⟩).firm hSk hF
         refine⟨v,hall w hS,.inr hall,(wpG_fa h1).2 ⟨rfl,fun w0 hw0=>xfer_in EndsN.noExit hk hselk hap.2.2 hds (h w0 hw0) fun a1 w1 hR hK w' hg hkp hoff=>?_⟩⟩
         refine move hall a1 w' _ hR (hS.more (more_grown hg)) ⟨Nat.le_trans hbd0.1 hg.size,fun x hx=>?_⟩ (hK w' hg hkp hoff)
         rcases List.mem_cons.1 hx with rfl | hx
         ·exact hkp.size
         ·exact Nat.le_trans (hbd0.2 x hx) hg.size
       | false =>
         obtain⟨_,h⟩:=(wpG_wild h0 h1 h2).1 h
         obtain⟨a1,w1,hR,hS1,hkp,hK⟩:=wpOp_ex EndsN.noExit hk (h w (Below.refl _ _))
         obtain⟨v,hy,_,_⟩:=frontP hA hi hip hif ks _ a1 w1 hl' hs'.2 hp' hS1 (fun _=>hbd0.push hkp.size) hK
         have he:=hR.exec (o:=oi) (ops:=ops) hseli hap.1
         obtain⟨_,hall⟩:=(hy.same ⟨he.1.symm,he.2.symm⟩).firm hS1 hF
         refine⟨v,hall w hS,.inr hall,wpG_of_wild h2 h1 fun w' hg=>xfer_in EndsN.noExit hk hselk hap.2.2 hds (h w' hg) fun a1 w1 hR hK=>?_⟩
         obtain⟨hS1,hkp,hK⟩:=hK
         refine⟨hS1,hkp,move hall a1 w1 _ hR hS1 ⟨Nat.le_trans hbd0.1 (Nat.le_trans hg.size hkp.size),fun x hx=>?_⟩ hK⟩
         rcases List.mem_cons.1 hx with rfl | hx
         ·exact Nat.le_refl _
         ·exact Nat.le_trans (hbd0.2 x hx) (Nat.le_trans hg.size hkp.size)
theorem frontW (hA:OkF P ops fl fa m) {i:Nat} {oi:Oper} (hi:ops[i]? = some oi) (hip:plain P ops i=false) (hif:fa.contains i=false) {rest:List Nat} (hrest:rest.any (fun x=>fa.contains x)=true):∀ (ks:List Nat) (iv:List (Nat × Nat)) (a:Act) (w:World),(∀ x∈ks++i::rest,x<ops.size)->(ks++i::rest).Pairwise (· < ·)->
 (∀ k∈ks,okPairF P ops fl fa k i=true)->Same B wS w->Bd st iv w->wpG P ops (EndsN P ops B wS fl Q) (Same B wS) m fa st (ks++i::rest) iv w a w->
 wpOp P ops (EndsN P ops B wS fl Q) i (fun a1 w1=>Same B wS w1/\Kept st w w1/\wpG P ops (EndsN P ops B wS fl Q) (Same B wS) m fa st (ks++rest) ((w.heap.size,w1.heap.size)::iv) w1 a1 w1) a w
 | [],iv,a,w,hl,hs,hp,hS,hbd,h=>((wpG_wild (by simp only[List.any_cons,hrest,Bool.or_true]) hif hip).1 h).2 w (Below.refl _ _)
 | k :: ks,iv,a,w,hl,hs,hp,hS,hbd,h => by
   obtain⟨ok,hk⟩:∃ o,ops[k]? = some o:=⟨_,Array.getElem?_eq_getElem (hl k (by simp))⟩
   have hpk:=hp k (by simp)
   have hap:=Oper.apart_spec (OkF.apart hpk hk hi)
   have hseli:∀ cs b,oi.op≠.select cs b:=fun cs b=>hA.sel i oi cs b hi
   have hselk:∀ cs b,ok.op≠.select cs b:=fun cs b=>hA.sel k ok cs b hk
   have hs' :=List.pairwise_cons.1 hs
   have hkd:¬ (kind P oi=0)/\¬ (kind P oi=1):=by simpa [plain,hi] using hip
   have hc:fa.contains k=false/\(kind P ok=0\/(kind P ok=1/\k∈fl)):=by
    simp only[okPairF,hk,hi,hif,if_false,Bool.false_eq_true,Bool.and_eq_true,Bool.or_eq_true,beq_iff_eq,List.contains_iff_mem,hkd.1,hkd.2,or_false,false_and,and_false,false_or] at hpk
    have:=hpk.2
    cases hfk:fa.contains k with
    | true=>rw[if_pos (by simpa using hfk)] at this;simp[hkd.1,hkd.2] at this
    | false =>
      rw[if_neg (by simpa using hfk)] at this
      exact⟨rfl,by simpa [hkd.1,hkd.2] using this⟩
   have hkp:plain P ops k=true:=by
    simp only[plain,hk,Bool.or_eq_true,beq_iff_eq]
    rcases hc.2 with h | h
    ·exact .inl h
    ·exact .inr h.1
   obtain⟨vk,hyk,_,hfk,hK⟩:=plain_step hA hk hkp hc.1 hl hs hS (fun _=>hbd) h
   have hall :=hfk (by rcases hc.2 with h | h
                       ·exact .inl h
                       ·exact .inr h.2)
   have h3:=frontW hA hi hip hif hrest ks iv (a.put ok.dst vk) w (fun x hx=>hl x (by simp at hx ⊢;right;exact hx)) hs'.2 (fun x hx=>hp x (by simp[hx])) hS hbd hK
   refine xfer_out EndsN.noExit hi hseli hap.1 hap.2.1 h3 fun a1 w1 hR hK1=>?_
   have he:=hR.exec (o:=ok) (ops:=ops) hselk hap.2.2
   exact⟨hK1.1,hK1.2.1,wpG_of_yl hk hkp hc.1 hK1.1 ((hall w1 hK1.1).same he) hK1.2.2⟩
theorem wpG_grow (hA:OkF P ops fl fa m):∀ (l:List Nat) (iv:List (Nat × Nat)) (a:Act) (w w2:World),(∀ x∈l,x<ops.size)->l.Pairwise (· < ·)->Same B wS w->(l.any (fun x=>fa.contains x)=true->Bd st iv w)->Grown w w2->l.any (fun x=>fa.contains x)=true->
 wpG P ops (EndsN P ops B wS fl Q) (Same B wS) m fa st l iv w a w->wpG P ops (EndsN P ops B wS fl Q) (Same B wS) m fa st l iv w2 a w2
 | [],iv,a,w,w2,_,_,_,_,_,h0,_=>by cases h0
 | k :: l,iv,a,w,w2,hl,hs,hS,hbd,hg,h0,h => by
   obtain⟨ok,hk⟩:∃ o,ops[k]? = some o:=⟨_,Array.getElem?_eq_getElem (hl k (by simp))⟩
   cases h1:fa.contains k with
   | true =>
     obtain⟨_,h⟩:=(wpG_fa h1).1 h
     exact(wpG_fa h1).2 ⟨rfl,fun w0 hw0=>wpOp_mono (fun a1 w1 hh w' hg' hkp ho=>hh w' (hg.trans (hg'.mono hg.size)) hkp ho) (h w0 hw0)⟩
   | false =>
     cases h2:plain P ops k with
     | true =>
       obtain⟨v,hy,hm,_,hK⟩:=plain_step hA hk h2 h1 hl hs hS hbd h
       have hL:l.any (fun x=>fa.contains x)=true:=by rw[List.any_cons,h1,Bool.false_or] at h0;exact h0
       exact wpG_of_yl hk h2 h1 (hS.more (more_grown hg)) (hm w2 (more_grown hg)) (wpG_grow hA l iv _ w w2 (fun x hx=>hl x (by simp[hx])) (List.pairwise_cons.1 hs).2 hS (fun _=>hbd h0) hg hL hK)
     | false =>
       obtain⟨_,h⟩:=(wpG_wild h0 h1 h2).1 h
       exact(wpG_wild h0 h1 h2).2 ⟨rfl,fun w' hg' => h w' (hg.trans (hg'.mono hg.size))⟩
/-! ### Any order -/
theorem any_of_F (hA:OkF P ops fl fa m):∀ (fuel:Nat) (l:List Nat) (listed:Array Bool) (iv:List (Nat × Nat)) (a:Act) (w:World),l.length=fuel->listed.size=ops.size->Closed ops listed->
 l.Pairwise (· < ·)->(∀ x,x∈l↔x<ops.size/\listed.getD x false=false)->((∃ x∈l,x<m)->Same B wS w)->(l.any (fun x=>fa.contains x)=true->Bd st iv w)->wpG P ops (EndsN P ops B wS fl Q) (Same B wS) m fa st l iv w a w->wpAny P .any ops (EndsN P ops B wS fl Q) fuel listed a w
 | 0,l,listed,iv,a,w,hlen,hsz,hcl,hs,hm,_,_,h => by
   have hl0:l=[]:=List.eq_nil_of_length_eq_zero hlen
   subst hl0
   refine⟨?_,h.2⟩
   refine List.eq_nil_iff_forall_not_mem.2 fun j hj=>?_
   obtain⟨h0,o,ho,_⟩:=mem_ready.1 hj
   have hjl:j<ops.size:=(Array.getElem?_eq_some_iff.1 ho).1
   have:=(hm j).2 ⟨hjl,getD_both h0⟩
   cases this
 | fuel + 1,l,listed,iv,a,w,hlen,hsz,hcl,hs,hm,hSl,hbd,h => by
   have both:∀ x,x<ops.size->listed.getD x false=false->listed.getD x true=false:=fun x hx hf=>getD_in (by omega) hf
   refine⟨fun hr=>?_,fun i hi=>?_⟩
   ·exfalso
    cases l with
    | nil=>cases hlen
    | cons k l =>
      have hm0:=(hm k).1 (by simp)
      obtain⟨o,ho⟩:∃ o,ops[k]? = some o:=⟨_,Array.getElem?_eq_getElem hm0.1⟩
      have:k∈Region.ready .any ops listed:=mem_ready.2 ⟨both k hm0.1 hm0.2,o,ho,fun e he hb=>by
       have hlt:=hA.top k o ho e he hb
       cases hx:listed.getD e.on false with
       | true=>rfl
       | false =>
         have hin:=(hm e.on).2 ⟨by omega,hx⟩
         rcases List.mem_cons.1 hin with h1 | h1
         ·omega
         ·have:=(List.pairwise_cons.1 hs).1 _ h1
          omega⟩
      rw[hr] at this
      cases this
   ·obtain⟨hun,oi,hoi,hall⟩:=mem_ready.1 hi
    have hil:i<ops.size:=(Array.getElem?_eq_some_iff.1 hoi).1
    have hin:i∈l:=(hm i).2 ⟨hil,getD_both hun⟩
    obtain⟨ks,rest,rfl⟩:=List.append_of_mem hin
    have hpw:=List.pairwise_append.1 hs
    have hlt:∀ x∈ks++i::rest,x<ops.size:=fun x hx=>((hm x).1 hx).1
    have hks:∀ k∈ks,i<m/\okPairF P ops fl fa k i=true:=fun k hk=>by
     have hki:k<i:=hpw.2.2 k hk i (by simp)
     rcases hA.pair i k hil hki with hw | hp
     ·have:=waits_listed hcl ops.size i k oi hoi hall hw
      have hk2:=((hm k).1 (by simp[hk])).2
      rw[hk2] at this
      cases this
     ·exact hp
    have hfr:wpOp P ops (EndsN P ops B wS fl Q) i (fun a' w' => (i<m->Same B wS w')/\∃ iv',((ks++rest).any (fun x=>fa.contains x)=true->Bd st iv' w')/\wpG P ops (EndsN P ops B wS fl Q) (Same B wS) m fa st (ks++rest) iv' w' a' w') a w:=by
     cases h0:(ks++i::rest).any (fun x=>fa.contains x) with
     | false =>
       obtain⟨_,h⟩:=(wpG_none h0).1 h
       have hn:(ks++rest).any (fun x=>fa.contains x)=false:=any_sub (fun x hx=>by simp at hx ⊢;rcases hx with h | h <;> simp[h]) h0
       have h4:wpS P ops (EndsN P ops B wS fl Q) (Same B wS) m (i::(ks++rest)) a w:=by
        cases ks with
        | nil=>exact h
        | cons k ks =>
          have him:=(hks k (by simp)).1
          exact frontS hA him (any_not h0 i (by simp)) (k::ks) a w (fun x hx=>any_not h0 x (by simp at hx ⊢;rcases hx with h | h <;> simp[h])) (hSl ⟨i,hin,him⟩) hlt hs (fun x hx=>(hks x hx).2) h
       exact wpOp_mono (fun a1 w1 hh=>⟨hh.1,iv,(fun hx=>by rw[hn] at hx;cases hx),(wpG_none hn).2 ⟨rfl,hh.2⟩⟩) (show wpOp P ops _ i (fun a' w' => (i<m->Same B wS w')/\wpS P ops (EndsN P ops B wS fl Q) (Same B wS) m (ks++rest) a' w') a w from h4)
     | true =>
       have hbd0:=hbd h0
       have hmem:∃ x∈ks++i::rest,x<m:=by
        obtain⟨x,hx,hxf⟩:=List.any_eq_true.1 h0
        exact⟨x,hx,(hA.float x hxf).1⟩
       have hS:=hSl hmem
       cases hif:fa.contains i with
       | true =>
         obtain⟨v,w1,hy⟩:=wpG_yields hA hoi hif ks iv w a w hlt (fun k hk=>(hks k hk).2) hbd0 h w hbd0.1
         have hg:=hy.below2 ((hA.float i hif).2 oi hoi)
         refine Yl.mk hoi hy ⟨fun _=>hS.more (more_grown hg),(w.heap.size,w1.heap.size)::iv,fun _=>hbd0.push hg.size,?_⟩
         have grow:wpG P ops (EndsN P ops B wS fl Q) (Same B wS) m fa st (ks++i::rest) iv w1 a w1:=wpG_grow hA (ks++i::rest) iv a w w1 hlt hs hS (fun _=>hbd0) hg h0 h
         exact early hA hoi hif hbd0.1 ks iv a w1 hlt hs (fun k hk=>(hks k hk).2) (hS.more (more_grown hg)) ⟨Nat.le_trans hbd0.1 hg.size,fun x hx=>Nat.le_trans (hbd0.2 x hx) hg.size⟩ hy (Kept.refl _ _) hbd0.off grow
       | false =>
         cases hip:plain P ops i with
         | true =>
           obtain⟨v,hy,_,hK⟩:=frontP hA hoi hip hif ks iv a w hlt hs hks hS hbd h
           exact Yl.mk hoi hy ⟨fun _=>hS,iv,fun _=>hbd0,hK⟩
         | false =>
           have hrest:rest.any (fun x=>fa.contains x)=true:=by
            have hkn:∀ k∈ks,fa.contains k=false:=fun k hk=>by
             obtain⟨ok,hok⟩:∃ o,ops[k]? = some o:=⟨_,Array.getElem?_eq_getElem (hlt k (by simp[hk]))⟩
             have hpk:=(hks k hk).2
             have hkd:¬ (kind P oi=0)/\¬ (kind P oi=1):=by simpa [plain,hoi] using hip
             cases hfk:fa.contains k with
             | false=>rfl
             | true =>
               simp only[okPairF,hok,hoi,hif,if_false,Bool.false_eq_true,Bool.and_eq_true,Bool.or_eq_true,beq_iff_eq,List.contains_iff_mem,hkd.1,hkd.2,or_false,false_and,and_false,false_or] at hpk
               have:=hpk.2
               rw[if_pos (by simpa using hfk)] at this
               simp[hkd.1,hkd.2] at this
            obtain⟨x,hx,hxf⟩:=List.any_eq_true.1 h0
            refine List.any_eq_true.2 ⟨x,?_,hxf⟩
            rcases List.mem_append.1 hx with h1 | h1
            ·rw[hkn x h1] at hxf;cases hxf
            ·rcases List.mem_cons.1 h1 with rfl | h1
             ·rw[hif] at hxf;cases hxf
             ·exact h1
           refine wpOp_mono (fun a1 w1 hh=>⟨fun _=>hh.1,_,fun _=>hbd0.push hh.2.1.size,hh.2.2⟩) (frontW hA hoi hip hif hrest ks iv a w hlt hs (fun k hk=>(hks k hk).2) hS hbd0 h)
    refine wpOp_mono (fun a' w' hh=>?_) hfr
    obtain⟨hS',iv',hb',hK⟩:=hh
    refine any_of_F hA fuel (ks++rest) _ iv' a' w' (by simp at hlen ⊢;omega) (by simp[hsz]) ?_ ?_ ?_ ?_ hb' hK
    ·intro j o ho hl e he hb
     by_cases hij:i=j
     ·subst hij
      have:o=oi:=Option.some.inj (ho.symm.trans hoi)
      subst this
      exact getD_set_true (hall e he hb)
     ·refine getD_set_true (hcl j o ho ?_ e he hb)
      rw[getD_set_ne false (by exact hij)] at hl
      exact hl
    ·exact List.pairwise_append.2 ⟨hpw.1,(List.pairwise_cons.1 hpw.2.1).2,fun x hx y hy=>hpw.2.2 x hx y (by simp[hy])⟩
    ·intro x
     have hx:=hm x
     have hne:x∈ks++rest->i≠x:=by
      intro hxm e
      subst e
      rcases List.mem_append.1 hxm with h1 | h1
      ·have:=hpw.2.2 i h1 i (by simp)
       omega
      ·have:=(List.pairwise_cons.1 hpw.2.1).1 i h1
       omega
     constructor
     ·intro hxm
      have h1:=hx.1 (by simp at hxm ⊢;rcases hxm with h | h <;> simp[h])
      exact⟨h1.1,by rw[getD_set_ne false (hne hxm)];exact h1.2⟩
     ·rintro⟨h1,h2⟩
      by_cases hix:i=x
      ·subst hix
       simp[hsz,h1] at h2
      ·rw[getD_set_ne false hix] at h2
       have:=hx.2 ⟨h1,h2⟩
       simp at this ⊢
       rcases this with h | h | h
       ·exact .inl h
       ·exact absurd h.symm hix
       ·exact .inr h
    ·rintro⟨x,hx,hxm⟩
     refine hS' ?_
     rcases List.mem_append.1 hx with h1 | h1
     ·exact(hks x h1).1
     ·have:=(List.pairwise_cons.1 hpw.2.1).1 x h1
      omega
/-! ### The walk in pieces -/
theorem upS (hA:OkF P ops fl fa m):∀ (l:List Nat) (a:Act) (w:World),(∀ x∈l,x<ops.size)->l.Pairwise (· < ·)->((∃ x∈l,x<m)->Same B wS w)->
 wpC P ops (EndsN P ops B wS fl Q) (Same B wS) m l a w->wpS P ops (EndsN P ops B wS fl Q) (Same B wS) m l a w
 | [],_,_,_,_,_,h=>h
 | i :: l,a,w,hl,hs,hS,h => by
   have h0:=wpC_ops _ _ _ h
   have hs' :=List.pairwise_cons.1 hs
   obtain⟨o,hi⟩:∃ o,ops[i]? = some o:=⟨_,Array.getElem?_eq_getElem (hl i (by simp))⟩
   have h:wpOp P ops (EndsN P ops B wS fl Q) i (fun a' w' => (i<m->wild P ops i=true->Same B wS w')/\wpC P ops (EndsN P ops B wS fl Q) (Same B wS) m l a' w') a w:=h
   show wpOp P ops (EndsN P ops B wS fl Q) i (fun a' w' => (i<m->Same B wS w')/\wpS P ops (EndsN P ops B wS fl Q) (Same B wS) m l a' w') a w
   have rec_:∀ a' w',(i<m->Same B wS w')->wpC P ops (EndsN P ops B wS fl Q) (Same B wS) m l a' w' -> wpS P ops (EndsN P ops B wS fl Q) (Same B wS) m l a' w' :=fun a' w' hS' hh=>
    upS hA l a' w' (fun x hx=>hl x (by simp[hx])) hs'.2 (fun⟨x,hx,hxm⟩=>hS' (by have:=hs'.1 x hx;omega)) hh
   by_cases him:i<m
   ·have hSw:=hS ⟨i,by simp,him⟩
    by_cases hwd:wild P ops i=true
    ·exact wpOp_mono (fun a' w' hh=>⟨fun hm=>hh.1 hm hwd,rec_ a' w' (fun hm=>hh.1 hm hwd) hh.2⟩) h
    ·have hn : Region.wanted o (yielded ops a.tmps) = true → News P (execOp a.eval o) :=by
      simp only[wild,hi,Bool.and_eq_true,bne_iff_ne,ne_eq,not_and,Classical.not_not] at hwd
      intro hw
      by_cases h0k:kind P o=0
      ·have h0g:wpOps P ops (Ends P ops (fun _ a w=>allIn B wS ops a fl/\Q .normal a w)) (i::l) a w:=wpOps_post (fun e a w he=>ends_of_endsN he) _ _ _ h0
       exact(good_here hl h0g hi h0k (fun hn x hx o' ho' t ht=>hA.keep i o hi (.inl hn) x (by
        rcases List.mem_cons.1 hx with h | h
        ·omega
        ·have:=hs'.1 x h;omega) o' ho' t ht) hw).news
      ·by_cases h1k:kind P o=1
       ·exact(reads_of h1k).news
       ·exact news_of (hwd ⟨h0k,h1k⟩)
     obtain⟨v,w',hy,hc,hh⟩:=yl_of EndsN.noExit hi hn h
     have hSw' : Same B wS w' :=hSw.more (hy.more hn)
     exact Yl.mk hi hy ⟨fun _=>hSw',rec_ _ _ (fun _=>hSw') hh⟩
   ·exact wpOp_mono (fun a' w' hh=>⟨fun hm=>absurd hm him,rec_ a' w' (fun hm=>absurd hm him) hh.2⟩) h
end
inductive Pc where
 | pure (n:Nat)
 | call
 | new
def PEnd (w:World) (K:Act->Prop):Exit->Act->World->Prop:=fun e a1 w1=>e=.normal/\w1=w/\K a1
def CEnd (S:World->Prop) (st:Nat) (w' : World) (K:Act->World->Prop):Exit->Act->World->Prop:=fun e a1 w1=>e=.normal/\S w1/\Kept st w' w1/\K a1 w1
def NEnd (w w0:World) (iv:List (Nat × Nat)) (K:Act->World->World->Prop):Exit->Act->World->Prop:=fun e a1 w1=>e=.normal/\∀ w',Grown w w' -> Kept w0.heap.size w1 w' -> Off iv w0.heap.size w1.heap.size->K a1 w1 w'
theorem PEnd.intro {w:World} {K:Act->Prop} {a:Act} (h:K a):PEnd w K .normal a w:=⟨rfl,rfl,h⟩
theorem CEnd.intro {S:World->Prop} {st:Nat} {w' : World} {K:Act->World->Prop} {a:Act} {w:World} (hS:S w) (hk:Kept st w' w) (h:K a w):CEnd S st w' K .normal a w:=⟨rfl,hS,hk,h⟩
theorem NEnd.intro {w w0 w1:World} {iv:List (Nat × Nat)} {K:Act->World->World->Prop} {a:Act} (h:∀ w',Grown w w' -> Kept w0.heap.size w1 w' -> Off iv w0.heap.size w1.heap.size->K a w1 w'):NEnd w w0 iv K .normal a w1:=⟨rfl,h⟩
def wpHav (P:Program) (ops:Array Oper) (Q:Exit->Act->World->Prop) (S:World->Prop) (st:Nat) (cs:List Nat):List Pc->List Oper->List (Nat × Nat)->Act->World->Prop
 | [],l,_,a,w=>wpCuts P ops Q S cs l a w
 | .pure n::ps,l,iv,a,w=>wpList P ops (PEnd w (fun a1=>wpHav P ops Q S st cs ps (l.drop n) iv a1 w)) (l.take n) a w
 | .call::ps,l,iv,a,w=>∀ w',Grown w w' -> wpList P ops (CEnd S st w' (fun a1 w1=>wpHav P ops Q S st cs ps (l.drop 1) ((w'.heap.size,w1.heap.size)::iv) a1 w1)) (l.take 1) a w'
 | .new::ps,l,iv,a,w=>∀ w0,st<=w0.heap.size->wpList P ops (NEnd w w0 iv (fun a1 w1 w' => wpHav P ops Q S st cs ps (l.drop 1) ((w0.heap.size,w1.heap.size)::iv) a1 w')) (l.take 1) a w0
def havOK (P:Program) (ops:Array Oper) (m:Nat) (fa:List Nat) (cs:List Nat):List Pc->Nat->Nat->Bool
 | [],n,k => !((List.range' k n).any fun x=>fa.contains x)&&cutOK P ops m cs n k
 | .pure c::ps,n,k=>decide (c<=n)&&((List.range c).all fun j=>plain P ops (k+j) && !fa.contains (k+j))&&((List.range' (k+c) (n - c)).any fun x=>fa.contains x)&&havOK P ops m fa cs ps (n - c) (k+c)
 | .call::ps,n,k=>decide (0<n) && !plain P ops k && !fa.contains k&&((List.range' k n).any fun x=>fa.contains x)&&havOK P ops m fa cs ps (n - 1) (k+1)
 | .new::ps,n,k=>decide (0<n)&&fa.contains k&&havOK P ops m fa cs ps (n - 1) (k+1)
theorem pure_spec {S:World->Prop} {m:Nat} {fa:List Nat} {st:Nat} {iv:List (Nat × Nat)} {wr:World} {K:Act->Prop} {L:List Nat} (hL:L.any (fun x=>fa.contains x)=true) (hK:∀ a,K a->wpG P ops Q S m fa st L iv wr a wr):∀ (l:List Oper) (k:Nat) (a:Act) (w:World),w=wr\/l≠[]->(∀ j,j<l.length->l[j]? = ops[k+j]?)->((List.range l.length).all fun j=>plain P ops (k+j) && !fa.contains (k+j))=true->
 wpList P ops (fun e a1 w1=>e=.normal/\w1=wr/\K a1) l a w->wpG P ops Q S m fa st (List.range' k l.length++L) iv wr a w
 | [],k,a,w,_,_,_,h => by
   obtain⟨_,rfl,h⟩:=(h:(_:Exit)=.normal/\_/\K a)
   exact hK a h
 | o :: l,k,a,w,_,hl,hw,h => by
   have h0:ops[k]? = some o:=by simpa using (hl 0 (by simp)).symm
   have hNE:NoExit (fun(e:Exit) (a1:Act) (w1:World)=>e=.normal/\w1=wr/\K a1):=fun _ _ _ he h=>he h.1
   have hh:=wpOp_exits (Q2:=Q) hNE (wpList_op h0 h)
   simp only[List.all_eq_true,List.mem_range,List.length_cons,Bool.and_eq_true,Bool.not_eq_true'] at hw
   have hk:=hw 0 (by omega)
   simp only[Nat.add_zero] at hk
   rw[List.length_cons,List.range'_succ,List.cons_append]
   refine(wpG_plain (by simp only[List.any_cons,List.any_append,hL,Bool.or_true]) hk.2 hk.1).2 (wpOp_mono (fun a1 w1 h1=>?_) hh)
   refine pure_spec hL hK l (k+1) a1 w1 ?_ (fun j hj=>?_) ?_ h1
   ·cases l with
    | nil=>exact .inl h1.2.1
    | cons _ _=>exact .inr (by simp)
   ·have:=hl (j+1) (by simp;omega)
    simpa [Nat.add_assoc,Nat.add_comm 1 j] using this
   ·simp only[List.all_eq_true,List.mem_range,Bool.and_eq_true,Bool.not_eq_true']
    intro j hj
    have:=hw (j+1) (by omega)
    rwa [show k+(j+1)=k+1+j from by omega] at this
section
variable {B:Nat->Prop} {wS:World} {fl fa:List Nat} {m st:Nat}
theorem hav_spec (hA:OkF P ops fl fa m) {cs:List Nat} : ∀ (ps:List Pc) (l:List Oper) (k:Nat) (iv:List (Nat × Nat)) (a:Act) (w:World),(∀ j,j<l.length->l[j]? = ops[k+j]?)->(k+l.length=ops.size)->Same B wS w->havOK P ops m fa cs ps l.length k=true->
 wpHav P ops (EndsN P ops B wS fl Q) (Same B wS) st cs ps l iv a w->wpG P ops (EndsN P ops B wS fl Q) (Same B wS) m fa st (List.range' k l.length) iv w a w
 | [],l,k,iv,a,w,hl,hsz,hS,hc,h => by
   simp only[havOK,Bool.and_eq_true,Bool.not_eq_true'] at hc
   refine(wpG_none hc.1).2 ⟨rfl,upS hA _ a w (fun x hx=>?_) List.pairwise_lt_range' (fun _=>hS) (cuts_spec cs l k a w hl hc.2 h)⟩
   have:=List.mem_range'_1.1 hx
   omega
 | .pure c :: ps,l,k,iv,a,w,hl,hsz,hS,hc,h => by
   simp only[havOK,Bool.and_eq_true,decide_eq_true_eq] at hc
   obtain⟨⟨⟨h1,h2⟩,h3⟩,h4⟩:=hc
   have hlen:(l.take c).length=c:=by simp;omega
   have hr:List.range' k l.length=List.range' k (l.take c).length++List.range' (k+c) (l.drop c).length:=by
    rw[hlen,List.length_drop,List.range'_append_1,show c+(l.length - c)=l.length from by omega]
   rw[hr]
   refine pure_spec (K:=fun a1=>wpHav P ops (EndsN P ops B wS fl Q) (Same B wS) st cs ps (l.drop c) iv a1 w) (by rw[List.length_drop];exact h3) (fun a1 hk=>hav_spec hA ps (l.drop c) (k+c) iv a1 w (fun j hj=>?_) (by rw[List.length_drop];omega) hS (by rw[List.length_drop];exact h4) hk) (l.take c) k a w (.inl rfl) (fun j hj=>?_) (by rw[hlen];exact h2) h
   ·rw[List.getElem?_drop,hl (c+j) (by simp at hj;omega),Nat.add_assoc]
   ·rw[List.getElem?_take,if_pos (by omega),hl j (by simp at hj;omega)]
 | .call :: ps,l,k,iv,a,w,hl,hsz,hS,hc,h => by
   simp only[havOK,Bool.and_eq_true,decide_eq_true_eq,Bool.not_eq_true'] at hc
   obtain⟨⟨⟨⟨h1,h2⟩,h3⟩,h4⟩,h5⟩:=hc
   cases l with
   | nil=>simp at h1
   | cons o l =>
     have h0:ops[k]? = some o:=by simpa using (hl 0 (by simp)).symm
     rw[List.length_cons,List.range'_succ] at h4 ⊢
     refine(wpG_wild h4 h3 h2).2 ⟨rfl,fun w' hg=>?_⟩
     have hNE:NoExit (fun(e:Exit) (a1:Act) (w1:World)=>e=.normal/\Same B wS w1/\Kept st w' w1/\wpHav P ops (EndsN P ops B wS fl Q) (Same B wS) st cs ps l ((w'.heap.size,w1.heap.size)::iv) a1 w1):=fun _ _ _ he h=>he h.1
     refine wpOp_mono (fun a1 w1 hh=>?_) (wpOp_exits (Q2:=EndsN P ops B wS fl Q) hNE (wpList_op h0 (l:=[]) (h w' hg)))
     obtain⟨_,hS1,hk,hK⟩:=(hh:(_:Exit)=.normal/\_)
     refine⟨hS1,hk,hav_spec hA ps l (k+1) _ a1 w1 (fun j hj=>?_) (by simp at hsz;omega) hS1 (by simpa using h5) hK⟩
     have:=hl (j+1) (by simp;omega)
     simpa [Nat.add_assoc,Nat.add_comm 1 j] using this
 | .new :: ps,l,k,iv,a,w,hl,hsz,hS,hc,h => by
   simp only[havOK,Bool.and_eq_true,decide_eq_true_eq] at hc
   obtain⟨⟨h1,h3⟩,h5⟩:=hc
   cases l with
   | nil=>simp at h1
   | cons o l =>
     have h0:ops[k]? = some o:=by simpa using (hl 0 (by simp)).symm
     rw[List.length_cons,List.range'_succ]
     refine(wpG_fa h3).2 ⟨rfl,fun w0 hw0=>?_⟩
     have hNE:NoExit (fun(e:Exit) (a1:Act) (w1:World)=>e=.normal/\∀ w',Grown w w' -> Kept w0.heap.size w1 w' -> Off iv w0.heap.size w1.heap.size->wpHav P ops (EndsN P ops B wS fl Q) (Same B wS) st cs ps l ((w0.heap.size,w1.heap.size)::iv) a1 w'):=fun _ _ _ he h=>he h.1
     refine wpOp_mono (fun a1 w1 hh w' hg hk ho=>?_) (wpOp_exits (Q2:=EndsN P ops B wS fl Q) hNE (wpList_op h0 (l:=[]) (h w0 hw0)))
     obtain⟨_,hK⟩:=(hh:(_:Exit)=.normal/\_)
     refine hav_spec hA ps l (k+1) _ a1 w' (fun j hj=>?_) (by simp at hsz;omega) (hS.more (more_grown hg)) (by simpa using h5) (hK w' hg hk ho)
     have:=hl (j+1) (by simp;omega)
     simpa [Nat.add_assoc,Nat.add_comm 1 j] using this
end
theorem any_hav {l:List Oper} {a:Act} {w:World} (B:Nat->Prop) (fl fa:List Nat) (m:Nat) (ps:List Pc) (cs:List Nat) (hA:okAllF P l.toArray fl fa m=true) (hC:havOK P l.toArray m fa cs ps l.length 0=true)
 (h:wpHav P l.toArray (EndsN P l.toArray B w fl Q) (Same B w) w.heap.size cs ps l [] a w):wpAny P .any l.toArray (EndsN P l.toArray B w fl Q) l.toArray.size (Array.replicate l.toArray.size false) a w:=by
 refine any_of_F (okAllF_spec hA) (st:=w.heap.size) l.toArray.size (List.range l.toArray.size) _ [] a _ (by simp) (by simp) ?_ List.pairwise_lt_range (fun x=>by
  constructor
  ·intro hx
   have:=List.mem_range.1 hx
   exact⟨this,by simp only[Array.getD_eq_getD_getElem?];simp at this ⊢;simp[this]⟩
  ·exact fun hx=>List.mem_range.2 hx.1) (fun _=>Same.refl _ _) (fun _=>⟨Nat.le_refl _,fun _ hx=>by cases hx⟩) ?_
 ·intro j o ho hl
  rw[getD_replicate_false] at hl
  cases hl
 ·rw[List.range_eq_range',show l.toArray.size=l.length from by simp]
  exact hav_spec (okAllF_spec hA) ps l 0 [] a w (by simp) (by simp) (Same.refl _ _) hC h
theorem wp_region_hav {id:Nat} {l:List Oper} {a:Act} {w:World} (B:Nat->Prop) (fl fa:List Nat) (m:Nat) (ps:List Pc) (cs:List Nat) (hm:P.follows .mixedOrders=true) (hA:okAllF P l.toArray fl fa m=true) (hC:havOK P l.toArray m fa cs ps l.length 0=true)
 (h:wpHav P l.toArray (EndsN P l.toArray B w.drew fl Q) (Same B w.drew) w.drew.heap.size cs ps l [] a w.drew):(Code.region id l.toArray true).wp P Q a w:=
 Code.wp_mono (Q:=EndsN P l.toArray B w.drew fl Q) (fun e a' w' he=>by obtain⟨rfl,_,_,h⟩:=he;exact h) (wp_region_any hm (any_hav B fl fa m ps cs hA hC h))
end
end Lex
end
section
open Go Go.RowKit Go.Maps
def BallotPost (w:World) (a:Own.Approval):Ending->World->Prop:=fun e w' => ∃ cv pv,e=.returned (.agg #[.string a.name,.int .i64 a.sig.index,cv,pv])/\w'.ownsRow w.heap.size 9 1 cv 67 (a.sig.chains.map Value.string)/\w'.ownsRow w.heap.size 9 1 pv 1 (a.sig.path.map Value.string)/\Below w.heap.size w w'
theorem info_Approval:(Tryz.prog.info? 43).map (·.size)=some 4:=by kernel_rfl
theorem field_mem (W:World) (a b:ByteArray):(Instr.field 73 (.agg #[.string a,.string b]) 0).run Tryz.prog W=.ok (.string a) W:=by kernel_rfl
theorem law54ballot_any (b i:Nat) (p:Own.Proposal) (ag:Bool) (v:Value) (w:World) (hb:b<256) (hi:i<2) (h0:0<=p.id) (h1:p.id<9223372036854775808) (h2:p.path.size<=1000000) (h3:p.digest.size<=1000000):
 Calls Tryz.prog 35 #[.int .u8 b,.int .i64 i,.agg #[.int .i64 p.id,.string p.path,.string p.digest,.int .i64 p.opened,.int .i64 p.expires,v],.bool ag] w (BallotPost w (Own.ballot54 b i p ag)):=by
 have hk:=fun W=>law54key_any b W hb
 have hm:=fun W=>law54member_any b W hb
 have hms:=fun W=>rvMessage_any p ag v W h0 h1 h2 h3
 have hzm:(Own.messageOf p ag).size<=140737488350000:=by
  have e1:=Cod.uns_le p.id.toNat;have e2:=Cod.uns_le p.path.size;have e3:=Cod.uns_le p.digest.size
  unfold Own.messageOf Cod.text
  simp only[ByteArray.size_append]
  have:(Sig.b1 (if ag then 13 else 14)).size=1:=rfl
  omega
 have hsg:=fun W=>r47Sign_any (Lane.seedB b) (Own.messageOf p ag) i W (seedB_size b) hi hzm
 obtain⟨R,hR⟩:∃ R,R=Own.ballot54 b i p ag:=⟨_,rfl⟩
 rw[<- hR]
 unfold Own.ballot54 at hR
 generalize Own.messageOf p ag=MG at*
 generalize Lane.seedB b=S at*
 generalize Own.mem54 b=m at*
 have HK:=zh hk;have HM:=zh hm;have HMS:=zh hms;have HSG:=zh hsg;have HR:=zh hR
 clear hk hm hms hsg hR hzm
 obtain⟨pid,ppa,pdi,pop,pex,pvs⟩:=p
 dsimp only at HMS ⊢
 have F1:=zh (show Boxes w ((w.alloc (.cells #[.int .i64 pid,.string ppa,.string pdi,.int .i64 pop,.int .i64 pex,v] 46)).alloc (.cells #[.string ⟨#[]⟩,.int .i64 0,.slice none 0 0,.slice none 0 0] 43)) [(46,#[.int .i64 pid,.string ppa,.string pdi,.int .i64 pop,.int .i64 pex,v]),(43,#[.string ⟨#[]⟩,.int .i64 0,.slice none 0 0,.slice none 0 0])] from(((Fresh.nil w).push 46 #[.int .i64 pid,.string ppa,.string pdi,.int .i64 pop,.int .i64 pex,v]).push 43 #[.string ⟨#[]⟩,.int .i64 0,.slice none 0 0,.slice none 0 0]).boxes)
 have hz:((w.alloc (.cells #[.int .i64 pid,.string ppa,.string pdi,.int .i64 pop,.int .i64 pex,v] 46)).alloc (.cells #[.string ⟨#[]⟩,.int .i64 0,.slice none 0 0,.slice none 0 0] 43)).heap.size=w.heap.size+2:=by simp
 have HZ:=zh hz;clear hz
 go_enter Tryz.func35,Tryz.ntmps35
 go_wp2_with fail
 generalize ((w.alloc (.cells #[.int .i64 pid,.string ppa,.string pdi,.int .i64 pop,.int .i64 pex,v] 46)).alloc (.cells #[.string ⟨#[]⟩,.int .i64 0,.slice none 0 0,.slice none 0 0] 43))=w1 at*
 refine(HK.out _).mono ?_
 rintro e w2 ⟨rfl,hb2⟩
 have hz2:w.heap.size+2<=w2.heap.size:=by have:=HZ.out;have:=hb2.size;omega
 have F2:=zh (F1.out.step hb2);have HZ2:=zh hz2
 clear hb2 hz2
 go_upto_region 3 with fail
 have hb3:Below w2.heap.size w2 (w2.alloc (.cells #[.string S,.int .i64 1,.int .i64 i] 113)):=(Below.refl _ _).alloc (Nat.le_refl _) _
 have hk3:=At.new w2 113 #[.string S,.int .i64 1,.int .i64 i]
 have F3:=zh (F2.out.step hb3);have K3:=zh hk3
 have hz3:w2.heap.size+1=(w2.alloc (.cells #[.string S,.int .i64 1,.int .i64 i] 113)).heap.size:=by simp
 have HZ3:=zh hz3
 clear hb3 hk3 hz3 F1 F2
 generalize w2.alloc (.cells #[.string S,.int .i64 1,.int .i64 i] 113)=w3 at*
 have K0:=zh (show w2.heap.size<w3.heap.size by have:=HZ3.out;omega)
 obtain⟨hk0,hk1,hk2⟩:=K3.out.c3
 obtain⟨x00,x01,x02,x03,x04,x05⟩:=F3.out.d0_6 rfl
 have hlw:w.heap.size<w3.heap.size:=F3.out.lt (i:=0) (by show 0<2;omega)
 have hlk:=K0.out
 have Y0:=zh (show(w3.drew.cell? ⟨w2.heap.size,0,none⟩).isSome=true from(congrArg Option.isSome hk0).trans rfl)
 have Y1:=zh (show(w3.drew.cell? ⟨w2.heap.size,1,none⟩).isSome=true from(congrArg Option.isSome hk1).trans rfl)
 have Y2:=zh (show(w3.drew.cell? ⟨w2.heap.size,2,none⟩).isSome=true from(congrArg Option.isSome hk2).trans rfl)
 go_cut [10,12] (fun v10 v12 wx=>∃ g cv pv,v10=.pointer (some ⟨g,0,none⟩)/\v12=.int .i64 0/\At wx g 41 #[.int .i64 i,cv,pv]/\wx.ownsRow w3.heap.size 9 1 cv 67 ((Sig.signOf S i MG).chains.map Value.string)/\wx.ownsRow w3.heap.size 9 1 pv 1 ((Sig.signOf S i MG).path.map Value.string)/\w3.heap.size<=g/\Below w3.heap.size w3 wx)
 case first=>
  refine Lex.wp_region_hav (fun k=>k=w2.heap.size) [0] [9,10] 13 [.pure 3,.call,.call,.pure 4,.new,.new] [1,1] (by kernel_rfl) (by kernel_rfl) (by kernel_rfl) ?_
  simp only[Lex.wpHav,Lex.wpCuts,List.take_succ_cons,List.take_zero,List.drop_succ_cons,List.drop_zero]
  have bd:Below w3.heap.size w3 w3.drew:=(Below.refl _ _).drew
  have BD:=zh bd
  have zd:w3.drew.heap.size=w3.heap.size:=by rw[drew_heap]
  have ZD:=zh zd
  clear bd zd
  go_wp2_with fail
  refine Lex.PEnd.intro ?_
  intro w4 hg4
  have BE4:=zh (BD.out.trans (hg4.mono BD.out.size));have BX4:=zh hg4
  clear hg4 hk0 hk1 hk2
  (try clear x00);(try clear x01);(try clear x02);(try clear x03);(try clear x04);(try clear x05);(try clear x10f);(try clear x10);(try clear x11f);(try clear x11);(try clear x12f);(try clear x12);(try clear x13f);(try clear x13)
  go_wp2_with fail
  refine(HMS.out _).mono ?_
  rintro e w5 ⟨rfl,hb5⟩
  have BE5:=zh (BE4.out.trans (hb5.mono BE4.out.size));have BX5:=zh (BX4.out.trans (hb5.mono BX4.out.size));have BB:=zh hb5
  clear hb5
  go_wp2_with fail
  refine Lex.CEnd.intro (fun j hj hjl=>by rw[hj];exact BX5.out.block _ (by rw[<- hj];exact hjl)) (Lex.Kept.of_below BB.out) ?_
  intro w6 hg6
  have BE6:=zh (BE5.out.trans (hg6.mono BE5.out.size));have BX6:=zh (BX5.out.trans (hg6.mono BX5.out.size))
  clear hg6
  go_wp2_with fail
  refine(HSG.out _).mono ?_
  rintro e w7 ⟨cv,pv,rfl,hoc,hop,hb7⟩
  obtain⟨ca,cm,cc,rfl⟩:=own_slice hoc
  obtain⟨pa,pm,pc,rfl⟩:=own_slice hop
  have BE7:=zh (BE6.out.trans (hb7.mono BE6.out.size));have BX7:=zh (BX6.out.trans (hb7.mono BX6.out.size));have BB7:=zh hb7;have OC:=zh hoc;have OP:=zh hop
  clear hb7 hoc hop
  go_wp2_with fail
  refine Lex.CEnd.intro (fun j hj hjl=>by rw[hj];exact BX7.out.block _ (by rw[<- hj];exact hjl)) (Lex.Kept.of_below BB7.out) ?_
  go_wp2_with fail
  refine Lex.PEnd.intro ?_
  intro w8 hw8
  go_wp2_with fail
  refine Lex.NEnd.intro (fun w9 hg9 hk9 ho9=>?_)
  have hs9:=hk9.at_
  have hl8:w3.heap.size<=w8.heap.size:=by rw[<- ZD.out];exact hw8
  obtain⟨gs,hgs⟩:∃ g,g=w8.heap.size:=⟨_,rfl⟩
  rw[<- hgs] at hs9 hl8
  have BE9:=zh (BE7.out.trans (hg9.mono BE7.out.size));have BX9:=zh (BX7.out.trans (hg9.mono BX7.out.size));have OC9:=zh (own_below OC.out hg9);have OP9:=zh (own_below OP.out hg9);have GS9:=zh hs9
  rw[<- hgs]
  clear hg9 hk9 ho9 hs9 hgs hw8
  intro w10 hw10
  go_wp2_with fail
  refine Lex.NEnd.intro (fun w11 hg11 hk11 ho11=>?_)
  have hs11:=hk11.at_
  have hl10:w3.heap.size<=w10.heap.size:=by rw[<- ZD.out];exact hw10
  obtain⟨gk,hgk⟩:∃ g,g=w10.heap.size:=⟨_,rfl⟩
  rw[<- hgk] at hs11 hl10
  have BE11:=zh (BE9.out.trans (hg11.mono BE9.out.size));have BX11:=zh (BX9.out.trans (hg11.mono BX9.out.size));have OC11:=zh (own_below OC9.out hg11);have OP11:=zh (own_below OP9.out hg11);have GS11:=zh (GS9.out.below hg11 GS9.out.lt);have GK11:=zh hs11
  rw[<- hgk]
  clear hg11 hk11 ho11 hs11 hgk hw10
  have s0:=GS11.out.cell 0;have s1:=GS11.out.cell 1;have s2:=GS11.out.cell 2;have s3:=GS11.out.free 0;have s4:=GS11.out.free 1;have s5:=GS11.out.free 2
  simp only[List.getElem?_toArray,List.getElem?_cons_zero,List.getElem?_cons_succ] at s0 s1 s2
  have k0:=GK11.out.cell 0;have k1:=GK11.out.cell 1;have k2:=GK11.out.cell 2;have k3:=GK11.out.free 0;have k4:=GK11.out.free 1;have k5:=GK11.out.free 2
  simp only[List.getElem?_toArray,List.getElem?_cons_zero,List.getElem?_cons_succ] at k0 k1 k2
  have hne:gs≠gk:=GS11.out.ne GK11.out (by decide)
  have h36:=BE6.out.size
  have hlk3:=K0.out
  go_wp2_with fail
  refine Lex.Mid.intro (fun j hj hjl=>by
   have h3:j≠gs:=by omega
   rw[heap_setCell_other _ _ _ _ h3,heap_setCell_other _ _ _ _ h3,heap_setCell_other _ _ _ _ h3]
   exact BX11.out.block _ hjl) ?_
  have K3:=zh (GK11.out.far (p:=⟨gs,0,none⟩) hne.symm (.int .i64 i))
  go_wp2_with fail
  refine Lex.Mid.intro (fun j hj hjl=>by
   have h3:j≠gs:=by omega
   have h4:j≠gk:=by omega
   rw[heap_setCell_other _ _ _ _ h4,heap_setCell_other _ _ _ _ h4,heap_setCell_other _ _ _ _ h4,heap_setCell_other _ _ _ _ h3,heap_setCell_other _ _ _ _ h3,heap_setCell_other _ _ _ _ h3]
   exact BX11.out.block _ hjl) ?_
  go_wp2_with fail
  refine Lex.EndsN.intro (by kernel_rfl) ⟨⟨rfl,Y0.out⟩,trivial⟩ ?_
  go_wp2_with fail
  go_meet
  have e1:=GS11.out.own_ne OC11.out (by decide);have e2:=GS11.out.own_ne OP11.out (by decide);have e3:=GK11.out.own_ne OC11.out (by decide);have e4:=GK11.out.own_ne OP11.out (by decide)
  have keep:∀ k,k≠gs->k≠gk->((((((w11.setCell ⟨gs,0,none⟩ (.int .i64 i)).setCell ⟨gs,1,none⟩ (.slice ca cm cc)).setCell ⟨gs,2,none⟩ (.slice pa pm pc)).setCell ⟨gk,0,none⟩ (.string S)).setCell ⟨gk,1,none⟩ (.int .i64 1)).setCell ⟨gk,2,none⟩ (.int .i64 (i+1))).heap[k]? = w11.heap[k]? :=fun k h3 h4=>by
   rw[heap_setCell_other _ _ _ _ h4,heap_setCell_other _ _ _ _ h4,heap_setCell_other _ _ _ _ h4,heap_setCell_other _ _ _ _ h3,heap_setCell_other _ _ _ _ h3,heap_setCell_other _ _ _ _ h3]
  refine⟨gs,_,_,rfl,rfl,(((((GS11.out.set 0 _).set 1 _).set 2 _).far (p:=⟨gk,0,none⟩) (by simp;omega) _).far (p:=⟨gk,1,none⟩) (by simp;omega) _).far (p:=⟨gk,2,none⟩) (by simp;omega) _,?_,?_,hl8,?_⟩
  ·exact own_keep (own_base OC11.out h36) (fun k hk=>keep k (fun e=>e1 (by rw[hk,e])) (fun e=>e3 (by rw[hk,e])))
  ·exact own_keep (own_base OP11.out h36) (fun k hk=>keep k (fun e=>e2 (by rw[hk,e])) (fun e=>e4 (by rw[hk,e])))
  ·exact((((((BE11.out.setCell (p:=⟨gs,0,none⟩) hl8 _).setCell (p:=⟨gs,1,none⟩) hl8 _).setCell (p:=⟨gs,2,none⟩) hl8 _).setCell (p:=⟨gk,0,none⟩) hl10 _).setCell (p:=⟨gk,1,none⟩) hl10 _).setCell (p:=⟨gk,2,none⟩) hl10 _)
 obtain⟨g,cv,pv,rfl,rfl,hg,hoc,hop,hgl,hbx⟩:=hcut
 obtain⟨ca,cm,cc,rfl⟩:=own_slice hoc
 obtain⟨pa,pm,pc,rfl⟩:=own_slice hop
 have F4:=zh (F3.out.step hbx);have OC:=zh hoc;have OP:=zh hop;have HG:=zh hg
 clear hk0 hk1 hk2 hbx hoc hop hg Y0 Y1 Y2 K3
 (try clear x00);(try clear x01);(try clear x02);(try clear x03);(try clear x04);(try clear x05);(try clear x10f);(try clear x10);(try clear x11f);(try clear x11);(try clear x12f);(try clear x12);(try clear x13f);(try clear x13)
 obtain⟨g0,g1,g2⟩:=HG.out.c3
 have hglc:=HG.out.lt
 have HX:=zh (show(wc.cell? ⟨g,0,none⟩).isSome=true by rw[g0];rfl)
 go_wp2_with fail
 refine Lex.wp_region_lexN (fun k=>k=g) [3] 4 [2,1] (by kernel_rfl) (by kernel_rfl) (by kernel_rfl) ?_
 simp only[Lex.wpCuts,List.take_succ_cons,List.take_zero,List.drop_succ_cons,List.drop_zero]
 go_wp2_with fail
 refine(HM.out _).mono ?_
 rintro e w5 ⟨rfl,hb5⟩
 obtain⟨mn,mp⟩:=m
 have hb5' : Below wc.heap.size wc w5:=(Below.refl wc.heap.size wc).drew.trans hb5
 have hg5:=HG.out.below hb5' hglc
 have F5:=zh (F4.out.step hb5');have OC5:=zh (own_below OC.out hb5');have OP5:=zh (own_below OP.out hb5');have HB5:=zh hb5'
 clear hb5 hb5' g0 g1 g2
 obtain⟨g0,g1,g2⟩:=hg5.c3
 clear hg5
 obtain⟨x10,x11,x12,x13,x10f,x11f,x12f,x13f⟩:=F5.out.e1_4 rfl
 go_wp2_with fail
 refine Lex.Mid.intro (fun j hj _=>by rw[hj];exact HB5.out.block _ hglc) ?_
 go_wp2_with fail
 rw[field_mem]
 go_wp2_with fail
 refine Lex.Mid.intro (fun j hj _=>by rw[hj];exact HB5.out.block _ hglc) ?_
 go_wp2_with fail
 refine Lex.EndsN.intro (by kernel_rfl) ⟨⟨rfl,HX.out⟩,trivial⟩ ?_
 go_wp2_with fail
 have G2:=(((F5.out.put 1 0 (.string mn) rfl).put 1 1 (.int .i64 i) rfl).put 1 2 (.slice ca cm cc) rfl).put 1 3 (.slice pa pm pc) rfl
 refine done_c rfl rfl (load_row (G2.at1 1 rfl) Tryz.underlying43 rfl info_Approval) ?_
 have hx:(Sig.signOf S i MG).index=(i:Int):=by unfold Sig.signOf;rfl
 have h3:w.heap.size+2<=w3.heap.size:=F3.out.size
 have hup1:=own_up OC5.out;have hup2:=own_up OP5.out
 have keep:∀ k,w3.heap.size<=k->((((w5.setCell ⟨w.heap.size+1,0,none⟩ (.string mn)).setCell ⟨w.heap.size+1,1,none⟩ (.int .i64 i)).setCell ⟨w.heap.size+1,2,none⟩ (.slice ca cm cc)).setCell ⟨w.heap.size+1,3,none⟩ (.slice pa pm pc)).heap[k]? = w5.heap[k]? :=fun k hk=>by
  have h4:k≠w.heap.size+1:=by omega
  rw[heap_setCell_other _ _ _ _ h4,heap_setCell_other _ _ _ _ h4,heap_setCell_other _ _ _ _ h4,heap_setCell_other _ _ _ _ h4]
 rw[HR.out]
 refine⟨.slice ca cm cc,.slice pa pm pc,(show Ending.returned (.agg #[.string mn,.int .i64 i,.slice ca cm cc,.slice pa pm pc])=.returned (.agg #[.string mn,.int .i64 (Sig.signOf S i MG).index,.slice ca cm cc,.slice pa pm pc]) by rw[hx]),own_keep (own_base OC5.out (by omega)) (fun k hk=>keep k (hup1 k hk)),own_keep (own_base OP5.out (by omega)) (fun k hk=>keep k (hup2 k hk)),G2.under⟩
end
section
open Go Go.RowKit Go.Maps
namespace Own
def NoStr (w:World) (b:Nat):Prop:=∀ i s,w.cell? ⟨b,i,none⟩≠some (.string s)
theorem NoStr.at_ {w:World} {b:Nat} {t:TypeId} {cs:Array Value} (h:At w b t cs) (hn:cs.toList.all (fun v=>match v with | .string _=>false | _=>true)=true):NoStr w b:=fun i s e=>by
 rw[At.cell h i,<- Array.getElem?_toList] at e
 have:=List.all_eq_true.1 hn _ (List.mem_of_getElem? e)
 cases this
theorem off_gen {α : Type} {size:Nat} {R:Elem α} {F:Nat->Prop} {w:World} {v:Value} {l:List α} {b:Nat} (h:ListF size R F w v l) (hb:NoStr w b) (hs:∀ F cs x,R F w cs x->∃ (j:Nat) (s:ByteArray),cs[j]? = some (.string s))
 (hR:∀ F cs x,R F w cs x->R (fun k=>k≠b) w cs x):ListF size R (fun k=>k≠b) w v l:=by
 obtain⟨a,c,hv,hn | ⟨b',o,ha,hF,hl,hall⟩⟩:=h
 ·exact⟨a,c,hv,.inl hn⟩
 ·by_cases h0:l.length=0
  ·exact⟨a,c,hv,.inl h0⟩
  ·refine⟨a,c,hv,.inr ⟨b',o,ha,?_,hl,fun i hi=>?_⟩⟩
   ·rintro rfl
    obtain⟨cs,h1,h2,h3⟩:=hall 0 (by omega)
    obtain⟨j,s,hj⟩:=hs _ _ _ h3
    exact hb _ _ (h2 j _ hj)
   ·obtain⟨cs,h1,h2,h3⟩:=hall i hi
    exact⟨cs,h1,h2,hR _ _ _ h3⟩
section
variable {w:World} {v:Value} {b:Nat} {F:Nat->Prop}
theorem members_off {l:List Member} (h:ListF 2 RMember F w v l) (hb:NoStr w b):ListF 2 RMember (fun k=>k≠b) w v l:=
 off_gen h hb (fun F cs x (hx:cs=_)=>⟨0,x.name,by rw[hx];rfl⟩) (fun F cs x (hx:cs=_)=>hx)
theorem keys_off {l:List KeyUse} (h:ListF 2 RKey F w v l) (hb:NoStr w b):ListF 2 RKey (fun k=>k≠b) w v l:=
 off_gen h hb (fun F cs x (hx:cs=_)=>⟨0,x.pub,by rw[hx];rfl⟩) (fun F cs x (hx:cs=_)=>hx)
theorem votes_off {l:List Vote} (h:ListF 3 RVote F w v l) (hb:NoStr w b):ListF 3 RVote (fun k=>k≠b) w v l:=
 off_gen h hb (fun F cs x (hx:cs=_)=>⟨0,x.name,by rw[hx];rfl⟩) (fun F cs x (hx:cs=_)=>hx)
theorem spaces_off {l:List Space} (h:ListF 3 RSpace F w v l) (hb:NoStr w b):ListF 3 RSpace (fun k=>k≠b) w v l:=
 off_gen h hb (fun F cs x ⟨u,h1,_⟩=>⟨0,x.pre,by rw[h1];rfl⟩) (fun F cs x ⟨u,h1,h2⟩=>⟨u,h1,members_off h2 hb⟩)
theorem props_off {l:List Proposal} (h:ListF 6 RProp F w v l) (hb:NoStr w b):ListF 6 RProp (fun k=>k≠b) w v l:=
 off_gen h hb (fun F cs x ⟨u,h1,_⟩=>⟨1,x.path,by rw[h1];rfl⟩) (fun F cs x ⟨u,h1,h2⟩=>⟨u,h1,votes_off h2 hb⟩)
end
section
variable {w w' : World} {v:Value} {b:Nat}
theorem PropsC.store {l:List Proposal} (h:PropsC w v l) (hb:NoStr w b) (hs:w.heap.size<=w'.heap.size) (hk:∀ k,k≠b->w'.heap[k]? = w.heap[k]?):PropsC w' v l:=((props_off h hb).keep hs (fun k hF _=>hk k hF)).mono (fun _ _ _=>trivial)
theorem SpacesC.store {l:List Space} (h:SpacesC w v l) (hb:NoStr w b) (hs:w.heap.size<=w'.heap.size) (hk:∀ k,k≠b->w'.heap[k]? = w.heap[k]?):SpacesC w' v l:=((spaces_off h hb).keep hs (fun k hF _=>hk k hF)).mono (fun _ _ _=>trivial)
theorem KeysC.store {l:List KeyUse} (h:KeysC w v l) (hb:NoStr w b) (hs:w.heap.size<=w'.heap.size) (hk:∀ k,k≠b->w'.heap[k]? = w.heap[k]?):KeysC w' v l:=((keys_off h hb).keep hs (fun k hF _=>hk k hF)).mono (fun _ _ _=>trivial)
end
end Own
end
section
open Go Go.RowKit Go.Maps
namespace Own
def POwnX (X:Nat->Prop) (B:Nat) (w:World) (v:Value) (L:List Proposal):Prop:=
 (∀ k,X k->k<w.heap.size)/\(∀ k,v.ownBlock=some k->¬ X k)/\∃ css:List (List Value),css.length=L.length/\w.ownsRow B 46 6 v L.length css.flatten/\∀ i (hi:i<L.length) (hi' : i<css.length),css[i].length=6/\RProp (fun k=>B<=k/\k<w.heap.size/\v.ownBlock≠some k/\¬ X k) w css[i] L[i]
theorem POwn.x {X:Nat->Prop} {B:Nat} {w w' : World} {v:Value} {L:List Proposal} (h:POwn B w v L) (hb:Below w.heap.size w w') (hX:∀ k,X k->w.heap.size<=k/\k<w'.heap.size):POwnX X B w' v L:=by
 obtain⟨css,h1,h2,h3⟩:=h
 refine⟨fun k hk=>(hX k hk).2,fun k e hk=>by have:=own_lt' h2 k e;have:=(hX k hk).1;omega,css,h1,own_below h2 hb,fun i hi hi' => ?_⟩
 obtain⟨h4,u,h5,h6⟩:=h3 i hi hi'
 exact⟨h4,u,h5,(h6.below hb).mono (fun k hk hl=>⟨hk.1,hl,hk.2.2,fun hx=>by have:=(hX k hx).1;have:=hk.2.1;omega⟩)⟩
theorem POwnX.drop {X:Nat->Prop} {B:Nat} {w:World} {v:Value} {L:List Proposal} (h:POwnX X B w v L):POwn B w v L:=by
 obtain⟨_,_,css,h1,h2,h3⟩:=h
 refine⟨css,h1,h2,fun i hi hi' => ?_⟩
 obtain⟨h4,u,h5,h6⟩:=h3 i hi hi'
 exact⟨h4,u,h5,h6.mono (fun k hk _=>⟨hk.1,hk.2.1,hk.2.2.1⟩)⟩
theorem POwnX.keep {X:Nat->Prop} {B:Nat} {w w' : World} {v:Value} {L:List Proposal} (h:POwnX X B w v L) (hs:w.heap.size<=w'.heap.size) (hk:∀ k,B<=k->k<w.heap.size->¬ X k->w'.heap[k]? = w.heap[k]?):POwnX X B w' v L:=by
 obtain⟨g1,g2,css,h1,h2,h3⟩:=h
 refine⟨fun k hx=>Nat.lt_of_lt_of_le (g1 k hx) hs,g2,css,h1,own_keep h2 (fun k e=>hk k (own_up h2 k e) (own_lt' h2 k e) (g2 k e)),fun i hi hi' => ?_⟩
 obtain⟨h4,u,h5,h6⟩:=h3 i hi hi'
 exact⟨h4,u,h5,(h6.keep hs (fun k hF hl=>hk k hF.1 hl hF.2.2.2)).mono (fun k hF hl=>⟨hF.1,hl,hF.2.2⟩)⟩
theorem POwnX.push {X:Nat->Prop} {B:Nat} {w w' : World} {v v' : Value} {L:List Proposal} {x:Proposal} {a:Option Addr} {c:Nat} {css:List (List Value)} (g1:∀ k,X k->k<w.heap.size) (g2:∀ k,v.ownBlock=some k->¬ X k) (h1:css.length=L.length)
 (h3:∀ i (hi:i<L.length) (hi' : i<css.length),css[i].length=6/\RProp (fun k=>B<=k/\k<w.heap.size/\v.ownBlock≠some k/\¬ X k) w css[i] L[i]) (hx:x.votes=[])
 (hv' : w'.ownsRow B 46 6 v' (L.length+1) (css.flatten++[.int .i64 x.id,.string x.path,.string x.digest,.int .i64 x.opened,.int .i64 x.expires,.slice a 0 c])) (hg:w.grownBy w' v.ownBlock) (ho:v'.ownBlock=v.ownBlock\/v'.ownBlock=some w.heap.size):POwnX X B w' v' (L++[x]):=by
 have hsz:w.heap.size<=w'.heap.size:=hg.size
 have hkp:∀ k,(B<=k/\k<w.heap.size/\v.ownBlock≠some k/\¬ X k)->k<w.heap.size->w'.heap[k]? = w.heap[k]? :=fun k hF hl=>hg.block k hl (fun e=>hF.2.2.1 e.symm)
 have hF:∀ k,(B<=k/\k<w.heap.size/\v.ownBlock≠some k/\¬ X k)->k<w'.heap.size->B<=k/\k<w'.heap.size/\v'.ownBlock≠some k/\¬ X k:=fun k hF hl=>⟨hF.1,hl,by
  rcases ho with ho | ho
  ·rw[ho];exact hF.2.2.1
  ·rw[ho];intro e;have:=Option.some.inj e;omega,hF.2.2.2⟩
 refine⟨fun k hk=>Nat.lt_of_lt_of_le (g1 k hk) hsz,fun k e hk=>?_,css++[[.int .i64 x.id,.string x.path,.string x.digest,.int .i64 x.opened,.int .i64 x.expires,.slice a 0 c]],by simp[h1],?_,fun i hi hi' => ?_⟩
 ·rcases ho with ho | ho
  ·exact g2 k (ho ▸ e) hk
  ·have:=g1 k hk
   rw[ho] at e
   have:=Option.some.inj e
   omega
 ·rw[List.flatten_append,List.length_append]
  simpa using hv'
 ·by_cases hl:i<L.length
  ·obtain⟨h4,u',h5,h6⟩:=h3 i hl (by omega)
   rw[List.getElem_append_left (by omega),List.getElem_append_left hl]
   exact⟨h4,u',h5,(h6.keep hsz hkp).mono hF⟩
  ·have e:i=L.length:=by simp at hi;omega
   subst e
   rw[List.getElem_append_right (by omega),List.getElem_append_right (by omega)]
   simp only[h1,Nat.sub_self,List.getElem_cons_zero]
   exact⟨rfl,_,rfl,by rw[hx];exact ListF.nil _ _⟩
end Own
theorem rvSubmit1_any (x:Own.Proposal) (u:Value) (g1 g2:Nat) (s d:ByteArray) (w:World) (hc:w.cell? ⟨g1,0,none⟩=some (.string s)) (hd:w.cell? ⟨g2,0,none⟩=some (.string d)):
 Calls Tryz.prog 41 (#[.agg #[.int .i64 x.id,.string x.path,.string x.digest,.int .i64 x.opened,.int .i64 x.expires,u]]++#[.pointer (some ⟨g1,0,none⟩),.pointer (some ⟨g2,0,none⟩)]) w fun e w' => e=.returned (.bool (decide (x.path=s)&&decide (x.digest=d)))/\Below w.heap.size w w' :=by
 obtain⟨i0,q1,q2,q3,i4,q5⟩:=x
 dsimp only
 obtain⟨R,hR⟩:∃ R,R=(decide (q1=s)&&decide (q2=d)):=⟨_,rfl⟩
 rw[<- hR]
 rw[<- bytes_beq,<- bytes_beq] at hR
 have hb1:Below w.heap.size w (w.alloc (.cells #[.int .i64 i0,.string q1,.string q2,.int .i64 q3,.int .i64 i4,u] 46)):=(Below.refl _ _).alloc (Nat.le_refl _) _
 have q:=(hb1.cell (p:=⟨g1,0,none⟩) (block_lt hc)).trans hc
 have q' :=(hb1.cell (p:=⟨g2,0,none⟩) (block_lt hd)).trans hd
 have HB:=zh hb1;have HR:=zh hR
 clear hb1 hc hd hR
 show Calls Tryz.prog 41 #[.agg #[.int .i64 i0,.string q1,.string q2,.int .i64 q3,.int .i64 i4,u],.pointer (some ⟨g1,0,none⟩),.pointer (some ⟨g2,0,none⟩)] w _
 go_enter Tryz.func41,Tryz.ntmps41
 cases h1:q1.toList==s.toList with
 | false =>
   have e:R=false:=by rw[HR.out,h1];rfl
   have HE:=zh e;clear e
   go_wp2_with fail
   go_ret
   exact⟨by rw[HE.out];rfl,HB.out⟩
 | true =>
   have e:R=(q2.toList==d.toList):=by rw[HR.out,h1];rfl
   have HE:=zh e;clear e
   go_wp2_with fail
   go_ret
   exact⟨by rw[HE.out];rfl,HB.out⟩
theorem rvSubmit_any (q:Own.Queue) (size window:Int) (s d:ByteArray) (pv:Value) (w:World) (hM:MaxL w) (hP:Own.PropsC w pv q.props) (hls:q.props.length<=1000000) (hlm:∀ p∈q.props,p.votes.length<=3000000):
 Calls Tryz.prog 12 #[.agg #[.int .i64 q.next,pv],.int .i64 size,.int .i64 window,.string s,.string d] w fun e w' => (∃ qv,e=.returned (.tuple #[qv,.int .i64 (Own.submit q size window s d).2.1,.int .i64 (Own.submit q size window s d).2.2])/\Own.QOut w (Own.submit q size window s d).1 qv w')/\Below w.heap.size w w' :=by
 obtain⟨R,hR⟩:∃ R,R=Own.submit q size window s d:=⟨_,rfl⟩
 rw[<- hR]
 unfold Own.submit Own.late at hR
 obtain⟨a,c,rfl⟩:=hP.len
 obtain⟨nx,L⟩:=q
 dsimp only at*
 have hb1:Below w.heap.size w ((((w.alloc (.cells #[.int .i64 nx,.slice a L.length c] 24)).alloc (.cells #[.string s] 9)).alloc (.cells #[.string d] 9)).alloc (.cells #[.int .i64 0,.slice none 0 0] 24)):=((((Below.refl _ _).alloc (Nat.le_refl _) _).alloc (by simp) _).alloc (by simp;omega) _).alloc (by simp;omega) _
 have a0:=(((At.new w 24 #[.int .i64 nx,.slice a L.length c]).alloc (.cells #[.string s] 9)).alloc (.cells #[.string d] 9)).alloc (.cells #[.int .i64 0,.slice none 0 0] 24)
 have a1:=((At.new1 w (.cells #[.int .i64 nx,.slice a L.length c] 24) 9 #[.string s]).alloc (.cells #[.string d] 9)).alloc (.cells #[.int .i64 0,.slice none 0 0] 24)
 have a2:At ((((w.alloc (.cells #[.int .i64 nx,.slice a L.length c] 24)).alloc (.cells #[.string s] 9)).alloc (.cells #[.string d] 9)).alloc (.cells #[.int .i64 0,.slice none 0 0] 24)) (w.heap.size+1+1) 9 #[.string d]:=by
  have:=(At.new1 (w.alloc (.cells #[.int .i64 nx,.slice a L.length c] 24)) (.cells #[.string s] 9) 9 #[.string d]).alloc (.cells #[.int .i64 0,.slice none 0 0] 24)
  rwa [World.size_alloc] at this
 have a3:At ((((w.alloc (.cells #[.int .i64 nx,.slice a L.length c] 24)).alloc (.cells #[.string s] 9)).alloc (.cells #[.string d] 9)).alloc (.cells #[.int .i64 0,.slice none 0 0] 24)) (w.heap.size+1+1+1) 24 #[.int .i64 0,.slice none 0 0]:=by
  have:=At.new1 ((w.alloc (.cells #[.int .i64 nx,.slice a L.length c] 24)).alloc (.cells #[.string s] 9)) (.cells #[.string d] 9) 24 #[.int .i64 0,.slice none 0 0]
  rwa [World.size_alloc,World.size_alloc] at this
 have hz1:w.heap.size+4<=((((w.alloc (.cells #[.int .i64 nx,.slice a L.length c] 24)).alloc (.cells #[.string s] 9)).alloc (.cells #[.string d] 9)).alloc (.cells #[.int .i64 0,.slice none 0 0] 24)).heap.size:=by simp
 obtain⟨c0,c1⟩:=a0.c2
 have hval:=rvValid_any ⟨nx,L⟩ (.slice a L.length c) _ (hM.below hb1) (hP.below hb1) (by show L.length<=_;omega) (fun p hp=>by have:=hlm p hp;omega)
 have HV:=zh hval;have HM:=zh (hM.below hb1);have HP:=zh (hP.below hb1);have HB:=zh hb1;have HA0:=zh a0;have HA1:=zh a1;have HA2:=zh a2;have HA3:=zh a3;have HLM:=zh hlm;have HR:=zh hR
 clear hval hP hM hb1 a0 a1 a2 a3 hlm hR
 go_enter Tryz.func12,Tryz.ntmps12
 go_wp2_with fail
 generalize (((w.alloc (.cells #[.int .i64 nx,.slice a L.length c] 24)).alloc (.cells #[.string s] 9)).alloc (.cells #[.string d] 9)).alloc (.cells #[.int .i64 0,.slice none 0 0] 24)=w1 at*
 refine HV.out.mono ?_
 rintro e w2 ⟨rfl,hb2⟩
 have a0:=HA0.out.below hb2 (by omega);have a1:=HA1.out.below hb2 (by omega);have a2:=HA2.out.below hb2 (by omega);have a3:=HA3.out.below hb2 (by omega)
 have x0:=a0.cell 0;have x1:=a0.cell 1
 have s0:=a1.cell 0;have d0:=a2.cell 0
 have r0:=a3.cell 0;have r1:=a3.cell 1;have r2:=a3.free 0;have r3:=a3.free 1
 simp only[List.getElem?_toArray,List.getElem?_cons_zero,List.getElem?_cons_succ] at x0 x1 s0 d0 r0 r1
 have hP2:=HP.out.below hb2
 have hB2:=HB.out.trans (hb2.mono HB.out.size)
 have hs2:w.heap.size+4<=w2.heap.size:=Nat.le_trans hz1 hb2.size
 have HM2:=zh (HM.out.below hb2);have HP2:=zh hP2;have B2:=zh hB2;have A02:=zh a0;have A12:=zh a1;have A22:=zh a2;have A32:=zh a3
 clear hP2 hB2 hb2 a0 a1 a2 a3 c0 c1 HV HP HB HM HA0 HA1 HA2 HA3
 cases hq:Own.queueOK ⟨nx,L⟩ with
 | false =>
   have e:R=(Own.Queue.none,0,1):=by rw[HR.out,hq];rfl
   have HE:=zh e;clear e
   go_wp2_with fail
   have F2:=(A32.out.set 0 (.int .i64 0)).set 1 (.slice none 0 0)
   refine done_ctt rfl rfl rfl rfl (load_row F2 Tryz.underlying24 rfl info_Queue) ⟨⟨.agg #[.int .i64 0,.slice none 0 0],?_,?_⟩,?_⟩
   ·rw[HE.out];rfl
   ·rw[HE.out];exact⟨_,rfl,Own.POwn.nil _ _⟩
   ·exact(B2.out.setCell (p:=⟨w.heap.size+1+1+1,0,none⟩) (by show w.heap.size<=w.heap.size+1+1+1;omega) _).setCell (p:=⟨w.heap.size+1+1+1,1,none⟩) (by show w.heap.size<=w.heap.size+1+1+1;omega) _
 | true=>
 rw[hq] at HR
 have HR2:=zh HR.out
 clear HR
 by_cases h1:size<0
 case pos=>
  have d1:decide (size<0)=true:=decide_eq_true h1
  have e:R=(Own.Queue.none,0,2):=by rw[HR2.out,if_neg (by decide),if_pos (.inl h1)]
  have HE:=zh e;clear e
  go_wp2_with fail
  have F2:=(A32.out.set 0 (.int .i64 0)).set 1 (.slice none 0 0)
  refine done_ctt rfl rfl rfl rfl (load_row F2 Tryz.underlying24 rfl info_Queue) ⟨⟨.agg #[.int .i64 0,.slice none 0 0],?_,?_⟩,?_⟩
  ·rw[HE.out];rfl
  ·rw[HE.out];exact⟨_,rfl,Own.POwn.nil _ _⟩
  ·exact(B2.out.setCell (p:=⟨w.heap.size+1+1+1,0,none⟩) (by show w.heap.size<=w.heap.size+1+1+1;omega) _).setCell (p:=⟨w.heap.size+1+1+1,1,none⟩) (by show w.heap.size<=w.heap.size+1+1+1;omega) _
 have d1:decide (size<0)=false:=decide_eq_false h1
 by_cases h2:1099511627776<size
 case pos=>
  have d2:decide (1099511627776<size)=true:=decide_eq_true h2
  have e:R=(Own.Queue.none,0,2):=by rw[HR2.out,if_neg (by decide),if_pos (.inr (.inl h2))]
  have HE:=zh e;clear e
  go_wp2_with fail
  have F2:=(A32.out.set 0 (.int .i64 0)).set 1 (.slice none 0 0)
  refine done_ctt rfl rfl rfl rfl (load_row F2 Tryz.underlying24 rfl info_Queue) ⟨⟨.agg #[.int .i64 0,.slice none 0 0],?_,?_⟩,?_⟩
  ·rw[HE.out];rfl
  ·rw[HE.out];exact⟨_,rfl,Own.POwn.nil _ _⟩
  ·exact(B2.out.setCell (p:=⟨w.heap.size+1+1+1,0,none⟩) (by show w.heap.size<=w.heap.size+1+1+1;omega) _).setCell (p:=⟨w.heap.size+1+1+1,1,none⟩) (by show w.heap.size<=w.heap.size+1+1+1;omega) _
 have d2:decide (1099511627776<size)=false:=decide_eq_false h2
 by_cases h3:window<1
 case pos=>
  have d3:decide (window<1)=true:=decide_eq_true h3
  have e:R=(Own.Queue.none,0,2):=by rw[HR2.out,if_neg (by decide),if_pos (.inr (.inr (.inl h3)))]
  have HE:=zh e;clear e
  go_wp2_with fail
  have F2:=(A32.out.set 0 (.int .i64 0)).set 1 (.slice none 0 0)
  refine done_ctt rfl rfl rfl rfl (load_row F2 Tryz.underlying24 rfl info_Queue) ⟨⟨.agg #[.int .i64 0,.slice none 0 0],?_,?_⟩,?_⟩
  ·rw[HE.out];rfl
  ·rw[HE.out];exact⟨_,rfl,Own.POwn.nil _ _⟩
  ·exact(B2.out.setCell (p:=⟨w.heap.size+1+1+1,0,none⟩) (by show w.heap.size<=w.heap.size+1+1+1;omega) _).setCell (p:=⟨w.heap.size+1+1+1,1,none⟩) (by show w.heap.size<=w.heap.size+1+1+1;omega) _
 have d3:decide (window<1)=false:=decide_eq_false h3
 by_cases h4:256<window
 case pos=>
  have d4:decide (256<window)=true:=decide_eq_true h4
  have e:R=(Own.Queue.none,0,2):=by rw[HR2.out,if_neg (by decide),if_pos (.inr (.inr (.inr h4)))]
  have HE:=zh e;clear e
  go_wp2_with fail
  have F2:=(A32.out.set 0 (.int .i64 0)).set 1 (.slice none 0 0)
  refine done_ctt rfl rfl rfl rfl (load_row F2 Tryz.underlying24 rfl info_Queue) ⟨⟨.agg #[.int .i64 0,.slice none 0 0],?_,?_⟩,?_⟩
  ·rw[HE.out];rfl
  ·rw[HE.out];exact⟨_,rfl,Own.POwn.nil _ _⟩
  ·exact(B2.out.setCell (p:=⟨w.heap.size+1+1+1,0,none⟩) (by show w.heap.size<=w.heap.size+1+1+1;omega) _).setCell (p:=⟨w.heap.size+1+1+1,1,none⟩) (by show w.heap.size<=w.heap.size+1+1+1;omega) _
 have d4:decide (256<window)=false:=decide_eq_false h4
 have e:=HR2.out
 rw[if_neg (by decide),if_neg (by omega)] at e
 have HR3:=zh e
 clear e HR2
 go_wp2_with fail
 refine(rvPath_any s w2 HM2.out).mono ?_
 rintro e w3 ⟨rfl,hb3⟩
 have a0:=A02.out.below hb3 (by omega);have a1:=A12.out.below hb3 (by omega);have a2:=A22.out.below hb3 (by omega);have a3:=A32.out.below hb3 (by omega)
 clear x0 x1 s0 d0 r0 r1 r2 r3 d1 d2 d3 d4
 have x0:=a0.cell 0;have x1:=a0.cell 1
 have s0:=a1.cell 0;have d0:=a2.cell 0
 have r0:=a3.cell 0;have r1:=a3.cell 1;have r2:=a3.free 0;have r3:=a3.free 1
 simp only[List.getElem?_toArray,List.getElem?_cons_zero,List.getElem?_cons_succ] at x0 x1 s0 d0 r0 r1
 have B3:=zh (B2.out.trans (hb3.mono B2.out.size));have P3:=zh (HP2.out.below hb3);have A03:=zh a0;have A13:=zh a1;have A23:=zh a2;have A33:=zh a3
 have hs3:=Nat.le_trans hs2 hb3.size
 clear a0 a1 a2 a3 hb3 A02 A12 A22 A32 HM2 HP2 B2
 cases hp:Own.pathOK s with
 | false =>
   have e:R=(Own.Queue.none,0,4):=by rw[HR3.out,if_pos hp]
   have HE:=zh e;clear e
   go_wp2_with fail
   have F2:=(A33.out.set 0 (.int .i64 0)).set 1 (.slice none 0 0)
   refine done_ctt rfl rfl rfl rfl (load_row F2 Tryz.underlying24 rfl info_Queue) ⟨⟨.agg #[.int .i64 0,.slice none 0 0],?_,?_⟩,?_⟩
   ·rw[HE.out];rfl
   ·rw[HE.out];exact⟨_,rfl,Own.POwn.nil _ _⟩
   ·exact(B3.out.setCell (p:=⟨w.heap.size+1+1+1,0,none⟩) (by show w.heap.size<=w.heap.size+1+1+1;omega) _).setCell (p:=⟨w.heap.size+1+1+1,1,none⟩) (by show w.heap.size<=w.heap.size+1+1+1;omega) _
 | true=>
 have e:=HR3.out
 rw[hp,if_neg (by decide)] at e
 by_cases h5:d.size=32
 case neg=>
  have d5:((d.size:Int)==32)=false:=beq_eq_false_iff_ne.2 (by omega)
  have hd:Sig.digest d=false:=decide_eq_false h5
  have e2:R=(Own.Queue.none,0,1):=by rw[e,if_pos hd]
  have HE:=zh e2;clear e e2 hd HR3
  go_wp2_with fail
  have F2:=(A33.out.set 0 (.int .i64 0)).set 1 (.slice none 0 0)
  refine done_ctt rfl rfl rfl rfl (load_row F2 Tryz.underlying24 rfl info_Queue) ⟨⟨.agg #[.int .i64 0,.slice none 0 0],?_,?_⟩,?_⟩
  ·rw[HE.out];rfl
  ·rw[HE.out];exact⟨_,rfl,Own.POwn.nil _ _⟩
  ·exact(B3.out.setCell (p:=⟨w.heap.size+1+1+1,0,none⟩) (by show w.heap.size<=w.heap.size+1+1+1;omega) _).setCell (p:=⟨w.heap.size+1+1+1,1,none⟩) (by show w.heap.size<=w.heap.size+1+1+1;omega) _
 have d5:((d.size:Int)==32)=true:=by rw[beq_iff_eq];omega
 have hd:Sig.digest d=true:=decide_eq_true h5
 rw[hd,if_neg (by decide)] at e
 have HR4:=zh e;have H5:=zh h5
 clear e hd HR3 h5
 have hcf:=cfProposals_any 41 #[.pointer (some ⟨w.heap.size+1,0,none⟩),.pointer (some ⟨w.heap.size+1+1,0,none⟩)] (by intros;rfl) (fun p:Own.Proposal=>decide (p.path=s)&&decide (p.digest=d)) _ L w3 P3.out (by omega) (fun W x u hb=>rvSubmit1_any x u _ _ s d W ((hb.cell (p:=⟨w.heap.size+1,0,none⟩) A13.out.lt).trans s0) ((hb.cell (p:=⟨w.heap.size+1+1,0,none⟩) A23.out.lt).trans d0))
 have HCF:=zh hcf
 clear hcf
 go_wp2_with fail
 refine HCF.out.mono ?_
 rintro e w4 ⟨rfl,hb4⟩
 have a0:=A03.out.below hb4 (by omega);have a1:=A13.out.below hb4 (by omega);have a2:=A23.out.below hb4 (by omega);have a3:=A33.out.below hb4 (by omega)
 clear x0 x1 s0 d0 r0 r1 r2 r3 d5
 have x0:=a0.cell 0;have x1:=a0.cell 1
 have s0:=a1.cell 0;have d0:=a2.cell 0
 have r0:=a3.cell 0;have r1:=a3.cell 1;have r2:=a3.free 0;have r3:=a3.free 1
 simp only[List.getElem?_toArray,List.getElem?_cons_zero,List.getElem?_cons_succ] at x0 x1 s0 d0 r0 r1
 have B4:=zh (B3.out.trans (hb4.mono B3.out.size));have P4:=zh (P3.out.below hb4);have A04:=zh a0;have A14:=zh a1;have A24:=zh a2;have A34:=zh a3
 have hs4:=Nat.le_trans hs3 hb4.size
 clear a0 a1 a2 a3 hb4 A03 A13 A23 A33 P3 B3 HCF
 cases hx:L.any (fun p=>decide (p.path=s)&&decide (p.digest=d)) with
 | true =>
   have e:R=(Own.Queue.none,0,5):=by rw[HR4.out,if_pos hx]
   have HE:=zh e;clear e
   go_wp2_with fail
   have F2:=(A34.out.set 0 (.int .i64 0)).set 1 (.slice none 0 0)
   refine done_ctt rfl rfl rfl rfl (load_row F2 Tryz.underlying24 rfl info_Queue) ⟨⟨.agg #[.int .i64 0,.slice none 0 0],?_,?_⟩,?_⟩
   ·rw[HE.out];rfl
   ·rw[HE.out];exact⟨_,rfl,Own.POwn.nil _ _⟩
   ·exact(B4.out.setCell (p:=⟨w.heap.size+1+1+1,0,none⟩) (by show w.heap.size<=w.heap.size+1+1+1;omega) _).setCell (p:=⟨w.heap.size+1+1+1,1,none⟩) (by show w.heap.size<=w.heap.size+1+1+1;omega) _
 | false=>
 have e:=HR4.out
 rw[hx,if_neg (by decide)] at e
 by_cases h6:L.length=64
 case pos=>
  have d6:((L.length:Int)==64)=true:=by rw[beq_iff_eq];omega
  have e2:R=(Own.Queue.none,0,7):=by rw[e,if_pos (.inl h6)]
  have HE:=zh e2;clear e e2 HR4
  go_wp2_with fail
  have F2:=(A34.out.set 0 (.int .i64 0)).set 1 (.slice none 0 0)
  refine done_ctt rfl rfl rfl rfl (load_row F2 Tryz.underlying24 rfl info_Queue) ⟨⟨.agg #[.int .i64 0,.slice none 0 0],?_,?_⟩,?_⟩
  ·rw[HE.out];rfl
  ·rw[HE.out];exact⟨_,rfl,Own.POwn.nil _ _⟩
  ·exact(B4.out.setCell (p:=⟨w.heap.size+1+1+1,0,none⟩) (by show w.heap.size<=w.heap.size+1+1+1;omega) _).setCell (p:=⟨w.heap.size+1+1+1,1,none⟩) (by show w.heap.size<=w.heap.size+1+1+1;omega) _
 have d6:((L.length:Int)==64)=false:=beq_eq_false_iff_ne.2 (by omega)
 by_cases h7:nx=1099511627776
 case pos=>
  have d7:(nx==1099511627776)=true:=by rw[beq_iff_eq];exact h7
  have e2:R=(Own.Queue.none,0,7):=by rw[e,if_pos (.inr h7)]
  have HE:=zh e2;clear e e2 HR4 h7
  go_wp2_with fail
  have F2:=(A34.out.set 0 (.int .i64 0)).set 1 (.slice none 0 0)
  refine done_ctt rfl rfl rfl rfl (load_row F2 Tryz.underlying24 rfl info_Queue) ⟨⟨.agg #[.int .i64 0,.slice none 0 0],?_,?_⟩,?_⟩
  ·rw[HE.out];rfl
  ·rw[HE.out];exact⟨_,rfl,Own.POwn.nil _ _⟩
  ·exact(B4.out.setCell (p:=⟨w.heap.size+1+1+1,0,none⟩) (by show w.heap.size<=w.heap.size+1+1+1;omega) _).setCell (p:=⟨w.heap.size+1+1+1,1,none⟩) (by show w.heap.size<=w.heap.size+1+1+1;omega) _
 have d7:(nx==1099511627776)=false:=beq_eq_false_iff_ne.2 h7
 rw[if_neg (by omega)] at e
 have HE:=zh e;have H7:=zh h7
 clear e HR4 h7
 have hkp:=rvKept_any 43 #[] (by intros;rfl) (fun _=>true) nx _ L w4 P4.out hls HLM.out (fun W x u hb=>rvAll_any x u W)
 have HKP:=zh hkp
 clear hkp r0 r1 r2 r3
 go_wp2_with fail
 refine HKP.out.mono ?_
 rintro e w5 ⟨⟨v',rfl,hpo⟩,hb5⟩
 have hfl:List.filter (fun _=>true) L=L:=List.filter_eq_self.2 (fun _ _=>rfl)
 rw[hfl] at hpo
 obtain⟨va,vc,rfl⟩:=hpo.one
 have hw:wrap64 (size+window)=size+window:=by unfold wrap64;omega
 have hn:0<=nx/\nx<=1099511627776:=by
  unfold Own.queueOK Own.late at hq
  simp only[Bool.and_eq_true,decide_eq_true_eq] at hq
  exact⟨hq.1.1.1,hq.1.1.2⟩
 have hw2:wrap64 (nx+1)=nx+1:=by have:=hn.1;have:=hn.2;unfold wrap64;omega
 have b56:Below w5.heap.size w5 (w5.alloc (.cells #[.int .i64 nx,.slice va L.length vc] 24)):=(Below.refl _ _).alloc (Nat.le_refl _) _
 have b46:=hb5.trans (b56.mono hb5.size)
 have a0:=A04.out.below b46 (by omega);have a1:=A14.out.below b46 (by omega);have a2:=A24.out.below b46 (by omega);have a3:=A34.out.below b46 (by omega)
 have o6:=At.new w5 24 #[.int .i64 nx,.slice va L.length vc]
 have p6:=(hpo.base (B' :=w4.heap.size) (by omega)).x (X:=fun k=>k=w5.heap.size) b56 (fun k hk=>by subst hk;exact⟨Nat.le_refl _,by simp⟩)
 clear x0 x1 s0 d0
 have x0:=a0.cell 0;have x1:=a0.cell 1
 have s0:=a1.cell 0;have d0:=a2.cell 0
 have r0:=a3.cell 0;have r1:=a3.cell 1;have r2:=a3.free 0;have r3:=a3.free 1
 simp only[List.getElem?_toArray,List.getElem?_cons_zero,List.getElem?_cons_succ] at x0 x1 s0 d0 r0 r1
 obtain⟨o0,o1⟩:=o6.c2
 have hs5:=hb5.size
 have hz6:w5.heap.size<(w5.alloc (.cells #[.int .i64 nx,.slice va L.length vc] 24)).heap.size:=by simp
 have B6:=zh (B4.out.trans (b46.mono B4.out.size));have A06:=zh a0;have A36:=zh a3;have O6:=zh o6;have P6:=zh p6;have HW:=zh hw;have HW2:=zh hw2
 clear a0 a1 a2 a3 o6 p6 hpo b46 b56 hb5 hfl hw hw2 hn hq hx h6 A04 A14 A24 A34 P4 B4 HKP d6 d7
 go_upto_region 14 with fail
 generalize w5.alloc (.cells #[.int .i64 nx,.slice va L.length vc] 24)=w6 at*
 have b67:Below w6.heap.size w6 (w6.alloc (.cells #[.int .i64 nx,.string s,.string d,.int .i64 size,.int .i64 (size+window),.slice none 0 0] 46)):=(Below.refl _ _).alloc (Nat.le_refl _) _
 have hrw:=rows_new w6 46 #[.int .i64 nx,.string s,.string d,.int .i64 size,.int .i64 (size+window),.slice none 0 0] 6 1 1 rfl
 have p7:=P6.out.keep b67.size (fun k _ hl _=>b67.block k hl)
 obtain⟨t1,t2,css,q1,q2,q3⟩:=p7
 have T1:=zh t1;have T2:=zh t2;have Q1:=zh q1;have Q2:=zh q2;have Q3:=zh q3;have HRW:=zh hrw
 have B7:=zh (B6.out.trans (b67.mono B6.out.size));have O7:=zh (O6.out.below b67 O6.out.lt);have A07:=zh (A06.out.below b67 A06.out.lt);have A37:=zh (A36.out.below b67 A36.out.lt)
 have hw46:w4.heap.size+3<=w6.heap.size\/w6.heap.size<w4.heap.size+3:=by omega
 have hOl:=O6.out.lt
 have hB6:=B6.out.size
 clear t1 t2 q1 q2 q3 hrw b67 r0 r1 r2 r3 hw46
 have hw56:w5.heap.size≠w.heap.size:=by omega
 go_upto_region 15 with (first
  | rw[HW.out]
  | (at_builtin;go_must (refine wp_append_rows elemProps rfl _ _ rfl w4.heap.size L.length (.slice va L.length vc) css.flatten rfl Q2.out (.slice (some ⟨w6.heap.size,0,none⟩) 1 1) 1 [.int .i64 nx,.string s,.string d,.int .i64 size,.int .i64 (size+window),.slice none 0 0] rfl HRW.out (by intro u hu;simp at hu;rcases hu with rfl | rfl | rfl | rfl | rfl | rfl <;> rfl) (by omega) (by omega) (by rw[World.size_alloc];omega) ?_);intro v9 w9 ho9 hg9 hw9;obtain⟨ya,ym,yc,rfl⟩:=own_slice ho9;have HP9:=zh (Own.POwnX.push (x:=⟨nx,s,d,size,size+window,[]⟩) T1.out T2.out Q1.out Q3.out rfl ho9 hg9 hw9);have HB9:=zh (below_own B7.out B7.out.size (own_base Q2.out (by omega)) hg9);have O9:=zh (O7.out.keep (hg9.block _ O7.out.lt (fun e=>T2.out _ e.symm rfl)));have A09:=zh (A07.out.keep (hg9.block _ A07.out.lt (fun e=>by have:=own_up Q2.out _ e.symm;omega)));have A39:=zh (A37.out.keep (hg9.block _ A37.out.lt (fun e=>by have:=own_up Q2.out _ e.symm;omega)));have hs9:=hg9.size;have c9:=O9.out.cell 1;have f9:=O9.out.free 1;clear ho9 hg9 hw9))
 have o10:At (w9.setCell ⟨w5.heap.size,1,none⟩ (.slice ya ym yc)) w5.heap.size 24 #[.int .i64 nx,.slice ya ym yc]:=O9.out.set 1 (.slice ya ym yc)
 have a10:=A09.out.far (p:=⟨w5.heap.size,1,none⟩) (by show w.heap.size≠w5.heap.size;omega) (.slice ya ym yc)
 have r10:=A39.out.far (p:=⟨w5.heap.size,1,none⟩) (by show w.heap.size+1+1+1≠w5.heap.size;omega) (.slice ya ym yc)
 have b10:=HB9.out.setCell (p:=⟨w5.heap.size,1,none⟩) (by show w.heap.size<=w5.heap.size;omega) (.slice ya ym yc)
 have p10:=HP9.out.keep (w' :=w9.setCell ⟨w5.heap.size,1,none⟩ (.slice ya ym yc)) (by simp[World.setCell]) (fun k _ _ hk=>heap_setCell_other _ _ _ _ hk)
 have O10:=zh o10;have A010:=zh a10;have R10:=zh r10;have B10:=zh b10;have P10:=zh p10
 have o0:=o10.cell 0;have o1:=o10.free 0
 simp only[List.getElem?_toArray,List.getElem?_cons_zero,List.getElem?_cons_succ] at o0
 clear o10 a10 r10 b10 p10 HB9 O9 A09 A39 HP9 c9 f9 hs9 Q1 Q2 Q3 T1 T2 HRW O7 A07 A37 B7 P6 O6 A06 A36 B6 x0 x1 s0 d0
 generalize w9.setCell ⟨w5.heap.size,1,none⟩ (.slice ya ym yc)=w10 at*
 go_upto_region 16 with (rw[HW2.out])
 have o11:At (w10.setCell ⟨w5.heap.size,0,none⟩ (.int .i64 (nx+1))) w5.heap.size 24 #[.int .i64 (nx+1),.slice ya ym yc]:=O10.out.set 0 (.int .i64 (nx+1))
 have a11:=A010.out.far (p:=⟨w5.heap.size,0,none⟩) (by show w.heap.size≠w5.heap.size;omega) (.int .i64 (nx+1))
 have r11:=R10.out.far (p:=⟨w5.heap.size,0,none⟩) (by show w.heap.size+1+1+1≠w5.heap.size;omega) (.int .i64 (nx+1))
 have b11:=B10.out.setCell (p:=⟨w5.heap.size,0,none⟩) (by show w.heap.size<=w5.heap.size;omega) (.int .i64 (nx+1))
 have p11:=P10.out.keep (w' :=w10.setCell ⟨w5.heap.size,0,none⟩ (.int .i64 (nx+1))) (by simp[World.setCell]) (fun k _ _ hk=>heap_setCell_other _ _ _ _ hk)
 have P11:=zh p11.drop;have B11:=zh b11;have R11:=zh r11
 have o2:=o11.cell 0;have o3:=o11.cell 1;have x0:=a11.cell 0
 have r0:=r11.cell 0;have r1:=r11.cell 1;have r2:=r11.free 0;have r3:=r11.free 1
 simp only[List.getElem?_toArray,List.getElem?_cons_zero,List.getElem?_cons_succ] at o2 o3 x0 r0 r1
 clear o11 a11 r11 b11 p11 o0 o1 O10 A010 R10 B10 P10
 generalize w10.setCell ⟨w5.heap.size,0,none⟩ (.int .i64 (nx+1))=w11 at*
 refine Lex.wp_region_lexN (fun k=>k=w.heap.size) [2] 4 [4] (by kernel_rfl) (by kernel_rfl) (by kernel_rfl) ?_
 simp only[Lex.wpCuts,List.take_succ_cons,List.take_zero,List.drop_succ_cons,List.drop_zero]
 go_wp2_with fail
 refine Lex.Mid.intro (fun k hk _=>by have hk3:k≠w.heap.size+1+1+1:=(by subst hk;omega);rw[drew_heap,drew_heap,heap_setCell_other _ _ _ _ hk3,heap_setCell_other _ _ _ _ hk3]) ?_
 go_wp2_with fail
 refine Lex.EndsN.intro (by kernel_rfl) ⟨⟨rfl,by show(w11.cell? ⟨w.heap.size,0,none⟩).isSome=true;rw[x0];rfl⟩,trivial⟩ ?_
 go_wp2_with fail
 have F2:=((R11.out.set 0 (.int .i64 (nx+1))).set 1 (.slice ya ym yc)).drew
 refine done_ctt rfl rfl rfl rfl (load_row F2 Tryz.underlying24 rfl info_Queue) ⟨⟨.agg #[.int .i64 (nx+1),.slice ya ym yc],?_,?_⟩,?_⟩
 ·rw[HE.out];rfl
 ·rw[HE.out]
  refine⟨_,rfl,Own.POwn.base (B:=w4.heap.size) (P11.out.keep (by rw[drew_heap];simp[World.setCell]) (fun k hk _=>?_)) (by omega)⟩
  have hk1:k≠w.heap.size+1+1+1:=by omega
  rw[drew_heap,heap_setCell_other _ _ _ _ hk1,heap_setCell_other _ _ _ _ hk1]
 ·exact((B11.out.setCell (p:=⟨w.heap.size+1+1+1,0,none⟩) (by show w.heap.size<=w.heap.size+1+1+1;omega) _).setCell (p:=⟨w.heap.size+1+1+1,1,none⟩) (by show w.heap.size<=w.heap.size+1+1+1;omega) _).drew
end
section
open Go Go.RowKit Go.Maps
theorem ba_beq (x y:ByteArray):(x==y)=decide (x=y):=by
 rw[Bool.eq_iff_iff,decide_eq_true_iff]
 constructor
 ·intro h
  cases x;cases y
  have h' : (_:Array UInt8)==_:=h
  exact congrArg ByteArray.mk (eq_of_beq h')
 ·rintro rfl
  cases x
  show(_:Array UInt8)==_
  exact BEq.rfl
theorem equalIn_string (D:Nat) (a c:ByteArray) (w:World):(Op.equalIn (D+1) 9 (.string a) (.string c)).run Tryz.prog w=.ok (a==c) w:=by
 rw[Op.equalIn]
 simp[Tryz.underlying9]
theorem equalIn_member (D:Nat) (a b c d:ByteArray) (w:World):(Op.equalIn (D+2) 73 (.agg #[.string a,.string b]) (.agg #[.string c,.string d])).run Tryz.prog w=.ok ((a==c)&&(b==d)) w:=by
 have hs:Tryz.prog.stoodInHeld 73=false:=by kernel_rfl
 have e1:=equalIn_string D a c w
 have e2:=equalIn_string D b d w
 have s1:∀ w,(sizeOf 9).run Tryz.prog w=.ok 1 w:=fun w=>by kernel_rfl
 have s2:∀ w,(isAgg 9).run Tryz.prog w=.ok false w:=fun w=>by kernel_rfl
 rw[Op.equalIn]
 cases h1:a==c <;> cases h2:b==d <;> rw[h1] at e1 <;> rw[h2] at e2 <;> simp[Tryz.underlying73,hs,part,e1,e2,s1,s2,Result.andThen]
theorem eql_member (a b c d:ByteArray) (w:World):(binOp .eql 73 (.agg #[.string a,.string b]) (.agg #[.string c,.string d])).run Tryz.prog w=.ok (.bool (decide (a=c)&&decide (b=d))) w:=by
 have h2:(Op.equal 73 (.agg #[.string a,.string b]) (.agg #[.string c,.string d])).run Tryz.prog w=.ok ((a==c)&&(b==d)) w:=equalIn_member 9998 a b c d w
 have h3:(decide (a=c)&&decide (b=d))=((a==c)&&(b==d)):=by
  rw[ba_beq,ba_beq]
 rw[h3]
 simp[binOp,h2,Result.andThen]
end
section
open Go Go.RowKit Go.Maps
def Own.sameM (x:Own.Member) (m:Own.Member):Bool:=decide (x.name=m.name)&&decide (x.pub=m.pub)
theorem ixMembers_any (v:Value) (l:List Own.Member) (nm pb:ByteArray) (w:World) (h:Own.MembersC w v l) (hl:l.length<=140737488355328):
 Calls Tryz.prog 135 #[v,.agg #[.string nm,.string pb]] w fun e w' => (∃ i,e=.returned (.int .i64 i)/\Own.Idx (Own.sameM ⟨nm,pb⟩) l i)/\Below w.heap.size w w' :=by
 obtain⟨a,c,rfl⟩:=h.len
 have hb1:Below w.heap.size w (w.alloc (.cells #[.string nm,.string pb] 73)):=(Below.refl _ _).alloc (Nat.le_refl _) _
 have ha:=At.new w 73 #[.string nm,.string pb]
 have HL:=zh (h.below hb1);have HB:=zh hb1;have HA:=zh ha
 clear h hb1 ha
 go_enter Tryz.func135,Tryz.ntmps135
 go_wp2_with fail
 generalize w.alloc (.cells #[.string nm,.string pb] 73)=w1 at*
 go_loopw [8] (fun i wr=>∃ k:Nat,∃ hk:k<=l.length,i=.int .i64 k/\(∀ j (hj:j<k),Own.sameM ⟨nm,pb⟩ (l[j]'(by omega))=false)/\Below w1.heap.size w1 wr) (fun i _=>l.length - (intOf i).toNat)
 case atStart=>exact⟨0,by omega,rfl,(fun j hj=>absurd hj (by omega)),Below.refl _ _⟩
 case round=>
  obtain⟨k,hk,rfl,hn,hb⟩:=hrel
  have HBW:=zh hb;have HN:=zh hn
  by_cases hlt:k<l.length
  case neg=>
   have hke:k=l.length:=by omega
   have dk:decide ((k:Int)<l.length)=false:=decide_eq_false (by omega)
   have hix:=Own.Idx.miss (p:=Own.sameM ⟨nm,pb⟩) (l:=l) (fun j hj=>hn j (by omega))
   have HIX:=zh hix
   clear hix hke hb hn
   go_wp2_with fail
   go_ret
   exact⟨⟨_,rfl,HIX.out⟩,HB.out.trans (HBW.out.mono HB.out.size)⟩
  have dk:decide ((k:Int)<l.length)=true:=decide_eq_true (by omega)
  obtain⟨b,o,ha,hbl,e0,e1⟩:=Own.MembersC.cells (HL.out.below hb) hlt
  subst ha
  have ar:=HA.out.below hb HA.out.lt
  obtain⟨c0,c1⟩:=ar.c2
  obtain⟨q0,hq0⟩:∃ x,x=l[k].name:=⟨_,rfl⟩
  obtain⟨q1,hq1⟩:∃ x,x=l[k].pub:=⟨_,rfl⟩
  have hsame:Own.sameM ⟨nm,pb⟩ l[k]=(decide (nm=q0)&&decide (pb=q1)):=by rw[hq0,hq1];rfl
  have heq:=eql_member nm pb q0 q1
  rw[<- hq0] at e0
  rw[<- hq1] at e1
  have HS:=zh hsame
  clear hb hn hq0 hq1 hsame ar
  obtain⟨S,hS⟩:∃ S,S=(decide (nm=q0)&&decide (pb=q1)):=⟨_,rfl⟩
  rw[<- hS] at HS heq
  clear hS
  cases S with
  | true =>
    have hix:=Own.Idx.hit hlt HS.out HN.out
    have HIX:=zh hix
    clear hix
    go_wp2_with fail
    go_quiet (fail)
    go_wp2_with fail
    go_ret
    exact⟨⟨_,rfl,HIX.out⟩,HB.out.trans ((below_drewN HBW.out nq).mono HB.out.size)⟩
  | false =>
    have hn2:∀ j (hj:j<k+1),Own.sameM ⟨nm,pb⟩ (l[j]'(by omega))=false:=fun j hj=>by
     by_cases e:j=k
     ·subst e;exact HS.out
     ·exact HN.out j (by omega)
    have HN2:=zh hn2
    clear hn2
    go_wp2_with fail
    go_quiet (fail)
    go_wp2_with fail
    go_round
    case measure=>simp[intOf];omega
    case rel=>exact⟨k+1,by omega,by go_num,HN2.out,below_drewN HBW.out nq⟩
theorem coMembers_any (v:Value) (l:List Own.Member) (nm pb:ByteArray) (w:World) (h:Own.MembersC w v l) (hl:l.length<=140737488355328):
 Calls Tryz.prog 110 #[v,.agg #[.string nm,.string pb]] w fun e w' => e=.returned (.bool (l.any (Own.sameM ⟨nm,pb⟩)))/\Below w.heap.size w w' :=by
 have hb1:Below w.heap.size w (w.alloc (.cells #[.string nm,.string pb] 73)):=(Below.refl _ _).alloc (Nat.le_refl _) _
 have HI:=zh (ixMembers_any v l nm pb _ (h.below hb1) hl);have HB1:=zh hb1
 clear h hb1
 go_enter Tryz.func110,Tryz.ntmps110
 go_wp2_with fail
 refine HI.out.mono ?_
 rintro e w2 ⟨⟨i,rfl,hi⟩,hb⟩
 have HB:=zh (HB1.out.trans (hb.mono HB1.out.size));have HJ:=zh hi.any;clear hb hi
 go_wp2_with fail
 go_ret
 exact⟨by rw[<- HJ.out];rfl,HB.out⟩
end
section
open Go Go.RowKit Go.Maps
namespace Own
theorem counts_same (s:Space) (v:Vote):counts s v=s.members.any (sameM ⟨v.name,v.pub⟩):=by
 unfold counts sameM
 congr 1
 funext m
 congr 1 <;> exact decide_eq_decide.2 eq_comm
def authS (a:Option Space):Space:=match a with
 | none=>⟨⟨#[]⟩,[],0⟩
 | some s=>s
theorem agreedP_eq (p:Proposal) (o:Owners):agreedP p o=((p.votes.filter (counts (authS (authority o p.path)))).all (·.agrees)&&((authority o p.path).isSome&&decide ((authS (authority o p.path)).threshold<=((p.votes.filter (counts (authS (authority o p.path)))).length:Int)))):=by
 unfold agreedP
 cases h:authority o p.path with
 | none=>simp
 | some s=>rfl
theorem AuthPost.vals {w w' : World} {r:Option Space} {e:Ending} (h:AuthPost w r e w'):(∃ v',e=.returned (.tuple #[.agg #[.string (authS r).pre,v',.int .i64 (authS r).threshold],.bool r.isSome])/\MembersC w' v' (authS r).members)/\Below w.heap.size w w' :=by
 obtain⟨h,hb⟩:=h
 refine⟨?_,hb⟩
 cases r with
 | none=>exact⟨_,h,ListF.nil _ _⟩
 | some s =>
   obtain⟨v',h1,h2⟩:=h
   exact⟨v',h1,MembersC.of (RowsC.own h2) rfl⟩
end Own
theorem rvAgreed_any (p:Own.Proposal) (o:Own.Owners) (v sv kv:Value) (w:World) (hM:MaxL w) (hV:Own.VotesC w v p.votes) (hS:Own.SpacesC w sv o.spaces) (hK:Own.KeysC w kv o.keys) (hlv:p.votes.length<=140737488355328) (hls:o.spaces.length<=140737488355328) (hlk:o.keys.length<=140737488355328) (hlm:∀ s∈o.spaces,s.members.length<=140737488355328):
 Calls Tryz.prog 72 #[.agg #[.int .i64 p.id,.string p.path,.string p.digest,.int .i64 p.opened,.int .i64 p.expires,v],.agg #[.int .i64 o.count,sv,kv]] w fun e w' => e=.returned (.bool (Own.agreedP p o))/\Below w.heap.size w w' :=by
 obtain⟨R,hR⟩:∃ R,R=Own.agreedP p o:=⟨_,rfl⟩
 rw[<- hR]
 rw[Own.agreedP_eq] at hR
 obtain⟨sa,sc,rfl⟩:=hS.len
 obtain⟨ka,kc,rfl⟩:=hK.len
 obtain⟨va,vc,rfl⟩:=hV.len
 obtain⟨id,pa,di,op,ex,V⟩:=p
 dsimp only at*
 have hb1:Below w.heap.size w ((w.alloc (.cells #[.int .i64 id,.string pa,.string di,.int .i64 op,.int .i64 ex,.slice va V.length vc] 46)).alloc (.cells #[.int .i64 o.count,.slice sa o.spaces.length sc,.slice ka o.keys.length kc] 38)):=((Below.refl _ _).alloc (Nat.le_refl _) _).alloc (by simp) _
 have a0:=(At.new w 46 #[.int .i64 id,.string pa,.string di,.int .i64 op,.int .i64 ex,.slice va V.length vc]).alloc (.cells #[.int .i64 o.count,.slice sa o.spaces.length sc,.slice ka o.keys.length kc] 38)
 have hau:=owAuthorityX_any o pa _ _ _ (hM.below hb1) (hS.below hb1) (hK.below hb1) hls hlk hlm
 have hau2:=hau.mono (fun e w' h=>Own.AuthPost.vals h)
 obtain⟨A,hA⟩:∃ A,A=Own.authority o pa:=⟨_,rfl⟩
 rw[<- hA] at hau2 hR
 obtain⟨⟨spre,M,th⟩,hS'⟩:∃ s,s=Own.authS A:=⟨_,rfl⟩
 rw[<- hS'] at hau2 hR
 obtain⟨ok,hok⟩:∃ b,b=A.isSome:=⟨_,rfl⟩
 rw[<- hok] at hau2 hR
 have hmb:M.length<=140737488355328:=by
  have e:M=(Own.authS A).members:=by rw[<- hS']
  rw[e]
  cases hh:A with
  | none=>exact Nat.zero_le _
  | some s=>exact hlm s (Own.authority_some (hA ▸ hh)).2.2.2
 have HMB:=zh hmb
 clear hA hS' hok hau hmb
 dsimp only at hau2 hR
 have HAU:=zh hau2;have HV:=zh (hV.below hb1);have HB:=zh hb1;have HA:=zh a0;have HR:=zh hR
 have c1:=a0.cell 1
 simp only[List.getElem?_toArray,List.getElem?_cons_zero,List.getElem?_cons_succ] at c1
 clear hau2 hM hV hS hK hb1 a0 hR
 go_enter Tryz.func72,Tryz.ntmps72
 go_wp2_with fail
 refine HAU.out.mono ?_
 rintro e w2 ⟨⟨mv,rfl,hmm⟩,hb2⟩
 obtain⟨ma,mc,rfl⟩:=hmm.len
 have b23:Below w2.heap.size w2 (w2.alloc (.cells #[.string spre,.slice ma M.length mc,.int .i64 th] 70)):=(Below.refl _ _).alloc (Nat.le_refl _) _
 have b13:=hb2.trans (b23.mono hb2.size)
 have a3:=HA.out.below b13 HA.out.lt
 have s3:=At.new w2 70 #[.string spre,.slice ma M.length mc,.int .i64 th]
 have d5:=a3.cell 5
 simp only[List.getElem?_toArray,List.getElem?_cons_zero,List.getElem?_cons_succ] at d5
 have HB3:=zh (HB.out.trans (b13.mono HB.out.size));have S3:=zh s3;have HV3:=zh (HV.out.below b13);have HM3:=zh (hmm.below b23)
 clear b23 b13 a3 s3 hmm hb2 HAU HV HB HA c1
 obtain⟨CN,hCN⟩:∃ CN,CN=Own.counts ⟨spre,M,th⟩:=⟨_,rfl⟩
 rw[<- hCN] at HR
 have hcn:∀ x:Own.Vote,CN x=M.any (Own.sameM ⟨x.name,x.pub⟩):=fun x=>by rw[hCN,Own.counts_same]
 have HCN:=zh hcn
 clear hCN hcn
 go_upto_region 4 with fail
 generalize w2.alloc (.cells #[.string spre,.slice ma M.length mc,.int .i64 th] 70)=w3 at*
 clear d5
 go_loopw [7,20] (fun n i wr=>∃ k:Nat,k<=V.length/\i=.int .i64 k/\n=.int .i64 (((V.take k).filter CN).length:Nat)/\((V.take k).filter CN).all (·.agrees)=true/\Below w3.heap.size w3 wr) (fun n i _=>V.length - (intOf i).toNat)
 case atStart=>exact⟨0,by omega,rfl,rfl,rfl,Below.refl _ _⟩
 case round=>
  obtain⟨k,hk,rfl,rfl,hall,hb⟩:=hrel
  have HBW:=zh hb
  have sr:=S3.out.below hb S3.out.lt
  have g1:=sr.cell 1;have g2:=sr.cell 2
  simp only[List.getElem?_toArray,List.getElem?_cons_zero,List.getElem?_cons_succ] at g1 g2
  obtain⟨N,hN⟩:∃ N:Nat,N=((V.take k).filter CN).length:=⟨_,rfl⟩
  rw[<- hN]
  by_cases hlt:k<V.length
  case neg=>
   have hke:k=V.length:=by omega
   have dk:decide ((k:Int)<V.length)=false:=decide_eq_false (by omega)
   rw[hke,List.take_length] at hall hN
   have e:R=(ok&&decide (th<=(N:Int))):=by rw[HR.out,hall,<- hN,Bool.true_and]
   have HE:=zh e
   clear e hall hN hke hb sr HR
   cases ok with
   | false =>
     go_wp2_with fail
     go_ret
     exact⟨by rw[HE.out];rfl,HB3.out.trans (HBW.out.mono HB3.out.size)⟩
   | true =>
     go_wp2_with fail
     go_ret
     exact⟨by rw[HE.out];rfl,HB3.out.trans (HBW.out.mono HB3.out.size)⟩
  have dk:decide ((k:Int)<V.length)=true:=decide_eq_true (by omega)
  obtain⟨b,o',ha,hbl,e0,e1,e2⟩:=Own.VotesC.cells (HV3.out.below hb) hlt
  subst ha
  have htk:(V.take (k+1)).filter CN=(V.take k).filter CN++(if CN V[k]=true then [V[k]] else []):=by
   have e:List.filter CN [V[k]]=if CN V[k]=true then [V[k]] else []:=by cases h:CN V[k] <;> simp[h]
   rw[List.take_succ_eq_append_getElem hlt,List.filter_append,e]
  have hNk:N<=k:=by
   rw[hN]
   have:=List.length_filter_le CN (List.take k V)
   have h2:(List.take k V).length=k:=by rw[List.length_take];omega
   omega
  have hbad:CN V[k]=true->V[k].agrees=false->R=false:=fun h1 h2=>by
   rw[HR.out]
   have:(V.filter CN).all (·.agrees)=false:=by
    rw[List.all_eq_false]
    exact⟨V[k],List.mem_filter.2 ⟨List.getElem_mem hlt,h1⟩,by rw[h2];decide⟩
   rw[this,Bool.false_and]
  have hcn:=HCN.out V[k]
  obtain⟨x,hx⟩:∃ x,x=V[k]:=⟨_,rfl⟩
  rw[<- hx] at e0 e1 e2 htk hbad hcn
  obtain⟨xn,xp,xa⟩:=x
  dsimp only at e0 e1 e2 hcn hbad
  obtain⟨C,hC⟩:∃ C,C=CN ⟨xn,xp,xa⟩:=⟨_,rfl⟩
  rw[<- hC] at hbad htk hcn
  have b4:Below wr.heap.size wr (wr.alloc (.cells #[.string xn,.string xp,.bool xa] 82)):=(Below.refl _ _).alloc (Nat.le_refl _) _
  have s4:=sr.alloc (.cells #[.string xn,.string xp,.bool xa] 82)
  have v4:=At.new wr 82 #[.string xn,.string xp,.bool xa]
  have f1:=s4.cell 1
  simp only[List.getElem?_toArray,List.getElem?_cons_zero,List.getElem?_cons_succ] at f1
  have hco:=coMembers_any _ M xn xp _ ((HM3.out.below hb).below b4) HMB.out
  rw[<- hcn] at hco
  have HCO:=zh hco;have HB4:=zh (hb.trans (b4.mono hb.size));have V4:=zh v4;have HBAD:=zh hbad;have HTK:=zh htk;have HALL:=zh hall;have HN:=zh hN
  clear hco b4 s4 v4 hbad htk hall hN hcn hC hx hb sr
  go_wp2_with fail
  refine HCO.out.mono ?_
  rintro e w5 ⟨rfl,hb5⟩
  have v5:=V4.out.below hb5 V4.out.lt
  have q2:=v5.cell 2
  simp only[List.getElem?_toArray,List.getElem?_cons_zero,List.getElem?_cons_succ] at q2
  have HB5:=zh (HB4.out.trans (hb5.mono HB4.out.size))
  clear hb5 v5
  cases C with
  | false =>
    go_wp2_with fail
    go_round
    case measure=>simp[intOf];omega
    case rel=>
     have h2:=HTK.out
     rw[if_neg (by decide),List.append_nil] at h2
     exact⟨k+1,by omega,by go_num,by rw[h2,<- HN.out],by rw[h2];exact HALL.out,HB5.out⟩
  | true=>
  cases xa with
  | false =>
    have e:=HBAD.out rfl rfl
    have HE:=zh e;clear e
    go_wp2_with fail
    go_ret
    exact⟨by rw[HE.out];rfl,HB3.out.trans (HB5.out.mono HB3.out.size)⟩
  | true =>
    have hw:wrap64 ((N:Int)+1)=((N+1:Nat):Int):=by unfold wrap64;omega
    have HW:=zh hw;clear hw
    go_wp2_with (rw[HW.out])
    go_round
    case measure=>simp[intOf];omega
    case rel=>
     have h2:=HTK.out
     rw[if_pos trivial] at h2
     refine⟨k+1,by omega,by go_num,?_,?_,HB5.out⟩
     ·rw[h2,List.length_append,<- HN.out]
      show Value.int .i64 ((N:Int)+1)=.int .i64 ((N+1:Nat):Int)
      rw[Int.natCast_add];rfl
     ·rw[h2,List.all_append,HALL.out];rfl
end
section
open Go Go.RowKit Go.Maps
theorem rvAgreedX_any (q:Own.Queue) (o:Own.Owners) (id:Int) (pv sv kv:Value) (w:World) (hM:MaxL w) (hP:Own.PropsC w pv q.props) (hS:Own.SpacesC w sv o.spaces) (hK:Own.KeysC w kv o.keys) (hlp:q.props.length<=1000000) (hlv:∀ p∈q.props,p.votes.length<=3000000) (hls:o.spaces.length<=140737488355328) (hlk:o.keys.length<=140737488355328) (hlm:∀ s∈o.spaces,s.members.length<=140737488355328):
 Calls Tryz.prog 30 #[.agg #[.int .i64 q.next,pv],.agg #[.int .i64 o.count,sv,kv],.int .i64 id] w fun e w' => e=.returned (.bool (Own.agreed q o id))/\Below w.heap.size w w' :=by
 obtain⟨R,hR⟩:∃ R,R=Own.agreed q o id:=⟨_,rfl⟩
 rw[<- hR]
 unfold Own.agreed at hR
 obtain⟨pa,pc,rfl⟩:=hP.len
 obtain⟨sa,sc,rfl⟩:=hS.len
 obtain⟨ka,kc,rfl⟩:=hK.len
 obtain⟨nx,L⟩:=q
 dsimp only at*
 have hb1:Below w.heap.size w ((w.alloc (.cells #[.int .i64 nx,.slice pa L.length pc] 24)).alloc (.cells #[.int .i64 o.count,.slice sa o.spaces.length sc,.slice ka o.keys.length kc] 38)):=((Below.refl _ _).alloc (Nat.le_refl _) _).alloc (by simp) _
 have a0:=(At.new w 24 #[.int .i64 nx,.slice pa L.length pc]).alloc (.cells #[.int .i64 o.count,.slice sa o.spaces.length sc,.slice ka o.keys.length kc] 38)
 have a1:=At.new1 w (.cells #[.int .i64 nx,.slice pa L.length pc] 24) 38 #[.int .i64 o.count,.slice sa o.spaces.length sc,.slice ka o.keys.length kc]
 have hfd:=rvFind_any nx id _ L _ (hP.below hb1) (by omega)
 have HFD:=zh hfd;have HB:=zh hb1;have A0:=zh a0;have A1:=zh a1;have HM:=zh (hM.below hb1);have HP:=zh (hP.below hb1);have HS:=zh (hS.below hb1);have HK:=zh (hK.below hb1);have HLV:=zh hlv;have HLM:=zh hlm;have HR:=zh hR
 clear hfd hb1 a0 a1 hM hP hS hK hlv hlm hR
 go_enter Tryz.func30,Tryz.ntmps30
 go_wp2_with fail
 refine HFD.out.mono ?_
 rintro e w2 ⟨⟨i,rfl,hi⟩,hb2⟩
 have a0:=A0.out.below hb2 A0.out.lt;have a1:=A1.out.below hb2 A1.out.lt
 obtain⟨x0,x1⟩:=a0.c2;obtain⟨y0,y1,y2⟩:=a1.c3
 have B2:=zh (HB.out.trans (hb2.mono HB.out.size));have A02:=zh a0;have A12:=zh a1;have M2:=zh (HM.out.below hb2);have P2:=zh (HP.out.below hb2);have S2:=zh (HS.out.below hb2);have K2:=zh (HK.out.below hb2)
 have hfi:(i<0/\Own.findP L id=none)\/∃ j:Nat,∃ hj:j<L.length,i=(j:Int)/\Own.findP L id=some L[j]:=hi.find
 clear hi hb2 a0 a1 A0 A1 HM HP HS HK HB HFD
 go_upto_region 2 with fail
 rcases hfi with ⟨hi,hn⟩ | ⟨j,hj,rfl,hn⟩
 ·have di:decide (0<=i)=false:=decide_eq_false (by omega)
  have e:R=false:=by rw[HR.out,hn]
  have HE:=zh e;clear e hn
  have D2:=zh B2.out.drew
  refine Lex.wp_region_lex (by kernel_rfl) (by kernel_rfl) ?_
  go_wp2_with fail
  refine Lex.Ends.intro (by kernel_rfl) ?_
  go_wp2_with fail
  go_ret
  exact⟨by rw[HE.out];rfl,D2.out⟩
 ·have di:decide (0<=(j:Int))=true:=decide_eq_true (by omega)
  have e:R=(Own.queueOK ⟨nx,L⟩&&Own.ownersOK o&&Own.agreedP L[j] o):=by rw[HR.out,hn]
  have HR2:=zh e;clear e hn HR
  refine Lex.wp_region_lex (by kernel_rfl) (by kernel_rfl) ?_
  go_wp2_with fail
  have d2:Below w2.heap.size w2 w2.drew:=(Below.refl _ _).drew
  refine(rvValid_any ⟨nx,L⟩ _ w2.drew (M2.out.below d2) (P2.out.below d2) (by show L.length<=_;omega) (fun p hp=>by have:=HLV.out p hp;omega)).mono ?_
  rintro e w3 ⟨rfl,hb3⟩
  have b23:=d2.trans (hb3.mono (Nat.le_of_eq rfl))
  have a0:=A02.out.below b23 A02.out.lt;have a1:=A12.out.below b23 A12.out.lt
  clear x0 x1 y0 y1 y2
  obtain⟨x0,x1⟩:=a0.c2;obtain⟨y0,y1,y2⟩:=a1.c3
  have B3:=zh (B2.out.trans (b23.mono B2.out.size));have A03:=zh a0;have A13:=zh a1;have M3:=zh (M2.out.below b23);have P3:=zh (P2.out.below b23);have S3:=zh (S2.out.below b23);have K3:=zh (K2.out.below b23)
  clear b23 hb3 a0 a1 d2 A02 A12 M2 P2 S2 K2 B2
  cases hq:Own.queueOK ⟨nx,L⟩ with
  | false =>
    have e:R=false:=by rw[HR2.out,hq];rfl
    have HE:=zh e;clear e
    go_wp2_with fail
    refine Lex.Ends.intro (by kernel_rfl) ?_
    go_wp2_with fail
    go_ret
    exact⟨by rw[HE.out];rfl,B3.out⟩
  | true=>
  go_wp2_with fail
  refine(owValid_any o _ _ w3 M3.out S3.out K3.out hls hlk HLM.out).mono ?_
  rintro e w4 ⟨rfl,hb4⟩
  have a0:=A03.out.below hb4 A03.out.lt;have a1:=A13.out.below hb4 A13.out.lt
  clear x0 x1 y0 y1 y2
  obtain⟨x0,x1⟩:=a0.c2;obtain⟨y0,y1,y2⟩:=a1.c3
  have B4:=zh (B3.out.trans (hb4.mono B3.out.size));have M4:=zh (M3.out.below hb4);have S4:=zh (S3.out.below hb4);have K4:=zh (K3.out.below hb4)
  have hp4:=P3.out.below hb4
  clear hb4 a0 a1 A03 A13 M3 P3 S3 K3 B3
  cases ho:Own.ownersOK o with
  | false =>
    have e:R=false:=by rw[HR2.out,hq,ho];rfl
    have HE:=zh e;clear e
    go_wp2_with fail
    refine Lex.Ends.intro (by kernel_rfl) ?_
    go_wp2_with fail
    go_ret
    exact⟨by rw[HE.out];rfl,B4.out⟩
  | true=>
  have e:R=Own.agreedP L[j] o:=by rw[HR2.out,hq,ho];rfl
  have HE:=zh e;clear e
  obtain⟨b,o',u,ha,hbl,e0,e1,e2,e3,e4,e5,huv⟩:=Own.PropsC.cells hp4 hj
  subst ha
  have hlk2:=HLV.out L[j] (List.getElem_mem hj)
  obtain⟨ua,uc,rfl⟩:=huv.len
  have hag:=rvAgreed_any L[j] o _ _ _ w4 M4.out huv S4.out K4.out (by omega) hls hlk HLM.out
  obtain⟨x,hx⟩:∃ x,x=L[j]:=⟨_,rfl⟩
  rw[<- hx] at e0 e1 e2 e3 e4 e5 hag HE
  obtain⟨pid,ppa,pdi,pop,pex,pvs⟩:=x
  dsimp only at e0 e1 e2 e3 e4 e5 hag
  have HAG:=zh hag
  clear hag huv hp4 hx
  go_wp2_with fail
  refine HAG.out.mono ?_
  rintro e w5 ⟨rfl,hb5⟩
  rw[<- HE.out]
  have B5:=zh (B4.out.trans (hb5.mono B4.out.size))
  clear hb5
  go_wp2_with fail
  refine Lex.Ends.intro (by kernel_rfl) ?_
  go_wp2_with fail
  go_ret
  exact⟨rfl,B5.out⟩
end
section
open Go Go.RowKit Go.Maps
def MergePost (w:World) (R:Own.Queue × Own.Proposal × Int) (e:Ending) (w' : World):Prop:=
 (∃ qv pv,e=.returned (.tuple #[qv,.agg #[.int .i64 R.2.1.id,.string R.2.1.path,.string R.2.1.digest,.int .i64 R.2.1.opened,.int .i64 R.2.1.expires,pv],.int .i64 R.2.2])/\Own.QueueC w' qv R.1/\Own.VotesC w' pv R.2.1.votes)/\Below w.heap.size w w'
theorem Own.POwn.props {B:Nat} {w:World} {v:Value} {L:List Own.Proposal} (h:Own.POwn B w v L):Own.PropsC w v L:=h.list (fun _ _ _=>trivial)
theorem Own.votes_own {w:World} {B n:Nat} {v:Value} {l:List Own.Vote} (h:w.ownsRow B 82 3 v n (l.flatMap Own.encV)) (hn:n=l.length):Own.VotesC w v l:=Own.VotesC.of (RowsC.own h) hn
theorem rvMerge_any (q:Own.Queue) (o:Own.Owners) (size id:Int) (qv sv kv:Value) (w:World) (hMx:MaxL w) (hP:Own.PropsC w qv q.props) (hS:Own.SpacesC w sv o.spaces) (hK:Own.KeysC w kv o.keys)
 (hlp:q.props.length<=1000000) (hlv:∀ x∈q.props,x.votes.length<=3000000) (hls:o.spaces.length<=140737488355328) (hlk:o.keys.length<=140737488355328) (hlm:∀ x∈o.spaces,x.members.length<=140737488355328):
 Calls Tryz.prog 28 #[.agg #[.int .i64 q.next,qv],.agg #[.int .i64 o.count,sv,kv],.int .i64 size,.int .i64 id] w (MergePost w (Own.merge q o size id)):=by
 obtain⟨R,hR⟩:∃ R,R=Own.merge q o size id:=⟨_,rfl⟩
 obtain⟨Q,hQ⟩:∃ Q,Q=MergePost w R:=⟨_,rfl⟩
 rw[<- hR,<- hQ]
 have HQ:=zh hQ;clear hQ
 unfold Own.merge Own.findP Own.without at hR
 obtain⟨qa,qc,rfl⟩:=hP.len
 obtain⟨sa,sc,rfl⟩:=hS.len
 obtain⟨ka,kc,rfl⟩:=hK.len
 have hvq:=fun W (hW:Below w.heap.size w W)=>rvValid_any q (.slice qa q.props.length qc) W (hMx.below hW) (hP.below hW) (by omega) (fun p hp=>by have:=hlv p hp;omega)
 have hvo:=fun W (hW:Below w.heap.size w W)=>owValid_any o (.slice sa o.spaces.length sc) (.slice ka o.keys.length kc) W (hMx.below hW) (hS.below hW) (hK.below hW) hls hlk hlm
 have hagc:=fun(p:Own.Proposal) v W (hW:Below w.heap.size w W) (hv:Own.VotesC W v p.votes) (hl:p.votes.length<=140737488355328)=>rvAgreed_any p o v (.slice sa o.spaces.length sc) (.slice ka o.keys.length kc) W (hMx.below hW) hv (hS.below hW) (hK.below hW) hl hls hlk hlm
 obtain⟨QB,hQB⟩:∃ b,b=Own.queueOK q:=⟨_,rfl⟩
 obtain⟨OB,hOB⟩:∃ b,b=Own.ownersOK o:=⟨_,rfl⟩
 simp only[<- hQB,<- hOB] at hvq hvo hR
 obtain⟨AP,hAP⟩:∃ AP:Own.Proposal->Bool,AP=fun p=>Own.agreedP p o:=⟨_,rfl⟩
 have hap:∀ p,Own.agreedP p o=AP p:=fun p=>by rw[hAP]
 simp only[hap] at hR hagc
 obtain⟨nx,L⟩:=q
 obtain⟨cnt,S,K⟩:=o
 dsimp only at*
 have HVQ:=zh hvq;have HVO:=zh hvo;have HAGC:=zh hagc;have HR:=zh hR;have HP:=zh hP;have HLV:=zh hlv
 clear hvq hvo hagc hR hS hK hlm hQB hOB hAP hap hP hlv hMx
 have F1:=zh (show Boxes w (((((w.alloc (.cells #[.int .i64 nx,.slice qa L.length qc] 24)).alloc (.cells #[.int .i64 cnt,.slice sa S.length sc,.slice ka K.length kc] 38)).alloc (.cells #[.int .i64 id] 3)).alloc (.cells #[.int .i64 0,.slice none 0 0] 24)).alloc (.cells #[.int .i64 0,.string ⟨#[]⟩,.string ⟨#[]⟩,.int .i64 0,.int .i64 0,.slice none 0 0] 46)) [(24,#[.int .i64 nx,.slice qa L.length qc]),(38,#[.int .i64 cnt,.slice sa S.length sc,.slice ka K.length kc]),(3,#[.int .i64 id]),(24,#[.int .i64 0,.slice none 0 0]),(46,#[.int .i64 0,.string ⟨#[]⟩,.string ⟨#[]⟩,.int .i64 0,.int .i64 0,.slice none 0 0])] from((((((Fresh.nil w).push 24 #[.int .i64 nx,.slice qa L.length qc]).push 38 #[.int .i64 cnt,.slice sa S.length sc,.slice ka K.length kc]).push 3 #[.int .i64 id]).push 24 #[.int .i64 0,.slice none 0 0]).push 46 #[.int .i64 0,.string ⟨#[]⟩,.string ⟨#[]⟩,.int .i64 0,.int .i64 0,.slice none 0 0]).boxes)
 have x00:(((((w.alloc (.cells #[.int .i64 nx,.slice qa L.length qc] 24)).alloc (.cells #[.int .i64 cnt,.slice sa S.length sc,.slice ka K.length kc] 38)).alloc (.cells #[.int .i64 id] 3)).alloc (.cells #[.int .i64 0,.slice none 0 0] 24)).alloc (.cells #[.int .i64 0,.string ⟨#[]⟩,.string ⟨#[]⟩,.int .i64 0,.int .i64 0,.slice none 0 0] 46)).cell? ⟨w.heap.size,0,none⟩=some (.int .i64 nx):=F1.out.cell 0 0 rfl rfl
 have x01:(((((w.alloc (.cells #[.int .i64 nx,.slice qa L.length qc] 24)).alloc (.cells #[.int .i64 cnt,.slice sa S.length sc,.slice ka K.length kc] 38)).alloc (.cells #[.int .i64 id] 3)).alloc (.cells #[.int .i64 0,.slice none 0 0] 24)).alloc (.cells #[.int .i64 0,.string ⟨#[]⟩,.string ⟨#[]⟩,.int .i64 0,.int .i64 0,.slice none 0 0] 46)).cell? ⟨w.heap.size,1,none⟩=some (.slice qa L.length qc):=F1.out.cell 0 1 rfl rfl
 have x20:(((((w.alloc (.cells #[.int .i64 nx,.slice qa L.length qc] 24)).alloc (.cells #[.int .i64 cnt,.slice sa S.length sc,.slice ka K.length kc] 38)).alloc (.cells #[.int .i64 id] 3)).alloc (.cells #[.int .i64 0,.slice none 0 0] 24)).alloc (.cells #[.int .i64 0,.string ⟨#[]⟩,.string ⟨#[]⟩,.int .i64 0,.int .i64 0,.slice none 0 0] 46)).cell? ⟨w.heap.size+1+1,0,none⟩=some (.int .i64 id):=F1.out.cell 2 0 rfl rfl
 go_enter Tryz.func28,Tryz.ntmps28
 go_wp2_with fail
 generalize (((((w.alloc (.cells #[.int .i64 nx,.slice qa L.length qc] 24)).alloc (.cells #[.int .i64 cnt,.slice sa S.length sc,.slice ka K.length kc] 38)).alloc (.cells #[.int .i64 id] 3)).alloc (.cells #[.int .i64 0,.slice none 0 0] 24)).alloc (.cells #[.int .i64 0,.string ⟨#[]⟩,.string ⟨#[]⟩,.int .i64 0,.int .i64 0,.slice none 0 0] 46))=w1 at*
 refine(rvFind_any nx id (.slice qa L.length qc) L w1 (HP.out.below F1.out.under) (by omega)).mono ?_
 rintro e w2 ⟨⟨i,rfl,hi⟩,hb2⟩
 have F2:=zh (F1.out.step hb2);have HI:=zh hi
 (try clear x00);(try clear x01);(try clear x10);(try clear x11);(try clear x12);(try clear x20f);(try clear x20);(try clear x30f);(try clear x30);(try clear x31f);(try clear x31);(try clear x40f);(try clear x40);(try clear x41f);(try clear x41);(try clear x42f);(try clear x42);(try clear x43f);(try clear x43);(try clear x44f);(try clear x44);(try clear x45f);(try clear x45)
 clear hb2 hi
 obtain⟨x00,x01⟩:=F2.out.d0_2 rfl
 go_wp2_with fail
 refine(HVQ.out w2 F2.out.under).mono ?_
 rintro e w3 ⟨rfl,hb3⟩
 have F3:=zh (F2.out.step hb3)
 (try clear x00);(try clear x01);(try clear x10);(try clear x11);(try clear x12);(try clear x20f);(try clear x20);(try clear x30f);(try clear x30);(try clear x31f);(try clear x31);(try clear x40f);(try clear x40);(try clear x41f);(try clear x41);(try clear x42f);(try clear x42);(try clear x43f);(try clear x43);(try clear x44f);(try clear x44);(try clear x45f);(try clear x45)
 clear hb3
 cases QB with
 | false =>
   have HE:=zh (show R=(Own.Queue.none,Own.Proposal.none,1) by rw[HR.out];rfl)
   obtain⟨x30,x31,x30f,x31f⟩:=F3.out.e3_2 rfl
   obtain⟨x40,x41,x42,x43,x44,x45,x40f,x41f,x42f,x43f,x44f,x45f⟩:=F3.out.e4_6 rfl
   go_wp2_with fail
   have g1:=F3.out.put 3 0 (.int .i64 0) rfl
   have g2:=g1.put 3 1 (.slice none 0 0) rfl
   have g3:=g2.put 4 0 (.int .i64 0) rfl
   have g4:=g3.put 4 1 (.string ⟨#[]⟩) rfl
   have g5:=g4.put 4 2 (.string ⟨#[]⟩) rfl
   have g6:=g5.put 4 3 (.int .i64 0) rfl
   have g7:=g6.put 4 4 (.int .i64 0) rfl
   have G2:=g7.put 4 5 (.slice none 0 0) rfl
   clear g1 g2 g3 g4 g5 g6 g7
   refine done_cct rfl rfl rfl rfl (load_row (G2.at1 3 rfl) Tryz.underlying24 rfl info_Queue) (load_row (G2.at1 4 rfl) Tryz.underlying46 rfl info_Proposal) ?_
   rw[HQ.out,HE.out]
   exact⟨⟨_,_,rfl,⟨_,rfl,ListF.nil _ _⟩,ListF.nil _ _⟩,G2.under⟩
 | true=>
 obtain⟨x10,x11,x12⟩:=F3.out.d1_3 rfl
 go_wp2_with fail
 refine(HVO.out w3 F3.out.under).mono ?_
 rintro e w4 ⟨rfl,hb4⟩
 have F4:=zh (F3.out.step hb4)
 (try clear x00);(try clear x01);(try clear x10);(try clear x11);(try clear x12);(try clear x20f);(try clear x20);(try clear x30f);(try clear x30);(try clear x31f);(try clear x31);(try clear x40f);(try clear x40);(try clear x41f);(try clear x41);(try clear x42f);(try clear x42);(try clear x43f);(try clear x43);(try clear x44f);(try clear x44);(try clear x45f);(try clear x45)
 clear hb4
 cases OB with
 | false =>
   have HE:=zh (show R=(Own.Queue.none,Own.Proposal.none,1) by rw[HR.out];rfl)
   obtain⟨x30,x31,x30f,x31f⟩:=F4.out.e3_2 rfl
   obtain⟨x40,x41,x42,x43,x44,x45,x40f,x41f,x42f,x43f,x44f,x45f⟩:=F4.out.e4_6 rfl
   go_wp2_with fail
   have g1:=F4.out.put 3 0 (.int .i64 0) rfl
   have g2:=g1.put 3 1 (.slice none 0 0) rfl
   have g3:=g2.put 4 0 (.int .i64 0) rfl
   have g4:=g3.put 4 1 (.string ⟨#[]⟩) rfl
   have g5:=g4.put 4 2 (.string ⟨#[]⟩) rfl
   have g6:=g5.put 4 3 (.int .i64 0) rfl
   have g7:=g6.put 4 4 (.int .i64 0) rfl
   have G2:=g7.put 4 5 (.slice none 0 0) rfl
   clear g1 g2 g3 g4 g5 g6 g7
   refine done_cct rfl rfl rfl rfl (load_row (G2.at1 3 rfl) Tryz.underlying24 rfl info_Queue) (load_row (G2.at1 4 rfl) Tryz.underlying46 rfl info_Proposal) ?_
   rw[HQ.out,HE.out]
   exact⟨⟨_,_,rfl,⟨_,rfl,ListF.nil _ _⟩,ListF.nil _ _⟩,G2.under⟩
 | true=>
 have hr:=HR.out
 rw[if_neg (show ¬ (true&&true)=false by decide)] at hr
 have HR1:=zh hr;clear hr HR
 rcases HI.out with ⟨rfl,hf,_⟩ | ⟨j,hj,rfl,hf,hpj,_⟩
 ·have HE:=zh (show R=(Own.Queue.none,Own.Proposal.none,6) by rw[HR1.out,hf])
  clear hf
  obtain⟨x30,x31,x30f,x31f⟩:=F4.out.e3_2 rfl
  obtain⟨x40,x41,x42,x43,x44,x45,x40f,x41f,x42f,x43f,x44f,x45f⟩:=F4.out.e4_6 rfl
  go_wp2_with fail
  have g1:=F4.out.put 3 0 (.int .i64 0) rfl
  have g2:=g1.put 3 1 (.slice none 0 0) rfl
  have g3:=g2.put 4 0 (.int .i64 0) rfl
  have g4:=g3.put 4 1 (.string ⟨#[]⟩) rfl
  have g5:=g4.put 4 2 (.string ⟨#[]⟩) rfl
  have g6:=g5.put 4 3 (.int .i64 0) rfl
  have g7:=g6.put 4 4 (.int .i64 0) rfl
  have G2:=g7.put 4 5 (.slice none 0 0) rfl
  clear g1 g2 g3 g4 g5 g6 g7
  refine done_cct rfl rfl rfl rfl (load_row (G2.at1 3 rfl) Tryz.underlying24 rfl info_Queue) (load_row (G2.at1 4 rfl) Tryz.underlying46 rfl info_Proposal) ?_
  rw[HQ.out,HE.out]
  exact⟨⟨_,_,rfl,⟨_,rfl,ListF.nil _ _⟩,ListF.nil _ _⟩,G2.under⟩
 have dj:decide ((j:Int)<0)=false:=decide_eq_false (by omega)
 have hr:=HR1.out
 rw[hf] at hr
 obtain⟨b,o',u,ha,hbl,e0,e1,e2,e3,e4,e5,huv⟩:=Own.PropsC.cells (HP.out.below F4.out.under) hj
 have hlj:=HLV.out L[j] (List.getElem_mem hj)
 obtain⟨x,hx⟩:∃ x,x=L[j]:=⟨_,rfl⟩
 rw[<- hx] at e0 e1 e2 e3 e4 huv hlj hr
 obtain⟨ua,uc,rfl⟩:=huv.len
 have hb5:Below w4.heap.size w4 w4.drew:=(Below.refl w4.heap.size w4).drew
 have hagc:=HAGC.out x (.slice ua x.votes.length uc) w4.drew (F4.out.under.trans (hb5.mono F4.out.under.size)) (huv.below hb5) (by omega)
 have hcp:=fun W (hW:Below w4.heap.size w4 W)=>rvCopied_any x (.slice ua x.votes.length uc) W (huv.below hW) hlj
 obtain⟨pid,ppa,pdi,pop,pex,V⟩:=x
 dsimp only at e0 e1 e2 e3 e4 huv hlj hagc hcp hr
 obtain⟨AG,hAG⟩:∃ b,b=AP ⟨pid,ppa,pdi,pop,pex,V⟩:=⟨_,rfl⟩
 rw[<- hAG] at hr hagc
 have HCP:=zh hcp;have HR2:=zh hr;have HAG:=zh hagc
 have hbb:w.heap.size+5<=w4.heap.size:=F4.out.size
 have hnl:b<w.heap.size:=by
  obtain⟨_,_,_,ha',hbl',_⟩:=Own.PropsC.cells HP.out hj
  rw[ha] at ha'
  cases ha'
  exact hbl'
 obtain⟨x00,x01⟩:=F4.out.d0_2 rfl
 subst ha
 clear hcp hr hagc hx hf hpj huv HR1 hAG HAGC hb5
 by_cases hxs:pex<=size
 ·have dx:decide (pex<=size)=true:=decide_eq_true hxs
  have HE:=zh (show R=(Own.Queue.none,Own.Proposal.none,8) by rw[HR2.out,if_pos hxs])
  clear hxs
  (try clear x00);(try clear x01)
  obtain⟨x00,x01⟩:=F4.out.d0_2 rfl
  obtain⟨x30,x31,x30f,x31f⟩:=F4.out.e3_2 rfl
  obtain⟨x40,x41,x42,x43,x44,x45,x40f,x41f,x42f,x43f,x44f,x45f⟩:=F4.out.e4_6 rfl
  go_wp2_with fail
  have g1:=F4.out.put 3 0 (.int .i64 0) rfl
  have g2:=g1.put 3 1 (.slice none 0 0) rfl
  have g3:=g2.put 4 0 (.int .i64 0) rfl
  have g4:=g3.put 4 1 (.string ⟨#[]⟩) rfl
  have g5:=g4.put 4 2 (.string ⟨#[]⟩) rfl
  have g6:=g5.put 4 3 (.int .i64 0) rfl
  have g7:=g6.put 4 4 (.int .i64 0) rfl
  have G2:=g7.put 4 5 (.slice none 0 0) rfl
  clear g1 g2 g3 g4 g5 g6 g7
  refine done_cct rfl rfl rfl rfl (load_row (G2.at1 3 rfl) Tryz.underlying24 rfl info_Queue) (load_row (G2.at1 4 rfl) Tryz.underlying46 rfl info_Proposal) ?_
  rw[HQ.out,HE.out]
  exact⟨⟨_,_,rfl,⟨_,rfl,ListF.nil _ _⟩,ListF.nil _ _⟩,G2.under⟩
 have dx:decide (pex<=size)=false:=decide_eq_false hxs
 have hr3:=HR2.out
 rw[if_neg hxs] at hr3
 have HR3:=zh hr3
 clear hr3 hxs HR2
 (try clear x00);(try clear x01)
 obtain⟨x00,x01⟩:=F4.out.d0_2 rfl
 obtain⟨x10,x11,x12⟩:=F4.out.d1_3 rfl
 go_wp2_with fail
 refine Lex.wp_region_lex (by kernel_rfl) (by kernel_rfl) ?_
 go_wp2_with fail
 refine HAG.out.mono ?_
 rintro e w7 ⟨rfl,hb7⟩
 have hb7' : Below w4.heap.size w4 w7:=(Below.refl w4.heap.size w4).drew.trans hb7
 have F7:=zh (F4.out.step hb7');have HB7:=zh hb7'
 (try clear x00);(try clear x01);(try clear x10);(try clear x11);(try clear x12);(try clear x20f);(try clear x20);(try clear x30f);(try clear x30);(try clear x31f);(try clear x31);(try clear x40f);(try clear x40);(try clear x41f);(try clear x41);(try clear x42f);(try clear x42);(try clear x43f);(try clear x43);(try clear x44f);(try clear x44);(try clear x45f);(try clear x45)
 go_wp2_with fail
 refine Lex.Ends.intro (by kernel_rfl) ?_
 cases AG with
 | false =>
   have HE:=zh (show R=(Own.Queue.none,Own.Proposal.none,20) by rw[HR3.out,if_pos rfl])
   clear e0 e1 e2 e3 e4 e5 hb7 hb7'
   obtain⟨x30,x31,x30f,x31f⟩:=F7.out.e3_2 rfl
   obtain⟨x40,x41,x42,x43,x44,x45,x40f,x41f,x42f,x43f,x44f,x45f⟩:=F7.out.e4_6 rfl
   go_wp2_with fail
   have g1:=F7.out.put 3 0 (.int .i64 0) rfl
   have g2:=g1.put 3 1 (.slice none 0 0) rfl
   have g3:=g2.put 4 0 (.int .i64 0) rfl
   have g4:=g3.put 4 1 (.string ⟨#[]⟩) rfl
   have g5:=g4.put 4 2 (.string ⟨#[]⟩) rfl
   have g6:=g5.put 4 3 (.int .i64 0) rfl
   have g7:=g6.put 4 4 (.int .i64 0) rfl
   have G2:=g7.put 4 5 (.slice none 0 0) rfl
   clear g1 g2 g3 g4 g5 g6 g7
   refine done_cct rfl rfl rfl rfl (load_row (G2.at1 3 rfl) Tryz.underlying24 rfl info_Queue) (load_row (G2.at1 4 rfl) Tryz.underlying46 rfl info_Proposal) ?_
   rw[HQ.out,HE.out]
   exact⟨⟨_,_,rfl,⟨_,rfl,ListF.nil _ _⟩,ListF.nil _ _⟩,G2.under⟩
 | true=>
 have HE:=zh (show R=(⟨nx,L.filter fun p => !decide (p.id=id)⟩,⟨pid,ppa,pdi,pop,pex,V⟩,0) by rw[HR3.out,if_neg (by decide)])
 have hbl7:b<w7.heap.size:=Nat.lt_of_lt_of_le hbl hb7'.size
 replace e0:=(hb7'.cell (p:=⟨b,o' + j*6,none⟩) hbl).trans e0
 replace e1:=(hb7'.cell (p:=⟨b,o' + j*6+1,none⟩) hbl).trans e1
 replace e2:=(hb7'.cell (p:=⟨b,o' + j*6+2,none⟩) hbl).trans e2
 replace e3:=(hb7'.cell (p:=⟨b,o' + j*6+3,none⟩) hbl).trans e3
 replace e4:=(hb7'.cell (p:=⟨b,o' + j*6+4,none⟩) hbl).trans e4
 replace e5:=(hb7'.cell (p:=⟨b,o' + j*6+5,none⟩) hbl).trans e5
 obtain⟨x00,x01⟩:=F7.out.d0_2 rfl
 have x20:w7.cell? ⟨w.heap.size+1+1,0,none⟩=some (.int .i64 id):=F7.out.cell 2 0 rfl rfl
 have hq7:w.heap.size<w7.heap.size:=F7.out.lt (i:=0) (by show 0<5;omega)
 have h2l:w.heap.size+1+1<w7.heap.size:=F7.out.lt (i:=2) (by show 2<5;omega)
 have HX0:=zh (show(w7.cell? ⟨w.heap.size,1,none⟩).isSome=true by rw[x01];rfl)
 have HX1:=zh (show(w7.cell? ⟨b,o' + j*6,none⟩).isSome=true by rw[e0];rfl)
 have hd7:Below w7.heap.size w7 w7.drew:=(Below.refl w7.heap.size w7).drew
 have hkp:=rvKept_any 73 #[.pointer (some ⟨w.heap.size+1+1,0,none⟩)] (by intros;rfl) (fun p:Own.Proposal => !decide (p.id=id)) nx (.slice (some ⟨b,o',none⟩) L.length qc) L w7.drew (HP.out.below (F7.out.under.trans (hd7.mono F7.out.under.size))) hlp HLV.out (fun W x u hb=>rvMerge1_any x u _ id W (((hd7.trans hb).cell (p:=⟨w.heap.size+1+1,0,none⟩) h2l).trans x20))
 have HKP:=zh hkp
 clear hkp hb7 hb7' hd7
 go_wp2_with fail
 refine Lex.wp_region_lexN (fun k=>k=w.heap.size\/k=b) [4,7] 8 [3] (by kernel_rfl) (by kernel_rfl) (by kernel_rfl) ?_
 simp only[Lex.wpCuts,List.take_succ_cons,List.take_zero,List.drop_succ_cons,List.drop_zero]
 go_wp2_with fail
 refine HKP.out.mono ?_
 rintro e w8 ⟨⟨v8,rfl,hpo⟩,hb8⟩
 rw[drew_heap] at hpo
 obtain⟨wa,wc,rfl⟩:=hpo.one
 obtain⟨NL,hNL⟩:∃ NL,NL=L.filter fun p => !decide (p.id=id):=⟨_,rfl⟩
 rw[<- hNL] at hpo HE ⊢
 have hb8' : Below w7.heap.size w7 w8:=(Below.refl w7.heap.size w7).drew.trans hb8
 have F8:=zh (F7.out.step hb8');have HB8:=zh hb8';have HPO:=zh hpo
 (try clear x00);(try clear x01);(try clear x10);(try clear x11);(try clear x12);(try clear x20f);(try clear x20);(try clear x30f);(try clear x30);(try clear x31f);(try clear x31);(try clear x40f);(try clear x40);(try clear x41f);(try clear x41);(try clear x42f);(try clear x42);(try clear x43f);(try clear x43);(try clear x44f);(try clear x44);(try clear x45f);(try clear x45)
 replace e0:=(hb8'.cell (p:=⟨b,o' + j*6,none⟩) hbl7).trans e0
 replace e1:=(hb8'.cell (p:=⟨b,o' + j*6+1,none⟩) hbl7).trans e1
 replace e2:=(hb8'.cell (p:=⟨b,o' + j*6+2,none⟩) hbl7).trans e2
 replace e3:=(hb8'.cell (p:=⟨b,o' + j*6+3,none⟩) hbl7).trans e3
 replace e4:=(hb8'.cell (p:=⟨b,o' + j*6+4,none⟩) hbl7).trans e4
 replace e5:=(hb8'.cell (p:=⟨b,o' + j*6+5,none⟩) hbl7).trans e5
 have HC8:=zh (HCP.out w8 (HB7.out.trans (hb8'.mono HB7.out.size)))
 clear hb8 hb8' hpo hNL
 obtain⟨x00,x01⟩:=F8.out.d0_2 rfl
 go_wp2_with fail
 refine Lex.Mid.intro (fun k hk _=>by rcases hk with hk | hk <;> (rw[hk];exact HB8.out.block _ (by assumption))) ?_
 go_wp2_with fail
 refine HC8.out.mono ?_
 rintro e w9 ⟨v',rfl,hov,hb9⟩
 obtain⟨va',vm',vc',rfl⟩:=own_slice hov
 obtain rfl:=own_len hov
 have F9:=zh (F8.out.step hb9);have HOV:=zh hov;have HP9:=zh (HPO.out.below hb9)
 (try clear x00);(try clear x01);(try clear x10);(try clear x11);(try clear x12);(try clear x20f);(try clear x20);(try clear x30f);(try clear x30);(try clear x31f);(try clear x31);(try clear x40f);(try clear x40);(try clear x41f);(try clear x41);(try clear x42f);(try clear x42);(try clear x43f);(try clear x43);(try clear x44f);(try clear x44);(try clear x45f);(try clear x45)
 clear hb9 hov e0 e1 e2 e3 e4 e5
 obtain⟨x30,x31,x30f,x31f⟩:=F9.out.e3_2 rfl
 obtain⟨x40,x41,x42,x43,x44,x45,x40f,x41f,x42f,x43f,x44f,x45f⟩:=F9.out.e4_6 rfl
 go_wp2_with fail
 refine Lex.EndsN.intro (by kernel_rfl) ⟨⟨.inl rfl,HX0.out⟩,⟨.inr rfl,HX1.out⟩,trivial⟩ ?_
 go_wp2_with fail
 have g1:=F9.out.put 3 0 (.int .i64 nx) rfl
 have g2:=g1.put 3 1 (.slice wa NL.length wc) rfl
 have g3:=g2.put 4 0 (.int .i64 pid) rfl
 have g4:=g3.put 4 1 (.string ppa) rfl
 have g5:=g4.put 4 2 (.string pdi) rfl
 have g6:=g5.put 4 3 (.int .i64 pop) rfl
 have g7:=g6.put 4 4 (.int .i64 pex) rfl
 have G2:=g7.put 4 5 (.slice va' V.length vc') rfl
 clear g1 g2 g3 g4 g5 g6 g7
 refine done_cct rfl rfl rfl rfl (load_row (G2.at1 3 rfl) Tryz.underlying24 rfl info_Queue) (load_row (G2.at1 4 rfl) Tryz.underlying46 rfl info_Proposal) ?_
 rw[HQ.out,HE.out]
 have hup:=own_up HOV.out
 have h7:w.heap.size+5<=w7.heap.size:=F7.out.size
 have h8:w.heap.size+5<=w8.heap.size:=F8.out.size
 refine⟨⟨_,_,rfl,⟨_,rfl,?_⟩,?_⟩,G2.under⟩
 ·refine Own.POwn.props (HP9.out.keep (by simp[World.setCell]) (fun k hk _=>?_))
  have k2:k≠w.heap.size+1+1+1:=by omega
  have k3:k≠w.heap.size+1+1+1+1:=by omega
  rw[heap_setCell_other _ _ _ _ k3,heap_setCell_other _ _ _ _ k3,heap_setCell_other _ _ _ _ k3,heap_setCell_other _ _ _ _ k3,heap_setCell_other _ _ _ _ k3,heap_setCell_other _ _ _ _ k3,heap_setCell_other _ _ _ _ k2,heap_setCell_other _ _ _ _ k2]
 ·refine Own.votes_own (own_keep HOV.out (fun k hk=>?_)) rfl
  have:=hup k hk
  have k2:k≠w.heap.size+1+1+1:=by omega
  have k3:k≠w.heap.size+1+1+1+1:=by omega
  rw[heap_setCell_other _ _ _ _ k3,heap_setCell_other _ _ _ _ k3,heap_setCell_other _ _ _ _ k3,heap_setCell_other _ _ _ _ k3,heap_setCell_other _ _ _ _ k3,heap_setCell_other _ _ _ _ k3,heap_setCell_other _ _ _ _ k2,heap_setCell_other _ _ _ _ k2]
end
section
open Go Go.RowKit Go.Maps
namespace Own
def cellsS (L:List Proposal) (us:List Value):List Value:=(List.zipWith encP L us).flatten
structure SOwn (B:Nat) (w:World) (v:Value) (L:List Proposal) (us:List Value):Prop where
 len:us.length=L.length
 row:w.ownsRow B 46 6 v L.length (cellsS L us)
 votes:∀ i (h:i<L.length) (h' : i<us.length),w.ownsRow B 82 3 us[i] L[i].votes.length (L[i].votes.flatMap encV)
 apart:us.Pairwise fun a b=>∀ k,a.ownBlock=some k->b.ownBlock≠some k
theorem SOwn.nil (B:Nat) (w:World):SOwn B w (.slice none 0 0) [] []:=⟨rfl,⟨rfl,.inl ⟨rfl,rfl⟩⟩,fun i h=>absurd h (by simp),List.Pairwise.nil⟩
theorem SOwn.below {B:Nat} {w w' : World} {v:Value} {L:List Proposal} {us:List Value} (h:SOwn B w v L us) (hb:Below w.heap.size w w'):SOwn B w' v L us:=
 ⟨h.len,own_below h.row hb,fun i h1 h2=>own_below (h.votes i h1 h2) hb,h.apart⟩
theorem SOwn.keep {B:Nat} {w w' : World} {v:Value} {L:List Proposal} {us:List Value} (h:SOwn B w v L us) (hk:∀ k,B<=k->k<w.heap.size->w'.heap[k]? = w.heap[k]?):SOwn B w' v L us:=
 ⟨h.len,own_keep h.row (fun k e=>hk k (own_up h.row k e) (own_lt' h.row k e)),fun i h1 h2=>own_keep (h.votes i h1 h2) (fun k e=>hk k (own_up (h.votes i h1 h2) k e) (own_lt' (h.votes i h1 h2) k e)),h.apart⟩
theorem cellsS_snoc (L:List Proposal) (us:List Value) (x:Proposal) (u:Value) (h:us.length=L.length):cellsS (L++[x]) (us++[u])=cellsS L us++encP x u:=by
 unfold cellsS
 rw[List.zipWith_append h.symm]
 simp
theorem SOwn.push {B:Nat} {w w' : World} {v v' u:Value} {L:List Proposal} {x:Proposal} {us:List Value} (h:SOwn B w v L us) (hu:w.ownsRow B 82 3 u x.votes.length (x.votes.flatMap encV)) (hd:∀ i (h:i<us.length) k,us[i].ownBlock=some k->u.ownBlock≠some k)
 (hv:w'.ownsRow B 46 6 v' (L.length+1) (cellsS L us++encP x u)) (hg:w.grownBy w' v.ownBlock):SOwn B w' v' (L++[x]) (us++[u]):=by
 have hkeep:∀ {z:Value} {n:Nat} {xs:List Value},w.ownsRow B 82 3 z n xs->w'.ownsRow B 82 3 z n xs:=fun hz=>own_keep hz (fun k e=>hg.block k (own_lt' hz k e) (fun e' => own_dis hz h.row (by decide) k e e'.symm))
 refine⟨by simp[h.len],?_,fun i h1 h2=>?_,?_⟩
 ·rw[cellsS_snoc _ _ _ _ h.len,List.length_append]
  exact hv
 ·by_cases hi:i<L.length
  ·rw[List.getElem_append_left hi,List.getElem_append_left (by rw[h.len];exact hi)]
   exact hkeep (h.votes i hi (by rw[h.len];exact hi))
  ·have e:i=L.length:=by simp at h1;omega
   subst e
   rw[List.getElem_append_right (Nat.le_refl _),List.getElem_append_right (by rw[h.len];exact Nat.le_refl _)]
   simp only[h.len,Nat.sub_self,List.getElem_cons_zero]
   exact hkeep hu
 ·refine List.pairwise_append.2 ⟨h.apart,List.pairwise_singleton _ _,fun a ha b hb k hk=>?_⟩
  have hb:b=u:=by simpa using hb
  subst hb
  obtain⟨i,hi,rfl⟩:=List.getElem_of_mem ha
  exact hd i hi k hk
theorem SOwn.one {B:Nat} {w:World} {v:Value} {L:List Proposal} {us:List Value} (h:SOwn B w v L us):∃ a c,v=.slice a L.length c:=by
 obtain⟨a,m,c,rfl⟩:=own_slice h.row
 obtain rfl:=own_len h.row
 exact⟨a,c,rfl⟩
theorem SOwn.props {B:Nat} {w:World} {v:Value} {L:List Proposal} {us:List Value} (h:SOwn B w v L us):PropsC w v L:=by
 refine ListF.of_rows (css:=List.zipWith encP L us) (RowsC.own h.row) rfl (by simp[h.len]) (fun _ _=>trivial) (fun i hi hi' => ?_)
 have h2:i<us.length:=by rw[h.len];exact hi
 rw[List.getElem_zipWith]
 exact⟨rfl,us[i],rfl,votes_own (h.votes i hi h2) rfl⟩
end Own
theorem rvKeptS_any (nx:Int) (pv:Value) (l:List Own.Proposal) (w:World) (hP:Own.PropsC w pv l) (hl:l.length<=1000000) (hlv:∀ x∈l,x.votes.length<=3000000):
 Calls Tryz.prog 42 #[.agg #[.int .i64 nx,pv],.func (.func 43) #[] #[]] w fun e w' => (∃ v' us,e=.returned (.agg #[.int .i64 nx,v'])/\Own.SOwn (w.heap.size+3) w' v' l us)/\Below w.heap.size w w' :=by
 obtain⟨a,c,rfl⟩:=hP.len
 have F1:=zh (show Boxes w (((w.alloc (.cells #[.int .i64 nx,.slice a l.length c] 24)).alloc (.cells #[.int .i64 0,.slice none 0 0] 24)).alloc (.cells #[.int .i64 nx,.slice none 0 0] 24)) [(24,#[.int .i64 nx,.slice a l.length c]),(24,#[.int .i64 0,.slice none 0 0]),(24,#[.int .i64 nx,.slice none 0 0])] from((((Fresh.nil w).push 24 #[.int .i64 nx,.slice a l.length c]).push 24 #[.int .i64 0,.slice none 0 0]).push 24 #[.int .i64 nx,.slice none 0 0]).boxes)
 have HL:=zh hP;have HLV:=zh hlv
 clear hP hlv
 have x00:(((w.alloc (.cells #[.int .i64 nx,.slice a l.length c] 24)).alloc (.cells #[.int .i64 0,.slice none 0 0] 24)).alloc (.cells #[.int .i64 nx,.slice none 0 0] 24)).cell? ⟨w.heap.size,0,none⟩=some (.int .i64 nx):=F1.out.cell 0 0 rfl rfl
 have x01:(((w.alloc (.cells #[.int .i64 nx,.slice a l.length c] 24)).alloc (.cells #[.int .i64 0,.slice none 0 0] 24)).alloc (.cells #[.int .i64 nx,.slice none 0 0] 24)).cell? ⟨w.heap.size,1,none⟩=some (.slice a l.length c):=F1.out.cell 0 1 rfl rfl
 go_enter Tryz.func42,Tryz.ntmps42
 go_upto_region 2 with fail
 generalize (((w.alloc (.cells #[.int .i64 nx,.slice a l.length c] 24)).alloc (.cells #[.int .i64 0,.slice none 0 0] 24)).alloc (.cells #[.int .i64 nx,.slice none 0 0] 24))=w1 at*
 go_wp2_with fail
 (try clear x00);(try clear x01);(try clear x10f);(try clear x10);(try clear x11f);(try clear x11);(try clear x20f);(try clear x20);(try clear x21f);(try clear x21)
 go_loopw [14] (fun i wr=>∃ (k:Nat) (v:Value) (us:List Value),k<=l.length/\i=.int .i64 k/\Boxes w wr [(24,#[.int .i64 nx,.slice a l.length c]),(24,#[.int .i64 0,.slice none 0 0]),(24,#[.int .i64 nx,v])]/\Own.SOwn (w.heap.size+3) wr v (l.take k) us) (fun i _=>l.length - (intOf i).toNat)
 case atStart=>exact⟨0,_,[],by omega,rfl,F1.out,Own.SOwn.nil _ _⟩
 case round=>
  obtain⟨k,v,us,hk,rfl,hbx,hpo⟩:=hrel
  obtain⟨L,hL⟩:∃ L,L=l.take k:=⟨_,rfl⟩
  rw[<- hL] at hpo
  have hLM:L.length<=1000000:=by rw[hL,List.length_take];omega
  obtain⟨va,vc,rfl⟩:=hpo.one
  have G1:=zh hbx;have HPO:=zh hpo
  clear hbx hpo
  by_cases hlt:k<l.length
  case neg=>
   obtain⟨x10,x11,x10f,x11f⟩:=G1.out.e1_2 rfl
   obtain⟨x20,x21⟩:=G1.out.d2_2 rfl
   have hke:k=l.length:=by omega
   have dk:decide ((k:Int)<l.length)=false:=decide_eq_false (by omega)
   have HL2:=zh (show L=l by rw[hL,hke,List.take_length])
   clear hke hL
   go_wp2_with fail
   have G2:=((G1.out.put 1 0 (.int .i64 nx) rfl).put 1 1 (.slice va L.length vc) rfl)
   refine done_c rfl rfl (load_row (G2.at1 1 rfl) Tryz.underlying24 rfl info_Queue) ⟨⟨_,us,rfl,?_⟩,G2.under⟩
   rw[<- HL2.out]
   exact HPO.out.keep (fun k hk _=>by
    have hk1:k≠w.heap.size+1:=by omega
    rw[heap_setCell_other _ _ _ _ hk1,heap_setCell_other _ _ _ _ hk1])
  have dk:decide ((k:Int)<l.length)=true:=decide_eq_true (by omega)
  have HTK:=zh (show l.take (k+1)=L++[l[k]] by rw[List.take_succ_eq_append_getElem hlt,<- hL])
  clear hL
  obtain⟨b,o,u,ha,hbl,e0,e1,e2,e3,e4,e5,huv⟩:=Own.PropsC.cells (HL.out.below G1.out.under) hlt
  subst ha
  have hlk:=HLV.out l[k] (List.getElem_mem hlt)
  obtain⟨x,hx⟩:∃ x,x=l[k]:=⟨_,rfl⟩
  rw[<- hx] at e0 e1 e2 e3 e4 huv hlk
  obtain⟨ua,uc,rfl⟩:=huv.len
  have hcp:=fun W (hW:Below wr.heap.size wr W)=>rvCopied_any x (.slice ua x.votes.length uc) W (huv.below hW) hlk
  have hall:=fun W=>rvAll_any x (.slice ua x.votes.length uc) W
  have HCP:=zh hcp;have HX:=zh hx;have HALL:=zh hall
  obtain⟨pid,ppa,pdi,pop,pex,pvs⟩:=x
  dsimp only at e0 e1 e2 e3 e4 HCP HALL
  clear hx hcp hall huv
  have P5:=zh (show Boxes wr (wr.alloc (.cells #[.int .i64 pid,.string ppa,.string pdi,.int .i64 pop,.int .i64 pex,.slice ua pvs.length uc] 46)) [(46,#[.int .i64 pid,.string ppa,.string pdi,.int .i64 pop,.int .i64 pex,.slice ua pvs.length uc])] from((Fresh.nil wr).push 46 #[.int .i64 pid,.string ppa,.string pdi,.int .i64 pop,.int .i64 pex,.slice ua pvs.length uc]).boxes)
  have G5:=zh (G1.out.step P5.out.under);have HPO5:=zh (HPO.out.below P5.out.under)
  go_upto_region 5 with fail
  generalize (wr.alloc (.cells #[.int .i64 pid,.string ppa,.string pdi,.int .i64 pop,.int .i64 pex,.slice ua pvs.length uc] 46))=w5 at*
  obtain⟨z00,z01,z02,z03,z04,z05⟩:=P5.out.d0_6 rfl
  clear e0 e1 e2 e3 e4 e5
  go_wp2_with fail
  refine(HALL.out w5).mono ?_
  rintro e w6 ⟨rfl,hb6⟩
  have P6:=zh (P5.out.step hb6);have G6:=zh (G5.out.step hb6);have HPO6:=zh (HPO5.out.below hb6)
  (try clear z00);(try clear z01);(try clear z02);(try clear z03);(try clear z04);(try clear z05)
  clear hb6
  obtain⟨z00,z01,z02,z03,z04,z05⟩:=P6.out.d0_6 rfl
  obtain⟨x20,x21,x20f,x21f⟩:=G6.out.e2_2 rfl
  have hol:w.heap.size+1+1<w6.heap.size:=G6.out.lt (i:=2) (by show 2<3;omega)
  have hwz:w.heap.size+3<=w6.heap.size:=G6.out.size
  have HXS:=zh (show(w6.cell? ⟨w.heap.size+1+1,1,none⟩).isSome=true by rw[x21];rfl)
  have HCP6:=zh (HCP.out w6.drew (P6.out.under.trans ((Below.refl w6.heap.size w6).drew.mono P6.out.under.size)))
  go_wp2_with fail
  refine Lex.wp_region_lexN (fun j=>j=w.heap.size+1+1) [1] 5 [4] (by kernel_rfl) (by kernel_rfl) (by kernel_rfl) ?_
  simp only[Lex.wpCuts,List.take_succ_cons,List.take_zero,List.drop_succ_cons,List.drop_zero]
  go_wp2_with fail
  refine HCP6.out.mono ?_
  rintro e w7 ⟨v',rfl,hov,hb7⟩
  rw[drew_heap] at hov
  obtain⟨va',vm',vc',rfl⟩:=own_slice hov
  have hb7' : Below w6.heap.size w6 w7:=(Below.refl w6.heap.size w6).drew.trans hb7
  have G7:=zh (G6.out.step hb7');have HB7:=zh hb7';have HOV:=zh hov;have HPO7:=zh (HPO6.out.below hb7')
  (try clear z00);(try clear z01);(try clear z02);(try clear z03);(try clear z04);(try clear z05)
  (try clear x00);(try clear x01);(try clear x10f);(try clear x10);(try clear x11f);(try clear x11);(try clear x20f);(try clear x20);(try clear x21f);(try clear x21)
  obtain⟨x20,x21,x20f,x21f⟩:=G7.out.e2_2 rfl
  clear hb7 hb7' hov
  go_wp2_with fail
  refine Lex.Mid.intro (fun j hj _=>by rw[hj];exact HB7.out.block _ hol) ?_
  have hrw:=(rows_new w7 46 #[.int .i64 pid,.string ppa,.string pdi,.int .i64 pop,.int .i64 pex,.slice va' vm' vc'] 6 1 1 rfl)
  have hb78:Below w7.heap.size w7 (w7.alloc (.cells #[.int .i64 pid,.string ppa,.string pdi,.int .i64 pop,.int .i64 pex,.slice va' vm' vc'] 46)):=(Below.refl _ _).alloc (Nat.le_refl _) _
  have h67:=HB7.out.size
  have HPO8:=zh (HPO7.out.below hb78);have HRW:=zh hrw;have G8:=zh (G7.out.step hb78);have HOV8:=zh (own_base (own_below HOV.out hb78) hwz)
  have hdis:∀ i (h:i<us.length) k,us[i].ownBlock=some k->(Value.slice va' vm' vc').ownBlock≠some k:=fun i h k hk e=>by
   have hi:i<L.length:=by rw[<- HPO6.out.len];exact h
   have h1:=Own.own_lt' (HPO6.out.votes i hi h) k hk
   have h2:=own_up HOV.out k e
   omega
  have HDIS:=zh hdis
  clear hrw hb78 hdis
  go_wp2_with (at_builtin;go_must (refine wp_append_rows elemProps rfl _ _ rfl (w.heap.size+3) L.length (.slice va L.length vc) (Own.cellsS L us) rfl HPO8.out.row (.slice (some ⟨w7.heap.size,0,none⟩) 1 1) 1 [.int .i64 pid,.string ppa,.string pdi,.int .i64 pop,.int .i64 pex,.slice va' vm' vc'] rfl HRW.out (by intro u hu;simp at hu;rcases hu with rfl | rfl | rfl | rfl | rfl | rfl <;> rfl) (by omega) (by omega) (by rw[World.size_alloc];omega) ?_);intro v9 w9 ho9 hg9 hw9;obtain⟨ya,ym,yc,rfl⟩:=own_slice ho9;have HP9:=zh (Own.SOwn.push (x:=⟨pid,ppa,pdi,pop,pex,pvs⟩) HPO8.out HOV8.out HDIS.out ho9 hg9);have G9:=zh (G8.out.far (Nat.le_refl _) (own_up HPO8.out.row) hg9);have y20:w9.cell? ⟨w.heap.size+1+1,0,none⟩=some (.int .i64 nx):=G9.out.cell 2 0 rfl rfl;have y20f:w9.frozen? ⟨w.heap.size+1+1,0,none⟩=false:=G9.out.free 2 0 rfl;have y21:w9.cell? ⟨w.heap.size+1+1,1,none⟩=some (.slice va L.length vc):=G9.out.cell 2 1 rfl rfl;have y21f:w9.frozen? ⟨w.heap.size+1+1,1,none⟩=false:=G9.out.free 2 1 rfl;clear ho9 hg9 hw9)
  refine Lex.EndsN.intro (by kernel_rfl) ⟨⟨rfl,HXS.out⟩,trivial⟩ ?_
  go_wp2_with fail
  refine⟨⟨k+1,.slice ya ym yc,us++[.slice va' vm' vc'],by omega,by go_num,G9.out.put 2 1 (.slice ya ym yc) rfl,?_⟩,by simp[intOf];omega⟩
  rw[HTK.out,<- HX.out]
  exact HP9.out.keep (fun k hk _=>heap_setCell_other _ _ _ _ (by show k≠w.heap.size+1+1;omega))
end
section
open Go Go.RowKit Go.Maps
theorem own_put {w:World} {base g n cap size:Nat} {e:TypeId} {xs:List Value} (h:w.ownsRow base e size (.slice (some ⟨g,0,none⟩) n cap) n xs) (i:Nat) (hi:i<xs.length) (u:Value):(w.setCell ⟨g,i,none⟩ u).ownsRow base e size (.slice (some ⟨g,0,none⟩) n cap) n (xs.set i u):=by
 obtain⟨ys,h1,h2,h3,h4,h5,h6⟩:=own_cur h
 refine own_of_at (cur:=xs.set i u++ys) ?_ h2 h3 h4 (by simpa using h5) (by rw[List.take_append_of_le_length (by rw[List.length_set,h6];exact Nat.le_refl _),List.take_of_length_le (by rw[List.length_set,h6];exact Nat.le_refl _)])
 have:=h1.set i u
 rwa [List.setIfInBounds_toArray,List.set_append_left _ _ hi] at this
namespace Own
def withV (p:Proposal) (nv:List Vote):Proposal:=⟨p.id,p.path,p.digest,p.opened,p.expires,nv⟩
theorem SOwn.turn {B:Nat} {w w' : World} {v u' : Value} {L:List Proposal} {us:List Value} (h:SOwn B w v L us) {i:Nat} (hi:i<L.length) {nv:List Vote}
 (hrow:w'.ownsRow B 46 6 v L.length (cellsS (L.set i (withV L[i] nv)) (us.set i u'))) (hu:w'.ownsRow B 82 3 u' nv.length (nv.flatMap encV))
 (hother:∀ j (hj:j<L.length) (hj' : j<us.length),j≠i->w'.ownsRow B 82 3 us[j] L[j].votes.length (L[j].votes.flatMap encV))
 (hap:∀ j (hj:j<us.length),j≠i->∀ k,us[j].ownBlock=some k->u'.ownBlock≠some k):SOwn B w' v (L.set i (withV L[i] nv)) (us.set i u'):=by
 refine⟨by simp[h.len],by rw[List.length_set];exact hrow,fun j h1 h2=>?_,?_⟩
 ·rw[List.length_set] at h1 h2
  by_cases hji:j=i
  ·subst hji
   rw[List.getElem_set_self,List.getElem_set_self]
   exact hu
  ·rw[List.getElem_set_ne (fun e=>hji e.symm),List.getElem_set_ne (fun e=>hji e.symm)]
   exact hother j h1 h2 hji
 ·rw[List.pairwise_iff_getElem]
  intro a b ha hb hab k hk
  rw[List.length_set] at ha hb
  by_cases hai:i=a
  ·subst hai
   rw[List.getElem_set_self] at hk
   rw[List.getElem_set_ne (by omega)]
   intro e
   exact hap b hb (by omega) k e hk
  ·rw[List.getElem_set_ne hai] at hk
   by_cases hbi:i=b
   ·subst hbi
    rw[List.getElem_set_self]
    exact hap a ha (by omega) k hk
   ·rw[List.getElem_set_ne hbi]
    exact(List.pairwise_iff_getElem.1 h.apart) a b ha hb hab k hk
theorem zip_set (L:List Proposal):∀ (us:List Value) (i:Nat) (hi:i<L.length) (_:us.length=L.length) (nv:List Vote) (u' : Value),cellsS (L.set i (withV L[i] nv)) (us.set i u')=(cellsS L us).set (i*6+5) u' :=by
 induction L with
 | nil=>intro us i hi;cases hi
 | cons x L ih =>
   intro us i hi hl nv u'
   cases us with
   | nil=>cases hl
   | cons z us =>
     cases i with
     | zero=>rfl
     | succ i =>
       have hi' : i<L.length:=by simpa using hi
       have:=ih us i hi' (by simpa using hl) nv u'
       unfold cellsS at this ⊢
       show encP x z++(List.zipWith encP (L.set i (withV L[i] nv)) (us.set i u')).flatten=(encP x z++(List.zipWith encP L us).flatten).set ((i+1)*6+5) u'
       rw[this,List.set_append_right _ _ (by show 6<=_;omega)]
       congr 2
       show i*6+5=(i+1)*6+5 - 6
       omega
theorem zip_same (L:List Proposal):∀ (us:List Value) (i:Nat) (hi:i<L.length) (hi' : i<us.length) (_:us.length=L.length) (nv:List Vote),cellsS (L.set i (withV L[i] nv)) us=cellsS L us:=by
 induction L with
 | nil=>intro us i hi;cases hi
 | cons x L ih =>
   intro us i hi hi' hl nv
   cases us with
   | nil=>cases hl
   | cons z us =>
     cases i with
     | zero=>rfl
     | succ i =>
       have hi2:i<L.length:=by simpa using hi
       have:=ih us i hi2 (by simpa using hi') (by simpa using hl) nv
       unfold cellsS at this ⊢
       show encP x z++(List.zipWith encP (L.set i (withV L[i] nv)) us).flatten=encP x z++(List.zipWith encP L us).flatten
       rw[this]
theorem zip_get (L:List Proposal):∀ (us:List Value) (i:Nat) (hi:i<L.length) (hi' : i<us.length) (c:Nat) (_:c<6),(cellsS L us)[i*6+c]? = (encP L[i] us[i])[c]? :=by
 induction L with
 | nil=>intro us i hi;cases hi
 | cons x L ih =>
   intro us i hi hi' c hc
   cases us with
   | nil=>cases hi'
   | cons z us =>
     have hl:(encP x z).length=6:=rfl
     cases i with
     | zero =>
       show(encP x z++cellsS L us)[0*6+c]? = _
       rw[Nat.zero_mul,Nat.zero_add,List.getElem?_append_left (by omega)]
       rfl
     | succ i =>
       have:=ih us i (by simpa using hi) (by simpa using hi') c hc
       show(encP x z++cellsS L us)[(i+1)*6+c]? = (encP (L[i]'(by simpa using hi)) (us[i]'(by simpa using hi')))[c]?
       rw[<- this,List.getElem?_append_right (by omega),hl]
       congr 1
       omega
theorem zip_len (L:List Proposal):∀ (us:List Value),us.length=L.length->(cellsS L us).length=L.length*6:=by
 induction L with
 | nil=>intro us _;simp[cellsS]
 | cons x L ih =>
   intro us hl
   cases us with
   | nil=>cases hl
   | cons z us =>
     have:=ih us (by simpa using hl)
     unfold cellsS at this ⊢
     show(encP x z++(List.zipWith encP L us).flatten).length=_
     rw[List.length_append,this]
     show 6+L.length*6=(L.length+1)*6
     omega
theorem setP_set:∀ (L:List Proposal) (i:Nat) (hi:i<L.length) (_:L.Pairwise fun x y=>x.id<y.id) (nv:List Vote),setP L (withV L[i] nv)=L.set i (withV L[i] nv)
 | [],i,hi,_,_=>by cases hi
 | x :: L,0,hi,hp,nv => by
   obtain⟨h1,_⟩:=List.pairwise_cons.1 hp
   have e:setP (x::L) (withV x nv)=withV x nv::L:=by
    unfold setP
    rw[List.map_cons,if_pos (show x.id=(withV x nv).id from rfl)]
    congr 1
    have:∀ y∈L,(if y.id=(withV x nv).id then withV x nv else y)=y:=fun y hy=>if_neg (by have:=h1 y hy;show ¬ y.id=x.id;omega)
    rw[List.map_congr_left this,List.map_id']
   exact e
 | x :: L,i + 1,hi,hp,nv => by
   obtain⟨h1,h2⟩:=List.pairwise_cons.1 hp
   have hi' : i<L.length:=by simpa using hi
   have ih:=setP_set L i hi' h2 nv
   have:=h1 _ (List.getElem_mem hi')
   have e:setP (x::L) (withV L[i] nv)=x::setP L (withV L[i] nv):=by
    unfold setP
    rw[List.map_cons,if_neg (by show ¬ x.id=L[i].id;omega)]
   show setP (x::L) (withV L[i] nv)=x::L.set i (withV L[i] nv)
   rw[e,ih]
end Own
def VotePost (w:World) (R:Own.Queue × Own.Owners × Int) (e:Ending) (w' : World):Prop:=
 (∃ qv sv kv,e=.returned (.tuple #[qv,.agg #[.int .i64 R.2.1.count,sv,kv],.int .i64 R.2.2])/\Own.QueueC w' qv R.1/\Own.SpacesC w' sv R.2.1.spaces/\Own.KeysC w' kv R.2.1.keys)/\Below w.heap.size w w'
namespace Own
theorem queue_prop {q:Queue} (h:queueOK q=true) {p:Proposal} (hp:p∈q.props):proposalOK p=true/\p.id<q.next/\q.next<=1099511627776:=by
 unfold queueOK late at h
 simp only[Bool.and_eq_true,decide_eq_true_eq] at h
 have:=chainOK_mem h.2 p hp
 simp only[Bool.and_eq_true,decide_eq_true_eq] at this
 exact⟨this.1,this.2,h.1.1.2⟩
structure POK (p:Proposal):Prop where
 id0:0<=p.id
 path:p.path.size<=64
 dig:p.digest.size=32
 len:p.votes.length<=1024
 srt:Srt Vote.name p.votes
theorem POK.of {p:Proposal} (h:proposalOK p=true):POK p:=by
 unfold proposalOK Sig.digest at h
 simp only[Bool.and_eq_true,decide_eq_true_eq] at h
 obtain⟨⟨⟨⟨⟨h1,h2⟩,h3⟩,_⟩,h5⟩,h6⟩:=h
 refine⟨h1,?_,h3,h5,(srt_of_chain (f:=Vote.name) h6).1⟩
 unfold pathOK at h2
 simp only[Bool.and_eq_true,decide_eq_true_eq] at h2
 exact h2.1.2
end Own
namespace Own
theorem hit_lt {α : Type} {f : α -> ByteArray} {t:ByteArray} {l:List α} (h:hitB f t l=true):posB f t l<l.length:=by
 unfold hitB at h
 cases hq:l[posB f t l]? with
 | none=>rw[hq] at h;cases h
 | some y=>exact(List.getElem?_eq_some_iff.1 hq).1
theorem vflat_get:∀ (V:List Vote) (i:Nat) (hi:i<V.length) (c:Nat) (_:c<3),(V.flatMap encV)[i*3+c]? = (encV V[i])[c]?
 | [],i,hi,_,_=>by cases hi
 | x :: V,0,_,c,hc => by
   rw[List.flatMap_cons,Nat.zero_mul,Nat.zero_add,List.getElem?_append_left (by show c<3;exact hc)]
   rfl
 | x :: V,i + 1,hi,c,hc => by
   rw[List.flatMap_cons,List.getElem?_append_right (by show 3<=_;omega)]
   have:=vflat_get V i (by simpa using hi) c hc
   show(V.flatMap encV)[(i+1)*3+c - 3]? = _
   rw[show(i+1)*3+c - 3=i*3+c by omega,this]
   rfl
theorem vflat_len (V:List Vote):(V.flatMap encV).length=V.length*3:=by
 induction V with
 | nil=>rfl
 | cons x V ih=>rw[List.flatMap_cons,List.length_append,ih,List.length_cons];show 3+_=_;omega
theorem vflat_set:∀ (V:List Vote) (i:Nat) (_:i<V.length) (x:Vote),(V.set i x).flatMap encV=(((V.flatMap encV).set (i*3) (.string x.name)).set (i*3+1) (.string x.pub)).set (i*3+2) (.bool x.agrees)
 | [],i,hi,_=>by cases hi
 | y::V,0,_,x=>rfl
 | y :: V,i + 1,hi,x => by
   have ih:=vflat_set V i (by simpa using hi) x
   show(y::V.set i x).flatMap encV=_
   have hl:(encV y).length=3:=rfl
   rw[List.flatMap_cons,List.flatMap_cons,ih,List.set_append_right _ _ (by omega),List.set_append_right _ _ (by omega),List.set_append_right _ _ (by omega),hl,show(i+1)*3 - 3=i*3 by omega,show(i+1)*3+1 - 3=i*3+1 by omega,show(i+1)*3+2 - 3=i*3+2 by omega]
end Own
namespace Own
theorem SOwn.ne {B:Nat} {w:World} {v:Value} {L:List Proposal} {us:List Value} (h:SOwn B w v L us) {i j:Nat} (hi:i<us.length) (hj:j<us.length) (hij:i≠j):∀ k,us[i].ownBlock=some k->us[j].ownBlock≠some k:=by
 intro k hk
 rcases Nat.lt_or_ge i j with hlt | hge
 ·exact(List.pairwise_iff_getElem.1 h.apart) i j hi hj hlt k hk
 ·intro hk2
  exact(List.pairwise_iff_getElem.1 h.apart) j i hj hi (by omega) k hk2 hk
theorem vflat_ins (V:List Vote) (i:Nat) (x:Vote):(V.flatMap encV).take (i*3)++(encV x++(V.flatMap encV).drop (i*3))=(V.take i++x::V.drop i).flatMap encV:=by
 have h:∀ (V:List Vote) (i:Nat),(V.flatMap encV).take (i*3)=(V.take i).flatMap encV/\(V.flatMap encV).drop (i*3)=(V.drop i).flatMap encV:=by
  intro V
  induction V with
  | nil=>intro i;simp
  | cons y V ih =>
    intro i
    cases i with
    | zero=>simp
    | succ i =>
      obtain⟨h1,h2⟩:=ih i
      have hl:(encV y).length=3:=rfl
      rw[List.flatMap_cons,List.take_append,List.drop_append,hl,show(i+1)*3 - 3=i*3 by omega,h1,h2,List.take_of_length_le (by omega),List.drop_of_length_le (by omega)]
      exact⟨rfl,rfl⟩
 rw[(h V i).1,(h V i).2,List.flatMap_append,List.flatMap_cons]
theorem SOwn.same {B:Nat} {w w' : World} {g cap ub uc:Nat} {L:List Proposal} {us:List Value} {j:Nat} {V nv:List Vote} (h:SOwn B w (.slice (some ⟨g,0,none⟩) L.length cap) L us) (hj:j<L.length) (hju:j<us.length) (hue:us[j]=.slice (some ⟨ub,0,none⟩) V.length uc)
 (hu:w'.ownsRow B 82 3 (.slice (some ⟨ub,0,none⟩) V.length uc) nv.length (nv.flatMap encV)) (hw:w.ownsRow B 82 3 (.slice (some ⟨ub,0,none⟩) V.length uc) V.length (V.flatMap encV)) (hk:∀ k,k≠ub->w'.heap[k]? = w.heap[k]?):SOwn B w' (.slice (some ⟨g,0,none⟩) L.length cap) (L.set j (withV L[j] nv)) us:=by
 have hgu:g≠ub:=fun e=>own_dis h.row hw (by decide) g rfl (by rw[e];rfl)
 have e:us.set j (.slice (some ⟨ub,0,none⟩) V.length uc)=us:=by rw[<- hue];exact List.set_getElem_self hju
 have ht:=SOwn.turn (u' :=.slice (some ⟨ub,0,none⟩) V.length uc) (nv:=nv) h hj (w' :=w') ?_ hu (fun i hi hi' hij=>own_keep (h.votes i hi hi') (fun k hkk=>hk k (fun e2=>h.ne hi' hju hij k hkk (by rw[hue,e2];rfl)))) (fun i hi hij k hkk=>by
  have:=h.ne hi hju hij k hkk
  rwa [hue] at this)
 ·rwa [e] at ht
 ·rw[e,zip_same L us j hj hju h.len nv]
  exact own_keep h.row (fun k hkk=>hk k (by cases hkk;exact hgu))
end Own
end
end Go.Proofs.YtnijhlphcjjpbaaGreatDoor
