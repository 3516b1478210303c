/- Regions in which operations that make memory stand in no fixed order beside calls: one walk stands for all orders. -/
import Derived.Shelf.SlMaps.Clone
import Derived.Shelf.Sort.Plain
import Derived.Shelf.Slices.In.SortNone
import Derived.Carry
import Derived.Sort.OwnSorted
import Derived.Test.YtdiiafgoccakkaaGreatDoorShkB4
set_option linter.unusedVariables false
set_option linter.unusedSimpArgs false
set_option maxRecDepth 100000
set_option maxHeartbeats 4000000
namespace Go.Proofs.YtdiiafgoccakkaaGreatDoor
section
open Go Go.RowKit Go.Maps
namespace Lex
section
variable {P:Program} {ops:Array Oper} {Q:Exit->Act->World->Prop}
abbrev Grown (w w' : World):Prop:=Below w.heap.size w w'
structure Kept (lo:Nat) (w1 w' : World):Prop where
 size:w1.heap.size<=w'.heap.size
 block:∀ b,lo<=b->b<w1.heap.size->w'.heap[b]? = w1.heap[b]?
theorem Kept.refl (lo:Nat)(w:World):Kept lo w w:=⟨Nat.le_refl _,fun _ _ _=>rfl⟩
theorem Kept.of_below {lo:Nat}{w w' : World}(h:Below w.heap.size w w'):Kept lo w w':=⟨h.size,fun b _ hb=>h.block b hb⟩
theorem Kept.grown {lo:Nat}{w1 w w' : World}(h:Kept lo w1 w)(hg:Grown w w'):Kept lo w1 w' :=
 ⟨Nat.le_trans h.size hg.size,fun b h1 h2=>(hg.block b (Nat.lt_of_lt_of_le h2 h.size)).trans (h.block b h1 h2)⟩
theorem Kept.kept {lo st:Nat}{w1 w w' : World}(h:Kept lo w1 w)(hs:st<=lo)(hg:Kept st w w'):Kept lo w1 w' :=
 ⟨Nat.le_trans h.size hg.size,fun b h1 h2=>(hg.block b (Nat.le_trans hs h1) (Nat.lt_of_lt_of_le h2 h.size)).trans (h.block b h1 h2)⟩
theorem Kept.at_ {w w' : World}{cs:Array Value}{t:TypeId}(h:Kept w.heap.size (w.alloc (.cells cs t)) w'):At w' w.heap.size t cs:=by
 have:=At.new w t cs
 unfold At at this ⊢
 rw[h.block _ (Nat.le_refl _) (by simp),this]
def Off (iv:List (Nat × Nat))(lo hi:Nat):Prop:=∀ x∈iv,hi<=x.1\/x.2<=lo
def Bd (st:Nat)(iv:List (Nat × Nat))(w:World):Prop:=st<=w.heap.size/\∀ x∈iv,x.2<=w.heap.size
theorem D9 {w w' : World}(h:Grown w w'):More w w':=fun i o hi=>by
 rw[h.block i (Array.getElem?_eq_some_iff.1 hi).1]
 exact hi
theorem Makes.below {α : Type}{s:Sem α}{w w' : World}{a : α}(h:Makes P s)(hr:s.run P w=.ok a w'):Below w.heap.size w w':=by
 induction s generalizing w w' with
 | pure x =>
   simp only[Sem.run,Result.ok.injEq] at hr
   obtain⟨rfl,rfl⟩:=hr
   exact Below.refl _ _
 | program k ih=>exact ih P h hr
 | mark m k ih=>exact ih h hr
 | halt h0=>simp[Sem.run] at hr
 | load m ad k ih =>
   simp only[Sem.run] at hr
   split at hr
   ·exact ih _ (h _) hr
   ·split at hr
    ·exact ih _ (h _) hr
    ·simp at hr
 | getObj r k ih =>
   simp only[Sem.run] at hr
   split at hr
   ·simp at hr
   ·exact ih _ (h _) hr
   ·simp at hr
 | new o k ih =>
   simp only[Sem.run] at hr
   have h1:Below w.heap.size w { w with heap:=w.heap.push o } :=⟨rfl,rfl,rfl,by simp,fun k hk=>by
    show(w.heap.push o)[k]? = _
    rw[Array.getElem?_push]
    simp[Nat.ne_of_lt hk]⟩
   exact h1.trans ((ih _ (h _) hr).mono h1.size)
 | store m ad v k ih=>exact h.elim
 | shape r k ih=>exact h.elim
 | freeze ad n k ih=>exact h.elim
 | frozen ad k ih=>exact h.elim
 | setObj r o k ih=>exact h.elim
 | choose q k ih =>
   simp only[Sem.run] at hr
   split at hr
   ·exact((h _).run hr).elim
   ·exact((h _).run hr).elim
 | sys c k ih=>exact h.elim
theorem Qg {s:Sem Value}(h:Makes P s){n:Next}{w w' : World}(hr:(s >>= fun x=>pure (.value x):Sem Next).run P w=.ok n w'):Below w.heap.size w w':=by
 obtain⟨v,rfl,hv⟩:=NG hr
 exact h.below hv
theorem El {o:Oper}{ρ : Operand->Value}(hk:kind P o=2){n:Next}{w w' : World}(hr:(execOp ρ o).run P w=.ok n w'):Below w.heap.size w w':=by
 obtain⟨dst,op,type,pos,after,guard⟩:=o
 cases op<;>simp only[kind] at hk<;>try (exact absurd hk (by decide))
 case alloc t=>exact Qg (Qs _) hr
 case box t x=>exact Qg (Wo _ _) hr
 case buildSlice t n ps=>exact Qg (IQ _ _ _) hr
 all_goals (split at hk<;>cases hk)
theorem Yl.Y7 {o:Oper}{a:Act}{w w' : World}{v:Value}(h:Yl P ops o a w v w')(hk:kind P o=2):Below w.heap.size w w':=by
 rcases h with ⟨_,hr⟩|⟨_,_,rfl⟩
 ·exact El hk hr
 ·exact Below.refl _ _
theorem UG {a a' : Act}{k:Nat}{o:Oper}(hk:ops[k]? = some o)(hkd:kind P o=0)(hg:Gp P ops a' = true)(hsame:needs o=true->∀ t,t∈o.looksAt ops->a'.tmps[t]? = a.tmps[t]?):
 Region.wanted o (yielded ops a.tmps)=true->Quiet P (execOp a.eval o):=by
 intro hw
 refine quiet_of hkd ?_
 cases hn:needs o with
 | false=>exact Pt hn _
 | true =>
   replace hsame:=hsame hn
   have hg1:=Array.all_eq_true_iff_forall_mem.1 hg o (Array.mem_of_getElem? hk)
   have hev:∀ x∈o.op.operands,a'.eval x=a.eval x:=fun x hx=>IU fun t e=>hsame t (by
    subst e
    exact List.mem_append_left _ (List.mem_filterMap.2 ⟨.tmp t,by simpa using hx,rfl⟩))
   have hwn:Region.wanted o (yielded ops a'.tmps)=Region.wanted o (yielded ops a.tmps):=by
    unfold Region.wanted
    cases hgd:o.guard with
    | none=>rfl
    | some gw =>
      obtain⟨g,want⟩:=gw
      have:yielded ops a'.tmps g=yielded ops a.tmps g:=by
       unfold yielded
       cases hd:(ops[g]?).bind (·.dst) with
       | none=>rfl
       | some t =>
         have:=hsame t (by simp[Oper.looksAt,hgd,hd])
         simp[this]
      simp only[this]
   rw[hkd,hwn,hw] at hg1
   simp at hg1
   rw[<- MK o hev]
   exact hg1
theorem lu {B:Nat->Prop}{w0:World}{fl:List Nat}{a a' : Act}{k:Nat}{o:Oper}(hk:ops[k]? = some o)(hkd:kind P o=1)(hm:k∈fl)(hin:allIn B w0 ops a' fl)
 (hsame:∀ t,t∈o.looksAt ops->a'.tmps[t]? = a.tmps[t]?):Region.wanted o (yielded ops a.tmps)=true->XG P (Same B w0) (execOp a.eval o):=by
 intro hw
 have hev:∀ x∈o.op.operands,a'.eval x=a.eval x:=fun x hx=>IU fun t e=>hsame t (by
  subst e
  exact List.mem_append_left _ (List.mem_filterMap.2 ⟨.tmp t,by simpa using hx,rfl⟩))
 have hwn:Region.wanted o (yielded ops a'.tmps)=Region.wanted o (yielded ops a.tmps):=by
  unfold Region.wanted
  cases hgd:o.guard with
  | none=>rfl
  | some gw =>
    obtain⟨g,want⟩:=gw
    have:yielded ops a'.tmps g=yielded ops a.tmps g:=by
     unfold yielded
     cases hd:(ops[g]?).bind (·.dst) with
     | none=>rfl
     | some t =>
       have:=hsame t (by simp[Oper.looksAt,hgd,hd])
       simp[this]
    simp only[this]
 have h1:=Sm hin k hm o hk (by rw[hwn];exact hw)
 refine kD hkd ?_
 obtain⟨dst,op,type,pos,after,guard⟩:=o
 cases op<;>simp only[inB] at h1 ⊢
 case load t x=>rw[<- hev x (by simp[Op.operands])];exact h1
/-! ### The walk -/
def plain (P:Program)(ops:Array Oper)(i:Nat):Bool:=match ops[i]? with|some o=>kind P o==0 || kind P o==1|none=>false
def wpG (P:Program)(ops:Array Oper)(Q:Exit->Act->World->Prop)(S:World->Prop)(m:Nat)(fa:List Nat)(st:Nat):List Nat->List (Nat × Nat)->World->Act->World->Prop
 | [],_,wr,a,w=>w=wr/\Q .normal a w
 | i :: l,iv,wr,a,w =>
   if (i::l).any (fun x=>fa.contains x)=false then w=wr/\wpS P ops Q S m (i::l) a w
   else if fa.contains i=true then w=wr/\∀ w0,st<=w0.heap.size->wpOp P ops Q i (fun a1 w1=>∀ w',Grown w w' -> Kept w0.heap.size w1 w' -> Off iv w0.heap.size w1.heap.size->wpG P ops Q S m fa st l ((w0.heap.size,w1.heap.size)::iv) w' a1 w') a w0
   else if plain P ops i=true then wpOp P ops Q i (fun a1 w1=>wpG P ops Q S m fa st l iv wr a1 w1) a w
   else w=wr/\∀ w',Grown w w' -> wpOp P ops Q i (fun a1 w1=>S w1/\Kept st w' w1/\wpG P ops Q S m fa st l ((w'.heap.size,w1.heap.size)::iv) w1 a1 w1) a w'
section
variable {S:World->Prop} {m:Nat} {fa:List Nat} {st:Nat} {i:Nat} {l:List Nat} {iv:List (Nat × Nat)} {wr w:World} {a:Act}
theorem CZ (h:l.any (fun x=>fa.contains x)=false):wpG P ops Q S m fa st l iv wr a w↔w=wr/\wpS P ops Q S m l a w:=by
 cases l with
 | nil=>exact Iff.rfl
 | cons i l=>unfold wpG;rw[if_pos h]
theorem Gh (h:fa.contains i=true):wpG P ops Q S m fa st (i::l) iv wr a w↔w=wr/\∀ w0,st<=w0.heap.size->wpOp P ops Q i (fun a1 w1=>∀ w',Grown w w' -> Kept w0.heap.size w1 w' -> Off iv w0.heap.size w1.heap.size->wpG P ops Q S m fa st l ((w0.heap.size,w1.heap.size)::iv) w' a1 w') a w0:=by
 conv=>lhs;unfold wpG
 rw[if_neg (by simp only[List.any_cons,h,Bool.true_or];decide),if_pos h]
theorem GH (h0:(i::l).any (fun x=>fa.contains x)=true)(h1:fa.contains i=false)(h:plain P ops i=true):wpG P ops Q S m fa st (i::l) iv wr a w↔wpOp P ops Q i (fun a1 w1=>wpG P ops Q S m fa st l iv wr a1 w1) a w:=by
 conv=>lhs;unfold wpG
 rw[if_neg (by rw[h0];decide),if_neg (by rw[h1];decide),if_pos h]
theorem Ew (h0:(i::l).any (fun x=>fa.contains x)=true)(h1:fa.contains i=false)(h:plain P ops i=false):wpG P ops Q S m fa st (i::l) iv wr a w↔w=wr/\∀ w',Grown w w' -> wpOp P ops Q i (fun a1 w1=>S w1/\Kept st w' w1/\wpG P ops Q S m fa st l ((w'.heap.size,w1.heap.size)::iv) w1 a1 w1) a w':=by
 conv=>lhs;unfold wpG
 rw[if_neg (by rw[h0];decide),if_neg (by rw[h1];decide),if_neg (by rw[h];decide)]
end
theorem UH {S:World->Prop}{m:Nat}{fa:List Nat}{st:Nat} : ∀ (l:List Nat) (iv iv2:List (Nat × Nat)) (wr:World) (a:Act) (w:World),(∀ x∈iv,x∈iv2)->wpG P ops Q S m fa st l iv wr a w->wpG P ops Q S m fa st l iv2 wr a w
 | [],_,_,_,_,_,_,h=>h
 | i :: l,iv,iv2,wr,a,w,hs,h => by
   cases h0:(i::l).any (fun x=>fa.contains x) with
   | false=>rw[CZ h0] at h ⊢;exact h
   | true =>
     cases h1:fa.contains i with
     | true =>
       rw[Gh h1] at h ⊢
       refine⟨h.1,fun w0 hw0=>wpOp_mono (fun a1 w1 hh w' hg hk ho=>?_) (h.2 w0 hw0)⟩
       exact UH l _ _ _ _ _ (fun x hx=>by
        rcases List.mem_cons.1 hx with rfl|hx
        ·exact List.mem_cons_self
        ·exact List.mem_cons_of_mem _ (hs x hx)) (hh w' hg hk fun x hx=>ho x (hs x hx))
     | false =>
       cases h2:plain P ops i with
       | true =>
         rw[GH h0 h1 h2] at h ⊢
         exact wpOp_mono (fun a1 w1 hh=>UH l _ _ _ _ _ hs hh) h
       | false =>
         rw[Ew h0 h1 h2] at h ⊢
         refine⟨h.1,fun w' hg=>wpOp_mono (fun a1 w1 hh=>⟨hh.1,hh.2.1,?_⟩) (h.2 w' hg)⟩
         exact UH l _ _ _ _ _ (fun x hx=>by
          rcases List.mem_cons.1 hx with rfl|hx
          ·exact List.mem_cons_self
          ·exact List.mem_cons_of_mem _ (hs x hx)) hh.2.2
/-! ### The condition -/
def CS (P:Program)(ops:Array Oper)(fl fa:List Nat)(a b:Nat):Bool:=
 match ops[a]?,ops[b]? with
 | some oa,some ob => oa.apart ops ob && (if fa.contains b then true else if fa.contains a then kind P ob == 0 || (kind P ob == 1 && fl.contains b)
    else kind P ob==0 || kind P oa==0 || (kind P oa==1&&kind P ob==1) || (kind P oa==1&&fl.contains a) || (kind P ob==1&&fl.contains b))
 | _,_=>false
def YA (P:Program)(ops:Array Oper)(fl fa:List Nat)(m:Nat):Bool:=
 Region.noSelect ops&&
 MW ops (fun a b=>decide (b<m)&&CS P ops fl fa a b) ops.size ops.size 0 0&&
 ((List.range ops.size).all fun k => match ops[k]? with
   | some o => !needs o || (List.range ops.size).all fun i=>decide (i<k) || (match ops[i]? with|some o' => (match o'.dst with|some t => !(o.looksAt ops).contains t|none=>true)|none=>true)
   | none=>true)&&
 (fl.all fun k => match ops[k]? with
   | some o=>(List.range ops.size).all fun i=>decide (i<k) || (match ops[i]? with|some o' => (match o'.dst with|some t => !(o.looksAt ops).contains t|none=>true)|none=>true)
   | none=>true)&&
 (fa.all fun k=>decide (k<m)&&match ops[k]? with|some o=>kind P o==2|none=>false)
structure OkF (P:Program) (ops:Array Oper) (fl fa:List Nat) (m:Nat):Prop where
 sel:∀ (j:Nat) (o:Oper) (cs:Array SelectCase) (b:Bool),ops[j]? = some o->o.op≠.select cs b
 top:∀ (b:Nat) (ob:Oper),ops[b]? = some ob->∀ e∈ob.after,Region.binds .any e=true->e.on<b
 pair:∀ b a,b<ops.size->a<b->waits ops ops.size b a=true\/(b<m/\CS P ops fl fa a b=true)
 keep:∀ (k:Nat) (o:Oper),ops[k]? = some o->needs o=true\/k∈fl->∀ i,k<=i->∀ (o' : Oper),ops[i]? = some o' -> ∀ t,o'.dst=some t->t ∉ o.looksAt ops
 float:∀ k,fa.contains k=true->k<m/\∀ o,ops[k]? = some o->kind P o=2
theorem QZ {fl fa:List Nat}{m:Nat}(h:YA P ops fl fa m=true):OkF P ops fl fa m:=by
 simp only[YA,Bool.and_eq_true,List.all_eq_true,List.mem_range] at h
 obtain⟨⟨⟨⟨h1,h2⟩,h3⟩,h4⟩,h5⟩:=h
 refine⟨fun j o cs b hj=>Region.noSelect_spec h1 j o cs b hj,fun b ob hb e he hbi=>?_,fun b a hb ha=>?_,fun k o hk hn i hki o' hi t ht=>?_,fun k hk=>?_⟩
 ·exact(DW h2 hb).1 e he hbi
 ·have:=(DW h2 (Array.getElem?_eq_getElem hb)).2 a ha
  simpa using this
 ·have hkl:k<ops.size:=(Array.getElem?_eq_some_iff.1 hk).1
  have hil:i<ops.size:=(Array.getElem?_eq_some_iff.1 hi).1
  have key:((List.range ops.size).all fun i=>decide (i<k) || (match ops[i]? with|some o' => (match o'.dst with|some t => !(o.looksAt ops).contains t|none=>true)|none=>true))=true:=by
   rcases hn with hn|hn
   ·have:=h3 k hkl
    rw[hk] at this
    simpa [hn] using this
   ·have:=h4 k hn
    rw[hk] at this
    exact this
  simp only[List.all_eq_true,List.mem_range] at key
  have:=key i hil
  rw[hi] at this
  simp only[ht,Bool.or_eq_true,decide_eq_true_eq] at this
  rcases this with this|this
  ·omega
  ·simpa using this
 ·have hm:k∈fa:=by simpa using hk
  obtain⟨q1,q2⟩:=h5 k hm
  refine⟨by simpa using q1,fun o ho=>?_⟩
  rw[ho] at q2
  simpa using q2
theorem OkF.apart {fl fa:List Nat}{a b:Nat}{oa ob:Oper}(h:CS P ops fl fa a b=true)(ha:ops[a]? = some oa)(hb:ops[b]? = some ob):oa.apart ops ob=true:=by
 simp only[CS,ha,hb,Bool.and_eq_true] at h
 exact h.1
/-! ### The walk comes to an end -/
section
variable {B:Nat->Prop} {wS:World} {fl fa:List Nat} {m st:Nat}
theorem bD {α : Type}{x a b : α}{l:List α}(h:x∈a::b::l):x∈b::a::l:=by
 rcases List.mem_cons.1 h with rfl|h
 ·exact List.mem_cons_of_mem _ List.mem_cons_self
 ·rcases List.mem_cons.1 h with rfl|h
  ·exact List.mem_cons_self
  ·exact List.mem_cons_of_mem _ (List.mem_cons_of_mem _ h)
theorem Qh {i:Nat}{l:List Nat}{o:Oper}(hi:ops[i]? = some o){a a1 a' : Act}(hR:Rch a o.dst a1)(ht:∀ t,(∀ j∈l,∀ o,ops[j]? = some o->o.dst≠some t)->a'.tmps[t]? = a1.tmps[t]?):
 ∀ t,(∀ j∈i::l,∀ o,ops[j]? = some o->o.dst≠some t)->a'.tmps[t]? = a.tmps[t]? :=fun t hn=>by
 obtain⟨v,ds,rfl⟩:=hR
 rw[ht t fun j hj o ho=>hn j (by simp[hj]) o ho]
 have:=hn i (by simp) _ hi
 cases hd:o.dst with
 | none=>rfl
 | some d =>
   have hne:d≠t:=fun e=>this (by rw[hd,e])
   simp[Act.put,Array.getElem?_setIfInBounds_ne hne]
theorem Bd.push {st:Nat}{iv:List (Nat × Nat)}{w w1:World}{lo:Nat}(h:Bd st iv w)(h1:w.heap.size<=w1.heap.size):Bd st ((lo,w1.heap.size)::iv) w1:=
 ⟨Nat.le_trans h.1 h1,fun x hx => by
   rcases List.mem_cons.1 hx with rfl|hx
   ·exact Nat.le_refl _
   ·exact Nat.le_trans (h.2 x hx) h1⟩
theorem Bd.off {st:Nat}{iv:List (Nat × Nat)}{w:World}{hi:Nat}(h:Bd st iv w):Off iv w.heap.size hi:=fun x hx=>.inr (h.2 x hx)
theorem OH (hA:OkF P ops fl fa m):∀ (l:List Nat) (iv:List (Nat × Nat)) (wr:World) (a:Act) (w:World),(∀ i∈l,i<ops.size)->(l.any (fun x=>fa.contains x)=true->Bd st iv wr)->wpG P ops (Ag P ops B wS fl Q) (Same B wS) m fa st l iv wr a w->
 ∃ a',(Gp P ops a' = true/\allIn B wS ops a' fl)/\∀ t,(∀ i∈l,∀ o,ops[i]? = some o->o.dst≠some t)->a'.tmps[t]? = a.tmps[t]?
 | [],iv,wr,a,w,_,_,h=>⟨a,⟨h.2.2.1,h.2.2.2.1⟩,fun _ _=>rfl⟩
 | i :: l,iv,wr,a,w,hl,hb,h => by
   have hQ:Df (Ag P ops B wS fl Q):=Ag.Bu
   obtain⟨o,hi⟩:∃ o,ops[i]? = some o:=⟨_,Array.getElem?_eq_getElem (hl i (by simp))⟩
   cases h0:(i::l).any (fun x=>fa.contains x) with
   | false =>
     obtain⟨rfl,h'⟩:=(CZ h0).1 h
     have h2:=Dh (fun e a w he=>Dt he) _ _ _ (Ry _ _ _ h')
     obtain⟨a',w',⟨_,hg,hin,_⟩,ht⟩:=fin (Q:=fun _ a w=>allIn B wS ops a fl/\Q .normal a w) (i::l) a w hl h2
     exact⟨a',⟨hg,hin⟩,ht⟩
   | true =>
     have hbd:=hb h0
     cases h1:fa.contains i with
     | true =>
       obtain⟨rfl,h'⟩:=(Gh h1).1 h
       have hkd:=(hA.float i h1).2 o hi
       obtain⟨v,w1,hy,hK⟩:=ED hQ hi (fun _=>Ij hkd) (h' w hbd.1)
       have hb2:=hy.Y7 hkd
       obtain⟨a',he,ht⟩:=OH hA l _ w1 _ w1 (fun j hj=>hl j (by simp[hj])) (fun _=>hbd.push hb2.size) (hK w1 hb2 (Kept.refl _ _) hbd.off)
       exact⟨a',he,Qh hi (Rch.I6 a o.dst v) ht⟩
     | false =>
       cases h2:plain P ops i with
       | true =>
         obtain⟨a1,w1,hR,hK⟩:=Gn hQ hi ((GH h0 h1 h2).1 h)
         obtain⟨a',he,ht⟩:=OH hA l iv wr a1 w1 (fun j hj=>hl j (by simp[hj])) (fun _=>hbd) hK
         exact⟨a',he,Qh hi hR ht⟩
       | false =>
         obtain⟨rfl,h'⟩:=(Ew h0 h1 h2).1 h
         obtain⟨a1,w1,hR,_,hk,hK⟩:=Gn hQ hi (h' w (Below.refl _ _))
         obtain⟨a',he,ht⟩:=OH hA l _ w1 a1 w1 (fun j hj=>hl j (by simp[hj])) (fun _=>hbd.push hk.size) hK
         exact⟨a',he,Qh hi hR ht⟩
theorem JI (hA:OkF P ops fl fa m){i:Nat}{oi:Oper}(hi:ops[i]? = some oi)(hif:fa.contains i=true){rest:List Nat} : ∀ (ks:List Nat) (iv:List (Nat × Nat)) (wr:World) (a:Act) (w:World),(∀ x∈ks++i::rest,x<ops.size)->(∀ k∈ks,CS P ops fl fa k i=true)->Bd st iv wr->
 wpG P ops (Ag P ops B wS fl Q) (Same B wS) m fa st (ks++i::rest) iv wr a w->∀ wq,st<=wq.heap.size->∃ v w1,Yl P ops oi a wq v w1
 | [],iv,wr,a,w,hl,hp,hbd,h => fun wq hwq => by
   obtain⟨rfl,h'⟩:=(Gh hif).1 h
   obtain⟨v,w1,hy,_⟩:=ED (Ag.Bu) hi (fun _=>Ij ((hA.float i hif).2 oi hi)) (h' wq hwq)
   exact⟨v,w1,hy⟩
 | k :: ks,iv,wr,a,w,hl,hp,hbd,h => fun wq hwq => by
   have hQ:Df (Ag P ops B wS fl Q):=Ag.Bu
   obtain⟨ok,hk⟩:∃ o,ops[k]? = some o:=⟨_,Array.getElem?_eq_getElem (hl k (by simp))⟩
   have hap:=Oper.apart_spec (OkF.apart (hp k (by simp)) hk hi)
   have hsel:∀ cs b,oi.op≠.select cs b:=fun cs b=>hA.sel i oi cs b hi
   have h0:(k::(ks++i::rest)).any (fun x=>fa.contains x)=true:=by
    simp only[List.any_cons,List.any_append,hif,Bool.true_or,Bool.or_true]
   have back:∀ a1,Rch a ok.dst a1->(∃ v w1,Yl P ops oi a1 wq v w1)->∃ v w1,Yl P ops oi a wq v w1:=fun a1 hR ⟨v,w1,hy⟩=>by
    have he:=hR.exec (o:=oi) (ops:=ops) hsel hap.1
    exact⟨v,w1,hy.same ⟨he.1.symm,he.2.symm⟩⟩
   have hl' : ∀ x∈ks++i::rest,x<ops.size:=fun x hx=>hl x (by simp at hx ⊢;right;exact hx)
   have hp' : ∀ x∈ks,CS P ops fl fa x i=true:=fun x hx=>hp x (by simp[hx])
   have h:wpG P ops (Ag P ops B wS fl Q) (Same B wS) m fa st (k::(ks++i::rest)) iv wr a w:=h
   cases h1:fa.contains k with
   | true =>
     obtain⟨rfl,h'⟩:=(Gh h1).1 h
     have hkd:=(hA.float k h1).2 ok hk
     obtain⟨v,w1,hy,hK⟩:=ED hQ hk (fun _=>Ij hkd) (h' w hbd.1)
     have hb2:=hy.Y7 hkd
     exact back _ (Rch.I6 a ok.dst v) (JI hA hi hif ks _ w1 _ w1 hl' hp' (hbd.push hb2.size) (hK w1 hb2 (Kept.refl _ _) hbd.off) wq hwq)
   | false =>
     cases h2:plain P ops k with
     | true =>
       obtain⟨a1,w1,hR,hK⟩:=Gn hQ hk ((GH h0 h1 h2).1 h)
       exact back _ hR (JI hA hi hif ks iv wr a1 w1 hl' hp' hbd hK wq hwq)
     | false =>
       obtain⟨rfl,h'⟩:=(Ew h0 h1 h2).1 h
       obtain⟨a1,w1,hR,_,hkp,hK⟩:=Gn hQ hk (h' w (Below.refl _ _))
       exact back _ hR (JI hA hi hif ks _ w1 a1 w1 hl' hp' (hbd.push hkp.size) hK wq hwq)
/-! ### Steps -/
theorem Ia (hA:OkF P ops fl fa m){k:Nat}{ok:Oper}{L:List Nat}{iv:List (Nat × Nat)}{a:Act}{w:World}(hk:ops[k]? = some ok)(hkp:plain P ops k=true)(hkf:fa.contains k=false)(hl:∀ x∈k::L,x<ops.size)(hs:(k::L).Pairwise (· < ·))
 (hS:Same B wS w) (hb:(k::L).any (fun x=>fa.contains x)=true->Bd st iv w) (h:wpG P ops (Ag P ops B wS fl Q) (Same B wS) m fa st (k::L) iv w a w):
 (∃ v,Yl P ops ok a w v w/\(∀ w2,More w w2->Yl P ops ok a w2 v w2)/\(kind P ok=0\/k∈fl->∀ w2,Same B wS w2->Yl P ops ok a w2 v w2)/\wpG P ops (Ag P ops B wS fl Q) (Same B wS) m fa st L iv w (a.put ok.dst v) w):=by
 obtain⟨a',⟨hg,hin⟩,ht⟩:=OH hA (k::L) iv w a w hl hb h
 have hsame:needs ok=true\/k∈fl->∀ t,t∈ok.looksAt ops->a'.tmps[t]? = a.tmps[t]? :=fun hn t hm=>ht t fun j hj o' ho' e=>hA.keep k ok hk hn j (by
  rcases List.mem_cons.1 hj with h|h
  ·omega
  ·have:=(List.pairwise_cons.1 hs).1 j h;omega) o' ho' t e hm
 have hkd:kind P ok=0\/kind P ok=1:=by simpa [plain,hk] using hkp
 have hq0:kind P ok=0->Region.wanted ok (yielded ops a.tmps)=true->Quiet P (execOp a.eval ok):=fun h0=>UG hk h0 hg (fun hn=>hsame (.inl hn))
 have hre:Region.wanted ok (yielded ops a.tmps)=true->Reads P (execOp a.eval ok):=fun hw=>by
  rcases hkd with h0|h1
  ·intro n w w' hr
   obtain⟨q1,q2,q3⟩:=hq0 h0 hw n w w' hr
   exact⟨q1,q2,fun w2 _=>q3 w2⟩
  ·exact FY h1
 have hcore:∃ v w',Yl P ops ok a w v w' /\ (∀ w'',w'' = w->w' = w'' -> wpG P ops (Ag P ops B wS fl Q) (Same B wS) m fa st L iv w (a.put ok.dst v) w''):=by
  cases h0:(k::L).any (fun x=>fa.contains x) with
  | false =>
    have hL:L.any (fun x=>fa.contains x)=false:=by
     simp only[List.any_cons,Bool.or_eq_false_iff] at h0
     exact h0.2
    obtain⟨_,h⟩:=(CZ h0).1 h
    obtain⟨v,w',hy,hK⟩:=ED Ag.Bu hk (fun hw=>(hre hw).news) (show wpOp P ops _ k (fun a' w' => (k<m->Same B wS w')/\wpS P ops (Ag P ops B wS fl Q) (Same B wS) m L a' w') a w from h)
    refine⟨v,w',hy,fun w'' e1 e2=>(CZ hL).2 ⟨e1,?_⟩⟩
    rw[<- e2]
    exact hK.2
  | true =>
    obtain⟨v,w',hy,hK⟩:=ED Ag.Bu hk (fun hw=>(hre hw).news) ((GH h0 hkf hkp).1 h)
    exact⟨v,w',hy,fun w'' _ e2=>by rw[<- e2];exact hK⟩
 obtain⟨v,w',hy,hK⟩:=hcore
 obtain⟨rfl,hm⟩:=hy.reads hre
 refine⟨v,hy,hm,fun hc=>?_,hK _ rfl rfl⟩
 have hf:Region.wanted ok (yielded ops a.tmps)=true->XG P (Same B wS) (execOp a.eval ok):=by
  rcases hc with hc|hc
  ·exact fun hw=>(hq0 hc hw).NI
  ·rcases hkd with h0|h1
   ·exact fun hw=>(hq0 h0 hw).NI
   ·exact lu hk h1 hc hin (hsame (.inr hc))
 exact(hy.NI hS hf).2
theorem LW {k:Nat}{ok:Oper}{L:List Nat}{iv:List (Nat × Nat)}{a:Act}{w:World}{v:Value}(hk:ops[k]? = some ok)(hkp:plain P ops k=true)(hkf:fa.contains k=false)(hS:Same B wS w)(hy:Yl P ops ok a w v w)
 (h:wpG P ops (Ag P ops B wS fl Q) (Same B wS) m fa st L iv w (a.put ok.dst v) w):wpG P ops (Ag P ops B wS fl Q) (Same B wS) m fa st (k::L) iv w a w:=by
 cases h0:(k::L).any (fun x=>fa.contains x) with
 | false =>
   have hL:L.any (fun x=>fa.contains x)=false:=by
    simp only[List.any_cons,Bool.or_eq_false_iff] at h0
    exact h0.2
   refine(CZ h0).2 ⟨rfl,?_⟩
   show wpOp P ops _ k (fun a' w' => (k<m->Same B wS w')/\wpS P ops (Ag P ops B wS fl Q) (Same B wS) m L a' w') a w
   exact Yl.mk hk hy ⟨fun _=>hS,((CZ hL).1 h).2⟩
 | true=>exact(GH h0 hkf hkp).2 (Yl.mk hk hy h)
theorem Ra {k:Nat}{L:List Nat}{iv:List (Nat × Nat)}{a:Act}{w:World}(hkp:plain P ops k=false)(hkf:fa.contains k=false)
 (h:∀ w',Grown w w' -> wpOp P ops (Ag P ops B wS fl Q) k (fun a1 w1=>Same B wS w1/\Kept st w' w1/\wpG P ops (Ag P ops B wS fl Q) (Same B wS) m fa st L ((w'.heap.size,w1.heap.size)::iv) w1 a1 w1) a w'):
 wpG P ops (Ag P ops B wS fl Q) (Same B wS) m fa st (k::L) iv w a w:=by
 cases h0:(k::L).any (fun x=>fa.contains x) with
 | false =>
   have hL:L.any (fun x=>fa.contains x)=false:=by
    simp only[List.any_cons,Bool.or_eq_false_iff] at h0
    exact h0.2
   refine(CZ h0).2 ⟨rfl,?_⟩
   show wpOp P ops _ k (fun a' w' => (k<m->Same B wS w')/\wpS P ops (Ag P ops B wS fl Q) (Same B wS) m L a' w') a w
   exact wpOp_mono (fun a1 w1 hh=>⟨fun _=>hh.1,((CZ hL).1 hh.2.2).2⟩) (h w (Below.refl _ _))
 | true=>exact(Ew h0 hkf hkp).2 ⟨rfl,h⟩
theorem early (hA:OkF P ops fl fa m){i:Nat}{oi:Oper}(hi:ops[i]? = some oi)(hif:fa.contains i=true){rest:List Nat}{v:Value}{w0 w1:World}(hw0:st<=w0.heap.size):∀ (ks:List Nat) (iv:List (Nat × Nat)) (a:Act) (w:World),(∀ x∈ks++i::rest,x<ops.size)->(ks++i::rest).Pairwise (· < ·)->
 (∀ k∈ks,CS P ops fl fa k i=true)->Same B wS w->Bd st iv w->Yl P ops oi a w0 v w1->Kept w0.heap.size w1 w->Off iv w0.heap.size w1.heap.size->wpG P ops (Ag P ops B wS fl Q) (Same B wS) m fa st (ks++i::rest) iv w a w->
 wpG P ops (Ag P ops B wS fl Q) (Same B wS) m fa st (ks++rest) ((w0.heap.size,w1.heap.size)::iv) w (a.put oi.dst v) w
 | [],iv,a,w,hl,hs,hp,hS,hbd,hy,hkw,ho,h => by
   obtain⟨_,h⟩:=(Gh hif).1 h
   obtain⟨v',w1',hy',hK⟩:=ED Ag.Bu hi (fun _=>Ij ((hA.float i hif).2 oi hi)) (h w0 hw0)
   obtain⟨rfl,rfl⟩:=hy'.det hy
   exact hK w (Below.refl _ _) hkw ho
 | k :: ks,iv,a,w,hl,hs,hp,hS,hbd,hy,hkw,ho,h => by
   obtain⟨ok,hk⟩:∃ o,ops[k]? = some o:=⟨_,Array.getElem?_eq_getElem (hl k (by simp))⟩
   have hap:=Oper.apart_spec (OkF.apart (hp k (by simp)) hk hi)
   have M5:∀ cs b,oi.op≠.select cs b:=fun cs b=>hA.sel i oi cs b hi
   have OI:∀ cs b,ok.op≠.select cs b:=fun cs b=>hA.sel k ok cs b hk
   have hds:∀ t,oi.dst=some t->ok.dst≠some t:=fun t ht hk' => hap.2.1 t hk' ht
   have hs':=List.pairwise_cons.1 hs
   have hl' : ∀ x∈ks++i::rest,x<ops.size:=fun x hx=>hl x (by simp at hx ⊢;right;exact hx)
   have hp' : ∀ x∈ks,CS P ops fl fa x i=true:=fun x hx=>hp x (by simp[hx])
   have h0:(k::(ks++i::rest)).any (fun x=>fa.contains x)=true:=by
    simp only[List.any_cons,List.any_append,hif,Bool.true_or,Bool.or_true]
   have h:wpG P ops (Ag P ops B wS fl Q) (Same B wS) m fa st (k::(ks++i::rest)) iv w a w:=h
   show wpG P ops (Ag P ops B wS fl Q) (Same B wS) m fa st (k::(ks++rest)) ((w0.heap.size,w1.heap.size)::iv) w (a.put oi.dst v) w
   cases h1:fa.contains k with
   | true =>
     obtain⟨_,h⟩:=(Gh h1).1 h
     refine(Gh h1).2 ⟨rfl,fun wk hwk=>Lp Ag.Bu hk OI hap.2.2 hds (h wk hwk) fun a1 w1k hR hK w' hg hkp hoff=>?_⟩
     have he:=hR.exec (o:=oi) (ops:=ops) M5 hap.1
     have hx:=hoff (w0.heap.size,w1.heap.size) List.mem_cons_self
     have h3:=early hA hi hif hw0 ks ((wk.heap.size,w1k.heap.size)::iv) a1 w' hl' hs'.2 hp' (hS.more (D9 hg))
      ⟨Nat.le_trans hbd.1 hg.size,fun x hx => by
        rcases List.mem_cons.1 hx with rfl|hx
        ·exact hkp.size
        ·exact Nat.le_trans (hbd.2 x hx) hg.size⟩
      (hy.same he) (hkw.grown hg) (fun x hx' => by
        rcases List.mem_cons.1 hx' with rfl|hx'
        ·exact hx.symm
        ·exact ho x hx') (hK w' hg hkp fun x hx=>hoff x (List.mem_cons_of_mem _ hx))
     exact UH _ _ _ _ _ _ (fun x hx=>bD hx) h3
   | false =>
     cases h2:plain P ops k with
     | true =>
       obtain⟨vk,hyk,hmk,_,hK⟩:=Ia hA hk h2 h1 hl hs hS (fun _=>hbd) h
       have he:=(Rch.I6 a ok.dst vk).exec (o:=oi) (ops:=ops) M5 hap.1
       have hek:=(Rch.I6 a oi.dst v).exec (o:=ok) (ops:=ops) OI hap.2.2
       have h3:=early hA hi hif hw0 ks iv (a.put ok.dst vk) w hl' hs'.2 hp' hS hbd (hy.same he) hkw ho hK
       refine LW hk h2 h1 hS (hyk.same hek) ?_
       rw[Act.put_comm a v vk hds]
       exact h3
     | false =>
       obtain⟨_,h⟩:=(Ew h0 h1 h2).1 h
       refine Ra h2 h1 fun w' hg=>Lp Ag.Bu hk OI hap.2.2 hds (h w' hg) fun a1 w1k hR hK=>?_
       obtain⟨hS1,hkp,hK⟩:=hK
       have he:=hR.exec (o:=oi) (ops:=ops) M5 hap.1
       have zaV:=hkw.grown hg
       have h3:=early hA hi hif hw0 ks ((w'.heap.size,w1k.heap.size)::iv) a1 w1k hl' hs'.2 hp' hS1
        ⟨Nat.le_trans hbd.1 (Nat.le_trans hg.size hkp.size),fun x hx => by
          rcases List.mem_cons.1 hx with rfl|hx
          ·exact Nat.le_refl _
          ·exact Nat.le_trans (hbd.2 x hx) (Nat.le_trans hg.size hkp.size)⟩
        (hy.same he) (zaV.kept hw0 hkp) (fun x hx' => by
          rcases List.mem_cons.1 hx' with rfl|hx'
          ·exact .inl zaV.size
          ·exact ho x hx') hK
       exact⟨hS1,hkp,UH _ _ _ _ _ _ (fun x hx=>bD hx) h3⟩
theorem jg (hA:OkF P ops fl fa m){i:Nat}(him:i<m)(hif:fa.contains i=false){rest:List Nat} : ∀ (ks:List Nat) (a:Act) (w:World),(∀ k∈ks,fa.contains k=false)->Same B wS w->(∀ x∈ks++i::rest,x<ops.size)->(ks++i::rest).Pairwise (· < ·)->
 (∀ k∈ks,CS P ops fl fa k i=true)->wpS P ops (Ag P ops B wS fl Q) (Same B wS) m (ks++i::rest) a w->wpS P ops (Ag P ops B wS fl Q) (Same B wS) m (i::(ks++rest)) a w
 | [],_,_,_,_,_,_,_,h=>h
 | k :: ks,a,w,hkf,hS,hl,hs,hp,h => by
   have hs':=List.pairwise_cons.1 hs
   have h0:=Ry _ _ _ h
   have hki:k<i:=hs'.1 i (by simp)
   have h:wpOp P ops (Ag P ops B wS fl Q) k (fun a' w' => (k<m->Same B wS w')/\wpS P ops (Ag P ops B wS fl Q) (Same B wS) m (ks++i::rest) a' w') a w:=h
   have h1:wpOp P ops (Ag P ops B wS fl Q) k (fun a' w' => Same B wS w' /\ wpS P ops (Ag P ops B wS fl Q) (Same B wS) m (i::(ks++rest)) a' w') a w:=
    wpOp_mono (fun a' w' hh=>⟨hh.1 (by omega),jg hA him hif ks a' w' (fun x hx=>hkf x (by simp[hx])) (hh.1 (by omega)) (fun x hx=>hl x (by simp at hx ⊢;right;exact hx)) hs'.2 (fun x hx=>hp x (by simp[hx])) hh.2⟩) h
   have hkl:k<ops.size:=hl k (by simp)
   have hil:i<ops.size:=hl i (by simp)
   obtain⟨ok,hk⟩:∃ o,ops[k]? = some o:=⟨_,Array.getElem?_eq_getElem hkl⟩
   obtain⟨oi,hi⟩:∃ o,ops[i]? = some o:=⟨_,Array.getElem?_eq_getElem hil⟩
   have hpk:=hp k (by simp)
   simp only[CS,hk,hi,hif,hkf k (by simp),if_false,Bool.false_eq_true,Bool.and_eq_true,Bool.or_eq_true,beq_iff_eq,List.contains_iff_mem] at hpk
   obtain⟨hap,hc⟩:=hpk
   have h2:wpOp P ops (Ag P ops B wS fl Q) k (fun a' w' => Same B wS w' /\ wpOp P ops (Ag P ops B wS fl Q) i (fun a'' w'' => Same B wS w'' /\ wpS P ops (Ag P ops B wS fl Q) (Same B wS) m (ks++rest) a'' w'') a' w') a w:=
    wpOp_mono (fun a' w' hh=>⟨hh.1,wpOp_mono (fun a'' w'' h3=>⟨h3.1 him,h3.2⟩) (show wpOp P ops _ i (fun a'' w'' => (i<m->Same B wS w'')/\wpS P ops _ (Same B wS) m (ks++rest) a'' w'') a' w' from hh.2)⟩) h1
   have Kk:∀ x∈k::ks++i::rest,∀ o',ops[x]? = some o' -> (needs oi=true\/i∈fl)->∀ t,o'.dst=some t->t ∉ oi.looksAt ops:=fun x hx o' ho' hn t ht=>by
    by_cases hxi:i<=x
    ·exact hA.keep i oi hi hn x hxi o' ho' t ht
    ·have hxm : x ∈ k :: ks :=by
      rcases List.mem_append.1 hx with h|h
      ·exact h
      ·rcases List.mem_cons.1 h with h|h
       ·omega
       ·have:=(List.pairwise_append.1 hs).2.1
        have:=(List.pairwise_cons.1 this).1 x h
        omega
     exact(Oper.apart_spec (OkF.apart (hp x hxm) ho' hi)).1 t ht
   have Kl:∀ x∈k::ks++i::rest,∀ o',ops[x]? = some o' -> (needs ok=true\/k∈fl)->∀ t,o'.dst=some t->t ∉ ok.looksAt ops:=fun x hx o' ho' hn t ht=>by
    refine hA.keep k ok hk hn x ?_ o' ho' t ht
    rcases List.mem_cons.1 hx with h|h
    ·omega
    ·have:=hs'.1 x h;omega
   have h0g:wpOps P ops (Ends P ops (fun _ a w=>allIn B wS ops a fl/\Q .normal a w)) (k::ks++i::rest) a w:=Dh (fun e a w he=>Dt he) _ _ _ h0
   have h3:=wT (S:=Same B wS) Ag.Bu hk hi hap (fun cs b=>hA.sel k ok cs b hk) (fun cs b=>hA.sel i oi cs b hi) hS ?_ h2
   ·show wpOp P ops _ i (fun a' w' => (i<m->Same B wS w')/\wpS P ops _ (Same B wS) m (k::(ks++rest)) a' w') a w
    refine wpOp_mono (fun a' w' hh=>⟨fun _=>hh.1,?_⟩) h3
    show wpOp P ops _ k (fun a'' w'' => (k<m->Same B wS w'')/\wpS P ops _ (Same B wS) m (ks++rest) a'' w'') a' w'
    exact wpOp_mono (fun a'' w'' h4=>⟨fun _=>h4.1,h4.2⟩) hh.2
   ·rcases hc with (((hc|hc)|⟨hc1,hc2⟩)|⟨hc,hm⟩)|⟨hc,hm⟩
    ·have hq:=Gy (l:=k::ks++i::rest) hl h0g hi hc fun hn x hx o' ho' t ht=>Kk x hx o' ho' (.inl hn) t ht
     exact .inl ⟨fun hw=>(hq hw).NI,fun hw=>(hq hw).news⟩
    ·have hq:=Gy (l:=k::ks++i::rest) hl h0g hk hc fun hn x hx o' ho' t ht=>Kl x hx o' ho' (.inl hn) t ht
     exact .inr (.inl ⟨fun hw=>(hq hw).NI,fun hw=>(hq hw).news⟩)
    ·exact .inr (.inr ⟨fun _=>FY hc1,fun _=>Fp (.inl hc2)⟩)
    ·exact .inr (.inl ⟨NJ (l:=k::ks++i::rest) hl h0 hk hc hm fun x hx o' ho' t ht=>Kl x hx o' ho' (.inr hm) t ht,fun _=>Fp (.inl hc)⟩)
    ·exact .inl ⟨NJ (l:=k::ks++i::rest) hl h0 hi hc hm fun x hx o' ho' t ht=>Kk x hx o' ho' (.inr hm) t ht,fun _=>Fp (.inl hc)⟩
theorem RI {l:List Nat}(h:l.any (fun x=>fa.contains x)=false):∀ x∈l,fa.contains x=false:=by
 intro x hx
 have:=List.any_eq_false.1 h x hx
 simpa using this
theorem lC {l l' : List Nat}(hs:∀ x∈l',x∈l)(h:l.any (fun x=>fa.contains x)=false):l'.any (fun x=>fa.contains x)=false:=
 List.any_eq_false.2 fun x hx=>by rw[RI h x (hs x hx)];decide
theorem UJ (hA:OkF P ops fl fa m){i:Nat}{oi:Oper}(hi:ops[i]? = some oi)(hip:plain P ops i=true)(hif:fa.contains i=false){rest:List Nat} : ∀ (ks:List Nat) (iv:List (Nat × Nat)) (a:Act) (w:World),(∀ x∈ks++i::rest,x<ops.size)->(ks++i::rest).Pairwise (· < ·)->
 (∀ k∈ks,i<m/\CS P ops fl fa k i=true)->Same B wS w->((ks++i::rest).any (fun x=>fa.contains x)=true->Bd st iv w)->wpG P ops (Ag P ops B wS fl Q) (Same B wS) m fa st (ks++i::rest) iv w a w->
 ∃ v,Yl P ops oi a w v w/\((∀ k∈ks,plain P ops k=true)\/(∀ w2,Same B wS w2->Yl P ops oi a w2 v w2))/\wpG P ops (Ag P ops B wS fl Q) (Same B wS) m fa st (ks++rest) iv w (a.put oi.dst v) w
 | [],iv,a,w,hl,hs,hp,hS,hbd,h => by
   obtain⟨v,hy,_,_,hK⟩:=Ia hA hi hip hif hl hs hS hbd h
   exact⟨v,hy,.inl (fun k hk=>by cases hk),hK⟩
 | k :: ks,iv,a,w,hl,hs,hp,hS,hbd,h => by
   obtain⟨ok,hk⟩:∃ o,ops[k]? = some o:=⟨_,Array.getElem?_eq_getElem (hl k (by simp))⟩
   obtain⟨him,hpk⟩:=hp k (by simp)
   have hap:=Oper.apart_spec (OkF.apart hpk hk hi)
   have M5:∀ cs b,oi.op≠.select cs b:=fun cs b=>hA.sel i oi cs b hi
   have OI:∀ cs b,ok.op≠.select cs b:=fun cs b=>hA.sel k ok cs b hk
   have hds:∀ t,oi.dst=some t->ok.dst≠some t:=fun t ht hk' => hap.2.1 t hk' ht
   have hs':=List.pairwise_cons.1 hs
   have hl' : ∀ x∈ks++i::rest,x<ops.size:=fun x hx=>hl x (by simp at hx ⊢;right;exact hx)
   have hp' : ∀ x∈ks,i<m/\CS P ops fl fa x i=true:=fun x hx=>hp x (by simp[hx])
   have h:wpG P ops (Ag P ops B wS fl Q) (Same B wS) m fa st (k::(ks++i::rest)) iv w a w:=h
   have hbd:(k::(ks++i::rest)).any (fun x=>fa.contains x)=true->Bd st iv w:=hbd
   obtain⟨a',⟨hg,hin⟩,ht⟩:=OH hA (k::(ks++i::rest)) iv w a w hl hbd h
   have hsame:needs oi=true\/i∈fl->∀ t,t∈oi.looksAt ops->a'.tmps[t]? = a.tmps[t]? :=fun hn t hm=>ht t fun j hj o' ho' e=>by
    by_cases hij:i<=j
    ·exact hA.keep i oi hi hn j hij o' ho' t e hm
    ·have hxm : j ∈ k :: ks :=by
      rcases List.mem_append.1 (show j∈(k::ks)++i::rest from hj) with h|h
      ·exact h
      ·rcases List.mem_cons.1 h with h|h
       ·omega
       ·have:=(List.pairwise_append.1 (show((k::ks)++i::rest).Pairwise (· < ·) from hs)).2.1
        have:=(List.pairwise_cons.1 this).1 j h
        omega
     exact(Oper.apart_spec (OkF.apart (hp j hxm).2 ho' hi)).1 t e hm
   have zaW:kind P oi=0\/(kind P oi=1/\i∈fl)->Region.wanted oi (yielded ops a.tmps)=true->XG P (Same B wS) (execOp a.eval oi):=fun hc=>by
    rcases hc with hc|⟨hc,hm⟩
    ·exact fun hw=>(UG hi hc hg (fun hn=>hsame (.inl hn)) hw).NI
    ·exact lu hi hc hm hin (hsame (.inr hm))
   show ∃ v,Yl P ops oi a w v w/\((∀ x∈k::ks,plain P ops x=true)\/(∀ w2,Same B wS w2->Yl P ops oi a w2 v w2))/\wpG P ops (Ag P ops B wS fl Q) (Same B wS) m fa st (k::(ks++rest)) iv w (a.put oi.dst v) w
   cases h2:plain P ops k with
   | true =>
     cases h1:fa.contains k with
     | true =>
       exfalso
       have:=(hA.float k h1).2 ok hk
       simp only[plain,hk,this] at h2
       exact absurd h2 (by decide)
     | false =>
       obtain⟨vk,hyk,hmk,hfk,hK⟩:=Ia hA hk h2 h1 hl hs hS hbd h
       have he:=(Rch.I6 a ok.dst vk).exec (o:=oi) (ops:=ops) M5 hap.1
       have zca : (ks++i::rest).any (fun x=>fa.contains x)=true->Bd st iv w:=fun hx=>hbd (by simp only[List.any_cons,hx,Bool.or_true])
       obtain⟨v,hy,hc,h3⟩:=UJ hA hi hip hif ks iv (a.put ok.dst vk) w hl' hs'.2 hp' hS zca hK
       have hy':=hy.same ⟨he.1.symm,he.2.symm⟩
       have hek:=(Rch.I6 a oi.dst v).exec (o:=ok) (ops:=ops) OI hap.2.2
       refine⟨v,hy',?_,LW hk h2 h1 hS (hyk.same hek) (by rw[Act.put_comm a v vk hds];exact h3)⟩
       rcases hc with hc|hc
       ·exact .inl fun x hx => by
         rcases List.mem_cons.1 hx with rfl|hx
         ·exact h2
         ·exact hc x hx
       ·exact .inr fun w2 hw2=>(hc w2 hw2).same ⟨he.1.symm,he.2.symm⟩
   | false =>
     have hkd:¬ (kind P ok=0)/\¬ (kind P ok=1):=by simpa [plain,hk] using h2
     have hci:kind P oi=0\/(kind P oi=1/\i∈fl):=by
      simp only[CS,hk,hi,hif,if_false,Bool.false_eq_true,Bool.and_eq_true,Bool.or_eq_true,beq_iff_eq,List.contains_iff_mem,hkd.1,hkd.2,or_false,false_and,and_false,false_or] at hpk
      have:=hpk.2
      split at this
      ·simpa using this
      ·simpa [hkd.1,hkd.2] using this
     have hF:=zaW hci
     cases h0:(k::(ks++i::rest)).any (fun x=>fa.contains x) with
     | false =>
       have hsub:∀ x∈k::(ks++rest),x∈k::(ks++i::rest):=fun x hx=>by simp at hx ⊢;rcases hx with h|h|h<;>simp[h]
       obtain⟨_,h⟩:=(CZ h0).1 h
       have h4:=jg hA him hif (k::ks) a w (fun x hx=>RI h0 x (by simp at hx ⊢;rcases hx with h|h<;>simp[h])) hS hl hs (fun x hx=>(hp x hx).2) h
       obtain⟨v,w',hy,hK⟩:=ED Ag.Bu hi (fun hw n w w' hr=>by
        rcases hci with hc|⟨hc,_⟩
        ·exact(UG hi hc hg (fun hn=>hsame (.inl hn)) hw).news n w w' hr
        ·exact(FY hc).news n w w' hr) (show wpOp P ops _ i (fun a' w' => (i<m->Same B wS w')/\wpS P ops (Ag P ops B wS fl Q) (Same B wS) m (k::(ks++rest)) a' w') a w from h4)
       obtain⟨rfl,hall⟩:=hy.NI hS hF
       exact⟨v,hy,.inr hall,(CZ (lC hsub h0)).2 ⟨rfl,hK.2⟩⟩
     | true =>
       have Jg:=hbd h0
       have move:∀ {v:Value} (hall:∀ w2,Same B wS w2->Yl P ops oi a w2 v w2) (a1:Act) (w' : World) (iv' : List (Nat × Nat)),Rch a ok.dst a1->Same B wS w' -> Bd st iv' w' -> wpG P ops (Ag P ops B wS fl Q) (Same B wS) m fa st (ks++i::rest) iv' w' a1 w' ->
        wpG P ops (Ag P ops B wS fl Q) (Same B wS) m fa st (ks++rest) iv' w' (a1.put oi.dst v) w':=fun {v} hall a1 w' iv' hR hS' hb' hK=>by
        obtain⟨v',hy',_,h3⟩:=UJ hA hi hip hif ks iv' a1 w' hl' hs'.2 hp' hS' (fun _=>hb') hK
        have he:=hR.exec (o:=oi) (ops:=ops) M5 hap.1
        obtain⟨rfl,_⟩:=hy'.det ((hall w' hS').same he)
        exact h3
       cases h1:fa.contains k with
       | true =>
         obtain⟨_,h⟩:=(Gh h1).1 h
         obtain⟨vk,wk,hyk,hK⟩:=ED Ag.Bu hk (fun _=>Ij ((hA.float k h1).2 ok hk)) (h w Jg.1)
         have hgk:=hyk.Y7 ((hA.float k h1).2 ok hk)
         have hSk:=hS.more (D9 hgk)
         obtain⟨v,hy,_,_⟩:=UJ hA hi hip hif ks _ (a.put ok.dst vk) wk hl' hs'.2 hp' hSk (fun _=>Jg.push hgk.size) (hK wk hgk (Kept.refl _ _) Jg.off)
         have he:=(Rch.I6 a ok.dst vk).exec (o:=oi) (ops:=ops) M5 hap.1
         obtain⟨_,hall⟩:=(hy.same ⟨he.1.symm,he.2.symm⟩).NI hSk hF
         refine⟨v,hall w hS,.inr hall,(Gh h1).2 ⟨rfl,fun w0 hw0=>Lp Ag.Bu hk OI hap.2.2 hds (h w0 hw0) fun a1 w1 hR hK w' hg hkp hoff=>?_⟩⟩
         refine move hall a1 w' _ hR (hS.more (D9 hg)) ⟨Nat.le_trans Jg.1 hg.size,fun x hx=>?_⟩ (hK w' hg hkp hoff)
         rcases List.mem_cons.1 hx with rfl|hx
         ·exact hkp.size
         ·exact Nat.le_trans (Jg.2 x hx) hg.size
       | false =>
         obtain⟨_,h⟩:=(Ew h0 h1 h2).1 h
         obtain⟨a1,w1,hR,hS1,hkp,hK⟩:=Gn Ag.Bu hk (h w (Below.refl _ _))
         obtain⟨v,hy,_,_⟩:=UJ hA hi hip hif ks _ a1 w1 hl' hs'.2 hp' hS1 (fun _=>Jg.push hkp.size) hK
         have he:=hR.exec (o:=oi) (ops:=ops) M5 hap.1
         obtain⟨_,hall⟩:=(hy.same ⟨he.1.symm,he.2.symm⟩).NI hS1 hF
         refine⟨v,hall w hS,.inr hall,Ra h2 h1 fun w' hg=>Lp Ag.Bu hk OI hap.2.2 hds (h w' hg) fun a1 w1 hR hK=>?_⟩
         obtain⟨hS1,hkp,hK⟩:=hK
         refine⟨hS1,hkp,move hall a1 w1 _ hR hS1 ⟨Nat.le_trans Jg.1 (Nat.le_trans hg.size hkp.size),fun x hx=>?_⟩ hK⟩
         rcases List.mem_cons.1 hx with rfl|hx
         ·exact Nat.le_refl _
         ·exact Nat.le_trans (Jg.2 x hx) (Nat.le_trans hg.size hkp.size)
theorem sF (hA:OkF P ops fl fa m){i:Nat}{oi:Oper}(hi:ops[i]? = some oi)(hip:plain P ops i=false)(hif:fa.contains i=false){rest:List Nat}(hrest:rest.any (fun x=>fa.contains x)=true):∀ (ks:List Nat) (iv:List (Nat × Nat)) (a:Act) (w:World),(∀ x∈ks++i::rest,x<ops.size)->(ks++i::rest).Pairwise (· < ·)->
 (∀ k∈ks,CS P ops fl fa k i=true)->Same B wS w->Bd st iv w->wpG P ops (Ag P ops B wS fl Q) (Same B wS) m fa st (ks++i::rest) iv w a w->
 wpOp P ops (Ag P ops B wS fl Q) i (fun a1 w1=>Same B wS w1/\Kept st w w1/\wpG P ops (Ag P ops B wS fl Q) (Same B wS) m fa st (ks++rest) ((w.heap.size,w1.heap.size)::iv) w1 a1 w1) a w
 | [],iv,a,w,hl,hs,hp,hS,hbd,h=>((Ew (by simp only[List.any_cons,hrest,Bool.or_true]) hif hip).1 h).2 w (Below.refl _ _)
 | k :: ks,iv,a,w,hl,hs,hp,hS,hbd,h => by
   obtain⟨ok,hk⟩:∃ o,ops[k]? = some o:=⟨_,Array.getElem?_eq_getElem (hl k (by simp))⟩
   have hpk:=hp k (by simp)
   have hap:=Oper.apart_spec (OkF.apart hpk hk hi)
   have M5:∀ cs b,oi.op≠.select cs b:=fun cs b=>hA.sel i oi cs b hi
   have OI:∀ cs b,ok.op≠.select cs b:=fun cs b=>hA.sel k ok cs b hk
   have hs':=List.pairwise_cons.1 hs
   have hkd:¬ (kind P oi=0)/\¬ (kind P oi=1):=by simpa [plain,hi] using hip
   have hc:fa.contains k=false/\(kind P ok=0\/(kind P ok=1/\k∈fl)):=by
    simp only[CS,hk,hi,hif,if_false,Bool.false_eq_true,Bool.and_eq_true,Bool.or_eq_true,beq_iff_eq,List.contains_iff_mem,hkd.1,hkd.2,or_false,false_and,and_false,false_or] at hpk
    have:=hpk.2
    cases hfk:fa.contains k with
    | true=>rw[if_pos (by simpa using hfk)] at this;simp[hkd.1,hkd.2] at this
    | false =>
      rw[if_neg (by simpa using hfk)] at this
      exact⟨rfl,by simpa [hkd.1,hkd.2] using this⟩
   have hkp:plain P ops k=true:=by
    simp only[plain,hk,Bool.or_eq_true,beq_iff_eq]
    rcases hc.2 with h|h
    ·exact .inl h
    ·exact .inr h.1
   obtain⟨vk,hyk,_,hfk,hK⟩:=Ia hA hk hkp hc.1 hl hs hS (fun _=>hbd) h
   have hall :=hfk (by rcases hc.2 with h | h
                       ·exact .inl h
                       ·exact .inr h.2)
   have h3:=sF hA hi hip hif hrest ks iv (a.put ok.dst vk) w (fun x hx=>hl x (by simp at hx ⊢;right;exact hx)) hs'.2 (fun x hx=>hp x (by simp[hx])) hS hbd hK
   refine Sk Ag.Bu hi M5 hap.1 hap.2.1 h3 fun a1 w1 hR hK1=>?_
   have he:=hR.exec (o:=ok) (ops:=ops) OI hap.2.2
   exact⟨hK1.1,hK1.2.1,LW hk hkp hc.1 hK1.1 ((hall w1 hK1.1).same he) hK1.2.2⟩
theorem bE (hA:OkF P ops fl fa m):∀ (l:List Nat) (iv:List (Nat × Nat)) (a:Act) (w w2:World),(∀ x∈l,x<ops.size)->l.Pairwise (· < ·)->Same B wS w->(l.any (fun x=>fa.contains x)=true->Bd st iv w)->Grown w w2->l.any (fun x=>fa.contains x)=true->
 wpG P ops (Ag P ops B wS fl Q) (Same B wS) m fa st l iv w a w->wpG P ops (Ag P ops B wS fl Q) (Same B wS) m fa st l iv w2 a w2
 | [],iv,a,w,w2,_,_,_,_,_,h0,_=>by cases h0
 | k :: l,iv,a,w,w2,hl,hs,hS,hbd,hg,h0,h => by
   obtain⟨ok,hk⟩:∃ o,ops[k]? = some o:=⟨_,Array.getElem?_eq_getElem (hl k (by simp))⟩
   cases h1:fa.contains k with
   | true =>
     obtain⟨_,h⟩:=(Gh h1).1 h
     exact(Gh h1).2 ⟨rfl,fun w0 hw0=>wpOp_mono (fun a1 w1 hh w' hg' hkp ho=>hh w' (hg.trans (hg'.mono hg.size)) hkp ho) (h w0 hw0)⟩
   | false =>
     cases h2:plain P ops k with
     | true =>
       obtain⟨v,hy,hm,_,hK⟩:=Ia hA hk h2 h1 hl hs hS hbd h
       have hL:l.any (fun x=>fa.contains x)=true:=by rw[List.any_cons,h1,Bool.false_or] at h0;exact h0
       exact LW hk h2 h1 (hS.more (D9 hg)) (hm w2 (D9 hg)) (bE hA l iv _ w w2 (fun x hx=>hl x (by simp[hx])) (List.pairwise_cons.1 hs).2 hS (fun _=>hbd h0) hg hL hK)
     | false =>
       obtain⟨_,h⟩:=(Ew h0 h1 h2).1 h
       exact(Ew h0 h1 h2).2 ⟨rfl,fun w' hg' => h w' (hg.trans (hg'.mono hg.size))⟩
/-! ### Any order -/
theorem bF (hA:OkF P ops fl fa m):∀ (fuel:Nat) (l:List Nat) (listed:Array Bool) (iv:List (Nat × Nat)) (a:Act) (w:World),l.length=fuel->listed.size=ops.size->Closed ops listed->
 l.Pairwise (· < ·)->(∀ x,x∈l↔x<ops.size/\listed.getD x false=false)->((∃ x∈l,x<m)->Same B wS w)->(l.any (fun x=>fa.contains x)=true->Bd st iv w)->wpG P ops (Ag P ops B wS fl Q) (Same B wS) m fa st l iv w a w->wpAny P .any ops (Ag P ops B wS fl Q) fuel listed a w
 | 0,l,listed,iv,a,w,hlen,hsz,hcl,hs,hm,_,_,h => by
   have hl0:l=[]:=List.eq_nil_of_length_eq_zero hlen
   subst hl0
   refine⟨?_,h.2⟩
   refine List.eq_nil_iff_forall_not_mem.2 fun j hj=>?_
   obtain⟨h0,o,ho,_⟩:=mem_ready.1 hj
   have hjl:j<ops.size:=(Array.getElem?_eq_some_iff.1 ho).1
   have:=(hm j).2 ⟨hjl,getD_both h0⟩
   cases this
 | fuel + 1,l,listed,iv,a,w,hlen,hsz,hcl,hs,hm,hSl,hbd,h => by
   have both:∀ x,x<ops.size->listed.getD x false=false->listed.getD x true=false:=fun x hx hf=>getD_in (by omega) hf
   refine⟨fun hr=>?_,fun i hi=>?_⟩
   ·exfalso
    cases l with
    | nil=>cases hlen
    | cons k l =>
      have hm0:=(hm k).1 (by simp)
      obtain⟨o,ho⟩:∃ o,ops[k]? = some o:=⟨_,Array.getElem?_eq_getElem hm0.1⟩
      have:k∈Region.ready .any ops listed:=mem_ready.2 ⟨both k hm0.1 hm0.2,o,ho,fun e he hb=>by
       have hlt:=hA.top k o ho e he hb
       cases hx:listed.getD e.on false with
       | true=>rfl
       | false =>
         have hin:=(hm e.on).2 ⟨by omega,hx⟩
         rcases List.mem_cons.1 hin with h1|h1
         ·omega
         ·have:=(List.pairwise_cons.1 hs).1 _ h1
          omega⟩
      rw[hr] at this
      cases this
   ·obtain⟨hun,oi,hoi,hall⟩:=mem_ready.1 hi
    have hil:i<ops.size:=(Array.getElem?_eq_some_iff.1 hoi).1
    have hin:i∈l:=(hm i).2 ⟨hil,getD_both hun⟩
    obtain⟨ks,rest,rfl⟩:=List.append_of_mem hin
    have hpw:=List.pairwise_append.1 hs
    have hlt:∀ x∈ks++i::rest,x<ops.size:=fun x hx=>((hm x).1 hx).1
    have hks:∀ k∈ks,i<m/\CS P ops fl fa k i=true:=fun k hk=>by
     have hki:k<i:=hpw.2.2 k hk i (by simp)
     rcases hA.pair i k hil hki with hw|hp
     ·have:=Gq hcl ops.size i k oi hoi hall hw
      have hk2:=((hm k).1 (by simp[hk])).2
      rw[hk2] at this
      cases this
     ·exact hp
    have hfr:wpOp P ops (Ag P ops B wS fl Q) i (fun a' w' => (i<m->Same B wS w')/\∃ iv',((ks++rest).any (fun x=>fa.contains x)=true->Bd st iv' w')/\wpG P ops (Ag P ops B wS fl Q) (Same B wS) m fa st (ks++rest) iv' w' a' w') a w:=by
     cases h0:(ks++i::rest).any (fun x=>fa.contains x) with
     | false =>
       obtain⟨_,h⟩:=(CZ h0).1 h
       have hn:(ks++rest).any (fun x=>fa.contains x)=false:=lC (fun x hx=>by simp at hx ⊢;rcases hx with h|h<;>simp[h]) h0
       have h4:wpS P ops (Ag P ops B wS fl Q) (Same B wS) m (i::(ks++rest)) a w:=by
        cases ks with
        | nil=>exact h
        | cons k ks =>
          have him:=(hks k (by simp)).1
          exact jg hA him (RI h0 i (by simp)) (k::ks) a w (fun x hx=>RI h0 x (by simp at hx ⊢;rcases hx with h|h<;>simp[h])) (hSl ⟨i,hin,him⟩) hlt hs (fun x hx=>(hks x hx).2) h
       exact wpOp_mono (fun a1 w1 hh=>⟨hh.1,iv,(fun hx=>by rw[hn] at hx;cases hx),(CZ hn).2 ⟨rfl,hh.2⟩⟩) (show wpOp P ops _ i (fun a' w' => (i<m->Same B wS w')/\wpS P ops (Ag P ops B wS fl Q) (Same B wS) m (ks++rest) a' w') a w from h4)
     | true =>
       have Jg:=hbd h0
       have hmem:∃ x∈ks++i::rest,x<m:=by
        obtain⟨x,hx,hxf⟩:=List.any_eq_true.1 h0
        exact⟨x,hx,(hA.float x hxf).1⟩
       have hS:=hSl hmem
       cases hif:fa.contains i with
       | true =>
         obtain⟨v,w1,hy⟩:=JI hA hoi hif ks iv w a w hlt (fun k hk=>(hks k hk).2) Jg h w Jg.1
         have hg:=hy.Y7 ((hA.float i hif).2 oi hoi)
         refine Yl.mk hoi hy ⟨fun _=>hS.more (D9 hg),(w.heap.size,w1.heap.size)::iv,fun _=>Jg.push hg.size,?_⟩
         have grow:wpG P ops (Ag P ops B wS fl Q) (Same B wS) m fa st (ks++i::rest) iv w1 a w1:=bE hA (ks++i::rest) iv a w w1 hlt hs hS (fun _=>Jg) hg h0 h
         exact early hA hoi hif Jg.1 ks iv a w1 hlt hs (fun k hk=>(hks k hk).2) (hS.more (D9 hg)) ⟨Nat.le_trans Jg.1 hg.size,fun x hx=>Nat.le_trans (Jg.2 x hx) hg.size⟩ hy (Kept.refl _ _) Jg.off grow
       | false =>
         cases hip:plain P ops i with
         | true =>
           obtain⟨v,hy,_,hK⟩:=UJ hA hoi hip hif ks iv a w hlt hs hks hS hbd h
           exact Yl.mk hoi hy ⟨fun _=>hS,iv,fun _=>Jg,hK⟩
         | false =>
           have hrest:rest.any (fun x=>fa.contains x)=true:=by
            have hkn:∀ k∈ks,fa.contains k=false:=fun k hk=>by
             obtain⟨ok,hok⟩:∃ o,ops[k]? = some o:=⟨_,Array.getElem?_eq_getElem (hlt k (by simp[hk]))⟩
             have hpk:=(hks k hk).2
             have hkd:¬ (kind P oi=0)/\¬ (kind P oi=1):=by simpa [plain,hoi] using hip
             cases hfk:fa.contains k with
             | false=>rfl
             | true =>
               simp only[CS,hok,hoi,hif,if_false,Bool.false_eq_true,Bool.and_eq_true,Bool.or_eq_true,beq_iff_eq,List.contains_iff_mem,hkd.1,hkd.2,or_false,false_and,and_false,false_or] at hpk
               have:=hpk.2
               rw[if_pos (by simpa using hfk)] at this
               simp[hkd.1,hkd.2] at this
            obtain⟨x,hx,hxf⟩:=List.any_eq_true.1 h0
            refine List.any_eq_true.2 ⟨x,?_,hxf⟩
            rcases List.mem_append.1 hx with h1|h1
            ·rw[hkn x h1] at hxf;cases hxf
            ·rcases List.mem_cons.1 h1 with rfl|h1
             ·rw[hif] at hxf;cases hxf
             ·exact h1
           refine wpOp_mono (fun a1 w1 hh=>⟨fun _=>hh.1,_,fun _=>Jg.push hh.2.1.size,hh.2.2⟩) (sF hA hoi hip hif hrest ks iv a w hlt hs (fun k hk=>(hks k hk).2) hS Jg h)
    refine wpOp_mono (fun a' w' hh=>?_) hfr
    obtain⟨hS',iv',hb',hK⟩:=hh
    refine bF hA fuel (ks++rest) _ iv' a' w' (by simp at hlen ⊢;omega) (by simp[hsz]) ?_ ?_ ?_ ?_ hb' hK
    ·intro j o ho hl e he hb
     by_cases hij:i=j
     ·subst hij
      have:o=oi:=Option.some.inj (ho.symm.trans hoi)
      subst this
      exact getD_set_true (hall e he hb)
     ·refine getD_set_true (hcl j o ho ?_ e he hb)
      rw[getD_set_ne false (by exact hij)] at hl
      exact hl
    ·exact List.pairwise_append.2 ⟨hpw.1,(List.pairwise_cons.1 hpw.2.1).2,fun x hx y hy=>hpw.2.2 x hx y (by simp[hy])⟩
    ·intro x
     have hx:=hm x
     have hne:x∈ks++rest->i≠x:=by
      intro hxm e
      subst e
      rcases List.mem_append.1 hxm with h1|h1
      ·have:=hpw.2.2 i h1 i (by simp)
       omega
      ·have:=(List.pairwise_cons.1 hpw.2.1).1 i h1
       omega
     constructor
     ·intro hxm
      have h1:=hx.1 (by simp at hxm ⊢;rcases hxm with h|h<;>simp[h])
      exact⟨h1.1,by rw[getD_set_ne false (hne hxm)];exact h1.2⟩
     ·rintro⟨h1,h2⟩
      by_cases hix:i=x
      ·subst hix
       simp[hsz,h1] at h2
      ·rw[getD_set_ne false hix] at h2
       have:=hx.2 ⟨h1,h2⟩
       simp at this ⊢
       rcases this with h|h|h
       ·exact .inl h
       ·exact absurd h.symm hix
       ·exact .inr h
    ·rintro⟨x,hx,hxm⟩
     refine hS' ?_
     rcases List.mem_append.1 hx with h1|h1
     ·exact(hks x h1).1
     ·have:=(List.pairwise_cons.1 hpw.2.1).1 x h1
      omega
/-! ### The walk in pieces -/
theorem upS (hA:OkF P ops fl fa m):∀ (l:List Nat) (a:Act) (w:World),(∀ x∈l,x<ops.size)->l.Pairwise (· < ·)->((∃ x∈l,x<m)->Same B wS w)->
 wpC P ops (Ag P ops B wS fl Q) (Same B wS) m l a w->wpS P ops (Ag P ops B wS fl Q) (Same B wS) m l a w
 | [],_,_,_,_,_,h=>h
 | i :: l,a,w,hl,hs,hS,h => by
   have h0:=XH _ _ _ h
   have hs':=List.pairwise_cons.1 hs
   obtain⟨o,hi⟩:∃ o,ops[i]? = some o:=⟨_,Array.getElem?_eq_getElem (hl i (by simp))⟩
   have h:wpOp P ops (Ag P ops B wS fl Q) i (fun a' w' => (i<m->wild P ops i=true->Same B wS w')/\wpC P ops (Ag P ops B wS fl Q) (Same B wS) m l a' w') a w:=h
   show wpOp P ops (Ag P ops B wS fl Q) i (fun a' w' => (i<m->Same B wS w')/\wpS P ops (Ag P ops B wS fl Q) (Same B wS) m l a' w') a w
   have fB:∀ a' w',(i<m->Same B wS w')->wpC P ops (Ag P ops B wS fl Q) (Same B wS) m l a' w' -> wpS P ops (Ag P ops B wS fl Q) (Same B wS) m l a' w':=fun a' w' hS' hh=>
    upS hA l a' w' (fun x hx=>hl x (by simp[hx])) hs'.2 (fun⟨x,hx,hxm⟩=>hS' (by have:=hs'.1 x hx;omega)) hh
   by_cases him:i<m
   ·have hSw:=hS ⟨i,by simp,him⟩
    by_cases hwd:wild P ops i=true
    ·exact wpOp_mono (fun a' w' hh=>⟨fun hm=>hh.1 hm hwd,fB a' w' (fun hm=>hh.1 hm hwd) hh.2⟩) h
    ·have hn : Region.wanted o (yielded ops a.tmps) = true → Pq P (execOp a.eval o) :=by
      simp only[wild,hi,Bool.and_eq_true,bne_iff_ne,ne_eq,not_and,Classical.not_not] at hwd
      intro hw
      by_cases h0k:kind P o=0
      ·have h0g:wpOps P ops (Ends P ops (fun _ a w=>allIn B wS ops a fl/\Q .normal a w)) (i::l) a w:=Dh (fun e a w he=>Dt he) _ _ _ h0
       exact(Gy hl h0g hi h0k (fun hn x hx o' ho' t ht=>hA.keep i o hi (.inl hn) x (by
        rcases List.mem_cons.1 hx with h|h
        ·omega
        ·have:=hs'.1 x h;omega) o' ho' t ht) hw).news
      ·by_cases h1k:kind P o=1
       ·exact(FY h1k).news
       ·exact Ij (hwd ⟨h0k,h1k⟩)
     obtain⟨v,w',hy,hc,hh⟩:=ED Ag.Bu hi hn h
     have oJ : Same B wS w':=hSw.more (hy.more hn)
     exact Yl.mk hi hy ⟨fun _=>oJ,fB _ _ (fun _=>oJ) hh⟩
   ·exact wpOp_mono (fun a' w' hh=>⟨fun hm=>absurd hm him,fB a' w' (fun hm=>absurd hm him) hh.2⟩) h
end
inductive Pc where
 | pure (n:Nat)
 | call
 | new
def UK (w:World)(K:Act->Prop):Exit->Act->World->Prop:=fun e a1 w1=>e=.normal/\w1=w/\K a1
def UL (S:World->Prop)(st:Nat)(w' : World)(K:Act->World->Prop):Exit->Act->World->Prop:=fun e a1 w1=>e=.normal/\S w1/\Kept st w' w1/\K a1 w1
def jh (w w0:World)(iv:List (Nat × Nat))(K:Act->World->World->Prop):Exit->Act->World->Prop:=fun e a1 w1=>e=.normal/\∀ w',Grown w w' -> Kept w0.heap.size w1 w' -> Off iv w0.heap.size w1.heap.size->K a1 w1 w'
theorem UK.intro {w:World}{K:Act->Prop}{a:Act}(h:K a):UK w K .normal a w:=⟨rfl,rfl,h⟩
theorem UL.intro {S:World->Prop}{st:Nat}{w' : World}{K:Act->World->Prop}{a:Act}{w:World}(hS:S w)(hk:Kept st w' w)(h:K a w):UL S st w' K .normal a w:=⟨rfl,hS,hk,h⟩
theorem jh.intro {w w0 w1:World}{iv:List (Nat × Nat)}{K:Act->World->World->Prop}{a:Act}(h:∀ w',Grown w w' -> Kept w0.heap.size w1 w' -> Off iv w0.heap.size w1.heap.size->K a w1 w'):jh w w0 iv K .normal a w1:=⟨rfl,h⟩
def JY (P:Program)(ops:Array Oper)(Q:Exit->Act->World->Prop)(S:World->Prop)(st:Nat)(cs:List Nat):List Pc->List Oper->List (Nat × Nat)->Act->World->Prop
 | [],l,_,a,w=>Bh P ops Q S cs l a w
 | .pure n::ps,l,iv,a,w=>wpList P ops (UK w (fun a1=>JY P ops Q S st cs ps (l.drop n) iv a1 w)) (l.take n) a w
 | .call::ps,l,iv,a,w=>∀ w',Grown w w' -> wpList P ops (UL S st w' (fun a1 w1=>JY P ops Q S st cs ps (l.drop 1) ((w'.heap.size,w1.heap.size)::iv) a1 w1)) (l.take 1) a w'
 | .new::ps,l,iv,a,w=>∀ w0,st<=w0.heap.size->wpList P ops (jh w w0 iv (fun a1 w1 w' => JY P ops Q S st cs ps (l.drop 1) ((w0.heap.size,w1.heap.size)::iv) a1 w')) (l.take 1) a w0
def M6 (P:Program)(ops:Array Oper)(m:Nat)(fa:List Nat)(cs:List Nat):List Pc->Nat->Nat->Bool
 | [],n,k => !((List.range' k n).any fun x=>fa.contains x)&&Sn P ops m cs n k
 | .pure c::ps,n,k=>decide (c<=n)&&((List.range c).all fun j=>plain P ops (k+j) && !fa.contains (k+j))&&((List.range' (k+c) (n-c)).any fun x=>fa.contains x)&&M6 P ops m fa cs ps (n-c) (k+c)
 | .call::ps,n,k=>decide (0<n) && !plain P ops k && !fa.contains k&&((List.range' k n).any fun x=>fa.contains x)&&M6 P ops m fa cs ps (n-1) (k+1)
 | .new::ps,n,k=>decide (0<n)&&fa.contains k&&M6 P ops m fa cs ps (n-1) (k+1)
theorem Xd {S:World->Prop}{m:Nat}{fa:List Nat}{st:Nat}{iv:List (Nat × Nat)}{wr:World}{K:Act->Prop}{L:List Nat}(hL:L.any (fun x=>fa.contains x)=true)(hK:∀ a,K a->wpG P ops Q S m fa st L iv wr a wr):∀ (l:List Oper) (k:Nat) (a:Act) (w:World),w=wr\/l≠[]->(∀ j,j<l.length->l[j]? = ops[k+j]?)->((List.range l.length).all fun j=>plain P ops (k+j) && !fa.contains (k+j))=true->
 wpList P ops (fun e a1 w1=>e=.normal/\w1=wr/\K a1) l a w->wpG P ops Q S m fa st (List.range' k l.length++L) iv wr a w
 | [],k,a,w,_,_,_,h => by
   obtain⟨_,rfl,h⟩:=(h:(_:Exit)=.normal/\_/\K a)
   exact hK a h
 | o :: l,k,a,w,_,hl,hw,h => by
   have h0:ops[k]? = some o:=by simpa using (hl 0 (by simp)).symm
   have hNE:Df (fun(e:Exit) (a1:Act) (w1:World)=>e=.normal/\w1=wr/\K a1):=fun _ _ _ he h=>he h.1
   have hh:=Fq (Q2:=Q) hNE (Gz h0 h)
   simp only[List.all_eq_true,List.mem_range,List.length_cons,Bool.and_eq_true,Bool.not_eq_true'] at hw
   have hk:=hw 0 (by omega)
   simp only[Nat.add_zero] at hk
   rw[List.length_cons,List.range'_succ,List.cons_append]
   refine(GH (by simp only[List.any_cons,List.any_append,hL,Bool.or_true]) hk.2 hk.1).2 (wpOp_mono (fun a1 w1 h1=>?_) hh)
   refine Xd hL hK l (k+1) a1 w1 ?_ (fun j hj=>?_) ?_ h1
   ·cases l with
    | nil=>exact .inl h1.2.1
    | cons _ _=>exact .inr (by simp)
   ·have:=hl (j+1) (by simp;omega)
    simpa [Nat.add_assoc,Nat.add_comm 1 j] using this
   ·simp only[List.all_eq_true,List.mem_range,Bool.and_eq_true,Bool.not_eq_true']
    intro j hj
    have:=hw (j+1) (by omega)
    rwa [show k+(j+1)=k+1+j from by omega] at this
section
variable {B:Nat->Prop} {wS:World} {fl fa:List Nat} {m st:Nat}
theorem OJ (hA:OkF P ops fl fa m){cs:List Nat} : ∀ (ps:List Pc) (l:List Oper) (k:Nat) (iv:List (Nat × Nat)) (a:Act) (w:World),(∀ j,j<l.length->l[j]? = ops[k+j]?)->(k+l.length=ops.size)->Same B wS w->M6 P ops m fa cs ps l.length k=true->
 JY P ops (Ag P ops B wS fl Q) (Same B wS) st cs ps l iv a w->wpG P ops (Ag P ops B wS fl Q) (Same B wS) m fa st (List.range' k l.length) iv w a w
 | [],l,k,iv,a,w,hl,hsz,hS,hc,h => by
   simp only[M6,Bool.and_eq_true,Bool.not_eq_true'] at hc
   refine(CZ hc.1).2 ⟨rfl,upS hA _ a w (fun x hx=>?_) List.pairwise_lt_range' (fun _=>hS) (Ls cs l k a w hl hc.2 h)⟩
   have:=List.mem_range'_1.1 hx
   omega
 | .pure c :: ps,l,k,iv,a,w,hl,hsz,hS,hc,h => by
   simp only[M6,Bool.and_eq_true,decide_eq_true_eq] at hc
   obtain⟨⟨⟨h1,h2⟩,h3⟩,h4⟩:=hc
   have hlen:(l.take c).length=c:=by simp;omega
   have hr:List.range' k l.length=List.range' k (l.take c).length++List.range' (k+c) (l.drop c).length:=by
    rw[hlen,List.length_drop,List.range'_append_1,show c+(l.length-c)=l.length from by omega]
   rw[hr]
   refine Xd (K:=fun a1=>JY P ops (Ag P ops B wS fl Q) (Same B wS) st cs ps (l.drop c) iv a1 w) (by rw[List.length_drop];exact h3) (fun a1 hk=>OJ hA ps (l.drop c) (k+c) iv a1 w (fun j hj=>?_) (by rw[List.length_drop];omega) hS (by rw[List.length_drop];exact h4) hk) (l.take c) k a w (.inl rfl) (fun j hj=>?_) (by rw[hlen];exact h2) h
   ·rw[List.getElem?_drop,hl (c+j) (by simp at hj;omega),Nat.add_assoc]
   ·rw[List.getElem?_take,if_pos (by omega),hl j (by simp at hj;omega)]
 | .call :: ps,l,k,iv,a,w,hl,hsz,hS,hc,h => by
   simp only[M6,Bool.and_eq_true,decide_eq_true_eq,Bool.not_eq_true'] at hc
   obtain⟨⟨⟨⟨h1,h2⟩,h3⟩,h4⟩,h5⟩:=hc
   cases l with
   | nil=>simp at h1
   | cons o l =>
     have h0:ops[k]? = some o:=by simpa using (hl 0 (by simp)).symm
     rw[List.length_cons,List.range'_succ] at h4 ⊢
     refine(Ew h4 h3 h2).2 ⟨rfl,fun w' hg=>?_⟩
     have hNE:Df (fun(e:Exit) (a1:Act) (w1:World)=>e=.normal/\Same B wS w1/\Kept st w' w1/\JY P ops (Ag P ops B wS fl Q) (Same B wS) st cs ps l ((w'.heap.size,w1.heap.size)::iv) a1 w1):=fun _ _ _ he h=>he h.1
     refine wpOp_mono (fun a1 w1 hh=>?_) (Fq (Q2:=Ag P ops B wS fl Q) hNE (Gz h0 (l:=[]) (h w' hg)))
     obtain⟨_,hS1,hk,hK⟩:=(hh:(_:Exit)=.normal/\_)
     refine⟨hS1,hk,OJ hA ps l (k+1) _ a1 w1 (fun j hj=>?_) (by simp at hsz;omega) hS1 (by simpa using h5) hK⟩
     have:=hl (j+1) (by simp;omega)
     simpa [Nat.add_assoc,Nat.add_comm 1 j] using this
 | .new :: ps,l,k,iv,a,w,hl,hsz,hS,hc,h => by
   simp only[M6,Bool.and_eq_true,decide_eq_true_eq] at hc
   obtain⟨⟨h1,h3⟩,h5⟩:=hc
   cases l with
   | nil=>simp at h1
   | cons o l =>
     have h0:ops[k]? = some o:=by simpa using (hl 0 (by simp)).symm
     rw[List.length_cons,List.range'_succ]
     refine(Gh h3).2 ⟨rfl,fun w0 hw0=>?_⟩
     have hNE:Df (fun(e:Exit) (a1:Act) (w1:World)=>e=.normal/\∀ w',Grown w w' -> Kept w0.heap.size w1 w' -> Off iv w0.heap.size w1.heap.size->JY P ops (Ag P ops B wS fl Q) (Same B wS) st cs ps l ((w0.heap.size,w1.heap.size)::iv) a1 w'):=fun _ _ _ he h=>he h.1
     refine wpOp_mono (fun a1 w1 hh w' hg hk ho=>?_) (Fq (Q2:=Ag P ops B wS fl Q) hNE (Gz h0 (l:=[]) (h w0 hw0)))
     obtain⟨_,hK⟩:=(hh:(_:Exit)=.normal/\_)
     refine OJ hA ps l (k+1) _ a1 w' (fun j hj=>?_) (by simp at hsz;omega) (hS.more (D9 hg)) (by simpa using h5) (hK w' hg hk ho)
     have:=hl (j+1) (by simp;omega)
     simpa [Nat.add_assoc,Nat.add_comm 1 j] using this
end
theorem vG {l:List Oper}{a:Act}{w:World}(B:Nat->Prop)(fl fa:List Nat)(m:Nat)(ps:List Pc)(cs:List Nat)(hA:YA P l.toArray fl fa m=true)(hC:M6 P l.toArray m fa cs ps l.length 0=true)
 (h:JY P l.toArray (Ag P l.toArray B w fl Q) (Same B w) w.heap.size cs ps l [] a w):wpAny P .any l.toArray (Ag P l.toArray B w fl Q) l.toArray.size (Array.replicate l.toArray.size false) a w:=by
 refine bF (QZ hA) (st:=w.heap.size) l.toArray.size (List.range l.toArray.size) _ [] a _ (by simp) (by simp) ?_ List.pairwise_lt_range (fun x=>by
  constructor
  ·intro hx
   have:=List.mem_range.1 hx
   exact⟨this,by simp only[Array.getD_eq_getD_getElem?];simp at this ⊢;simp[this]⟩
  ·exact fun hx=>List.mem_range.2 hx.1) (fun _=>Same.refl _ _) (fun _=>⟨Nat.le_refl _,fun _ hx=>by cases hx⟩) ?_
 ·intro j o ho hl
  rw[getD_replicate_false] at hl
  cases hl
 ·rw[List.range_eq_range',show l.toArray.size=l.length from by simp]
  exact OJ (QZ hA) ps l 0 [] a w (by simp) (by simp) (Same.refl _ _) hC h
theorem IG {id:Nat}{l:List Oper}{a:Act}{w:World}(B:Nat->Prop)(fl fa:List Nat)(m:Nat)(ps:List Pc)(cs:List Nat)(hm:P.follows .mixedOrders=true)(hA:YA P l.toArray fl fa m=true)(hC:M6 P l.toArray m fa cs ps l.length 0=true)
 (h:JY P l.toArray (Ag P l.toArray B w.drew fl Q) (Same B w.drew) w.drew.heap.size cs ps l [] a w.drew):(Code.region id l.toArray true).wp P Q a w:=
 Code.wp_mono (Q:=Ag P l.toArray B w.drew fl Q) (fun e a' w' he=>by obtain⟨rfl,_,_,h⟩:=he;exact h) (wp_region_any hm (vG B fl fa m ps cs hA hC h))
end
end Lex
end
section
open Go Go.RowKit Go.Maps
namespace Sto
theorem YC (b n:Nat)(f:ByteArray->Option Value)(w:World)(h:CY w b n f):
 Calls Tryz.prog 142 #[.map (some b)] w fun e w' => e=.returned (.map (some w.heap.size))/\CY w' w.heap.size n f/\Below w.heap.size w w':=by
 obtain⟨D,⟨es,clock,hb,F,hs,hD⟩,hr⟩:=h
 have hq:=fun w=>run_eql_map_nil_sl (P:=Tryz.prog) w 81 _ _ (some b) Tryz.underlying81
 have HR:=zh hr;have HF:=zh F;have HS:=zh hs;have HD:=zh hD;clear hr F hs hD
 go_enter Tryz.func142,Tryz.ntmps142
 go_wp2
 rw[run_callFunc_extern Tryz.func190 (by kernel_rfl) (by kernel_rfl) (by kernel_rfl) (e:=Extern.MapsClone.clone) (by kernel_rfl),run_maps_clone_sl w 81 hb]
 simp only[Result.andThen]
 rw[Oper.upon_value]
 go_wp2
 rw[run_typeAssert_map_sl _ 81 20 _ _ _ Tryz.underlying81]
 simp only[Result.andThen]
 rw[Oper.upon_value]
 go_wp2
 go_ret
 exact⟨rfl,⟨D,⟨es,clock,(MapKept.heap_alloc w _).1,HF.out,HS.out,HD.out⟩,HR.out⟩,(Below.refl _ w).alloc (Nat.le_refl _) _⟩
theorem YD (b n:Nat)(f:ByteArray->Option Value)(w:World)(h:CY w b n f):
 Calls Tryz.prog 143 #[.map (some b)] w fun e w' => e=.returned (.map (some w.heap.size))/\CY w' w.heap.size n f/\Below w.heap.size w w':=by
 obtain⟨D,⟨es,clock,hb,F,hs,hD⟩,hr⟩:=h
 have hq:=fun w=>run_eql_map_nil_sl (P:=Tryz.prog) w 82 _ _ (some b) Tryz.underlying82
 have HR:=zh hr;have HF:=zh F;have HS:=zh hs;have HD:=zh hD;clear hr F hs hD
 go_enter Tryz.func143,Tryz.ntmps143
 go_wp2
 rw[run_callFunc_extern Tryz.func190 (by kernel_rfl) (by kernel_rfl) (by kernel_rfl) (e:=Extern.MapsClone.clone) (by kernel_rfl),run_maps_clone_sl w 82 hb]
 simp only[Result.andThen]
 rw[Oper.upon_value]
 go_wp2
 rw[run_typeAssert_map_sl _ 82 20 _ _ _ Tryz.underlying82]
 simp only[Result.andThen]
 rw[Oper.upon_value]
 go_wp2
 go_ret
 exact⟨rfl,⟨D,⟨es,clock,(MapKept.heap_alloc w _).1,HF.out,HS.out,HD.out⟩,HR.out⟩,(Below.refl _ w).alloc (Nat.le_refl _) _⟩
theorem AX:(Tryz.prog.info? 84).map (·.size)=some 3:=by kernel_rfl
def lD (w:World)(F:Nat->Prop)(s:St)(e:Ending)(w' : World):Prop:=∃ mo mv ve,e=.returned (.agg #[.map (some mo),ve,.map (some mv)])/\StC w' (fun k=>F k/\k<w.heap.size) mo mv ve s/\w'.ownsRow w.heap.size 9 1 ve s.ents.length (s.ents.map Value.string)/\w.heap.size<=mo/\w.heap.size<=mv/\Below w.heap.size w w'
theorem bG (F:Nat->Prop)(mo mv:Nat)(ve:Value)(s:St)(w:World)(h:StC w F mo mv ve s)(hl:s.ents.length<=4000000):
 Calls Tryz.prog 85 #[.agg #[.map (some mo),ve,.map (some mv)]] w (lD w F s):=by
 obtain⟨R,hR⟩:∃ R,R=lD w F s:=⟨_,rfl⟩
 rw[<- hR]
 obtain⟨ea,ec,rfl⟩:=h.en.len
 obtain⟨f,hf,hfm⟩:=h.om
 obtain⟨g,hg,hgm⟩:=h.vm
 have HR:=zh hR;have H:=zh h;have HF:=zh hf;have HFM:=zh hfm;have HG:=zh hg;have HGM:=zh hgm
 clear hR h hf hfm hg hgm
 have T1:=zh (show Aj w _ [(84,#[.map (some mo),.slice ea s.ents.length ec,.map (some mv)]),(84,#[.map none,.slice none 0 0,.map none])] from(((Bp.nil w).push 84 #[.map (some mo),.slice ea s.ents.length ec,.map (some mv)]).push 84 #[.map none,.slice none 0 0,.map none]).boxes)
 have t00:((w.alloc (.cells #[.map (some mo),.slice ea s.ents.length ec,.map (some mv)] 84)).alloc (.cells #[.map none,.slice none 0 0,.map none] 84)).cell? ⟨w.heap.size,0,none⟩=some (.map (some mo)):=T1.out.cell 0 0 rfl rfl
 have t01:((w.alloc (.cells #[.map (some mo),.slice ea s.ents.length ec,.map (some mv)] 84)).alloc (.cells #[.map none,.slice none 0 0,.map none] 84)).cell? ⟨w.heap.size,1,none⟩=some (.slice ea s.ents.length ec):=T1.out.cell 0 1 rfl rfl
 have t02:((w.alloc (.cells #[.map (some mo),.slice ea s.ents.length ec,.map (some mv)] 84)).alloc (.cells #[.map none,.slice none 0 0,.map none] 84)).cell? ⟨w.heap.size,2,none⟩=some (.map (some mv)):=T1.out.cell 0 2 rfl rfl
 have t10:((w.alloc (.cells #[.map (some mo),.slice ea s.ents.length ec,.map (some mv)] 84)).alloc (.cells #[.map none,.slice none 0 0,.map none] 84)).cell? ⟨w.heap.size+1,0,none⟩=some (.map none):=T1.out.cell 1 0 rfl rfl
 have DI:((w.alloc (.cells #[.map (some mo),.slice ea s.ents.length ec,.map (some mv)] 84)).alloc (.cells #[.map none,.slice none 0 0,.map none] 84)).frozen? ⟨w.heap.size+1,0,none⟩=false:=T1.out.free 1 0 rfl
 have t11:((w.alloc (.cells #[.map (some mo),.slice ea s.ents.length ec,.map (some mv)] 84)).alloc (.cells #[.map none,.slice none 0 0,.map none] 84)).cell? ⟨w.heap.size+1,1,none⟩=some (.slice none 0 0):=T1.out.cell 1 1 rfl rfl
 have DJ:((w.alloc (.cells #[.map (some mo),.slice ea s.ents.length ec,.map (some mv)] 84)).alloc (.cells #[.map none,.slice none 0 0,.map none] 84)).frozen? ⟨w.heap.size+1,1,none⟩=false:=T1.out.free 1 1 rfl
 have t12:((w.alloc (.cells #[.map (some mo),.slice ea s.ents.length ec,.map (some mv)] 84)).alloc (.cells #[.map none,.slice none 0 0,.map none] 84)).cell? ⟨w.heap.size+1,2,none⟩=some (.map none):=T1.out.cell 1 2 rfl rfl
 have DK:((w.alloc (.cells #[.map (some mo),.slice ea s.ents.length ec,.map (some mv)] 84)).alloc (.cells #[.map none,.slice none 0 0,.map none] 84)).frozen? ⟨w.heap.size+1,2,none⟩=false:=T1.out.free 1 2 rfl
 go_enter Tryz.func85,Tryz.ntmps85
 go_upto_region 1 with fail
 (try clear t00);(try clear t01);(try clear t02);(try clear DI);(try clear t10);(try clear DJ);(try clear t11);(try clear DK);(try clear t12)
 generalize ((w.alloc (.cells #[.map (some mo),.slice ea s.ents.length ec,.map (some mv)] 84)).alloc (.cells #[.map none,.slice none 0 0,.map none] 84))=w1 at*
 obtain⟨t00,t01,t02⟩:=T1.out.Ev rfl
 obtain⟨t10,t11,t12,DI,DJ,DK⟩:=T1.out.JH rfl
 have HI1:=zh (zi t01)
 have HI2:=zh (zi t02)
 refine Lex.zn (fun i=>i=w.heap.size) [4,7] 8 [3,3] ?_
 simp only[Lex.Bh,zd]
 have hz:=T1.out.size
 have hz1:w.heap.size+2<=w1.heap.size:=hz
 go_wp2_with fail
 refine(YC mo _ f _ (HF.out.below (T1.out.under.drew) HF.out.lt)).mono ?_
 rintro e w2 ⟨rfl,hm2,hb2⟩
 replace hb2:Below w1.heap.size w1 w2:=(Below.refl w1.heap.size w1).drew.trans hb2
 replace hm2:CY w2 w1.heap.size s.objs.length f:=hm2
 have T2:=zh (T1.out.step hb2);have HM2:=zh hm2;have HB2:=zh hb2;have HZ2:=zh (T1.out.under.trans (hb2.mono T1.out.under.size))
 clear hb2 hm2
 (try clear t00);(try clear t01);(try clear t02);(try clear DI);(try clear t10);(try clear DJ);(try clear t11);(try clear DK);(try clear t12)
 obtain⟨t00,t01,t02⟩:=T2.out.Ev rfl
 obtain⟨t10,t11,t12,DI,DJ,DK⟩:=T2.out.JH rfl
 go_wp2
 refine Lex.Mid.intro (fun i hi hl=>by subst hi;exact HB2.out.block _ hl) ?_
 have hz2:=HB2.out.size
 have hlt2:=HM2.out.lt
 go_wp2_with fail
 refine(Cn (.slice ea s.ents.length ec) s.ents _ (H.out.en.below HZ2.out) hl).mono ?_
 rintro e w3 ⟨v',rfl,_,_,ho3,hb3⟩
 obtain⟨va,vm,vc,rfl⟩:=Ah ho3
 have T3:=zh (T2.out.step hb3);have HM3:=zh (HM2.out.below hb3 HM2.out.lt);have HB3:=zh (HB2.out.trans (hb3.mono HB2.out.size));have HZ3:=zh (HZ2.out.trans (hb3.mono HZ2.out.size));have HO3:=zh ho3
 have hz3:=hb3.size
 clear hb3 ho3
 (try clear t00);(try clear t01);(try clear t02);(try clear DI);(try clear t10);(try clear DJ);(try clear t11);(try clear DK);(try clear t12)
 obtain⟨t00,t01,t02⟩:=T3.out.Ev rfl
 obtain⟨t10,t11,t12,DI,DJ,DK⟩:=T3.out.JH rfl
 go_wp2
 refine Lex.Mid.intro (fun i hi hl=>by subst hi;exact HB3.out.block _ hl) ?_
 go_wp2_with fail
 refine(YD mv _ g _ (HG.out.below HZ3.out HG.out.lt)).mono ?_
 rintro e w4 ⟨rfl,hm4,hb4⟩
 have T4:=zh (T3.out.step hb4);have HM4:=zh (HM3.out.below hb4 HM3.out.lt);have HB4:=zh (HB3.out.trans (hb4.mono HB3.out.size));have HZ4:=zh (HZ3.out.trans (hb4.mono HZ3.out.size));have HO4:=zh (own_below HO3.out hb4);have HV4:=zh hm4
 clear hb4 hm4
 (try clear t00);(try clear t01);(try clear t02);(try clear DI);(try clear t10);(try clear DJ);(try clear t11);(try clear DK);(try clear t12)
 obtain⟨t00,t01,t02⟩:=T4.out.Ev rfl
 obtain⟨t10,t11,t12,DI,DJ,DK⟩:=T4.out.JH rfl
 go_wp2
 refine Lex.zk ⟨⟨rfl,HI1.out⟩,⟨rfl,HI2.out⟩,trivial⟩ ?_
 go_wp2_with fail
 have T5:=((T4.out.put 1 0 (.map (some w1.heap.size)) rfl).put 1 1 (.slice va vm vc) rfl).put 1 2 (.map (some w3.heap.size)) rfl
 refine UF rfl rfl (Al (T5.at1 1 rfl) Tryz.underlying84 rfl AX) ?_
 rw[HR.out]
 have hzf:∀ k,k<w.heap.size+1\/w.heap.size+1<k->(((w4.setCell ⟨w.heap.size+1,0,none⟩ (.map (some w1.heap.size))).setCell ⟨w.heap.size+1,1,none⟩ (.slice va vm vc)).setCell ⟨w.heap.size+1,2,none⟩ (.map (some w3.heap.size))).heap[k]? = w4.heap[k]? :=fun k hk=>by
  rw[zo (by show k≠w.heap.size+1;omega),zo (by show k≠w.heap.size+1;omega),zo (by show k≠w.heap.size+1;omega)]
 have ho:=Ar HO4.out (fun k hk=>hzf k (by have:=Az HO4.out k hk;omega))
 have hu:=Az ho
 refine⟨w1.heap.size,w3.heap.size,.slice va vm vc,rfl,⟨⟨f,HM4.out.keep (hzf _ (by omega)),HFM.out.keep fun v x hv=>(hv.mono (G:=fun k=>F k/\k<w.heap.size) fun k h1 h2=>⟨h1,h2⟩).below T5.under⟩,⟨g,HV4.out.keep (hzf _ (by omega)),HGM.out⟩,Am.own ho,fun k hk=>?_,⟨fun h=>by have:=h.2;omega,fun h=>by have:=h.2;omega,by omega⟩⟩,Ou ho (by omega),by omega,by omega,T5.under⟩
 obtain⟨cur,hc⟩:=Ao ho hk
 have:=hu k hk
 exact⟨hc.lt,fun h=>by have:=h.2;omega,(HM4.out.keep (hzf _ (by omega))).JW hc,(HV4.out.keep (hzf _ (by omega))).JW hc⟩
end Sto
namespace Sto
open Own (Bt Srt BH)
def opV (x:SOp)(v:Value):Value:=.agg #[.int .i64 x.kind,.string x.name,.string x.data,.int .i64 x.obj.kind,v,.string x.obj.data]
structure StO (w0:World) (F0:Nat->Prop) (w:World) (ob:Nat) (F:Nat->Prop) (mo mv:Nat) (ve:Value) (s:St):Prop where
 box:At w ob 84 #[.map (some mo),ve,.map (some mv)]
 st:StC w F mo mv ve s
 own:w.ownsRow w0.heap.size 9 1 ve s.ents.length (s.ents.map Value.string)
 bel:Below w0.heap.size w0 w
 ge:w0.heap.size<=ob/\w0.heap.size<=mo/\w0.heap.size<=mv
 sub:∀ k,F k->(F0 k/\k<w0.heap.size)\/(w0.heap.size<=k/\k<w.heap.size)
 nob:¬ F ob
def ji (ob mo mv:Nat)(ve:Value)(k:Nat):Prop:=k=ob\/k=mo\/k=mv\/ve.ownBlock=some k
def Cr (w0:World)(F0:Nat->Prop)(w:World)(ob mo mv:Nat)(ve:Value)(s:St)(x:SOp)(e:Ending)(w' : World):Prop:=match step s x with
 | .error c=>e=.returned (.int .i64 c)/\Below w0.heap.size w0 w'
 | .ok t=>e=.returned (.int .i64 0)/\∃ F' ve',StO w0 F0 w' ob F' mo mv ve' t/\Fr (ji ob mo mv ve) w w'
section
variable {w0 w w' : World} {F0 F:Nat->Prop} {ob mo mv:Nat} {ve:Value} {s:St}
theorem StO.below (h:StO w0 F0 w ob F mo mv ve s)(hb:Below w.heap.size w w'):StO w0 F0 w' ob F mo mv ve s:=
 ⟨h.box.below hb h.box.lt,h.st.below hb,own_below h.own hb,h.bel.trans (hb.mono h.bel.size),h.ge,fun k hk=>(h.sub k hk).imp id (fun e=>⟨e.1,Nat.lt_of_lt_of_le e.2 hb.size⟩),h.nob⟩
theorem StO.ne (h:StO w0 F0 w ob F mo mv ve s):ob≠mo/\ob≠mv:=by
 obtain⟨f,h1,_⟩:=h.st.om
 obtain⟨g,h2,_⟩:=h.st.vm
 exact⟨h1.JW h.box,h2.JW h.box⟩
theorem StO.more (h:StO w0 F0 w ob F mo mv ve s){lo:Nat}(h0:w0.heap.size<=lo)(h1:ob<lo/\mo<lo/\mv<lo)(h2:∀ k,ve.ownBlock=some k->k<lo):StO w0 F0 w ob (fun k=>F k\/(lo<=k/\k<w.heap.size)) mo mv ve s:=
 ⟨h.box,h.st.mono (fun k hk _ => .inl hk) ⟨by rintro (e | e);exact h.st.fo.1 e;omega,by rintro (e | e);exact h.st.fo.2.1 e;omega,fun k hv => by
   rintro(e|e)
   ·exact(h.st.eb k hv).2.1 e
   ·have:=h2 k hv
    omega⟩,h.own,h.bel,h.ge,by
   rintro k (hk|hk)
   ·exact h.sub k hk
   ·exact .inr ⟨by omega,hk.2⟩,by rintro(e|e);exact h.nob e;omega⟩
theorem StO.lF (h:StO w0 F0 w ob F mo mv ve s){t:St}(hg:w.grownBy w' (some mo))(hs:StC w' F mo mv ve t)(he:t.ents=s.ents):StO w0 F0 w' ob F mo mv ve t:=
 ⟨h.box.grown hg (fun e => h.ne.1 (by simpa using e)),hs,by
   rw[he]
   refine Ar h.own fun k hk=>hg.block k (by obtain⟨cur,hc⟩:=Ao h.own hk;exact hc.lt) fun e=>?_
   obtain⟨f,h1,_⟩:=h.st.om
   obtain⟨cur,hc⟩:=Ao h.own hk
   exact h1.JW hc (by simpa using e),h.bel.grown hg h.bel.size (fun k hk=>by cases hk;exact h.ge.2.1),h.ge,fun k hk=>(h.sub k hk).imp id (fun e=>⟨e.1,Nat.lt_of_lt_of_le e.2 hg.size⟩),h.nob⟩
theorem StO.Lb (h:StO w0 F0 w ob F mo mv ve s){t:St}(hg:w.grownBy w' (some mv))(hs:StC w' F mo mv ve t)(he:t.ents=s.ents):StO w0 F0 w' ob F mo mv ve t:=
 ⟨h.box.grown hg (fun e => h.ne.2 (by simpa using e)),hs,by
   rw[he]
   refine Ar h.own fun k hk=>hg.block k (by obtain⟨cur,hc⟩:=Ao h.own hk;exact hc.lt) fun e=>?_
   obtain⟨f,h1,_⟩:=h.st.vm
   obtain⟨cur,hc⟩:=Ao h.own hk
   exact h1.JW hc (by simpa using e),h.bel.grown hg h.bel.size (fun k hk=>by cases hk;exact h.ge.2.2),h.ge,fun k hk=>(h.sub k hk).imp id (fun e=>⟨e.1,Nat.lt_of_lt_of_le e.2 hg.size⟩),h.nob⟩
theorem StO.zaX (h:StO w0 F0 w ob F mo mv ve s){u:Value}{y:ByteArray}(hg:w.grownBy w' ve.ownBlock)(ho:w'.ownsRow w0.heap.size 9 1 u (s.ents.length+1) (s.ents.map Value.string++[.string y]))(hb:u.ownBlock=ve.ownBlock\/u.ownBlock=some w.heap.size):
 StO w0 F0 (w'.setCell ⟨ob,1,none⟩ u) ob F mo mv u { s with ents:=s.ents++[y] } :=by
 obtain⟨n1,n2⟩:=h.ne
 have nv:ve.ownBlock≠some ob:=h.box.own_ne h.own (by decide)
 have hbx:=h.box.grown hg (fun e=>nv e.symm)
 have nu:u.ownBlock≠some ob:=hbx.own_ne ho (by decide)
 have hol:=h.box.lt
 have hkp:∀ k,k<w.heap.size->k≠ob->ve.ownBlock≠some k->(w'.setCell ⟨ob,1,none⟩ u).heap[k]? = w.heap[k]? :=fun k hl hk hv=>(zo hk).trans (hg.block k hl (fun e=>hv e.symm))
 have hsz:w.heap.size<=(w'.setCell ⟨ob,1,none⟩ u).heap.size:=by simp only[World.setCell,Array.size_modify];exact hg.size
 have zdd:w'.heap.size=(w'.setCell ⟨ob,1,none⟩ u).heap.size:=by simp only[World.setCell,Array.size_modify]
 obtain⟨f,h1,h2⟩:=h.st.om
 obtain⟨g,h3,h4⟩:=h.st.vm
 have ho2:=Ar ho (w':=w'.setCell ⟨ob,1,none⟩ u) (fun k hk=>zo (by rintro rfl;exact nu hk))
 have hown:(w'.setCell ⟨ob,1,none⟩ u).ownsRow w0.heap.size 9 1 u (s.ents++[y]).length ((s.ents++[y]).map Value.string):=by
  rw[List.length_append,List.length_singleton,List.map_append]
  exact ho2
 have hm1:=h1.keep (w':=w'.setCell ⟨ob,1,none⟩ u) (hkp mo h1.lt (fun e=>n1 e.symm) (fun e=>(h.st.eb _ e).2.2.1 rfl))
 have hm2:=h3.keep (w':=w'.setCell ⟨ob,1,none⟩ u) (hkp mv h3.lt (fun e=>n2 e.symm) (fun e=>(h.st.eb _ e).2.2.2 rfl))
 have hF:∀ k,F k->k<w.heap.size->(w'.setCell ⟨ob,1,none⟩ u).heap[k]? = w.heap[k]? :=fun k hk hl=>hkp k hl (fun e=>h.nob (e ▸ hk)) (fun e=>(h.st.eb _ e).2.1 hk)
 have hnF:∀ k,u.ownBlock=some k->¬ F k:=fun k hu hk=>by
  rcases hb with e|e
  ·exact(h.st.eb k (e ▸ hu)).2.1 hk
  ·rw[e] at hu
   cases hu
   have h5:=h.sub _ hk
   have h6:=h.bel.size
   omega
 refine⟨hbx.set 1 u,⟨⟨f,hm1,h2.keep fun v x hv=>hv.keep hsz hF⟩,⟨g,hm2,h4⟩,Am.own hown,fun k hk=>?_,h.st.fo⟩,hown,(h.bel.grown hg h.bel.size (fun k hk=>Az h.own k hk)).setCell (p:=⟨ob,1,none⟩) h.ge.1 _,h.ge,fun k hk=>(h.sub k hk).imp id (fun e=>⟨e.1,Nat.lt_of_lt_of_le e.2 hsz⟩),h.nob⟩
 obtain⟨cur,hc⟩:=Ao hown hk
 exact⟨hc.lt,hnF k hk,hm1.JW hc,hm2.JW hc⟩
end
theorem QY (w:World):(zeroValue 64).run Tryz.prog w=.ok (.agg #[.int .i64 0,.slice none 0 0,.string ⟨#[]⟩]) w:=by kernel_rfl
theorem sG (w0 w:World)(F0 F:Nat->Prop)(ob mo mv:Nat)(ve:Value)(s:St)(x:SOp)(v:Value)(h:StO w0 F0 w ob F mo mv ve s)(hs:Bw s)(hx:D6 x=true)(hk:x.kind=0)(hv:Am w v x.obj.refs):
 Calls Tryz.prog 86 #[.pointer (some ⟨ob,0,none⟩),opV x v] w (Cr w0 F0 w ob mo mv ve s x):=by
 obtain⟨R,hR⟩:∃ R,R=Cr w0 F0 w ob mo mv ve s x:=⟨_,rfl⟩
 rw[<- hR]
 have hok:okO x.obj=true:=by
  have:=hx
  unfold D6 at this
  rwa [if_pos hk] at this
 have hrl:x.obj.refs.length<=4000000:=by have:=(Dv hok).2.2.1;omega
 have hds:(dig x.obj).size<=maxLen:=by unfold maxLen;rw[OE];decide
 have hdg:=OG hok
 obtain⟨va,vc,rfl⟩:=hv.len
 obtain⟨f,hf,hfm⟩:=h.st.om
 obtain⟨d,hd⟩:∃ d,d=dig x.obj:=⟨_,rfl⟩
 obtain⟨ea,en,ec,rfl⟩:=Ah h.own
 rw[<- hd] at hds hdg
 have hol:=h.box.lt
 have hml:=hf.lt
 have hvl:=h.st.QW
 have hz0:=h.bel.size
 have HR:=zh hR;have H:=zh h;have HV:=zh hv;have HF:=zh hf;have HFM:=zh hfm;have HD:=zh hd;have HOK:=zh hs;have HRE:=zh (Eu hok);have HDG:=zh hdg;have HK:=zh hk
 clear hR h hv hf hfm hd hs hdg hok hx hk
 unfold opV
 have T1:=zh (show Aj w _ [(77,#[.int .i64 x.kind,.string x.name,.string x.data,.int .i64 x.obj.kind,.slice va x.obj.refs.length vc,.string x.obj.data])] from((Bp.nil w).push 77 #[.int .i64 x.kind,.string x.name,.string x.data,.int .i64 x.obj.kind,.slice va x.obj.refs.length vc,.string x.obj.data]).boxes)
 have t00:(w.alloc (.cells #[.int .i64 x.kind,.string x.name,.string x.data,.int .i64 x.obj.kind,.slice va x.obj.refs.length vc,.string x.obj.data] 77)).cell? ⟨w.heap.size,0,none⟩=some (.int .i64 x.kind):=T1.out.cell 0 0 rfl rfl
 have Ci:(w.alloc (.cells #[.int .i64 x.kind,.string x.name,.string x.data,.int .i64 x.obj.kind,.slice va x.obj.refs.length vc,.string x.obj.data] 77)).frozen? ⟨w.heap.size,0,none⟩=false:=T1.out.free 0 0 rfl
 have t01:(w.alloc (.cells #[.int .i64 x.kind,.string x.name,.string x.data,.int .i64 x.obj.kind,.slice va x.obj.refs.length vc,.string x.obj.data] 77)).cell? ⟨w.heap.size,1,none⟩=some (.string x.name):=T1.out.cell 0 1 rfl rfl
 have Cj:(w.alloc (.cells #[.int .i64 x.kind,.string x.name,.string x.data,.int .i64 x.obj.kind,.slice va x.obj.refs.length vc,.string x.obj.data] 77)).frozen? ⟨w.heap.size,1,none⟩=false:=T1.out.free 0 1 rfl
 have t02:(w.alloc (.cells #[.int .i64 x.kind,.string x.name,.string x.data,.int .i64 x.obj.kind,.slice va x.obj.refs.length vc,.string x.obj.data] 77)).cell? ⟨w.heap.size,2,none⟩=some (.string x.data):=T1.out.cell 0 2 rfl rfl
 have Ck:(w.alloc (.cells #[.int .i64 x.kind,.string x.name,.string x.data,.int .i64 x.obj.kind,.slice va x.obj.refs.length vc,.string x.obj.data] 77)).frozen? ⟨w.heap.size,2,none⟩=false:=T1.out.free 0 2 rfl
 have t03:(w.alloc (.cells #[.int .i64 x.kind,.string x.name,.string x.data,.int .i64 x.obj.kind,.slice va x.obj.refs.length vc,.string x.obj.data] 77)).cell? ⟨w.heap.size,3,none⟩=some (.int .i64 x.obj.kind):=T1.out.cell 0 3 rfl rfl
 have Ib:(w.alloc (.cells #[.int .i64 x.kind,.string x.name,.string x.data,.int .i64 x.obj.kind,.slice va x.obj.refs.length vc,.string x.obj.data] 77)).frozen? ⟨w.heap.size,3,none⟩=false:=T1.out.free 0 3 rfl
 have t04:(w.alloc (.cells #[.int .i64 x.kind,.string x.name,.string x.data,.int .i64 x.obj.kind,.slice va x.obj.refs.length vc,.string x.obj.data] 77)).cell? ⟨w.heap.size,4,none⟩=some (.slice va x.obj.refs.length vc):=T1.out.cell 0 4 rfl rfl
 have Ic:(w.alloc (.cells #[.int .i64 x.kind,.string x.name,.string x.data,.int .i64 x.obj.kind,.slice va x.obj.refs.length vc,.string x.obj.data] 77)).frozen? ⟨w.heap.size,4,none⟩=false:=T1.out.free 0 4 rfl
 have t05:(w.alloc (.cells #[.int .i64 x.kind,.string x.name,.string x.data,.int .i64 x.obj.kind,.slice va x.obj.refs.length vc,.string x.obj.data] 77)).cell? ⟨w.heap.size,5,none⟩=some (.string x.obj.data):=T1.out.cell 0 5 rfl rfl
 have Ie:(w.alloc (.cells #[.int .i64 x.kind,.string x.name,.string x.data,.int .i64 x.obj.kind,.slice va x.obj.refs.length vc,.string x.obj.data] 77)).frozen? ⟨w.heap.size,5,none⟩=false:=T1.out.free 0 5 rfl
 go_enter Tryz.func86,Tryz.ntmps86
 go_wp2_with fail
 (try clear Ci);(try clear t00);(try clear Cj);(try clear t01);(try clear Ck);(try clear t02);(try clear Ib);(try clear t03);(try clear Ic);(try clear t04);(try clear Ie);(try clear t05)
 generalize (w.alloc (.cells #[.int .i64 x.kind,.string x.name,.string x.data,.int .i64 x.obj.kind,.slice va x.obj.refs.length vc,.string x.obj.data] 77))=w1 at*
 refine(La x.obj (.slice va x.obj.refs.length vc) _ (HV.out.below T1.out.under) HRE.out).mono ?_
 rintro e w2 ⟨rfl,hb2⟩
 rw[HDG.out]
 have T2:=zh (T1.out.step hb2);clear hb2
 have H2:=zh (H.out.below T2.out.under);have HF2:=zh (HF.out.below T2.out.under HF.out.lt)
 have hz2:w.heap.size+1<=w2.heap.size:=T2.out.size
 have b0:=H2.out.box.c1
 obtain⟨t00,t01,t02,t03,t04,t05,Ci,Cj,Ck,Ib,Ic,Ie⟩:=T2.out.VU rfl
 cases hl:look dig d s.objs with
 | some o2 =>
   obtain⟨sv,e1,e2⟩:=HFM.out.hit hl
   obtain⟨sa,sc,rfl⟩:=e2.len
   have hx1:(f d).getD (.agg #[.int .i64 0,.slice none 0 0,.string ⟨#[]⟩])=.agg #[.int .i64 o2.kind,.slice sa o2.refs.length sc,.string o2.data]:=by rw[e1];rfl
   have hx2:(f d).isSome=true:=by rw[e1];rfl
   have hst:step s x=.ok s:=Yo HOK.out HK.out (by rw[<- HD.out];exact aK hl)
   have HX1:=zh hx1;have HX2:=zh hx2;have HST:=zh hst
   clear hx1 hx2 e1 e2 hst hl
   go_wp2_with (at_lookup;go_must (refine D8 rfl _ _ 81 64 rfl Tryz.underlying81 (.agg #[.int .i64 0,.slice none 0 0,.string ⟨#[]⟩]) (QY _) HF2.out.smap rfl d rfl hds ?_);rw[HX1.out,HX2.out])
   (try go_ret)
   rw[HR.out]
   unfold Cr
   rw[HST.out]
   exact⟨rfl,F,_,H2.out.below zb,Fr.of_below (T2.out.under.trans (((Below.refl w2.heap.size w2).alloc (Nat.le_refl _) _).mono T2.out.under.size))⟩
 | none =>
   have e1:=HFM.out.miss hl
   have hx1:(f d).getD (.agg #[.int .i64 0,.slice none 0 0,.string ⟨#[]⟩])=.agg #[.int .i64 0,.slice none 0 0,.string ⟨#[]⟩]:=by rw[e1];rfl
   have hx2:(f d).isSome=false:=by rw[e1];rfl
   have hnew:has dig d s.objs=false:=WS hl
   have HX1:=zh hx1;have HX2:=zh hx2;have HN:=zh hnew
   clear hx1 hx2 e1 hl hnew
   go_upto_region 5 with (at_lookup;go_must (refine D8 rfl _ _ 81 64 rfl Tryz.underlying81 (.agg #[.int .i64 0,.slice none 0 0,.string ⟨#[]⟩]) (QY _) HF2.out.smap rfl d rfl hds ?_);rw[HX1.out,HX2.out])
   have hb3:Below w2.heap.size w2 (w2.alloc (.cells #[.int .i64 0,.slice none 0 0,.string ⟨#[]⟩] 64)):=zb
   have T3:=zh (T2.out.step hb3);have H3:=zh (H2.out.below hb3);have HF3:=zh (HF2.out.below hb3 HF2.out.lt)
   have hz3:w2.heap.size<=((w2.alloc (.cells #[.int .i64 0,.slice none 0 0,.string ⟨#[]⟩] 64))).heap.size:=hb3.size
   clear hb3 b0
   (try clear Ci);(try clear t00);(try clear Cj);(try clear t01);(try clear Ck);(try clear t02);(try clear Ib);(try clear t03);(try clear Ic);(try clear t04);(try clear Ie);(try clear t05)
   generalize (w2.alloc (.cells #[.int .i64 0,.slice none 0 0,.string ⟨#[]⟩] 64))=w3 at*
   have b0:=H3.out.box.c1
   obtain⟨t00,t01,t02,t03,t04,t05,Ci,Cj,Ck,Ib,Ic,Ie⟩:=T3.out.VU rfl
   have hlen:=HF3.out.kZ Tryz.underlying81 3
   by_cases hfull:s.objs.length=1024
   ·have hst:step s x=.error 7:=VD HK.out (by rw[<- HD.out];exact HN.out) hfull
    have HST:=zh hst
    rw[hfull] at hlen
    clear hst hfull
    go_wp2
    (try go_ret)
    rw[HR.out]
    unfold Cr
    rw[HST.out]
    exact⟨rfl,H3.out.bel⟩
   ·have hst:step s x=.ok { s with objs:=BH dig x.obj s.objs } :=Yp HOK.out HK.out (by rw[<- HD.out];exact HN.out) hfull
    have HST:=zh hst
    have dl:((s.objs.length:Int)==1024)=false:=by rw[beq_eq_false_iff_ne];omega
    have ho1:=HOK.out.o1
    clear hst hfull
    go_wp2_with fail
    refine(Cn (.slice va x.obj.refs.length vc) x.obj.refs _ (HV.out.below T3.out.under) hrl).mono ?_
    rintro e w4 ⟨v4,rfl,_,hu4,ho4,hb4⟩
    obtain⟨na,nm,nc,rfl⟩:=Ah ho4
    have T4:=zh (T3.out.step hb4);have H4:=zh (H3.out.below hb4);have HF4:=zh (HF3.out.below hb4 HF3.out.lt);have HU4:=zh (Az ho4);have HO4:=zh ho4
    have hz4:=hb4.size
    clear hb4 ho4 hu4 hlen b0
    (try clear Ci);(try clear t00);(try clear Cj);(try clear t01);(try clear Ck);(try clear t02);(try clear Ib);(try clear t03);(try clear Ic);(try clear t04);(try clear Ie);(try clear t05)
    have b0:=H4.out.box.c1
    obtain⟨t00,t01,t02,t03,t04,t05,Ci,Cj,Ck,Ib,Ic,Ie⟩:=T4.out.VU rfl
    go_upto_region 8 with fail
    have T5:=zh (T4.out.put 0 4 (.slice na nm nc) rfl)
    have ho5:=Ar HO4.out (w':=w4.setCell ⟨w.heap.size,4,none⟩ (.slice na nm nc)) (fun k hk=>zo (by have:=HU4.out k hk;show k≠w.heap.size;omega))
    have HO5:=zh ho5
    clear ho5 b0
    (try clear Ci);(try clear t00);(try clear Cj);(try clear t01);(try clear Ck);(try clear t02);(try clear Ib);(try clear t03);(try clear Ic);(try clear t04);(try clear Ie);(try clear t05)
    generalize w4.setCell ⟨w.heap.size,4,none⟩ (.slice na nm nc)=w5 at*
    have H5:=zh ((H.out.below T5.out.under).more (lo:=w.heap.size) hz0 ⟨hol,hml,hvl⟩ (fun k hv=>(H.out.st.eb k hv).1))
    have hf5:=HFM.out.keep (G:=fun k=>F k\/(w.heap.size<=k/\k<w5.heap.size)) (w':=w5) fun v x hv=>(hv.below T5.out.under).mono fun k hk _=>.inl hk
    have hx5:=(HF.out.below T5.out.under HF.out.lt).below (Below.refl w5.heap.size w5).drew (HF.out.below T5.out.under HF.out.lt).lt
    have HF5:=zh hf5;have HX5:=zh hx5
    have hv5:CO (fun k=>F k\/(w.heap.size<=k/\k<w5.heap.size)) w5 (.slice na nm nc) x.obj.refs:=⟨Am.own HO5.out,fun _ k hk=>by
     obtain⟨cur,hc⟩:=Ao HO5.out hk
     have:=HU4.out k hk
     exact⟨.inr ⟨by omega,hc.lt⟩,hc.lt⟩⟩
    have HV5:=zh hv5
    have b0:=H5.out.box.c1
    clear hf5 hx5 hv5
    obtain⟨t00,t01,t02,t03,t04,t05,Ci,Cj,Ck,Ib,Ic,Ie⟩:=T5.out.VU rfl
    refine Lex.zl ?_
    go_wp2_with (at_mapUpdate;go_must (refine JF rfl _ _ _ 81 64 rfl Tryz.underlying81 HX5.out (by unfold maxLen;omega) rfl d (Dj x.obj (.slice na nm nc)) rfl rfl hds ?_);intro w6 hm6 hg6)
    have hd6:Below w5.heap.size w5 w5.drew:=(Below.refl w5.heap.size w5).drew
    have H6:=H5.out.below hd6
    have hs6:=H6.st.putObj (o:=x.obj) (sv:=.slice na nm nc) (HF5.out.keep fun v x hv=>hv.below hd6) (by rw[<- HD.out];exact HN.out) (by rw[<- HD.out];exact hm6) hg6 (HV5.out.below hd6)
    have Eh:=zh (H6.lF hg6 hs6 rfl)
    have HFR:=zh ((Fr.of_below T5.out.under.drew:Fr (ji ob mo mv (.slice ea en ec)) w w5.drew).grown hg6 (fun k hk=>.inl (.inr (.inl (Option.some.inj hk).symm))))
    clear hs6 H6 hm6 hg6
    go_wp2
    refine Lex.ze ?_
    go_wp2
    (try go_ret)
    rw[HR.out]
    unfold Cr
    rw[HST.out]
    exact⟨rfl,_,_,Eh.out,HFR.out⟩
theorem nM (w0 w:World)(F0 F:Nat->Prop)(ob mo mv:Nat)(ve:Value)(s:St)(x:SOp)(v:Value)(h:StO w0 F0 w ob F mo mv ve s)(hs:Bw s)(hx:D6 x=true)(hk:x.kind=1)(hv:Am w v x.obj.refs):
 Calls Tryz.prog 87 #[.pointer (some ⟨ob,0,none⟩),opV x v] w (Cr w0 F0 w ob mo mv ve s x):=by
 obtain⟨R,hR⟩:∃ R,R=Cr w0 F0 w ob mo mv ve s x:=⟨_,rfl⟩
 rw[<- hR]
 have hds:x.name.size<=maxLen:=by
  have:=hx
  unfold D6 at this
  rw[if_neg (by omega),if_pos hk] at this
  have:=of_decide_eq_true this
  unfold maxLen;omega
 obtain⟨va,vc,rfl⟩:=hv.len
 obtain⟨f,hf,hfm⟩:=h.st.om
 obtain⟨ea,en,ec,rfl⟩:=Ah h.own
 have hol:=h.box.lt
 have hml:=hf.lt
 have hz0:=h.bel.size
 have HR:=zh hR;have H:=zh h;have HF:=zh hf;have HFM:=zh hfm;have HOK:=zh hs;have HK:=zh hk
 clear hR h hv hf hfm hs hx hk
 unfold opV
 have T1:=zh (show Aj w _ [(77,#[.int .i64 x.kind,.string x.name,.string x.data,.int .i64 x.obj.kind,.slice va x.obj.refs.length vc,.string x.obj.data])] from((Bp.nil w).push 77 #[.int .i64 x.kind,.string x.name,.string x.data,.int .i64 x.obj.kind,.slice va x.obj.refs.length vc,.string x.obj.data]).boxes)
 have t00:(w.alloc (.cells #[.int .i64 x.kind,.string x.name,.string x.data,.int .i64 x.obj.kind,.slice va x.obj.refs.length vc,.string x.obj.data] 77)).cell? ⟨w.heap.size,0,none⟩=some (.int .i64 x.kind):=T1.out.cell 0 0 rfl rfl
 have Ci:(w.alloc (.cells #[.int .i64 x.kind,.string x.name,.string x.data,.int .i64 x.obj.kind,.slice va x.obj.refs.length vc,.string x.obj.data] 77)).frozen? ⟨w.heap.size,0,none⟩=false:=T1.out.free 0 0 rfl
 have t01:(w.alloc (.cells #[.int .i64 x.kind,.string x.name,.string x.data,.int .i64 x.obj.kind,.slice va x.obj.refs.length vc,.string x.obj.data] 77)).cell? ⟨w.heap.size,1,none⟩=some (.string x.name):=T1.out.cell 0 1 rfl rfl
 have Cj:(w.alloc (.cells #[.int .i64 x.kind,.string x.name,.string x.data,.int .i64 x.obj.kind,.slice va x.obj.refs.length vc,.string x.obj.data] 77)).frozen? ⟨w.heap.size,1,none⟩=false:=T1.out.free 0 1 rfl
 have t02:(w.alloc (.cells #[.int .i64 x.kind,.string x.name,.string x.data,.int .i64 x.obj.kind,.slice va x.obj.refs.length vc,.string x.obj.data] 77)).cell? ⟨w.heap.size,2,none⟩=some (.string x.data):=T1.out.cell 0 2 rfl rfl
 have Ck:(w.alloc (.cells #[.int .i64 x.kind,.string x.name,.string x.data,.int .i64 x.obj.kind,.slice va x.obj.refs.length vc,.string x.obj.data] 77)).frozen? ⟨w.heap.size,2,none⟩=false:=T1.out.free 0 2 rfl
 have t03:(w.alloc (.cells #[.int .i64 x.kind,.string x.name,.string x.data,.int .i64 x.obj.kind,.slice va x.obj.refs.length vc,.string x.obj.data] 77)).cell? ⟨w.heap.size,3,none⟩=some (.int .i64 x.obj.kind):=T1.out.cell 0 3 rfl rfl
 have Ib:(w.alloc (.cells #[.int .i64 x.kind,.string x.name,.string x.data,.int .i64 x.obj.kind,.slice va x.obj.refs.length vc,.string x.obj.data] 77)).frozen? ⟨w.heap.size,3,none⟩=false:=T1.out.free 0 3 rfl
 have t04:(w.alloc (.cells #[.int .i64 x.kind,.string x.name,.string x.data,.int .i64 x.obj.kind,.slice va x.obj.refs.length vc,.string x.obj.data] 77)).cell? ⟨w.heap.size,4,none⟩=some (.slice va x.obj.refs.length vc):=T1.out.cell 0 4 rfl rfl
 have Ic:(w.alloc (.cells #[.int .i64 x.kind,.string x.name,.string x.data,.int .i64 x.obj.kind,.slice va x.obj.refs.length vc,.string x.obj.data] 77)).frozen? ⟨w.heap.size,4,none⟩=false:=T1.out.free 0 4 rfl
 have t05:(w.alloc (.cells #[.int .i64 x.kind,.string x.name,.string x.data,.int .i64 x.obj.kind,.slice va x.obj.refs.length vc,.string x.obj.data] 77)).cell? ⟨w.heap.size,5,none⟩=some (.string x.obj.data):=T1.out.cell 0 5 rfl rfl
 have Ie:(w.alloc (.cells #[.int .i64 x.kind,.string x.name,.string x.data,.int .i64 x.obj.kind,.slice va x.obj.refs.length vc,.string x.obj.data] 77)).frozen? ⟨w.heap.size,5,none⟩=false:=T1.out.free 0 5 rfl
 go_enter Tryz.func87,Tryz.ntmps87
 go_upto_region 1 with fail
 (try clear Ci);(try clear t00);(try clear Cj);(try clear t01);(try clear Ck);(try clear t02);(try clear Ib);(try clear t03);(try clear Ic);(try clear t04);(try clear Ie);(try clear t05)
 generalize (w.alloc (.cells #[.int .i64 x.kind,.string x.name,.string x.data,.int .i64 x.obj.kind,.slice va x.obj.refs.length vc,.string x.obj.data] 77))=w1 at*
 have H1:=zh (H.out.below T1.out.under)
 have b0:=H1.out.box.c1
 obtain⟨t00,t01,t02,t03,t04,t05,Ci,Cj,Ck,Ib,Ic,Ie⟩:=T1.out.VU rfl
 refine Lex.IG (fun _=>False) [] [10] 12 [.pure 6,.call,.pure 3,.new] [1] (by kernel_rfl) (by kernel_rfl) (by kernel_rfl) ?_
 simp only[Lex.JY,Lex.Bh,zd]
 go_wp2
 refine Lex.UK.intro ?_
 intro w5 hg5
 have B5:=zh (show Below w1.heap.size w1 w5 from(Below.refl w1.heap.size w1).drew.trans hg5)
 clear hg5
 (try clear Ci);(try clear t00);(try clear Cj);(try clear t01);(try clear Ck);(try clear t02);(try clear Ib);(try clear t03);(try clear Ic);(try clear t04);(try clear Ie);(try clear t05)
 clear b0
 have HX5:=zh (((HF.out.below T1.out.under HF.out.lt).below B5.out (by have:=T1.out.under.size;omega)).smap)
 cases hl:look dig x.name s.objs with
 | none =>
   have e1:=HFM.out.miss hl
   have hx1:(f x.name).getD (.agg #[.int .i64 0,.slice none 0 0,.string ⟨#[]⟩])=.agg #[.int .i64 0,.slice none 0 0,.string ⟨#[]⟩]:=by rw[e1];rfl
   have hx2:(f x.name).isSome=false:=by rw[e1];rfl
   have hst:step s x=.error 6:=Um HK.out (WS hl)
   have HX1:=zh hx1;have HX2:=zh hx2;have HST:=zh hst
   clear hx1 hx2 e1 hl hst
   go_wp2_with (at_lookup;go_must (refine D8 rfl _ _ 81 64 rfl Tryz.underlying81 (.agg #[.int .i64 0,.slice none 0 0,.string ⟨#[]⟩]) (QY _) HX5.out rfl x.name rfl hds ?_);rw[HX1.out,HX2.out])
   refine Lex.UL.intro (fun j hj _=>absurd hj id) (Lex.Kept.refl _ _) ?_
   go_wp2
   refine Lex.UK.intro ?_
   intro w7 hw7
   go_wp2
   refine Lex.jh.intro (fun w8 hg8 hk8 ho8=>?_)
   have hs8:=hk8.at_
   have hl7:w1.heap.size<=w7.heap.size:=hw7
   obtain⟨g8,hgs⟩:∃ g,g=w7.heap.size:=⟨_,rfl⟩
   rw[<- hgs] at hs8 hl7
   have B8:=zh (B5.out.trans (hg8.mono B5.out.size));have GS8:=zh hs8
   rw[<- hgs]
   clear hg8 hk8 ho8 hs8 hgs hw7
   have s0:=GS8.out.cell 0;have s1:=GS8.out.cell 1;have s2:=GS8.out.cell 2;have s3:=GS8.out.free 0;have s4:=GS8.out.free 1;have s5:=GS8.out.free 2
   simp only[zg] at s0 s1 s2
   go_wp2
   refine Lex.Mid.intro (fun j hj _=>absurd hj id) ?_
   go_wp2
   refine Lex.zk trivial ?_
   clear s0 s1 s2 s3 s4 s5
   have b9:Below w1.heap.size w1 (((w8.setCell ⟨g8,0,none⟩ (.int .i64 0)).setCell ⟨g8,1,none⟩ (.slice none 0 0)).setCell ⟨g8,2,none⟩ (.string ⟨#[]⟩)):=((B8.out.setCell (p:=⟨g8,0,none⟩) hl7 _).setCell (p:=⟨g8,1,none⟩) hl7 _).setCell (p:=⟨g8,2,none⟩) hl7 _
   have B9:=zh b9
   clear b9 B8 GS8 B5 HX5
   generalize ((w8.setCell ⟨g8,0,none⟩ (.int .i64 0)).setCell ⟨g8,1,none⟩ (.slice none 0 0)).setCell ⟨g8,2,none⟩ (.string ⟨#[]⟩)=w9 at*
   go_wp2
   (try go_ret)
   rw[HR.out]
   unfold Cr
   rw[HST.out]
   exact⟨rfl,(H1.out.below B9.out).bel⟩
 | some o2 =>
   obtain⟨sv,e1,e2⟩:=HFM.out.hit hl
   obtain⟨sa,sc,rfl⟩:=e2.len
   have hx1:(f x.name).getD (.agg #[.int .i64 0,.slice none 0 0,.string ⟨#[]⟩])=.agg #[.int .i64 o2.kind,.slice sa o2.refs.length sc,.string o2.data]:=by rw[e1];rfl
   have hx2:(f x.name).isSome=true:=by rw[e1];rfl
   have hhas:=aK hl
   have hst:step s x=.ok { s with objs:=without dig x.name s.objs } :=VG HOK.out HK.out hhas
   have HX1:=zh hx1;have HX2:=zh hx2;have HST:=zh hst;have HH:=zh hhas
   clear hx1 hx2 e1 e2 hl hst hhas
   go_wp2_with (at_lookup;go_must (refine D8 rfl _ _ 81 64 rfl Tryz.underlying81 (.agg #[.int .i64 0,.slice none 0 0,.string ⟨#[]⟩]) (QY _) HX5.out rfl x.name rfl hds ?_);rw[HX1.out,HX2.out])
   refine Lex.UL.intro (fun j hj _=>absurd hj id) (Lex.Kept.refl _ _) ?_
   go_wp2
   refine Lex.UK.intro ?_
   intro w7 hw7
   go_wp2
   refine Lex.jh.intro (fun w8 hg8 hk8 ho8=>?_)
   have hs8:=hk8.at_
   have hl7:w1.heap.size<=w7.heap.size:=hw7
   obtain⟨g8,hgs⟩:∃ g,g=w7.heap.size:=⟨_,rfl⟩
   rw[<- hgs] at hs8 hl7
   have B8:=zh (B5.out.trans (hg8.mono B5.out.size));have GS8:=zh hs8
   rw[<- hgs]
   clear hg8 hk8 ho8 hs8 hgs hw7
   have s0:=GS8.out.cell 0;have s1:=GS8.out.cell 1;have s2:=GS8.out.cell 2;have s3:=GS8.out.free 0;have s4:=GS8.out.free 1;have s5:=GS8.out.free 2
   simp only[zg] at s0 s1 s2
   go_wp2
   refine Lex.Mid.intro (fun j hj _=>absurd hj id) ?_
   go_wp2
   refine Lex.zk trivial ?_
   clear s0 s1 s2 s3 s4 s5
   have b9:Below w1.heap.size w1 (((w8.setCell ⟨g8,0,none⟩ (.int .i64 o2.kind)).setCell ⟨g8,1,none⟩ (.slice sa o2.refs.length sc)).setCell ⟨g8,2,none⟩ (.string o2.data)):=((B8.out.setCell (p:=⟨g8,0,none⟩) hl7 _).setCell (p:=⟨g8,1,none⟩) hl7 _).setCell (p:=⟨g8,2,none⟩) hl7 _
   have B9:=zh b9
   clear b9 B8 GS8 B5 HX5
   generalize ((w8.setCell ⟨g8,0,none⟩ (.int .i64 o2.kind)).setCell ⟨g8,1,none⟩ (.slice sa o2.refs.length sc)).setCell ⟨g8,2,none⟩ (.string o2.data)=w9 at*
   go_upto_region 4 with fail
   have T9:=zh (T1.out.step B9.out)
   have hd9:Below w9.heap.size w9 w9.drew:=(Below.refl w9.heap.size w9).drew
   have H9:=zh ((H1.out.below B9.out).below hd9)
   have hx9:=((HF.out.below T1.out.under HF.out.lt).below B9.out (by have:=T1.out.under.size;omega)).below hd9 (by have:=T9.out.under.size;omega)
   obtain⟨w10,hrun,sH,YE⟩:=hx9.kY Tryz.underlying81 x.name hds 0
   have b0:=(H1.out.below B9.out).box.cell 0
   simp only[zg] at b0
   have bH:=H9.out.st.vD HOK.out.os (HFM.out.keep fun v x hv=>((hv.below T1.out.under).below B9.out).below hd9) HH.out sH YE
   have Eh:=zh (H9.out.lF YE bH rfl)
   have HFR:=zh ((Fr.of_below T9.out.under.drew:Fr (ji ob mo mv (.slice ea en ec)) w w9.drew).grown YE (fun k hk=>.inl (.inr (.inl (Option.some.inj hk).symm))))
   clear bH sH YE hx9 hd9
   obtain⟨t00,t01,t02,t03,t04,t05,Ci,Cj,Ck,Ib,Ic,Ie⟩:=T9.out.VU rfl
   refine Lex.zl ?_
   go_wp2
   refine Lex.ze ?_
   go_wp2
   (try go_ret)
   rw[HR.out]
   unfold Cr
   rw[HST.out]
   exact⟨rfl,_,_,Eh.out,HFR.out⟩
end Sto
end
section
open Go
namespace Nam
abbrev less (a b:List UInt8):Bool:=Op.bytesLess a b
theorem Iy:∀ a:List UInt8,less a a=false
 | []=>rfl
 | c :: l => by
   have:=Iy l
   unfold less at*
   unfold Op.bytesLess
   simp[this]
theorem UM:∀ {a b c:List UInt8},less a b=true->less b c=true->less a c=true
 | [],[],_,h,_=>by cases h
 | _::_,[],_,h,_=>by cases h
 | _,_::_,[],_,h=>by cases h
 | [],_::_,_::_,_,_=>rfl
 | a :: x,b :: y,c :: z,h1,h2 => by
   unfold less Op.bytesLess at h1 h2 ⊢
   simp only[Bool.or_eq_true,decide_eq_true_eq,Bool.and_eq_true,beq_iff_eq] at h1 h2 ⊢
   rcases h1 with h1|⟨rfl,h1⟩
   ·rcases h2 with h2|⟨rfl,h2⟩
    ·exact .inl (UInt8.lt_trans h1 h2)
    ·exact .inl h1
   ·rcases h2 with h2|⟨rfl,h2⟩
    ·exact .inl h2
    ·exact .inr ⟨rfl,UM (a:=x) (b:=y) (c:=z) h1 h2⟩
end Nam
namespace Store
theorem Xe {l:List ByteArray}{d:ByteArray}(h:l.Nodup)(hd:d ∉ l):(l++[d]).Nodup:=by
 rw[List.nodup_append]
 exact⟨h,by simp,fun a ha b hb=>by rw[List.mem_singleton] at hb;rw[hb];exact fun e=>hd (e ▸ ha)⟩
end Store
def bI (l:List ByteArray):Prop:=l.Pairwise fun a b=>Nam.less a.data.toList b.data.toList=true
theorem vH {a b:ByteArray}(h:a.data.toList=b.data.toList):a=b:=by
 cases a with
 | mk x => cases b with
   | mk y =>
     congr 1
     exact Array.toList_inj.1 h
theorem Rb:∀ {a b:List ByteArray},bI a->bI b->(∀ x,x∈a↔x∈b)->a=b
 | [],[],_,_,_=>rfl
 | [],y::b,_,_,h=>by have:=(h y).2 List.mem_cons_self;cases this
 | x::a,[],_,_,h=>by have:=(h x).1 List.mem_cons_self;cases this
 | x :: a,y :: b,ha,hb,h => by
   obtain⟨a1,a2⟩:=List.pairwise_cons.1 ha
   obtain⟨b1,b2⟩:=List.pairwise_cons.1 hb
   have e:x=y:=by
    rcases List.mem_cons.1 ((h x).1 List.mem_cons_self) with e|hx
    ·exact e
    ·rcases List.mem_cons.1 ((h y).2 List.mem_cons_self) with e|hy
     ·exact e.symm
     ·have h1:=b1 x hx
      have h2:=a1 y hy
      have:=Nam.UM h1 h2
      rw[Nam.Iy] at this
      cases this
   subst e
   congr 1
   refine Rb a2 b2 fun z=>?_
   constructor
   ·intro hz
    rcases List.mem_cons.1 ((h z).1 (List.mem_cons_of_mem _ hz)) with e|hz2
    ·subst e
     have:=a1 z hz
     rw[Nam.Iy] at this
     cases this
    ·exact hz2
   ·intro hz
    rcases List.mem_cons.1 ((h z).2 (List.mem_cons_of_mem _ hz)) with e|hz2
    ·subst e
     have:=b1 z hz
     rw[Nam.Iy] at this
     cases this
    ·exact hz2
end
section
open Go Go.RowKit
structure Quiet (B:Nat) (W W' : World):Prop where
 os:W'.os=W.os
 tape:W'.tape=W.tape
 output:W'.output=W.output
 size:W.heap.size<=W'.heap.size
 kept:∀ (k:Nat) (o:_root_.Go.Obj),W.heap[k]? = some o->(k<B\/∀ a b c d,o≠_root_.Go.Obj.mapIter a b c d)->W'.heap[k]? = some o
theorem Quiet.below {B:Nat}{W W' : World}(h:Below W.heap.size W W'):Quiet B W W':=⟨h.os,h.tape,h.output,h.size,fun k o hk _=>(h.block k (Array.getElem?_eq_some_iff.1 hk).1).trans hk⟩
theorem Quiet.grown {B:Nat}{W W' : World}{r:Nat}{a:Option Nat}{b:Nat}{c:Array Nat}{d:Nat}(h:W.grownBy W' (some r))(hr:W.heap[r]? = some (.mapIter a b c d))(hB:B<=r):Quiet B W W' :=
 ⟨h.os,h.tape,h.output,h.size,fun k o hk hn => (h.block k (Array.getElem?_eq_some_iff.1 hk).1 (fun e => by
   have e2:k=r:=by simpa using e
   rcases hn with hn|hn
   ·omega
   ·rw[e2,hr] at hk
    cases hk
    exact hn _ _ _ _ rfl)).trans hk⟩
theorem Quiet.at {B:Nat}{W W' : World}{b:Nat}{t:TypeId}{cs:Array Value}(h:Quiet B W W')(ha:At W b t cs):At W' b t cs:=h.kept b _ ha (.inr fun _ _ _ _ e=>by cases e)
theorem Quiet.own {B:Nat}{W W' : World}{base n size:Nat}{e:TypeId}{v:Value}{xs:List Value}(h:Quiet B W W')(ho:W.ownsRow base e size v n xs):W'.ownsRow base e size v n xs:=by
 obtain⟨hl,hn|⟨g,cap,cur,rfl,hb,hc,hr⟩⟩:=ho
 ·exact⟨hl,.inl hn⟩
 ·exact⟨hl,.inr ⟨g,cap,cur,rfl,hb,h.kept g _ hc (.inr fun _ _ _ _ e=>by cases e),hr⟩⟩
theorem Quiet.under {B:Nat}{w W W' : World}(h:Quiet B W W')(hb:Below B w W)(hw:B<=w.heap.size):Below B w W' :=
 ⟨h.os.trans hb.os,h.tape.trans hb.tape,h.output.trans hb.output,Nat.le_trans hb.size h.size,fun k hk => by
   have h1:k<w.heap.size:=by omega
   have h2:=hb.block k hk
   rw[<- h2]
   have h3:W.heap[k]? = some (w.heap[k]'h1):=by rw[h2,Array.getElem?_eq_getElem h1]
   rw[h3]
   exact h.kept k _ h3 (.inl hk)⟩
def Gd (W W' : World):Prop:=∀ (k:Nat) (o:_root_.Go.Obj),W.heap[k]? = some o->((∃ a b c d,o=_root_.Go.Obj.mapIter a b c d)\/∃ e c,o=_root_.Go.Obj.map e c)->W'.heap[k]? = some o
theorem Gd.trans {A B C:World}(h:Gd A B)(k:Gd B C):Gd A C:=fun i o hi ho=>k i o (h i o hi ho) ho
theorem Gd.below {W W' : World}(h:Below W.heap.size W W'):Gd W W':=fun k o hk _=>(h.block k (Array.getElem?_eq_some_iff.1 hk).1).trans hk
def nN {β : Type}(d:Nat)(J : β -> World->Prop)(Jx:Code->World->Prop)(s' : β)(W:World):Exit->Act->World->Prop:=fun e _ W' =>
 (W'.heap[d]? = W.heap[d]? /\ W'.heap[d+1]? = W.heap[d+1]?)/\Gd W W' /\ (e=.normal/\J s' W' \/ ∃ c,(e=.ret/\c=.ret\/∃ i,e=.exit i/\c=.exit i)/\Jx c W')
def nO {β : Type}(J' : β -> World->Prop)(Jx' : World->Prop)(Done : β -> Prop)(e:Ending)(W' : World):Prop:=(∃ v,e=.returned v)/\((∃ s,Done s/\J' s W')\/Jx' W')
def IterM {α β : Type}(B:Nat)(F:Fence)(m:Nat)(P:Program)(gf:Nat)(args:Nat->Array Value)(encs : α -> Array Value)(J : β -> World->Prop)(Step : β -> α -> β -> Prop)(Done : β -> Prop)(s0 : β):Prop:=
 ∀ (l : Nat) (J' : β → World → Prop) (Jx' : World → Prop) (W : World),B ≤ W.heap.size → (∀ s W,J' s W → J s W) → (∀ s W W',J' s W → Quiet B W W' → J' s W') →
   (∀ s x s' W,J' s W->Step s x s' -> YieldAt F (m-1) P l (encs x) W (fun e W' => e=.returned (.bool true)/\J' s' W' /\ Gd W W' \/ e=.returned (.bool false)/\Jx' W'))->J' s0 W->
   CallsIn F m P gf (args l) W (nO J' Jx' Done)
theorem Gf {α β : Type}{P:Program}{n:Nat}{r:Option Nat}{g:Operand}{ps:Array Tmp}{assign body:Code}{Q:Exit->Act->World->Prop}{a:Act}{w:World}{gf:Nat}{pre lb:Array Value}
 (hro:r=none) (hg:a.eval g=.func (.func gf) pre lb) (eg:∀ args w,(callFunc gf args).run P w=.ok (.enter gf args) w) (encs : α -> Array Value) (hps:∀ x,(encs x).size=ps.size)
 (J : β -> World->Prop) (Jx:Code->World->Prop) (Step : β -> α -> β -> Prop) (Done : β -> Prop) (s0 : β)
 (B:Nat) (hB:B<=w.heap.size) (hJb:∀ s W W',J s W->Quiet B W W' -> J s W') (hJl:∀ s W W',J s W->Fr (fun k=>k=w.heap.size+1) W W' -> J s W') (SX:∀ c W W',Jx c W->Fr (fun k=>k=w.heap.size+1) W W' -> Jx c W')
 (h0:J s0 w)
 (hiter:IterM B (Lex.W r) (n-1) P gf (fun l=>pre++(#[.func (.yield l) #[] #[]]++lb)) encs J Step Done s0)
 (Jy : ∀ s x s' W,w.heap.size + 1 < W.heap.size → J s W → Step s x s' →
   assign.wpIn (Lex.W (some (w.heap.size+1))) (n-1-1) P (Exit.then (fun a₁ W₁ => W₁ = W/\∀ W₂,Fr (fun k=>k=w.heap.size+1) W W₂ -> 
    body.wpIn (Lex.W (some (w.heap.size+1))) (n-1-1) P (nN w.heap.size J Jx s' W₂) a₁ W₂) (fun _ _ _=>False)) { tmps:=(ps.zip (encs x)).foldl (fun t (p,v)=>t.setIfInBounds p v) a.tmps,defers:=[] } W)
 (hdone:∀ s W,Done s->J s W->W.heap[w.heap.size]? = some (.deferred (some []))->Q .normal { a with defers :={ target:=.collected w.heap.size,args:=#[] } :: a.defers } W)
 (hstop:∀ (c:Code) (W:World),Jx c W->W.heap[w.heap.size]? = some (.deferred (some []))->c.wpIn (Lex.W r) n P Q { a with defers :={ target:=.collected w.heap.size,args:=#[] } :: a.defers } W):
 (Code.rangeFunc g ps assign body).wpIn (Lex.W r) n P Q a w:=by
 refine wpIn_rangeFunc ?_
 intro fn hfn
 subst hro
 obtain⟨rec,hrec⟩:∃ rec:LoopState->Option Code->Loop,rec=fun st pe => { state:=st,pending:=pe,fn,tmps:=a.tmps,params:=ps,assign,body,defers:=w.heap.size } :=⟨_,rfl⟩
 obtain⟨W1,hW1⟩:∃ W1,(w.alloc (.deferred (some []))).alloc (.loop (rec .ready none))=W1:=⟨_,rfl⟩
 have hL1:W1.heap[w.heap.size+1]? = some (.loop (rec .ready none)):=by
  rw[<- hW1];have:=World.alloc_heap_new (w.alloc (.deferred (some []))) (.loop (rec .ready none));rwa [World.size_alloc] at this
 have hK1:W1.heap[w.heap.size]? = some (.deferred (some [])):=by
  rw[<- hW1];exact(Below.heap_alloc _ _ _ (by simp)).trans (World.alloc_heap_new w _)
 have hb1:Below w.heap.size w W1:=by
  rw[<- hW1];exact((Below.refl _ w).alloc (Nat.le_refl _) _).alloc (by simp) _
 refine⟨w.heap.size+1,[{ target:=.collected w.heap.size,args:=#[] }],W1,{ target:=.fn (.func gf) lb,args:=pre++#[.func (.yield (w.heap.size+1)) #[] #[]] },W1,gf,
  pre++(#[.func (.yield (w.heap.size+1)) #[] #[]]++lb),W1,?_,?_,fun _ _=>trivial,?_,fun h=>(by cases h),?_⟩
 ·rw[<- hW1,hrec];exact run_enterLoop_outer _ _ _ _ _
 ·simp only[resolve,hg]
  simp[go_sem]
 ·simp[invoke,go_sem,eg]
 ·refine (hiter (w.heap.size + 1) (fun s W' => J s W' ∧ W'.heap[w.heap.size + 1]? = some (.loop (rec .ready none)) ∧ W'.heap[w.heap.size]? = some (.deferred (some [])))
   (fun W' => ∃ c,Jx c W' /\ W'.heap[w.heap.size+1]? = some (.loop (rec .done (some c)))/\W'.heap[w.heap.size]? = some (.deferred (some []))) W1 (Nat.le_trans hB hb1.size)
   (fun s W h=>h.1)
   (fun s W W' h hb=>⟨hJb s W W' h.1 hb,hb.kept _ _ h.2.1 (.inr fun _ _ _ _ e=>by cases e),hb.kept _ _ h.2.2 (.inr fun _ _ _ _ e=>by cases e)⟩) ?_ ⟨hJb s0 w W1 h0 (Quiet.below hb1),hL1,hK1⟩).mono ?_
  ·rintro s x s' W ⟨hJ,hl,hd⟩ hst
   have hlt:w.heap.size+1<W.heap.size:=(Array.getElem?_eq_some_iff.1 hl).1
   have hy:=run_yield (P:=P) (args:=encs x) hl (by rw[hrec];exact hps x)
   rw[hrec] at hy
   refine⟨fn,_,assign,body,hy,roundIn_of_wpIn hfn (wpIn_mono (Jy s x s' W hlt hJ hst) ?_)⟩
   rintro e a₁ W₁ he
   cases e with
   | normal =>
     obtain⟨rfl,hbody⟩:=he
     refine⟨_,run_beginRound hl (by rw[hrec]),?_⟩
     have hl2:(W₁.putObj (w.heap.size+1) (.loop { rec .ready none with state:=.busy })).heap[w.heap.size+1]? = some (.loop { rec .ready none with state:=.busy }):=World.putObj_heap_same hlt
     have hd2:(W₁.putObj (w.heap.size+1) (.loop { rec .ready none with state:=.busy })).heap[w.heap.size]? = some (.deferred (some [])):=(World.putObj_heap_other (by omega)).trans hd
     have hm2:Gd W₁ (W₁.putObj (w.heap.size+1) (.loop { rec .ready none with state:=.busy })):=fun k o hk ho=>(World.putObj_heap_other (fun e=>by
      rw[e,hl] at hk
      cases hk
      rcases ho with ⟨_,_,_,_,ho⟩|⟨_,_,ho⟩<;>cases ho)).trans hk
     refine wpIn_mono (hbody _ (Du _ _ _)) ?_
     rintro e a3 W3 ⟨hk3,zcb,hres⟩
     have hl3:=hk3.2.trans hl2
     have hd3:=hk3.1.trans hd2
     have hm4:∀ o',Gd W3 (W3.putObj (w.heap.size+1) o'):=fun o' k o hk ho=>(World.putObj_heap_other (fun e=>by
      rw[e,hl3] at hk
      cases hk
      rcases ho with ⟨_,_,_,_,ho⟩|⟨_,_,ho⟩<;>cases ho)).trans hk
     rcases hres with ⟨rfl,hJ3⟩|⟨c,hc,hx⟩
     ·have hr:=run_endRound (P:=P) none hl3
      have hl4:=World.putObj_heap_same (o:=.loop (rec .ready none)) (Array.getElem?_eq_some_iff.1 hl3).1
      have hk4:(W3.putObj (w.heap.size+1) (.loop (rec .ready none))).heap[w.heap.size]? = some (.deferred (some [])):=(World.putObj_heap_other (by omega)).trans hd3
      have hf:=hJl s' _ _ hJ3 (Du W3 (w.heap.size+1) (.loop (rec .ready none)))
      have hmf:=hm2.trans (zcb.trans (hm4 (.loop (rec .ready none))))
      rw[hrec] at hr hl4 hk4 hf hmf
      refine⟨_,_,hr,.inl ⟨rfl,⟨hf,by rw[hrec];exact hl4,hk4⟩,hmf⟩⟩
     ·have hr:=run_endRound (P:=P) (some c) hl3
      have hl4:=World.putObj_heap_same (o:=.loop (rec .done (some c))) (Array.getElem?_eq_some_iff.1 hl3).1
      have hk4:(W3.putObj (w.heap.size+1) (.loop (rec .done (some c)))).heap[w.heap.size]? = some (.deferred (some [])):=(World.putObj_heap_other (by omega)).trans hd3
      have hf:=SX c _ _ hx (Du W3 (w.heap.size+1) (.loop (rec .done (some c))))
      rw[hrec] at hr hl4 hk4 hf
      rcases hc with ⟨rfl,rfl⟩|⟨i,rfl,rfl⟩
      ·exact⟨_,_,hr,.inr ⟨rfl,.ret,hf,by rw[hrec];exact hl4,hk4⟩⟩
      ·exact⟨_,_,hr,.inr ⟨rfl,.exit i,hf,by rw[hrec];exact hl4,hk4⟩⟩
   | ret=>exact he.elim
   | exit id=>exact he.elim
   | goto t=>exact he.elim
   | panic ch=>exact he.elim
   | outgrown=>exact he.elim
  ·rintro e W2 ⟨⟨v,rfl⟩,⟨s,hD,hJ,hl,hd⟩|⟨c,hi,hl,hd⟩⟩
   ·refine⟨none,_,by have:=run_endLoop (P:=P) hl (by rw[hrec];simp);rw[hrec] at this;exact this,hdone s _ hD (hJl s _ _ hJ (Du _ _ _)) ((World.putObj_heap_other (by omega)).trans hd)⟩
   ·refine⟨some c,_,by have:=run_endLoop (P:=P) hl (by rw[hrec];simp);rw[hrec] at this;exact this,hstop c _ (SX c _ _ hi (Du _ _ _)) ((World.putObj_heap_other (by omega)).trans hd)⟩
end
end Go.Proofs.YtdiiafgoccakkaaGreatDoor
namespace Go.Proofs
open Go.Shelf
def Tryz.lays190_ren:Go.Shelf.Ren:=⟨fun|190=>145|125=>193|258=>192|128=>217|129=>218|302=>208|303=>209|304=>210|305=>211|306=>212|307=>213|308=>214|309=>215|310=>216|333=>223|329=>224|330=>225|334=>226|335=>227|336=>228|344=>233|n=>n,fun|31=>23|9=>9|3=>3|46=>195|0=>0|51=>204|53=>230|4=>4|183=>273|182=>272|131=>168|5=>5|218=>281|222=>285|228=>294|229=>295|n=>n,fun|n=>n⟩
theorem Tryz.lays190:Go.Proofs.Lays.n190 Tryz.prog Tryz.lays190_ren :={
 mixed:=by kernel_rfl
 f125:=Tryz.func193.trans (congrArg some (by kernel_rfl))
 f128:=Tryz.func217.trans (congrArg some (by kernel_rfl))
 f129:=Tryz.func218.trans (congrArg some (by kernel_rfl))
 f190:=Tryz.func145.trans (congrArg some (by kernel_rfl))
 f258:=Tryz.func192.trans (congrArg some (by kernel_rfl))
 f302:=Tryz.func208.trans (congrArg some (by kernel_rfl))
 f303:=Tryz.func209.trans (congrArg some (by kernel_rfl))
 f304:=Tryz.func210.trans (congrArg some (by kernel_rfl))
 f305:=Tryz.func211.trans (congrArg some (by kernel_rfl))
 f306:=Tryz.func212.trans (congrArg some (by kernel_rfl))
 f307:=Tryz.func213.trans (congrArg some (by kernel_rfl))
 f308:=Tryz.func214.trans (congrArg some (by kernel_rfl))
 f309:=Tryz.func215.trans (congrArg some (by kernel_rfl))
 f310:=Tryz.func216.trans (congrArg some (by kernel_rfl))
 f329:=Tryz.func224.trans (congrArg some (by kernel_rfl))
 f330:=Tryz.func225.trans (congrArg some (by kernel_rfl))
 f333:=Tryz.func223.trans (congrArg some (by kernel_rfl))
 f334:=Tryz.func226.trans (congrArg some (by kernel_rfl))
 f335:=Tryz.func227.trans (congrArg some (by kernel_rfl))
 f336:=Tryz.func228.trans (congrArg some (by kernel_rfl))
 f344:=Tryz.func233.trans (congrArg some (by kernel_rfl))
 t0:=Tryz.underlying0
 a0:=Tryz.isAgg0
 z0:=Tryz.sizeOf0
 v0:=Tryz.zeroValue0
 t3:=Tryz.underlying3
 a3:=Tryz.isAgg3
 z3:=Tryz.sizeOf3
 v3:=Tryz.zeroValue3
 t4:=Tryz.underlying4
 a4:=Tryz.isAgg4
 z4:=Tryz.sizeOf4
 v4:=Tryz.zeroValue4
 t5:=Tryz.underlying5
 a5:=Tryz.isAgg5
 z5:=Tryz.sizeOf5
 v5:=Tryz.zeroValue5
 t9:=Tryz.underlying9
 a9:=Tryz.isAgg9
 z9:=Tryz.sizeOf9
 v9:=Tryz.zeroValue9
 t31:=Tryz.underlying23
 a31:=Tryz.isAgg23
 z31:=Tryz.sizeOf23
 v31:=Tryz.zeroValue23
 t46:=Tryz.underlying195
 a46:=Tryz.isAgg195
 z46:=Tryz.sizeOf195
 v46:=Tryz.zeroValue195
 t51:=Tryz.underlying204
 a51:=Tryz.isAgg204
 z51:=Tryz.sizeOf204
 v51:=Tryz.zeroValue204
 t53:=Tryz.underlying230
 a53:=Tryz.isAgg230
 z53:=Tryz.sizeOf230
 v53:=Tryz.zeroValue230
 t131:=Tryz.underlying168
 a131:=Tryz.isAgg168
 z131:=Tryz.sizeOf168
 v131:=Tryz.zeroValue168
 t182:=Tryz.underlying272
 a182:=Tryz.isAgg272
 z182:=Tryz.sizeOf272
 v182:=Tryz.zeroValue272
 t183:=Tryz.underlying273
 a183:=Tryz.isAgg273
 z183:=Tryz.sizeOf273
 v183:=Tryz.zeroValue273
 t218:=Tryz.underlying281
 a218:=Tryz.isAgg281
 z218:=Tryz.sizeOf281
 v218:=Tryz.zeroValue281
 t222:=Tryz.underlying285
 a222:=Tryz.isAgg285
 z222:=Tryz.sizeOf285
 v222:=Tryz.zeroValue285
 t228:=Tryz.underlying294
 a228:=Tryz.isAgg294
 z228:=Tryz.sizeOf294
 v228:=Tryz.zeroValue294
 t229:=Tryz.underlying295
 a229:=Tryz.isAgg295
 z229:=Tryz.sizeOf295
 v229:=Tryz.zeroValue295 }
open Go.Sort Go.RowKit in
theorem Tryz.slices_Sort_string (blk off cap:Nat)(ss:List (List UInt8))(w:World)(hH:Holds encStr w blk off ss.toArray)(hblk:blk<w.heap.size)(hsz:ss.length<4611686018427387904):
 Calls Tryz.prog 145 #[.slice (some ⟨blk,off,none⟩) ss.length cap] w fun e w' =>
  e=.returned (.tuple #[])/\∃ n os,w' = grow (putRow encStr (Sort.ahead w n) blk off (ss.mergeSort fun x y=>decide (x<=y)).toArray) os:=Any.slices_Sort_string Tryz.lays190 blk off cap ss w hH hblk hsz
open Go.RowKit Go.Sort in
theorem Tryz.slices_Sort_string_none (p:Option Addr)(cap:Nat)(w:World):
 Calls Tryz.prog 145 #[.slice p 0 cap] w fun e w' => e=.returned (.tuple #[])/\w' = w:=Any.slices_Sort_string_none Tryz.lays190 p cap w
end Go.Proofs
namespace Go.Proofs.YtdiiafgoccakkaaGreatDoor
section
open Go Go.RowKit Go.Maps
attribute [local go_sem] Oper.semAt_some
def LY (N:Nat)(f:ByteArray->Option Value)(s:List ByteArray)(k:ByteArray)(s' : List ByteArray):Prop:=(f k).isSome=true/\k ∉ s/\s.length<N/\s' = s++[k]
def RJ (f:ByteArray->Option Value)(s:List ByteArray):Prop:=∀ k,(f k).isSome=true↔k∈s
theorem Ei.iter {w:World}{b r n cnt:Nat}{f:ByteArray->Option Value}{done:List ByteArray}(h:Ei w b r n f done cnt):∃ a x y z,w.heap[r]? = some (.mapIter a x y z):=by
 obtain⟨D,left,h,_⟩:=h
 obtain⟨es,clock,since,seen,c0,hb,F,hs,hD,hr,_⟩:=h
 exact⟨_,_,_,_,hr⟩
theorem Ei.xA {w w' : World}{b r n cnt:Nat}{f:ByteArray->Option Value}{done:List ByteArray}(h:Ei w b r n f done cnt)(hm:Gd w w'):Ei w' b r n f done cnt:=by
 have h0:=h
 obtain⟨D,left,h,_⟩:=h
 obtain⟨es,clock,since,seen,c0,hb,F,hs,hD,hr,_⟩:=h
 exact h0.keep ((hm b _ hb (.inr ⟨_,_,rfl⟩)).trans hb.symm) ((hm r _ hr (.inl ⟨_,_,_,_,rfl⟩)).trans hr.symm)
theorem nP (B kb mp N n:Nat)(f:ByteArray->Option Value)(J:List ByteArray->World->Prop)(hJ:∀ s W,J s W->W.cell? ⟨kb,0,none⟩=some (.map (some mp))/\Hy W mp N f):
 IterM B (Lex.W none) n Tryz.prog 146 (fun l=>#[]++(#[.func (.yield l) #[] #[]]++#[.pointer (some ⟨kb,0,none⟩)])) (fun k:ByteArray=>#[.string k]) J (LY N f) (RJ f) []:=by
 intro l J' Jx' W hB hJJ hJb hY h0
 have hrr:(Lex.W none).round=none:=rfl
 refine callsIn_of_wp Tryz.func146 rfl trivial ?_ rfl
 simp only[Tryz.ntmps146,List.size_toArray,List.length_cons,List.length_nil,Nat.reduceAdd,Nat.reduceSub,Array.replicate_succ,Array.replicate_zero,List.push_toArray,List.append_toArray,List.nil_append,List.cons_append]
 obtain⟨hc,hm⟩:=hJ _ _ (hJJ _ _ h0)
 have HM:=zh hm;have H0:=zh h0;have HJb:=zh hJb;have HY:=zh hY
 clear hJJ hJ hJb hY hm h0
 obtain⟨w1,cnt,hrun,hrg,hcn,hg1,hs1⟩:=HM.out.WX Tryz.underlying81
 have hq:Quiet B W w1:=Quiet.below ⟨hg1.os,hg1.tape,hg1.output,hg1.size,fun k hk=>hg1.block k hk (by simp)⟩
 have H1:=zh (HJb.out _ _ _ H0.out hq);have HR:=zh hrg;clear hq hrg hg1 hs1
 gi_wp2
 obtain⟨r,hr⟩:∃ r,r=W.heap.size:=⟨_,rfl⟩
 rw[<- hr] at HR hB ⊢
 clear hr
 gi_loopw [] (fun wr=>∃ done cn,J' done wr/\Ei wr mp r N f done cn/\done.length+cn<=N) (fun wr=>wr.rangeLeft mp r)
 case atStart=>exact⟨[],cnt,H1.out,HR.out,by simpa using hcn⟩
 case round=>
  obtain⟨done,cn,hj,hsr,hcd⟩:=hrel
  have HJ1:=zh hj;have HSR:=zh hsr;clear hj hsr H1 HR
  rcases HSR.out.aQ with ⟨hall,hnx⟩|⟨k,v,w3,cn',hks,hfk,hkd,hrg3,hlt,hg3,hs3,hen,hnx⟩
  ·have jk:=zh hall;clear hall
   gi_wp2
   refine bodyPost_end (results_none rfl _ _ _) rfl ⟨⟨_,rfl⟩,.inl ⟨done,jk.out,HJ1.out⟩⟩
  ·obtain⟨ia,ib,ic,id_,hit⟩:=HSR.out.iter
   have hj3:=HJb.out _ _ _ HJ1.out (Quiet.grown hg3 hit hB)
   have hst:LY N f done k (done++[k]):=⟨by rw[hfk];rfl,hkd,by omega,rfl⟩
   obtain⟨fn,tmps,assign,body,hy,hR⟩:=HY.out done k (done++[k]) w3 hj3 hst
   have yG:=zh hrg3;clear hit hg3 hs3 hj3 hst hfk hkd hrg3
   gi_wp2
   refine⟨fun h=>(by cases h),hR.mono ?_⟩
   rintro e W3 (⟨rfl,hJ3,hk3⟩|⟨rfl,hJx3⟩)
   ·have HJ3:=zh hJ3;have HS3:=zh (yG.out.xA hk3);clear hJ3 hk3
    gi_wp2
    go_roundw
    case rel=>exact⟨done++[k],cn',HJ3.out,HS3.out,by rw[List.length_append,List.length_singleton];omega⟩
    case measure=>rw[HS3.out.left_eq,HSR.out.left_eq];omega
   ·gi_wp2
    refine bodyPost_ret (results_none rfl _ _ _) rfl ?_
    exact⟨⟨_,rfl⟩,.inr hJx3⟩
theorem jl (B kb mp N n:Nat)(f:ByteArray->Option Value)(J:List ByteArray->World->Prop)(hJ:∀ s W,J s W->W.cell? ⟨kb,0,none⟩=some (.map (some mp))/\Hy W mp N f):
 IterM B (Lex.W none) n Tryz.prog 147 (fun l=>#[]++(#[.func (.yield l) #[] #[]]++#[.pointer (some ⟨kb,0,none⟩)])) (fun k:ByteArray=>#[.string k]) J (LY N f) (RJ f) []:=by
 intro l J' Jx' W hB hJJ hJb hY h0
 have hrr:(Lex.W none).round=none:=rfl
 refine callsIn_of_wp Tryz.func147 rfl trivial ?_ rfl
 simp only[Tryz.ntmps147,List.size_toArray,List.length_cons,List.length_nil,Nat.reduceAdd,Nat.reduceSub,Array.replicate_succ,Array.replicate_zero,List.push_toArray,List.append_toArray,List.nil_append,List.cons_append]
 obtain⟨hc,hm⟩:=hJ _ _ (hJJ _ _ h0)
 have HM:=zh hm;have H0:=zh h0;have HJb:=zh hJb;have HY:=zh hY
 clear hJJ hJ hJb hY hm h0
 obtain⟨w1,cnt,hrun,hrg,hcn,hg1,hs1⟩:=HM.out.WX Tryz.underlying82
 have hq:Quiet B W w1:=Quiet.below ⟨hg1.os,hg1.tape,hg1.output,hg1.size,fun k hk=>hg1.block k hk (by simp)⟩
 have H1:=zh (HJb.out _ _ _ H0.out hq);have HR:=zh hrg;clear hq hrg hg1 hs1
 gi_wp2
 obtain⟨r,hr⟩:∃ r,r=W.heap.size:=⟨_,rfl⟩
 rw[<- hr] at HR hB ⊢
 clear hr
 gi_loopw [] (fun wr=>∃ done cn,J' done wr/\Ei wr mp r N f done cn/\done.length+cn<=N) (fun wr=>wr.rangeLeft mp r)
 case atStart=>exact⟨[],cnt,H1.out,HR.out,by simpa using hcn⟩
 case round=>
  obtain⟨done,cn,hj,hsr,hcd⟩:=hrel
  have HJ1:=zh hj;have HSR:=zh hsr;clear hj hsr H1 HR
  rcases HSR.out.aQ with ⟨hall,hnx⟩|⟨k,v,w3,cn',hks,hfk,hkd,hrg3,hlt,hg3,hs3,hen,hnx⟩
  ·have jk:=zh hall;clear hall
   gi_wp2
   refine bodyPost_end (results_none rfl _ _ _) rfl ⟨⟨_,rfl⟩,.inl ⟨done,jk.out,HJ1.out⟩⟩
  ·obtain⟨ia,ib,ic,id_,hit⟩:=HSR.out.iter
   have hj3:=HJb.out _ _ _ HJ1.out (Quiet.grown hg3 hit hB)
   have hst:LY N f done k (done++[k]):=⟨by rw[hfk];rfl,hkd,by omega,rfl⟩
   obtain⟨fn,tmps,assign,body,hy,hR⟩:=HY.out done k (done++[k]) w3 hj3 hst
   have yG:=zh hrg3;clear hit hg3 hs3 hj3 hst hfk hkd hrg3
   gi_wp2
   refine⟨fun h=>(by cases h),hR.mono ?_⟩
   rintro e W3 (⟨rfl,hJ3,hk3⟩|⟨rfl,hJx3⟩)
   ·have HJ3:=zh hJ3;have HS3:=zh (yG.out.xA hk3);clear hJ3 hk3
    gi_wp2
    go_roundw
    case rel=>exact⟨done++[k],cn',HJ3.out,HS3.out,by rw[List.length_append,List.length_singleton];omega⟩
    case measure=>rw[HS3.out.left_eq,HSR.out.left_eq];omega
   ·gi_wp2
    refine bodyPost_ret (results_none rfl _ _ _) rfl ?_
    exact⟨⟨_,rfl⟩,.inr hJx3⟩
end
section
open Go Go.RowKit Go.Maps
section
variable {w:World} {ops:Array Oper} {rest:List Oper} {o:Oper} {a:Act} {Q:Exit->Act->World->Prop}
theorem Rf (hgd:o.guard=none)(s x:Operand)(ho:o.op=.call { callee:=.builtin .append,args:=#[s,x],argTypes:=#[23,23] })
 (base n:Nat) (v:Value) (xs:List Value) (hs:a.eval s=v) (hown:w.ownsRow base 9 1 v n xs) (g c:Nat) (y:ByteArray) (hx:a.eval x=.slice (some ⟨g,0,none⟩) 1 c) (hy:w.cell? ⟨g,0,none⟩=some (.string y)) (hn:n+1<=4000000) (hb:base<=w.heap.size)
 (h:∀ v' w',w'.ownsRow base 9 1 v' (n+1) (xs++[.string y])->w.grownBy w' v.ownBlock->(v'.ownBlock=v.ownBlock\/v'.ownBlock=some w.heap.size)->wpList Tryz.prog ops Q rest (a.put o.dst v') w'):wpList Tryz.prog ops Q (o::rest) a w:=by
 obtain⟨i1,hi,hz0,hz1,hz2⟩:=info_parts Dz
 refine wpList_append_own_at w hgd s x 23 ho base 9 i1 (.string ⟨#[]⟩) 1 16 Tryz.underlying23 hi hz0 hz1 hz2 rfl (by omega) v n xs hs hown ⟨g,0,none⟩ 1 c [.string y] hx rfl (fun j u hj=>?_) (fun u hu=>by simp at hu;subst hu;rfl) (by unfold maxLen;omega) (by omega) hb (fun v' w' h1 h2 _ h4=>h v' w' h1 h2 h4)
 match j,hj with
 | 0,hj=>simp at hj;subst hj;simpa [Addr.add] using hy
theorem OM (hgd:o.guard=none)(s x:Operand)(ho:o.op=.call { callee:=.builtin .append,args:=#[s,x],argTypes:=#[23,23] })
 (base n:Nat) (v:Value) (xs:List Value) (hs:a.eval s=v) (hown:w.ownsRow base 9 1 v n xs) (y:Value) (ys:List ByteArray) (hx:a.eval x=y) (hy:Am w y ys) (hn:n+ys.length<=4000000) (hb:base<=w.heap.size)
 (h:∀ v' w',w'.ownsRow base 9 1 v' (n+ys.length) (xs++ys.map Value.string)->w.grownBy w' v.ownBlock->(v'.ownBlock=v.ownBlock\/v'.ownBlock=some w.heap.size)->wpList Tryz.prog ops Q rest (a.put o.dst v') w'):wpList Tryz.prog ops Q (o::rest) a w:=by
 obtain⟨i1,hi,hz0,hz1,hz2⟩:=info_parts Dz
 obtain⟨ya,yc,rfl,hc⟩:=hy
 cases ya with
 | none =>
   have h0:ys.length=0:=by
    rcases hc with h0|⟨b,o,e,_⟩
    ·exact h0
    ·cases e
   have hys:ys=[]:=List.eq_nil_of_length_eq_zero h0
   subst hys
   refine wpList_plain hgd fun K hK=>?_
   have hrun:=JR (P:=Tryz.prog) (w:=w) base 23 o.type 9 i1 1 Tryz.underlying23 hi v n yc xs hown
   unfold Oper.wp
   have hx' : a.eval x=.slice none 0 yc:=hx
   simp[execOp,ho,resolve,invoke,builtin,hs,hx',hrun,Result.andThen]
   exact hK _ _ (h v w (by simpa using hown) ⟨rfl,rfl,rfl,Nat.le_refl _,fun _ _ _=>rfl⟩ (.inl rfl))
 | some p =>
   refine wpList_append_own_at w hgd s x 23 ho base 9 i1 (.string ⟨#[]⟩) 1 16 Tryz.underlying23 hi hz0 hz1 hz2 rfl (by omega) v n xs hs hown p ys.length yc (ys.map Value.string) hx (by simp) (fun j u hj=>?_) (fun u hu=>by obtain⟨z,_,rfl⟩:=List.mem_map.1 hu;rfl) (by unfold maxLen;omega) (by omega) hb (fun v' w' h1 h2 _ h4=>h v' w' h1 h2 h4)
   have hjl:j<ys.length:=by
    have:=(List.getElem?_eq_some_iff.1 hj).1
    simpa using this
   rcases hc with h0|⟨b,o',e,hcell⟩
   ·omega
   ·cases e
    have hadd:(⟨b,o',none⟩:Addr).add j=⟨b,o' + j,none⟩:=by unfold Addr.add;split<;>simp_all
    rw[hadd,hcell j hjl]
    simp[List.getElem?_map,hjl] at hj
    rw[<- hj]
    simp[List.getD_eq_getElem?_getD,hjl]
end
end
section
open Go Go.RowKit Go.Maps
theorem sI (r:Option Nat):(Lex.W r).round=r:=rfl
attribute [local go_sem] Oper.semAt_some sI
structure Rq (w:World) (b:Nat) (done:List ByteArray) (W:World):Prop where
 box:∃ v,At W b 23 #[v]/\W.ownsRow (b+3) 9 1 v done.length (done.map Value.string)
 bel:Below w.heap.size w W
 lt:b+2<W.heap.size\/done=[]
 nd:done.Nodup
theorem Rq.quiet {w W W' : World}{b:Nat}{done:List ByteArray}(h:Rq w b done W)(hq:Quiet w.heap.size W W'):Rq w b done W':=by
 obtain⟨v,h1,h2⟩:=h.box
 exact⟨⟨v,hq.at h1,hq.own h2⟩,hq.under h.bel (Nat.le_refl _),h.lt.imp (fun h=>Nat.lt_of_lt_of_le h hq.size) id,h.nd⟩
theorem Rq.fr {w W W' : World}{b:Nat}{done:List ByteArray}(h:Rq w b done W)(hb:b=w.heap.size)(hf:Fr (fun k=>k=b+2) W W'):Rq w b done W':=by
 obtain⟨v,h1,h2⟩:=h.box
 refine⟨⟨v,hf.at h1 (by show b≠b+2;omega),Ar h2 (fun k hk=>hf.keep k (by obtain⟨cur,hc⟩:=Ao h2 hk;exact hc.lt) (fun e=>by have:=Az h2 k hk;have e2:k=b+2:=e;omega))⟩,h.bel.trans (hf.below h.bel.size (fun k hk=>by have e2:k=b+2:=hk;omega)),h.lt.imp (fun h=>Nat.lt_of_lt_of_le h hf.size) id,h.nd⟩
theorem Rh {W W' : World}{base n size:Nat}{e:TypeId}{v:Value}{xs:List Value}(hg:W.grownBy W' v.ownBlock)(ho:W.ownsRow base e size v n xs):Gd W W':=fun k o hk hm=>(hg.block k (Array.getElem?_eq_some_iff.1 hk).1 (fun e=>by
 obtain⟨cur,hc⟩:=Ao ho e.symm
 unfold At at hc
 rw[hc] at hk
 cases hk
 rcases hm with ⟨_,_,_,_,hm⟩|⟨_,_,hm⟩<;>cases hm)).trans hk
theorem UQ {W:World}{b i:Nat}{t:TypeId}{cs:Array Value}(h:At W b t cs)(u:Value):Gd W (W.setCell ⟨b,i,none⟩ u):=fun k o hk hm=>(zo (fun e=>by
 have e2:k=b:=e
 unfold At at h
 rw[e2,h] at hk
 cases hk
 rcases hm with ⟨_,_,_,_,hm⟩|⟨_,_,hm⟩<;>cases hm)).trans hk
theorem jm (kb mp N:Nat)(f:ByteArray->Option Value)(w:World)(hk:w.cell? ⟨kb,0,none⟩=some (.map (some mp)))(hm:Hy w mp N f)(hN:N<=1000000):
 Calls Tryz.prog 191 #[.slice none 0 0,.func (.func 146) #[] #[.pointer (some ⟨kb,0,none⟩)]] w fun e w' => ∃ (v:Value) (l:List ByteArray),e=.returned v/\w'.ownsRow w.heap.size 9 1 v l.length (l.map Value.string)/\l.Nodup/\(∀ k,(f k).isSome=true↔k∈l)/\Below w.heap.size w w':=by
 refine(callsIn_wide (n:=9)).1 ?_
 have hrr:Fence.wide.round=none:=rfl
 have HK:=zh hk;have HM:=zh hm;clear hk hm
 refine callsIn_of_wp_marks Tryz.func191 rfl trivial ?_ rfl
 simp only[Tryz.ntmps191,List.size_toArray,List.length_cons,List.length_nil,Nat.reduceAdd,Nat.reduceSub,Array.replicate_succ,Array.replicate_zero,List.push_toArray,List.append_toArray,List.nil_append,List.cons_append]
 gi_wp2
 obtain⟨b,hb⟩:∃ b,b=w.heap.size:=⟨_,rfl⟩
 have h7:Rq w b [] (w.alloc (.cells #[.slice none 0 0] 23)):=by
  rw[hb]
  exact⟨⟨_,At.new _ _ _,⟨rfl,.inl ⟨rfl,rfl⟩⟩⟩,zb,.inr rfl,List.nodup_nil⟩
 have hs7:(w.alloc (.cells #[.slice none 0 0] 23)).heap.size=b+1:=by rw[World.size_alloc,hb]
 have H7:=zh h7;have HS7:=zh hs7;have HBB:=zh hb;clear h7 hs7
 rw[<- hb]
 clear hb
 generalize w.alloc (.cells #[.slice none 0 0] 23)=w7 at*
 have hs7:=HS7.out
 refine Gf (r:=none) rfl rfl (enters_of Tryz.func146 (by kernel_rfl) rfl) (fun k:ByteArray=>#[.string k]) (fun _=>rfl)
  (Rq w b) (fun _ _=>False) (LY N f) (RJ f) [] w.heap.size (by rw[hs7,HBB.out];omega) ?hJb ?hJl ?SX ?h0 ?hiter ?Jy ?hdone ?hstop
 case hJb=>exact fun s W W' h hq=>h.quiet hq
 case hJl=>
  intro s W W' h hf
  rw[hs7] at hf
  exact h.fr HBB.out hf
 case SX=>exact fun c W W' h _=>h
 case h0=>exact H7.out
 case hiter=>
  refine nP _ kb mp N _ f _ ?_
  rintro s W h
  exact⟨(h.bel.cell (p:=⟨kb,0,none⟩) (block_lt HK.out)).trans HK.out,HM.out.below h.bel HM.out.lt⟩
 case Jy=>
  rintro s x s' W hsz hW ⟨hq1,hq2,hq3,rfl⟩
  have HW:=zh hW;have HQ2:=zh hq2;clear hW hq1 hq2
  rw[hs7] at hsz
  gi_wp2
  refine⟨trivial,?_⟩
  intro W2 hf
  rw[hs7] at hf
  have hsz2:=hf.size
  have hW2:=HW.out.fr HBB.out hf
  obtain⟨v,hat,hown⟩:=hW2.box
  obtain⟨va,vm,vc,rfl⟩:=Ah hown
  have c0:=hat.c1
  have HW2:=zh hW2;have HAT:=zh hat;have HOWN:=zh hown;clear hat hown hW2
  obtain⟨i0,hi,hz0,hz1,hz2⟩:=info_parts Dz
  gi_step
  refine wpIn_block ?_
  refine Lex.CB (by kernel_rfl) ?_
  go_wp2_with (at_builtin;go_must (refine wpList_append_own_at _ rfl _ _ 23 rfl (b+3) 9 i0 _ 1 16 Tryz.underlying23 hi hz0 hz1 hz2 rfl (by omega) (.slice va vm vc) s.length (s.map Value.string) rfl (HOWN.out.alloc _) ⟨W2.heap.size,0,none⟩ 1 1 [.string x] rfl rfl ?c1 ?c2 ?c3 ?c4 ?c5 ?_))
  case c1=>
   intro j u hj
   match j,hj with
   | 0,hj=>simp at hj;subst hj;simp[Addr.add]
  case c2=>intro u hu;simp at hu;subst hu;rfl
  case c3=>unfold maxLen;omega
  case c4=>omega
  case c5=>simp;omega
  intro v' w' how' hg _ hb'
  obtain⟨ua,um,uc,rfl⟩:=Ah how'
  have hne:some b≠(Value.slice va vm vc).ownBlock:=fun e=>by have:=Az HOWN.out b e.symm;omega
  have hat' : At w' b 23 #[.slice va vm vc]:=(HAT.out.alloc (.cells #[.string x] 9)).grown hg hne
  have q0:=hat'.free 0
  have k0:=hat'.c1
  have hb3:Below W2.heap.size W2 (W2.alloc (.cells #[.string x] 9)):=zb
  have hm3:Gd W2 (w'.setCell ⟨b,0,none⟩ (.slice ua um uc)):=(Gd.below hb3).trans ((Rh hg (HOWN.out.alloc (.cells #[.string x] 9))).trans (UQ hat' _))
  have hown' : (w'.setCell ⟨b,0,none⟩ (.slice ua um uc)).ownsRow (b+3) 9 1 (.slice ua um uc) (s++[x]).length ((s++[x]).map Value.string):=by
   rw[List.length_append,List.length_singleton,List.map_append]
   exact Ar how' (fun k hk=>zo (by have:=Az how' k hk;show k≠b;omega))
  have hbel:Below w.heap.size w (w'.setCell ⟨b,0,none⟩ (.slice ua um uc)):=by
   have h1:=HW2.out.bel.trans (hb3.mono HW2.out.bel.size)
   have h2:Below w.heap.size w w':=h1.grown hg h1.size (fun i hi=>by have:=Az HOWN.out i hi;have:=HBB.out;omega)
   exact h2.setCell (p:=⟨b,0,none⟩) (by show w.heap.size<=b;have:=HBB.out;omega) _
  have Py:b+2<(w'.setCell ⟨b,0,none⟩ (.slice ua um uc)).heap.size:=by
   have:=hg.size
   simp only[World.size_alloc] at this
   simp only[World.setCell,Array.size_modify]
   omega
  have hkeep:∀ k,k=b+1\/k=b+2->(w'.setCell ⟨b,0,none⟩ (.slice ua um uc)).heap[k]? = W2.heap[k]? :=by
   intro k hk
   rw[zo (by show k≠b;omega),hg.block k (by simp only[World.size_alloc];omega) (fun e=>by have:=Az HOWN.out k e.symm;omega),hb3.block k (by omega)]
  have HG:=zh (Rq.mk (w:=w) (b:=b) (done:=s++[x]) ⟨_,hat'.set 0 _,hown'⟩ hbel (.inl Py) (Store.Xe HW.out.nd HQ2.out))
  have HM3:=zh hm3;have HKP:=zh hkeep
  clear hm3 hown' hbel Py hkeep hb3 how' hg hb' hat' hne
  go_wp2
  refine Lex.Only.intro ?_
  gi_wp2
  rw[hs7]
  exact⟨⟨HKP.out _ (.inl rfl),HKP.out _ (.inr rfl)⟩,HM3.out,.inl ⟨rfl,HG.out⟩⟩
 case hdone=>
  intro s W hD hJ hdf
  obtain⟨v,hat,hown⟩:=hJ.box
  obtain⟨va,vm,vc,rfl⟩:=Ah hown
  have k0:=hat.c1
  have HJ:=zh hJ;have HDF:=zh hdf;have HD:=zh hD;have HOWN:=zh hown;clear hJ hdf hD hat hown
  gi_wp2
  simp only[hs7] at HDF ⊢
  refine⟨by simp,.inl ⟨_,_,rfl,run_takeDeferred HDF.out,?_⟩⟩
  refine⟨.slice va vm vc,(results_tmp (fn:=Tryz.f191) (t:=4) rfl _ _ _).trans rfl,?_⟩
  refine⟨.slice va vm vc,s,rfl,Ou (Ar HOWN.out (fun k hk=>World.putObj_heap_other (by have:=Az HOWN.out k hk;omega))) (by have:=HBB.out;omega),HJ.out.nd,HD.out,HJ.out.bel.trans ⟨rfl,rfl,rfl,by simp[World.putObj],fun k hk=>World.putObj_heap_other (by have:=HBB.out;omega)⟩⟩
 case hstop=>exact fun c W h=>h.elim
theorem bJ (kb mp N:Nat)(f:ByteArray->Option Value)(w:World)(hk:w.cell? ⟨kb,0,none⟩=some (.map (some mp)))(hm:Hy w mp N f)(hN:N<=1000000):
 Calls Tryz.prog 191 #[.slice none 0 0,.func (.func 147) #[] #[.pointer (some ⟨kb,0,none⟩)]] w fun e w' => ∃ (v:Value) (l:List ByteArray),e=.returned v/\w'.ownsRow w.heap.size 9 1 v l.length (l.map Value.string)/\l.Nodup/\(∀ k,(f k).isSome=true↔k∈l)/\Below w.heap.size w w':=by
 refine(callsIn_wide (n:=9)).1 ?_
 have hrr:Fence.wide.round=none:=rfl
 have HK:=zh hk;have HM:=zh hm;clear hk hm
 refine callsIn_of_wp_marks Tryz.func191 rfl trivial ?_ rfl
 simp only[Tryz.ntmps191,List.size_toArray,List.length_cons,List.length_nil,Nat.reduceAdd,Nat.reduceSub,Array.replicate_succ,Array.replicate_zero,List.push_toArray,List.append_toArray,List.nil_append,List.cons_append]
 gi_wp2
 obtain⟨b,hb⟩:∃ b,b=w.heap.size:=⟨_,rfl⟩
 have h7:Rq w b [] (w.alloc (.cells #[.slice none 0 0] 23)):=by
  rw[hb]
  exact⟨⟨_,At.new _ _ _,⟨rfl,.inl ⟨rfl,rfl⟩⟩⟩,zb,.inr rfl,List.nodup_nil⟩
 have hs7:(w.alloc (.cells #[.slice none 0 0] 23)).heap.size=b+1:=by rw[World.size_alloc,hb]
 have H7:=zh h7;have HS7:=zh hs7;have HBB:=zh hb;clear h7 hs7
 rw[<- hb]
 clear hb
 generalize w.alloc (.cells #[.slice none 0 0] 23)=w7 at*
 have hs7:=HS7.out
 refine Gf (r:=none) rfl rfl (enters_of Tryz.func147 (by kernel_rfl) rfl) (fun k:ByteArray=>#[.string k]) (fun _=>rfl)
  (Rq w b) (fun _ _=>False) (LY N f) (RJ f) [] w.heap.size (by rw[hs7,HBB.out];omega) ?hJb ?hJl ?SX ?h0 ?hiter ?Jy ?hdone ?hstop
 case hJb=>exact fun s W W' h hq=>h.quiet hq
 case hJl=>
  intro s W W' h hf
  rw[hs7] at hf
  exact h.fr HBB.out hf
 case SX=>exact fun c W W' h _=>h
 case h0=>exact H7.out
 case hiter=>
  refine jl _ kb mp N _ f _ ?_
  rintro s W h
  exact⟨(h.bel.cell (p:=⟨kb,0,none⟩) (block_lt HK.out)).trans HK.out,HM.out.below h.bel HM.out.lt⟩
 case Jy=>
  rintro s x s' W hsz hW ⟨hq1,hq2,hq3,rfl⟩
  have HW:=zh hW;have HQ2:=zh hq2;clear hW hq1 hq2
  rw[hs7] at hsz
  gi_wp2
  refine⟨trivial,?_⟩
  intro W2 hf
  rw[hs7] at hf
  have hsz2:=hf.size
  have hW2:=HW.out.fr HBB.out hf
  obtain⟨v,hat,hown⟩:=hW2.box
  obtain⟨va,vm,vc,rfl⟩:=Ah hown
  have c0:=hat.c1
  have HW2:=zh hW2;have HAT:=zh hat;have HOWN:=zh hown;clear hat hown hW2
  obtain⟨i0,hi,hz0,hz1,hz2⟩:=info_parts Dz
  gi_step
  refine wpIn_block ?_
  refine Lex.CB (by kernel_rfl) ?_
  go_wp2_with (at_builtin;go_must (refine wpList_append_own_at _ rfl _ _ 23 rfl (b+3) 9 i0 _ 1 16 Tryz.underlying23 hi hz0 hz1 hz2 rfl (by omega) (.slice va vm vc) s.length (s.map Value.string) rfl (HOWN.out.alloc _) ⟨W2.heap.size,0,none⟩ 1 1 [.string x] rfl rfl ?c1 ?c2 ?c3 ?c4 ?c5 ?_))
  case c1=>
   intro j u hj
   match j,hj with
   | 0,hj=>simp at hj;subst hj;simp[Addr.add]
  case c2=>intro u hu;simp at hu;subst hu;rfl
  case c3=>unfold maxLen;omega
  case c4=>omega
  case c5=>simp;omega
  intro v' w' how' hg _ hb'
  obtain⟨ua,um,uc,rfl⟩:=Ah how'
  have hne:some b≠(Value.slice va vm vc).ownBlock:=fun e=>by have:=Az HOWN.out b e.symm;omega
  have hat' : At w' b 23 #[.slice va vm vc]:=(HAT.out.alloc (.cells #[.string x] 9)).grown hg hne
  have q0:=hat'.free 0
  have k0:=hat'.c1
  have hb3:Below W2.heap.size W2 (W2.alloc (.cells #[.string x] 9)):=zb
  have hm3:Gd W2 (w'.setCell ⟨b,0,none⟩ (.slice ua um uc)):=(Gd.below hb3).trans ((Rh hg (HOWN.out.alloc (.cells #[.string x] 9))).trans (UQ hat' _))
  have hown' : (w'.setCell ⟨b,0,none⟩ (.slice ua um uc)).ownsRow (b+3) 9 1 (.slice ua um uc) (s++[x]).length ((s++[x]).map Value.string):=by
   rw[List.length_append,List.length_singleton,List.map_append]
   exact Ar how' (fun k hk=>zo (by have:=Az how' k hk;show k≠b;omega))
  have hbel:Below w.heap.size w (w'.setCell ⟨b,0,none⟩ (.slice ua um uc)):=by
   have h1:=HW2.out.bel.trans (hb3.mono HW2.out.bel.size)
   have h2:Below w.heap.size w w':=h1.grown hg h1.size (fun i hi=>by have:=Az HOWN.out i hi;have:=HBB.out;omega)
   exact h2.setCell (p:=⟨b,0,none⟩) (by show w.heap.size<=b;have:=HBB.out;omega) _
  have Py:b+2<(w'.setCell ⟨b,0,none⟩ (.slice ua um uc)).heap.size:=by
   have:=hg.size
   simp only[World.size_alloc] at this
   simp only[World.setCell,Array.size_modify]
   omega
  have hkeep:∀ k,k=b+1\/k=b+2->(w'.setCell ⟨b,0,none⟩ (.slice ua um uc)).heap[k]? = W2.heap[k]? :=by
   intro k hk
   rw[zo (by show k≠b;omega),hg.block k (by simp only[World.size_alloc];omega) (fun e=>by have:=Az HOWN.out k e.symm;omega),hb3.block k (by omega)]
  have HG:=zh (Rq.mk (w:=w) (b:=b) (done:=s++[x]) ⟨_,hat'.set 0 _,hown'⟩ hbel (.inl Py) (Store.Xe HW.out.nd HQ2.out))
  have HM3:=zh hm3;have HKP:=zh hkeep
  clear hm3 hown' hbel Py hkeep hb3 how' hg hb' hat' hne
  go_wp2
  refine Lex.Only.intro ?_
  gi_wp2
  rw[hs7]
  exact⟨⟨HKP.out _ (.inl rfl),HKP.out _ (.inr rfl)⟩,HM3.out,.inl ⟨rfl,HG.out⟩⟩
 case hdone=>
  intro s W hD hJ hdf
  obtain⟨v,hat,hown⟩:=hJ.box
  obtain⟨va,vm,vc,rfl⟩:=Ah hown
  have k0:=hat.c1
  have HJ:=zh hJ;have HDF:=zh hdf;have HD:=zh hD;have HOWN:=zh hown;clear hJ hdf hD hat hown
  gi_wp2
  simp only[hs7] at HDF ⊢
  refine⟨by simp,.inl ⟨_,_,rfl,run_takeDeferred HDF.out,?_⟩⟩
  refine⟨.slice va vm vc,(results_tmp (fn:=Tryz.f191) (t:=4) rfl _ _ _).trans rfl,?_⟩
  refine⟨.slice va vm vc,s,rfl,Ou (Ar HOWN.out (fun k hk=>World.putObj_heap_other (by have:=Az HOWN.out k hk;omega))) (by have:=HBB.out;omega),HJ.out.nd,HD.out,HJ.out.bel.trans ⟨rfl,rfl,rfl,by simp[World.putObj],fun k hk=>World.putObj_heap_other (by have:=HBB.out;omega)⟩⟩
 case hstop=>exact fun c W h=>h.elim
theorem bK (kb mp N:Nat)(f:ByteArray->Option Value)(w:World)(hk:w.cell? ⟨kb,0,none⟩=some (.map (some mp)))(hm:Hy w mp N f)(hN:N<=1000000):
 Calls Tryz.prog 144 #[.func (.func 146) #[] #[.pointer (some ⟨kb,0,none⟩)]] w fun e w' => ∃ (v:Value) (l:List ByteArray),e=.returned v/\w'.ownsRow w.heap.size 9 1 v l.length (l.map Value.string)/\l.Nodup/\(∀ k,(f k).isSome=true↔k∈l)/\Below w.heap.size w w':=by
 have HK:=zh hk;have HM:=zh hm;clear hk hm
 go_enter Tryz.func144,Tryz.ntmps144
 go_wp2_with fail
 refine(jm kb mp N f _ HK.out HM.out hN).mono ?_
 rintro e w2 ⟨v,l,rfl,h1,h2,h3,h4⟩
 have H1:=zh h1;have H2:=zh h2;have H3:=zh h3;have H4:=zh h4;clear h1 h2 h3 h4
 go_wp2
 go_ret
 exact⟨v,l,rfl,H1.out,H2.out,H3.out,H4.out⟩
theorem YF (kb mp N:Nat)(f:ByteArray->Option Value)(w:World)(hk:w.cell? ⟨kb,0,none⟩=some (.map (some mp)))(hm:Hy w mp N f)(hN:N<=1000000):
 Calls Tryz.prog 144 #[.func (.func 147) #[] #[.pointer (some ⟨kb,0,none⟩)]] w fun e w' => ∃ (v:Value) (l:List ByteArray),e=.returned v/\w'.ownsRow w.heap.size 9 1 v l.length (l.map Value.string)/\l.Nodup/\(∀ k,(f k).isSome=true↔k∈l)/\Below w.heap.size w w':=by
 have HK:=zh hk;have HM:=zh hm;clear hk hm
 go_enter Tryz.func144,Tryz.ntmps144
 go_wp2_with fail
 refine(bJ kb mp N f _ HK.out HM.out hN).mono ?_
 rintro e w2 ⟨v,l,rfl,h1,h2,h3,h4⟩
 have H1:=zh h1;have H2:=zh h2;have H3:=zh h3;have H4:=zh h4;clear h1 h2 h3 h4
 go_wp2
 go_ret
 exact⟨v,l,rfl,H1.out,H2.out,H3.out,H4.out⟩
end
section
open Go Go.RowKit Go.Maps
theorem lG:∀ x y:List UInt8,Nam.less x y=decide (x<y)
 | [],[]=>by simp[Nam.less,Op.bytesLess]
 | _::_,[]=>by simp[Nam.less,Op.bytesLess]
 | [],_::_=>by simp[Nam.less,Op.bytesLess]
 | a :: x,b :: y => by
   have ih:=lG x y
   unfold Nam.less at ih ⊢
   rw[Op.bytesLess,ih]
   simp only[List.cons_lt_cons_iff]
   by_cases h1:a<b<;>by_cases h2:a=b<;>by_cases h3:x<y<;>simp[h1,h2,h3]
def dl (l:List ByteArray):List (List UInt8):=l.map fun x=>x.data.toList
def bl (l:List (List UInt8)):List ByteArray:=l.map fun x=>⟨x.toArray⟩
theorem yH (l:List ByteArray):(dl l).map encStr=l.map Value.string:=by
 unfold dl
 rw[List.map_map]
 refine List.map_congr_left fun x _=>?_
 rfl
theorem yI (l:List (List UInt8)):l.map encStr=(bl l).map Value.string:=by
 unfold bl
 rw[List.map_map]
 rfl
noncomputable def Lc (l:List ByteArray):List ByteArray:=bl ((dl l).mergeSort fun x y=>decide (x<=y))
theorem Xf (l:List ByteArray):(Lc l).length=l.length:=by
 unfold Lc bl dl
 rw[List.length_map,List.length_mergeSort,List.length_map]
theorem Xg (l:List ByteArray)(x:ByteArray):x∈Lc l↔x∈l:=by
 unfold Lc bl
 rw[List.mem_map]
 constructor
 ·rintro⟨y,hy,rfl⟩
  rw[List.mem_mergeSort] at hy
  unfold dl at hy
  obtain⟨z,hz,rfl⟩:=List.mem_map.1 hy
  exact hz
 ·intro h
  exact⟨x.data.toList,by rw[List.mem_mergeSort];exact List.mem_map.2 ⟨x,h,rfl⟩,rfl⟩
theorem UU {l:List ByteArray}(h:l.Nodup):bI (Lc l):=by
 have tr:∀ a b c:List UInt8,decide (a<=b)=true->decide (b<=c)=true->decide (a<=c)=true:=fun a b c h1 h2=>by simp only[decide_eq_true_eq] at *;exact List.le_trans h1 h2
 have tot:∀ a b:List UInt8,(decide (a<=b) || decide (b<=a))=true:=fun a b=>by simp only[Bool.or_eq_true,decide_eq_true_eq];exact List.le_total a b
 have h1:=List.pairwise_mergeSort tr tot (dl l)
 have h2:(dl l).Nodup:=by
  unfold dl
  exact List.pairwise_map.2 (h.imp fun {a b} hne e=>hne (vH e))
 have h3:((dl l).mergeSort fun x y=>decide (x<=y)).Nodup:=(List.mergeSort_perm (dl l) _).nodup_iff.2 h2
 unfold bI Lc bl
 rw[List.pairwise_map]
 refine(h1.and h3).imp fun {a b} hab=>?_
 show Nam.less a b=true
 rw[lG,decide_eq_true_eq]
 have hle:=hab.1
 simp only[decide_eq_true_eq] at hle
 by_cases hlt:a<b
 ·exact hlt
 ·exact absurd (List.le_antisymm hle (List.not_lt.1 hlt)) hab.2
theorem bL (base:Nat)(v:Value)(l:List ByteArray)(w:World)(h:w.ownsRow base 9 1 v l.length (l.map Value.string))(hl:l.length<=4000000):
 Calls Tryz.prog 145 #[v] w fun e w' => e=.returned (.tuple #[])/\w'.ownsRow base 9 1 v (Lc l).length ((Lc l).map Value.string)/\w.grownBy w' v.ownBlock:=by
 rcases h.2 with ⟨rfl,hn⟩|⟨g,cap,cur,rfl,hbase,hb,h1,h2,h3,h4⟩
 ·have hx:l=[]:=List.eq_nil_of_length_eq_zero hn
  subst hx
  refine(Tryz.slices_Sort_string_none none 0 w).mono ?_
  rintro e w' ⟨rfl,rfl⟩
  refine⟨rfl,?_,⟨rfl,rfl,rfl,Nat.le_refl _,fun _ _ _=>rfl⟩⟩
  have:Lc []=[]:=List.eq_nil_of_length_eq_zero (Xf [])
  rw[this]
  exact h
 ·have hd:(dl l).length=l.length:=List.length_map _
  have hH:Sort.Holds encStr w g 0 (dl l).toArray:=holds_of_block hb (by rw[hd,yH];simpa using h4)
  have hc:=Tryz.slices_Sort_string g 0 cap (dl l) w hH (Array.getElem?_eq_some_iff.1 hb).1 (by omega)
  rw[hd] at hc
  refine hc.mono ?_
  rintro e w' ⟨rfl,n,os,rfl⟩
  have hlen:((dl l).mergeSort fun x y=>decide (x<=y)).length=(dl l).length:=List.length_mergeSort _
  have ho:=ownsRow_sorted (os:=os) (n:=n) (ss:=dl l) hlen hbase hb (by rw[hd];exact h1) h2 h3
  refine⟨rfl,?_,grownBy_sorted _⟩
  rw[Xf]
  rw[hd,yI] at ho
  exact ho
theorem jq (kb mp N:Nat)(f:ByteArray->Option Value)(w:World)(hk:w.cell? ⟨kb,0,none⟩=some (.map (some mp)))(hm:Hy w mp N f)(hN:N<=1000000)(hlen:∀ l:List ByteArray,l.Nodup->(∀ k,(f k).isSome=true↔k∈l)->l.length<=4000000):
 Calls Tryz.prog 90 #[.func (.func 146) #[] #[.pointer (some ⟨kb,0,none⟩)]] w fun e w' => ∃ (v:Value) (l:List ByteArray),e=.returned v/\w'.ownsRow w.heap.size 9 1 v l.length (l.map Value.string)/\bI l/\(∀ k,(f k).isSome=true↔k∈l)/\Below w.heap.size w w':=by
 have HK:=zh hk;have HM:=zh hm;have HL:=zh hlen;clear hk hm hlen
 go_enter Tryz.func90,Tryz.ntmps90
 go_wp2_with fail
 refine(bK kb mp N f _ HK.out HM.out hN).mono ?_
 rintro e w2 ⟨v,l,rfl,h1,h2,h3,h4⟩
 have hl:=HL.out l h2 h3
 have H1:=zh h1;have H2:=zh h2;have H3:=zh h3;have H4:=zh h4;clear h1 h2 h3 h4
 go_wp2_with fail
 refine(bL _ v l _ H1.out hl).mono ?_
 rintro e w3 ⟨rfl,h5,h6⟩
 have h7:=Cw H4.out H4.out.size H1.out h6
 have H5:=zh h5;have H7:=zh h7;clear h5 h6 h7
 go_wp2
 go_ret
 exact⟨v,Lc l,rfl,H5.out,UU H2.out,fun k=>by rw[Xg];exact H3.out k,H7.out⟩
theorem bM (kb mp N:Nat)(f:ByteArray->Option Value)(w:World)(hk:w.cell? ⟨kb,0,none⟩=some (.map (some mp)))(hm:Hy w mp N f)(hN:N<=1000000)(hlen:∀ l:List ByteArray,l.Nodup->(∀ k,(f k).isSome=true↔k∈l)->l.length<=4000000):
 Calls Tryz.prog 90 #[.func (.func 147) #[] #[.pointer (some ⟨kb,0,none⟩)]] w fun e w' => ∃ (v:Value) (l:List ByteArray),e=.returned v/\w'.ownsRow w.heap.size 9 1 v l.length (l.map Value.string)/\bI l/\(∀ k,(f k).isSome=true↔k∈l)/\Below w.heap.size w w':=by
 have HK:=zh hk;have HM:=zh hm;have HL:=zh hlen;clear hk hm hlen
 go_enter Tryz.func90,Tryz.ntmps90
 go_wp2_with fail
 refine(YF kb mp N f _ HK.out HM.out hN).mono ?_
 rintro e w2 ⟨v,l,rfl,h1,h2,h3,h4⟩
 have hl:=HL.out l h2 h3
 have H1:=zh h1;have H2:=zh h2;have H3:=zh h3;have H4:=zh h4;clear h1 h2 h3 h4
 go_wp2_with fail
 refine(bL _ v l _ H1.out hl).mono ?_
 rintro e w3 ⟨rfl,h5,h6⟩
 have h7:=Cw H4.out H4.out.size H1.out h6
 have H5:=zh h5;have H7:=zh h7;clear h5 h6 h7
 go_wp2
 go_ret
 exact⟨v,Lc l,rfl,H5.out,UU H2.out,fun k=>by rw[Xg];exact H3.out k,H7.out⟩
theorem bN (mp:Nat)(w:World):Calls Tryz.prog 91 #[.map (some mp)] w fun e w' => e=.returned (.func (.func 146) #[] #[.pointer (some ⟨w.heap.size,0,none⟩)])/\w' = w.alloc (.cells #[.map (some mp)] 81):=by
 go_enter Tryz.func91,Tryz.ntmps91
 go_wp2
 go_ret
 exact⟨rfl,rfl⟩
theorem YG (mp:Nat)(w:World):Calls Tryz.prog 92 #[.map (some mp)] w fun e w' => e=.returned (.func (.func 147) #[] #[.pointer (some ⟨w.heap.size,0,none⟩)])/\w' = w.alloc (.cells #[.map (some mp)] 82):=by
 go_enter Tryz.func92,Tryz.ntmps92
 go_wp2
 go_ret
 exact⟨rfl,rfl⟩
namespace Sto
open Own (Bt Srt BH)
theorem sM (w0 w:World)(F0 F:Nat->Prop)(ob mo mv:Nat)(ve:Value)(s:St)(x:SOp)(v:Value)(h:StO w0 F0 w ob F mo mv ve s)(hs:Bw s)(hk:x.kind=2)(hv:Am w v x.obj.refs):
 Calls Tryz.prog 88 #[.pointer (some ⟨ob,0,none⟩),opV x v] w (Cr w0 F0 w ob mo mv ve s x):=by
 obtain⟨R,hR⟩:∃ R,R=Cr w0 F0 w ob mo mv ve s x:=⟨_,rfl⟩
 rw[<- hR]
 obtain⟨va,vc,rfl⟩:=hv.len
 obtain⟨ea,en,ec,hve⟩:=Ah h.own
 subst hve
 obtain rfl:=Iu h.own
 have hol:=h.box.lt
 have hz0:=h.bel.size
 have he1:=hs.e1
 have hml:=h.st.UE
 have hvl:=h.st.QW
 have HR:=zh hR;have H:=zh h;have HOK:=zh hs;have HK:=zh hk
 clear hR h hv hs hk
 unfold opV
 have T1:=zh (show Aj w _ [(77,#[.int .i64 x.kind,.string x.name,.string x.data,.int .i64 x.obj.kind,.slice va x.obj.refs.length vc,.string x.obj.data])] from((Bp.nil w).push 77 #[.int .i64 x.kind,.string x.name,.string x.data,.int .i64 x.obj.kind,.slice va x.obj.refs.length vc,.string x.obj.data]).boxes)
 have t00:(w.alloc (.cells #[.int .i64 x.kind,.string x.name,.string x.data,.int .i64 x.obj.kind,.slice va x.obj.refs.length vc,.string x.obj.data] 77)).cell? ⟨w.heap.size,0,none⟩=some (.int .i64 x.kind):=T1.out.cell 0 0 rfl rfl
 have Ci:(w.alloc (.cells #[.int .i64 x.kind,.string x.name,.string x.data,.int .i64 x.obj.kind,.slice va x.obj.refs.length vc,.string x.obj.data] 77)).frozen? ⟨w.heap.size,0,none⟩=false:=T1.out.free 0 0 rfl
 have t01:(w.alloc (.cells #[.int .i64 x.kind,.string x.name,.string x.data,.int .i64 x.obj.kind,.slice va x.obj.refs.length vc,.string x.obj.data] 77)).cell? ⟨w.heap.size,1,none⟩=some (.string x.name):=T1.out.cell 0 1 rfl rfl
 have Cj:(w.alloc (.cells #[.int .i64 x.kind,.string x.name,.string x.data,.int .i64 x.obj.kind,.slice va x.obj.refs.length vc,.string x.obj.data] 77)).frozen? ⟨w.heap.size,1,none⟩=false:=T1.out.free 0 1 rfl
 have t02:(w.alloc (.cells #[.int .i64 x.kind,.string x.name,.string x.data,.int .i64 x.obj.kind,.slice va x.obj.refs.length vc,.string x.obj.data] 77)).cell? ⟨w.heap.size,2,none⟩=some (.string x.data):=T1.out.cell 0 2 rfl rfl
 have Ck:(w.alloc (.cells #[.int .i64 x.kind,.string x.name,.string x.data,.int .i64 x.obj.kind,.slice va x.obj.refs.length vc,.string x.obj.data] 77)).frozen? ⟨w.heap.size,2,none⟩=false:=T1.out.free 0 2 rfl
 have t03:(w.alloc (.cells #[.int .i64 x.kind,.string x.name,.string x.data,.int .i64 x.obj.kind,.slice va x.obj.refs.length vc,.string x.obj.data] 77)).cell? ⟨w.heap.size,3,none⟩=some (.int .i64 x.obj.kind):=T1.out.cell 0 3 rfl rfl
 have Ib:(w.alloc (.cells #[.int .i64 x.kind,.string x.name,.string x.data,.int .i64 x.obj.kind,.slice va x.obj.refs.length vc,.string x.obj.data] 77)).frozen? ⟨w.heap.size,3,none⟩=false:=T1.out.free 0 3 rfl
 have t04:(w.alloc (.cells #[.int .i64 x.kind,.string x.name,.string x.data,.int .i64 x.obj.kind,.slice va x.obj.refs.length vc,.string x.obj.data] 77)).cell? ⟨w.heap.size,4,none⟩=some (.slice va x.obj.refs.length vc):=T1.out.cell 0 4 rfl rfl
 have Ic:(w.alloc (.cells #[.int .i64 x.kind,.string x.name,.string x.data,.int .i64 x.obj.kind,.slice va x.obj.refs.length vc,.string x.obj.data] 77)).frozen? ⟨w.heap.size,4,none⟩=false:=T1.out.free 0 4 rfl
 have t05:(w.alloc (.cells #[.int .i64 x.kind,.string x.name,.string x.data,.int .i64 x.obj.kind,.slice va x.obj.refs.length vc,.string x.obj.data] 77)).cell? ⟨w.heap.size,5,none⟩=some (.string x.obj.data):=T1.out.cell 0 5 rfl rfl
 have Ie:(w.alloc (.cells #[.int .i64 x.kind,.string x.name,.string x.data,.int .i64 x.obj.kind,.slice va x.obj.refs.length vc,.string x.obj.data] 77)).frozen? ⟨w.heap.size,5,none⟩=false:=T1.out.free 0 5 rfl
 go_enter Tryz.func88,Tryz.ntmps88
 go_upto_region 1 with fail
 (try clear Ci);(try clear t00);(try clear Cj);(try clear t01);(try clear Ck);(try clear t02);(try clear Ib);(try clear t03);(try clear Ic);(try clear t04);(try clear Ie);(try clear t05)
 generalize (w.alloc (.cells #[.int .i64 x.kind,.string x.name,.string x.data,.int .i64 x.obj.kind,.slice va x.obj.refs.length vc,.string x.obj.data] 77))=w1 at*
 have H1:=zh (H.out.below T1.out.under)
 have b1:=H1.out.box.cell 1
 have b1f:=H1.out.box.free 1
 simp only[zg] at b1
 obtain⟨t00,t01,t02,t03,t04,t05,Ci,Cj,Ck,Ib,Ic,Ie⟩:=T1.out.VU rfl
 by_cases hfull:s.ents.length=4096
 ·have HST:=zh (VH HK.out hfull)
  have dl:((s.ents.length:Int)==4096)=true:=by rw[hfull];rfl
  clear hfull
  go_wp2
  (try go_ret)
  rw[HR.out]
  unfold Cr
  rw[HST.out]
  exact⟨rfl,H1.out.bel⟩
 ·have HST:=zh (rU HOK.out HK.out hfull)
  have dl:((s.ents.length:Int)==4096)=false:=by rw[beq_eq_false_iff_ne];omega
  clear hfull
  go_upto_region 3 with fail
  refine Lex.zl ?_
  have hd1:Below w1.heap.size w1 w1.drew:=(Below.refl w1.heap.size w1).drew
  have hal:Below w1.heap.size w1 (w1.drew.alloc (.cells #[.string x.data] 9)):=hd1.alloc (Nat.le_refl _) _
  have Rs:Below w1.heap.size w1 ((w1.alloc (.cells #[.string x.data] 9)).drew):=((Below.refl w1.heap.size w1).alloc (Nat.le_refl _) _).drew
  have H2:=zh (H1.out.below hal);have H3:=zh (H1.out.below Rs)
  clear hd1 hal Rs
  go_wp2_with (at_builtin;go_must (refine Rf rfl _ _ rfl w0.heap.size s.ents.length (.slice ea s.ents.length ec) (s.ents.map Value.string) rfl H3.out.own w1.heap.size 1 x.data rfl ((IJ w1 (.string x.data) 9)) (by omega) (by have:=H3.out.bel.size;omega) ?_);intro v4 w4 ho4 hg4 hb4;obtain⟨ga,gm,gc,rfl⟩:=Ah ho4;have hbx:=H3.out.box.grown hg4 (by intro e;exact(H3.out.box.own_ne H3.out.own (by decide)) e.symm);have q1:=hbx.cell 1;have q1f:=hbx.free 1;simp only[zg] at q1;have HBX:=zh hbx;have HO4:=zh ho4;have HG4:=zh hg4;have HB4:=zh hb4;clear hbx ho4 hg4 hb4)
  clear q1 q1f
  refine Lex.ze ?_
  go_wp2
  (try go_ret)
  rw[HR.out]
  unfold Cr
  rw[HST.out]
  exact⟨rfl,F,_,H3.out.zaX HG4.out HO4.out HB4.out,((Fr.of_below (T1.out.under.trans ((((Below.refl w1.heap.size w1).alloc (Nat.le_refl _) _).drew).mono T1.out.under.size)):Fr (ji ob mo mv (.slice ea s.ents.length ec)) w _).grown HG4.out (fun k hk=>.inl (.inr (.inr (.inr hk))))).setCell (.inl (.inl rfl)) _⟩
theorem sN (w0 w:World)(F0 F:Nat->Prop)(ob mo mv:Nat)(ve:Value)(s:St)(x:SOp)(v:Value)(h:StO w0 F0 w ob F mo mv ve s)(hs:Bw s)(hx:D6 x=true)(hk:x.kind=3)(hv:Am w v x.obj.refs):
 Calls Tryz.prog 89 #[.pointer (some ⟨ob,0,none⟩),opV x v] w (Cr w0 F0 w ob mo mv ve s x):=by
 obtain⟨R,hR⟩:∃ R,R=Cr w0 F0 w ob mo mv ve s x:=⟨_,rfl⟩
 rw[<- hR]
 have hds:x.name.size<=maxLen:=by
  have:=hx
  unfold D6 EU at this
  rw[if_neg (by omega),if_neg (by omega),if_neg (by omega),if_pos hk] at this
  simp only[Bool.and_eq_true,decide_eq_true_eq] at this
  unfold maxLen;omega
 obtain⟨va,vc,rfl⟩:=hv.len
 obtain⟨g,hg,hgm⟩:=h.st.vm
 obtain⟨ea,en,ec,rfl⟩:=Ah h.own
 have hol:=h.box.lt
 have hml:=hg.lt
 have hz0:=h.bel.size
 have hv1:=hs.v1
 have HR:=zh hR;have H:=zh h;have HG:=zh hg;have HGM:=zh hgm;have HOK:=zh hs;have HK:=zh hk
 clear hR h hv hg hgm hs hx hk
 unfold opV
 have T1:=zh (show Aj w _ [(77,#[.int .i64 x.kind,.string x.name,.string x.data,.int .i64 x.obj.kind,.slice va x.obj.refs.length vc,.string x.obj.data])] from((Bp.nil w).push 77 #[.int .i64 x.kind,.string x.name,.string x.data,.int .i64 x.obj.kind,.slice va x.obj.refs.length vc,.string x.obj.data]).boxes)
 have t00:(w.alloc (.cells #[.int .i64 x.kind,.string x.name,.string x.data,.int .i64 x.obj.kind,.slice va x.obj.refs.length vc,.string x.obj.data] 77)).cell? ⟨w.heap.size,0,none⟩=some (.int .i64 x.kind):=T1.out.cell 0 0 rfl rfl
 have Ci:(w.alloc (.cells #[.int .i64 x.kind,.string x.name,.string x.data,.int .i64 x.obj.kind,.slice va x.obj.refs.length vc,.string x.obj.data] 77)).frozen? ⟨w.heap.size,0,none⟩=false:=T1.out.free 0 0 rfl
 have t01:(w.alloc (.cells #[.int .i64 x.kind,.string x.name,.string x.data,.int .i64 x.obj.kind,.slice va x.obj.refs.length vc,.string x.obj.data] 77)).cell? ⟨w.heap.size,1,none⟩=some (.string x.name):=T1.out.cell 0 1 rfl rfl
 have Cj:(w.alloc (.cells #[.int .i64 x.kind,.string x.name,.string x.data,.int .i64 x.obj.kind,.slice va x.obj.refs.length vc,.string x.obj.data] 77)).frozen? ⟨w.heap.size,1,none⟩=false:=T1.out.free 0 1 rfl
 have t02:(w.alloc (.cells #[.int .i64 x.kind,.string x.name,.string x.data,.int .i64 x.obj.kind,.slice va x.obj.refs.length vc,.string x.obj.data] 77)).cell? ⟨w.heap.size,2,none⟩=some (.string x.data):=T1.out.cell 0 2 rfl rfl
 have Ck:(w.alloc (.cells #[.int .i64 x.kind,.string x.name,.string x.data,.int .i64 x.obj.kind,.slice va x.obj.refs.length vc,.string x.obj.data] 77)).frozen? ⟨w.heap.size,2,none⟩=false:=T1.out.free 0 2 rfl
 have t03:(w.alloc (.cells #[.int .i64 x.kind,.string x.name,.string x.data,.int .i64 x.obj.kind,.slice va x.obj.refs.length vc,.string x.obj.data] 77)).cell? ⟨w.heap.size,3,none⟩=some (.int .i64 x.obj.kind):=T1.out.cell 0 3 rfl rfl
 have Ib:(w.alloc (.cells #[.int .i64 x.kind,.string x.name,.string x.data,.int .i64 x.obj.kind,.slice va x.obj.refs.length vc,.string x.obj.data] 77)).frozen? ⟨w.heap.size,3,none⟩=false:=T1.out.free 0 3 rfl
 have t04:(w.alloc (.cells #[.int .i64 x.kind,.string x.name,.string x.data,.int .i64 x.obj.kind,.slice va x.obj.refs.length vc,.string x.obj.data] 77)).cell? ⟨w.heap.size,4,none⟩=some (.slice va x.obj.refs.length vc):=T1.out.cell 0 4 rfl rfl
 have Ic:(w.alloc (.cells #[.int .i64 x.kind,.string x.name,.string x.data,.int .i64 x.obj.kind,.slice va x.obj.refs.length vc,.string x.obj.data] 77)).frozen? ⟨w.heap.size,4,none⟩=false:=T1.out.free 0 4 rfl
 have t05:(w.alloc (.cells #[.int .i64 x.kind,.string x.name,.string x.data,.int .i64 x.obj.kind,.slice va x.obj.refs.length vc,.string x.obj.data] 77)).cell? ⟨w.heap.size,5,none⟩=some (.string x.obj.data):=T1.out.cell 0 5 rfl rfl
 have Ie:(w.alloc (.cells #[.int .i64 x.kind,.string x.name,.string x.data,.int .i64 x.obj.kind,.slice va x.obj.refs.length vc,.string x.obj.data] 77)).frozen? ⟨w.heap.size,5,none⟩=false:=T1.out.free 0 5 rfl
 go_enter Tryz.func89,Tryz.ntmps89
 go_upto_region 1 with fail
 (try clear Ci);(try clear t00);(try clear Cj);(try clear t01);(try clear Ck);(try clear t02);(try clear Ib);(try clear t03);(try clear Ic);(try clear t04);(try clear Ie);(try clear t05)
 generalize (w.alloc (.cells #[.int .i64 x.kind,.string x.name,.string x.data,.int .i64 x.obj.kind,.slice va x.obj.refs.length vc,.string x.obj.data] 77))=w1 at*
 have hd1:Below w1.heap.size w1 w1.drew:=(Below.refl w1.heap.size w1).drew
 have H1:=zh (H.out.below T1.out.under);have H2:=zh ((H.out.below T1.out.under).below hd1);have HG2:=zh ((HG.out.below T1.out.under HG.out.lt).below hd1 (HG.out.below T1.out.under HG.out.lt).lt)
 have b2:=H1.out.box.cell 2
 simp only[zg] at b2
 obtain⟨t00,t01,t02,t03,t04,t05,Ci,Cj,Ck,Ib,Ic,Ie⟩:=T1.out.VU rfl
 by_cases hd:x.data.size=0
 ·have de : (x.data.toList == []) = true :=by
   have:x.data.data.toList=[]:=List.eq_nil_of_length_eq_zero (by rw[Sha.Aq];exact hd)
   rw[ByteArray.toList_eq,this]
   rfl
  have HST:=zh (rV HOK.out HK.out hd)
  obtain⟨w10,hrun,sH,YE⟩:=HG2.out.kY Tryz.underlying82 x.name hds 0
  have bH:=H2.out.st.Lb (l:=without Val.name x.name s.vals) (by rw[HGM.out.vE HOK.out.vs];exact sH) (HGM.out.del x.name) YE
  have Eh:=zh (H2.out.Lb YE bH rfl)
  have HFR:=zh ((Fr.of_below T1.out.under.drew:Fr (ji ob mo mv (.slice ea en ec)) w w1.drew).grown YE (fun k hk=>.inl (.inr (.inr (.inl (Option.some.inj hk).symm)))))
  clear bH sH YE hd1
  go_upto_region 2 with fail
  refine Lex.zl ?_
  go_wp2
  refine Lex.ze ?_
  go_wp2
  (try go_ret)
  rw[HR.out]
  unfold Cr
  rw[HST.out]
  exact⟨rfl,_,_,Eh.out,HFR.out⟩
 ·have de : (x.data.toList == []) = false :=by
   rw[beq_eq_false_iff_ne,ByteArray.toList_eq]
   intro e
   have:=Sha.Aq x.data
   rw[e] at this
   exact hd this.symm
  go_upto_region 4 with fail
  refine Lex.zl ?_
  have hx2:(g x.name).isSome=has Val.name x.name s.vals:=HGM.out.Et x.name
  obtain⟨z,hz⟩:∃ z,(g x.name).getD (.string ⟨#[]⟩)=.string z:=by
   rw[HGM.out x.name]
   cases look Val.name x.name s.vals<;>exact⟨_,rfl⟩
  have HZ:=zh hz;have HX2:=zh hx2
  clear hz hx2
  have zs:∀ w,(zeroValue 9).run Tryz.prog w=.ok (.string ⟨#[]⟩) w:=fun w=>by kernel_rfl
  have ZS:=zh zs;clear zs
  cases hh:has Val.name x.name s.vals with
  | true =>
    rw[hh] at HX2
    have HST:=zh (aM HOK.out HK.out hd (.inl hh))
    go_wp2_with (at_lookup;go_must (refine D8 rfl _ _ 82 9 rfl Tryz.underlying82 (.string ⟨#[]⟩) (ZS.out _) HG2.out.smap rfl x.name rfl hds ?_);rw[HZ.out,HX2.out])
    refine Lex.ze ?_
    have T2:=zh (T1.out.drew)
    (try clear Ci);(try clear t00);(try clear Cj);(try clear t01);(try clear Ck);(try clear t02);(try clear Ib);(try clear t03);(try clear Ic);(try clear t04);(try clear Ie);(try clear t05)
    clear b2 hd1
    generalize w1.drew=w2 at*
    have b2:=H2.out.box.cell 2
    simp only[zg] at b2
    obtain⟨t00,t01,t02,t03,t04,t05,Ci,Cj,Ck,Ib,Ic,Ie⟩:=T2.out.VU rfl
    have hd2:Below w2.heap.size w2 w2.drew:=(Below.refl w2.heap.size w2).drew
    have H3:=zh (H2.out.below hd2);have HG3:=zh (HG2.out.below hd2 HG2.out.lt)
    clear hd2
    go_upto_region 7 with fail
    refine Lex.zl ?_
    go_wp2_with (at_mapUpdate;go_must (refine JF rfl _ _ _ 82 9 rfl Tryz.underlying82 HG3.out (by unfold maxLen;omega) rfl x.name (.string x.data) rfl rfl hds ?_);intro w6 hm6 hg6)
    have hs6:=H3.out.st.Lb (l:=BH Val.name ⟨x.name,x.data⟩ s.vals) (by rw[HGM.out.RH HOK.out.vs];exact hm6) (HGM.out.put ⟨x.name,x.data⟩) hg6
    have Eh:=zh (H3.out.Lb hg6 hs6 rfl)
    have HFR:=zh ((Fr.of_below T2.out.under.drew:Fr (ji ob mo mv (.slice ea en ec)) w w2.drew).grown hg6 (fun k hk=>.inl (.inr (.inr (.inl (Option.some.inj hk).symm)))))
    clear hs6 hm6 hg6
    go_wp2
    refine Lex.ze ?_
    go_wp2
    (try go_ret)
    rw[HR.out]
    unfold Cr
    rw[HST.out]
    exact⟨rfl,_,_,Eh.out,HFR.out⟩
  | false =>
    rw[hh] at HX2
    go_wp2_with (at_lookup;go_must (refine D8 rfl _ _ 82 9 rfl Tryz.underlying82 (.string ⟨#[]⟩) (ZS.out _) HG2.out.smap rfl x.name rfl hds ?_);rw[HZ.out,HX2.out])
    refine Lex.ze ?_
    have T2:=zh (T1.out.drew)
    (try clear Ci);(try clear t00);(try clear Cj);(try clear t01);(try clear Ck);(try clear t02);(try clear Ib);(try clear t03);(try clear Ic);(try clear t04);(try clear Ie);(try clear t05)
    clear b2 hd1
    generalize w1.drew=w2 at*
    have b2:=H2.out.box.cell 2
    simp only[zg] at b2
    obtain⟨t00,t01,t02,t03,t04,t05,Ci,Cj,Ck,Ib,Ic,Ie⟩:=T2.out.VU rfl
    have hlen:=HG2.out.kZ Tryz.underlying82 3
    by_cases hfull:s.vals.length=1024
    ·have HST:=zh (VI HK.out hd hh hfull)
     rw[hfull] at hlen
     clear hfull
     go_wp2
     (try go_ret)
     rw[HR.out]
     unfold Cr
     rw[HST.out]
     exact⟨rfl,H2.out.bel⟩
    ·have HST:=zh (aM HOK.out HK.out hd (.inr hfull))
     have dl:((s.vals.length:Int)==1024)=false:=by rw[beq_eq_false_iff_ne];omega
     clear hfull
     have hd2:Below w2.heap.size w2 w2.drew:=(Below.refl w2.heap.size w2).drew
     have H3:=zh (H2.out.below hd2);have HG3:=zh (HG2.out.below hd2 HG2.out.lt)
     clear hd2
     go_upto_region 7 with fail
     refine Lex.zl ?_
     go_wp2_with (at_mapUpdate;go_must (refine JF rfl _ _ _ 82 9 rfl Tryz.underlying82 HG3.out (by unfold maxLen;omega) rfl x.name (.string x.data) rfl rfl hds ?_);intro w6 hm6 hg6)
     have hs6:=H3.out.st.Lb (l:=BH Val.name ⟨x.name,x.data⟩ s.vals) (by rw[HGM.out.RH HOK.out.vs];exact hm6) (HGM.out.put ⟨x.name,x.data⟩) hg6
     have Eh:=zh (H3.out.Lb hg6 hs6 rfl)
     have HFR:=zh ((Fr.of_below T2.out.under.drew:Fr (ji ob mo mv (.slice ea en ec)) w w2.drew).grown hg6 (fun k hk=>.inl (.inr (.inr (.inl (Option.some.inj hk).symm)))))
     clear hs6 hm6 hg6
     go_wp2
     refine Lex.ze ?_
     go_wp2
     (try go_ret)
     rw[HR.out]
     unfold Cr
     rw[HST.out]
     exact⟨rfl,_,_,Eh.out,HFR.out⟩
end Sto
namespace Sto
theorem DL (s:ByteArray)(w:World):Calls Tryz.prog 79 #[.string s] w fun e w' => e=.returned (.bool (EU s))/\w' = w:=by
 go_enter Tryz.func79,Tryz.ntmps79
 by_cases h:(1:Int)<=s.size
 ·have d1:decide ((1:Int)<=s.size)=true:=decide_eq_true h
  have hr:EU s=decide ((s.size:Int)<=64):=by
   unfold EU
   rw[decide_eq_true (show 1<=s.size by omega),Bool.true_and]
   exact decide_eq_decide.2 (by omega)
  have HR:=zh hr;clear hr
  go_wp2
  go_ret
  exact⟨by rw[HR.out];rfl,rfl⟩
 ·have d1:decide ((1:Int)<=s.size)=false:=decide_eq_false h
  have hr:EU s=false:=by
   unfold EU
   rw[decide_eq_false (show ¬ 1<=s.size by omega),Bool.false_and]
  have HR:=zh hr;clear hr
  go_wp2
  go_ret
  exact⟨by rw[HR.out];rfl,rfl⟩
theorem JJ (n:Nat)(w:World)(h:n<=9223372036854775000):Calls Tryz.prog 48 #[.int .i64 n] w fun e w' => e=.returned (.int .i64 (Ai n))/\w' = w:=by
 have hp:((Ai n:Nat):Int)=((n:Int)+511)/512:=by unfold Ai;omega
 have HP:=zh hp;clear hp
 go_enter Tryz.func48,Tryz.ntmps48
 go_wp2
 go_ret
 refine⟨?_,rfl⟩
 rw[HP.out]
 have e1:(n:Int)+512-1=n+511:=by omega
 first
  | rfl
  | (rw[<- e1];rfl)
  | (congr 2;omega)
theorem GJ (d:Au)(c:Ac)(w:World)(h:Ak w d c)(h2:2<=c.Aa.length):Calls Tryz.prog 100 #[.pointer (some ⟨d.a,0,none⟩)] w fun e w' => e=.returned (.int .i64 (AY c.Aa.length))/\w' = w:=by
 have hm:=h.most
 have hp:((AY c.Aa.length:Nat):Int)=((c.Aa.length:Int)-2)/2:=by unfold AY;omega
 have H:=zh h;have HP:=zh hp;clear h hp
 go_enter Tryz.func100,Tryz.ntmps100
 go_wp2_with fail
 refine(GX d c _ H.out).mono ?_
 rintro e w1 ⟨rfl,rfl⟩
 go_wp2
 go_ret
 refine⟨?_,rfl⟩
 rw[HP.out]
 first
  | rfl
  | (congr 2;omega)
theorem Qi (d:Au)(c:Ac)(e:Nat)(w:World)(h:Ak w d c)(h2:2<=c.Aa.length)(he:e<=4611686018427387904):Calls Tryz.prog 50 #[.pointer (some ⟨d.a,0,none⟩),.int .i64 e] w fun x w' => x=.returned (.int .i64 (Bo c.Aa.length e))/\w' = w:=by
 have hm:=h.most
 have hp:((Bo c.Aa.length e:Nat):Int)=2+((e%2:Nat):Int)*((AY c.Aa.length:Nat):Int):=by unfold Bo;rw[Int.natCast_add,Int.natCast_mul];rfl
 have hh:AY c.Aa.length<=4096:=by unfold AY;omega
 obtain⟨q,hq⟩:∃ q,q=AY c.Aa.length:=⟨_,rfl⟩
 rw[<- hq] at hp hh
 have H:=zh h;have HP:=zh hp;have HQ:=zh hq;clear h hp hq
 go_enter Tryz.func50,Tryz.ntmps50
 rcases Nat.mod_two_eq_zero_or_one e with hr|hr
 ·have hr2:(e:Int)%2=0:=by omega
  have hr3:Int.tmod (e:Int) 2=0:=by rw[Int.tmod_eq_emod_of_nonneg (by omega)];exact hr2
  rw[hr] at HP
  go_wp2_with fail
  refine(GJ d c _ H.out h2).mono ?_
  rintro x w1 ⟨rfl,rfl⟩
  rw[<- HQ.out]
  go_wp2
  go_ret
  refine⟨?_,rfl⟩
  rw[HP.out]
  first
   | rfl
   | (simp;done)
   | (congr 2;omega)
 ·have hr2:(e:Int)%2=1:=by omega
  have hr3:Int.tmod (e:Int) 2=1:=by rw[Int.tmod_eq_emod_of_nonneg (by omega)];exact hr2
  rw[hr] at HP
  go_wp2_with fail
  refine(GJ d c _ H.out h2).mono ?_
  rintro x w1 ⟨rfl,rfl⟩
  rw[<- HQ.out]
  go_wp2
  go_ret
  refine⟨?_,rfl⟩
  rw[HP.out]
  first
   | rfl
   | (simp;done)
   | (simp;omega)
   | (congr 2;omega)
theorem Ri (n:Nat)(w:World)(hn:n<9223372036854775808):
 Calls Tryz.prog 130 #[.int .i64 n] w fun e w' => e=.returned (.string (Cod.uns n))/\Below w.heap.size w w':=by
 go_enter Tryz.func130,Tryz.ntmps130
 go_wp2_with fail
 refine(Xb n _ hn).mono ?_
 rintro e w1 ⟨rfl,hb1⟩
 have HB:=zh hb1;clear hb1
 go_wp2
 go_ret
 exact⟨rfl,HB.out⟩
theorem bO (n:Nat)(w:World)(hn:n<9223372036854775808):
 Calls Tryz.prog 178 #[.int .i64 n] w fun e w' => e=.returned (.string (big n 8))/\Below w.heap.size w w':=by
 obtain⟨i0,hi,hz0,hz1,hz2⟩:=info_parts Ww
 go_enter Tryz.func178,Tryz.ntmps178
 go_wp2_with (at_make;go_must (refine wpList_make_full _ rfl _ _ 116 rfl w.heap.size 5 i0 (.int .u8 0) 1 Tryz.underlying116 hi hz0 hz1 .i64 .i64 8 8 8 rfl rfl rfl rfl (by rw[hz2];omega) (by unfold maxLen;omega) (Nat.le_refl _) ?_);intro w1 how hg;have hat:=Sc how;clear how)
 have hB:Below w.heap.size w w1:=(Below.refl _ _).grown hg (Nat.le_refl _) (fun k hk=>by cases hk)
 have hrow:At w1 w.heap.size 5 (Ec n 8 0):=by
  have e:(madeCells (Value.int .u8 0).cells (8*1)).toList.toArray=Ec n 8 0:=by
   rw[Nat.mul_one]
   show(madeCells #[Value.int .u8 0] 8).toList.toArray=_
   rw[toList_madeCells_one]
   simp[Ec,List.map_const']
  exact e ▸ hat
 have HB:=zh hB;have HR:=zh hrow;clear hB hrow hat hg
 go_wp2
 go_loopw [8] (fun i wr=>∃ k:Nat,k<=8/\i=.int .i64 k/\At wr w.heap.size 5 (Ec n 8 k)/\Below w.heap.size w wr)
  (fun i _=>8-(intOf i).toNat)
 case atStart=>exact⟨0,by omega,rfl,HR.out,HB.out⟩
 case round=>
  obtain⟨k,hk,rfl,hw,hb⟩:=hrel
  by_cases hlt:k<8
  ·have dk:decide ((k:Int)<8)=true:=by simp;omega
   have fz:wr.frozen? ⟨w.heap.size,7-k,none⟩=false:=hw.free _
   have ce:=hw.cell (7-k)
   rw[Ez _ _ _ _ (by omega)] at ce
   have hix:((7:Int)-k).toNat=7-k:=by omega
   have HW:=zh hw;clear hw
   have HBB:=zh hb;clear hb
   go_wp2_with fail
   refine⟨⟨k+1,by omega,by go_num,?_,HBB.out.setCell (p:=⟨w.heap.size,7-k,none⟩) (Nat.le_refl _) _⟩,by simp[intOf];omega⟩
   have h:=HW.out.set (7-k) (.int .u8 ((n/2^(8*k)%256:Nat):Int))
   rw[show 7-k=8-1-k by omega,SI n 8 k hlt] at h
   have e:((n/2^(8*k)%256:Nat):Int)=(n:Int)/2^(8*k)%256:=by
    rw[Int.natCast_emod,Int.natCast_ediv,Int.natCast_pow];rfl
   rw[e] at h
   exact h
  ·have hk' : k=8:=by omega
   have dk:decide ((k:Int)<8)=false:=by simp;omega
   have hB:Lib.Bytes wr w.heap.size 0 (big n 8):=by
    intro i hi
    rw[Bq] at hi
    rw[Nat.zero_add,hw.cell,Ez _ _ _ _ hi,if_pos (by omega)]
    have e:(big n 8)[i]'(by rw[Bq];exact hi)=(n/2^(8*(8-1-i))%256).toUInt8:=by
     show(big n 8).data[i]'_=_
     simp[big]
    have e2:(n/2^(8*(8-1-i))%256).toUInt8.toNat=n/2^(8*(8-1-i))%256:=by
     show(UInt8.ofNat _).toNat=_
     rw[UInt8.toNat_ofNat']
     omega
    rw[<- e2]
    exact congrArg (fun x:UInt8=>some (Value.int .u8 (x.toNat:Int))) e.symm
   have hc:=Lib.run_convert_whole (P:=Tryz.prog) wr 116 5 9 rfl rfl rfl _ _ _ hB 8
   rw[Bq] at hc
   have HBB:=zh hb;clear hb hw hk' hB
   have HC:=zh hc;clear hc
   go_wp2_with fail
   rw[HC.out]
   go_wp2
   go_ret
   exact⟨rfl,HBB.out⟩
end Sto
namespace Sto
open Own (Bt Srt BH)
def Fe (x:SOp):Prop:=Reach x.obj/\x.name.size<=140737488350000/\x.data.size<=140737488350000
theorem jw (x:SOp)(v:Value)(w:World)(h:Am w v x.obj.refs)(hr:Fe x):
 Calls Tryz.prog 84 #[opV x v] w fun e w' => e=.returned (.bool (D6 x))/\Below w.heap.size w w':=by
 obtain⟨va,vc,rfl⟩:=h.len
 obtain⟨ok,hok⟩:∃ ok,ok=D6 x:=⟨_,rfl⟩
 rw[<- hok]
 unfold D6 at hok
 have hn1:=hr.2.1
 have hn2:=hr.2.2
 have H:=zh h;have HR:=zh hr;have HO:=zh hok
 clear h hr hok
 unfold opV
 have T1:=zh (show Aj w _ [(77,#[.int .i64 x.kind,.string x.name,.string x.data,.int .i64 x.obj.kind,.slice va x.obj.refs.length vc,.string x.obj.data])] from((Bp.nil w).push 77 #[.int .i64 x.kind,.string x.name,.string x.data,.int .i64 x.obj.kind,.slice va x.obj.refs.length vc,.string x.obj.data]).boxes)
 have t00:(w.alloc (.cells #[.int .i64 x.kind,.string x.name,.string x.data,.int .i64 x.obj.kind,.slice va x.obj.refs.length vc,.string x.obj.data] 77)).cell? ⟨w.heap.size,0,none⟩=some (.int .i64 x.kind):=T1.out.cell 0 0 rfl rfl
 have t01:(w.alloc (.cells #[.int .i64 x.kind,.string x.name,.string x.data,.int .i64 x.obj.kind,.slice va x.obj.refs.length vc,.string x.obj.data] 77)).cell? ⟨w.heap.size,1,none⟩=some (.string x.name):=T1.out.cell 0 1 rfl rfl
 have t02:(w.alloc (.cells #[.int .i64 x.kind,.string x.name,.string x.data,.int .i64 x.obj.kind,.slice va x.obj.refs.length vc,.string x.obj.data] 77)).cell? ⟨w.heap.size,2,none⟩=some (.string x.data):=T1.out.cell 0 2 rfl rfl
 have t03:(w.alloc (.cells #[.int .i64 x.kind,.string x.name,.string x.data,.int .i64 x.obj.kind,.slice va x.obj.refs.length vc,.string x.obj.data] 77)).cell? ⟨w.heap.size,3,none⟩=some (.int .i64 x.obj.kind):=T1.out.cell 0 3 rfl rfl
 have t04:(w.alloc (.cells #[.int .i64 x.kind,.string x.name,.string x.data,.int .i64 x.obj.kind,.slice va x.obj.refs.length vc,.string x.obj.data] 77)).cell? ⟨w.heap.size,4,none⟩=some (.slice va x.obj.refs.length vc):=T1.out.cell 0 4 rfl rfl
 have t05:(w.alloc (.cells #[.int .i64 x.kind,.string x.name,.string x.data,.int .i64 x.obj.kind,.slice va x.obj.refs.length vc,.string x.obj.data] 77)).cell? ⟨w.heap.size,5,none⟩=some (.string x.obj.data):=T1.out.cell 0 5 rfl rfl
 go_enter Tryz.func84,Tryz.ntmps84
 go_upto_region 1 with fail
 (try clear t00);(try clear t01);(try clear t02);(try clear t03);(try clear t04);(try clear t05)
 generalize (w.alloc (.cells #[.int .i64 x.kind,.string x.name,.string x.data,.int .i64 x.obj.kind,.slice va x.obj.refs.length vc,.string x.obj.data] 77))=w1 at*
 obtain⟨t00,t01,t02,t03,t04,t05⟩:=T1.out.zaU rfl
 by_cases h0:x.kind=0
 ·have d0:(x.kind==0)=true:=by rw[h0];rfl
  have ho:=HO.out
  rw[if_pos h0] at ho
  have HO2:=zh ho
  clear HO ho h0
  go_wp2_with fail
  refine(La x.obj (.slice va x.obj.refs.length vc) _ (H.out.below T1.out.under) HR.out.1).mono ?_
  rintro e w2 ⟨rfl,hb2⟩
  have HB2:=zh (T1.out.under.trans (hb2.mono T1.out.under.size))
  clear hb2
  cases hc:okO x.obj with
  | true =>
    rw[OG hc]
    rw[hc] at HO2
    clear hc
    go_wp2
    (try go_ret)
    exact⟨by rw[HO2.out];rfl,HB2.out⟩
  | false =>
    rw[Y5 hc]
    rw[hc] at HO2
    clear hc
    go_wp2
    (try go_ret)
    exact⟨by rw[HO2.out];rfl,HB2.out⟩
 have d0:(x.kind==0)=false:=by rw[beq_eq_false_iff_ne];exact h0
 by_cases h1:x.kind=1
 ·have d1:(x.kind==1)=true:=by rw[h1];rfl
  have ho:=HO.out
  rw[if_neg h0,if_pos h1] at ho
  have ho2:ok=((x.name.size:Int)==32):=by rw[ho];rw[Bool.eq_iff_iff];simp;omega
  have HO2:=zh ho2
  clear HO ho ho2 h0 h1
  go_wp2
  (try go_ret)
  exact⟨by rw[HO2.out];rfl,T1.out.under⟩
 have d1:(x.kind==1)=false:=by rw[beq_eq_false_iff_ne];exact h1
 by_cases h2:x.kind=2
 ·have d2:(x.kind==2)=true:=by rw[h2];rfl
  have ho:=HO.out
  rw[if_neg h0,if_neg h1,if_pos h2] at ho
  have ho2:ok=decide ((x.data.size:Int)<=65536):=by rw[ho];exact decide_eq_decide.2 (by omega)
  have HO2:=zh ho2
  clear HO ho ho2 h0 h1 h2
  go_wp2
  (try go_ret)
  exact⟨by rw[HO2.out];rfl,T1.out.under⟩
 have d2:(x.kind==2)=false:=by rw[beq_eq_false_iff_ne];exact h2
 by_cases h3:x.kind=3
 ·have d3:(x.kind==3)=true:=by rw[h3];rfl
  have ho:=HO.out
  rw[if_neg h0,if_neg h1,if_neg h2,if_pos h3] at ho
  cases hn:EU x.name with
  | true =>
    rw[hn,Bool.true_and] at ho
    have ho2:ok=decide ((x.data.size:Int)<=65536):=by rw[ho];exact decide_eq_decide.2 (by omega)
    have HO2:=zh ho2;have HN:=zh hn
    clear HO ho ho2 h0 h1 h2 h3 hn
    go_wp2_with fail
    refine(DL x.name _).mono ?_
    rintro e w2 ⟨rfl,hw2⟩
    subst w2
    rw[HN.out]
    go_wp2
    (try go_ret)
    exact⟨by rw[HO2.out];rfl,T1.out.under⟩
  | false =>
    rw[hn,Bool.false_and] at ho
    have HO2:=zh ho;have HN:=zh hn
    clear HO ho h0 h1 h2 h3 hn
    go_wp2_with fail
    refine(DL x.name _).mono ?_
    rintro e w2 ⟨rfl,hw2⟩
    subst w2
    rw[HN.out]
    go_wp2
    (try go_ret)
    exact⟨by rw[HO2.out];rfl,T1.out.under⟩
 have d3:(x.kind==3)=false:=by rw[beq_eq_false_iff_ne];exact h3
 have ho:=HO.out
 rw[if_neg h0,if_neg h1,if_neg h2,if_neg h3] at ho
 have HO2:=zh ho
 clear HO ho h0 h1 h2 h3
 go_wp2
 (try go_ret)
 exact⟨by rw[HO2.out];rfl,T1.out.under⟩
theorem VW (x:SOp)(v:Value)(w:World)(h:Am w v x.obj.refs)(hr:Fe x):
 Calls Tryz.prog 83 #[opV x v] w fun e w' => e=.returned (.bool (!D6 x))/\Below w.heap.size w w':=by
 obtain⟨va,vc,rfl⟩:=h.len
 obtain⟨ok,hok⟩:∃ ok,ok=D6 x:=⟨_,rfl⟩
 rw[<- hok]
 have H:=zh h;have HR:=zh hr;have HO:=zh hok
 clear h hr hok
 unfold opV
 have T1:=zh (show Aj w _ [(77,#[.int .i64 x.kind,.string x.name,.string x.data,.int .i64 x.obj.kind,.slice va x.obj.refs.length vc,.string x.obj.data])] from((Bp.nil w).push 77 #[.int .i64 x.kind,.string x.name,.string x.data,.int .i64 x.obj.kind,.slice va x.obj.refs.length vc,.string x.obj.data]).boxes)
 have t00:(w.alloc (.cells #[.int .i64 x.kind,.string x.name,.string x.data,.int .i64 x.obj.kind,.slice va x.obj.refs.length vc,.string x.obj.data] 77)).cell? ⟨w.heap.size,0,none⟩=some (.int .i64 x.kind):=T1.out.cell 0 0 rfl rfl
 have t01:(w.alloc (.cells #[.int .i64 x.kind,.string x.name,.string x.data,.int .i64 x.obj.kind,.slice va x.obj.refs.length vc,.string x.obj.data] 77)).cell? ⟨w.heap.size,1,none⟩=some (.string x.name):=T1.out.cell 0 1 rfl rfl
 have t02:(w.alloc (.cells #[.int .i64 x.kind,.string x.name,.string x.data,.int .i64 x.obj.kind,.slice va x.obj.refs.length vc,.string x.obj.data] 77)).cell? ⟨w.heap.size,2,none⟩=some (.string x.data):=T1.out.cell 0 2 rfl rfl
 have t03:(w.alloc (.cells #[.int .i64 x.kind,.string x.name,.string x.data,.int .i64 x.obj.kind,.slice va x.obj.refs.length vc,.string x.obj.data] 77)).cell? ⟨w.heap.size,3,none⟩=some (.int .i64 x.obj.kind):=T1.out.cell 0 3 rfl rfl
 have t04:(w.alloc (.cells #[.int .i64 x.kind,.string x.name,.string x.data,.int .i64 x.obj.kind,.slice va x.obj.refs.length vc,.string x.obj.data] 77)).cell? ⟨w.heap.size,4,none⟩=some (.slice va x.obj.refs.length vc):=T1.out.cell 0 4 rfl rfl
 have t05:(w.alloc (.cells #[.int .i64 x.kind,.string x.name,.string x.data,.int .i64 x.obj.kind,.slice va x.obj.refs.length vc,.string x.obj.data] 77)).cell? ⟨w.heap.size,5,none⟩=some (.string x.obj.data):=T1.out.cell 0 5 rfl rfl
 go_enter Tryz.func83,Tryz.ntmps83
 go_wp2_with fail
 (try clear t00);(try clear t01);(try clear t02);(try clear t03);(try clear t04);(try clear t05)
 generalize (w.alloc (.cells #[.int .i64 x.kind,.string x.name,.string x.data,.int .i64 x.obj.kind,.slice va x.obj.refs.length vc,.string x.obj.data] 77))=w1 at*
 refine(jw x (.slice va x.obj.refs.length vc) _ (H.out.below T1.out.under) HR.out).mono ?_
 rintro e w2 ⟨rfl,hb2⟩
 have HB2:=zh (T1.out.under.trans (hb2.mono T1.out.under.size))
 clear hb2
 rw[<- HO.out]
 go_wp2
 (try go_ret)
 exact⟨by first|rfl|(cases ok<;>rfl),HB2.out⟩
def sO (ok:Bool)(w:World)(e:Ending)(w' : World):Prop:=(∃ k:Int,e=.returned (.int .i64 k)/\(if ok then k = -1 else 0<=k))/\Below w.heap.size w w'
theorem bP (F:Nat->Prop)(v:Value)(l:List SOp)(w:World)(h:Nt F w v l)(hr:∀ x∈l,Fe x)(hl:l.length<=140737488350000):
 Calls Tryz.prog 141 #[v,.func (.func 83) #[] #[]] w (sO (l.all D6) w):=by
 obtain⟨a,c,rfl⟩:=h.len
 obtain⟨ok,hok⟩:∃ ok,ok=l.all D6:=⟨_,rfl⟩
 rw[<- hok]
 obtain⟨R,hR⟩:∃ R,R=sO ok w:=⟨_,rfl⟩
 rw[<- hR]
 have H:=zh h;have HR:=zh hr;have HO:=zh hok;have HQ:=zh hR
 clear h hr hok hR
 go_enter Tryz.func141,Tryz.ntmps141
 go_wp2
 go_loopw [8] (fun i wr=>∃ k:Nat,k<=l.length/\i=.int .i64 k/\(∀ j (h:j<l.length),j<k->D6 l[j]=true)/\Below w.heap.size w wr) (fun i _=>l.length-(intOf i).toNat)
 case atStart=>exact⟨0,by omega,rfl,fun j _ h=>by omega,Below.refl _ _⟩
 case round=>
  obtain⟨k,hk,rfl,hall,hb⟩:=hrel
  have HA:=zh hall;have HB:=zh hb;clear hall hb
  by_cases hlt:k<l.length
  ·have dk:decide ((k:Int)<l.length)=true:=by simp;omega
   obtain⟨b,o,u,ha,hbl,e0,e1,e2,e3,e4,e5,hu⟩:=Nt.cells (H.out.below HB.out) hlt
   subst ha
   obtain⟨x,hx⟩:∃ x,x=l[k]:=⟨_,rfl⟩
   have hrx:=HR.out l[k] (List.getElem_mem hlt)
   rw[<- hx] at e0 e1 e2 e3 e5 hu hrx
   obtain⟨ua,uc,rfl⟩:=hu.len
   have HU:=zh hu;have HX:=zh hx;have HRX:=zh hrx
   clear hu hx hrx
   go_wp2_with fail
   refine(VW x (.slice ua x.obj.refs.length uc) _ HU.out.1 HRX.out).mono ?_
   rintro e w2 ⟨rfl,hb2⟩
   have HB2:=zh (HB.out.trans (hb2.mono HB.out.size))
   clear hb2 e0 e1 e2 e3 e4 e5
   cases hc:D6 x with
   | true =>
     have xB:∀ j (h:j<l.length),j<k+1->D6 l[j]=true:=fun j h hj=>by
      by_cases e:j=k
      ·subst e;rw[<- HX.out];exact hc
      ·exact HA.out j h (by omega)
     have HA2:=zh xB
     clear xB hc
     go_wp2
     exact⟨⟨k+1,by omega,by go_num,HA2.out,HB2.out⟩,by simp[intOf];omega⟩
   | false =>
     have hf:ok=false:=by
      rw[HO.out,List.all_eq_false]
      exact⟨l[k],List.getElem_mem hlt,by rw[<- HX.out,hc];decide⟩
     have HF:=zh hf
     clear hf hc
     go_wp2
     (try go_ret)
     rw[HQ.out]
     refine⟨⟨k,rfl,?_⟩,HB2.out⟩
     rw[HF.out]
     show(0:Int)<=k
     omega
  ·have dk:decide ((k:Int)<l.length)=false:=by simp;omega
   have hf:ok=true:=by
    rw[HO.out,List.all_eq_true]
    intro x hx
    obtain⟨j,hj,rfl⟩:=List.getElem_of_mem hx
    exact HA.out j hj (by omega)
   have HF:=zh hf
   clear hf
   go_wp2
   (try go_ret)
   rw[HQ.out]
   refine⟨⟨-1,rfl,?_⟩,HB.out⟩
   rw[HF.out]
   rfl
theorem YH (F:Nat->Prop)(v:Value)(l:List SOp)(w:World)(h:Nt F w v l)(hr:∀ x∈l,Fe x)(hl:l.length<=140737488350000):
 Calls Tryz.prog 82 #[v,.func (.func 83) #[] #[]] w fun e w' => e=.returned (.bool (!l.all D6))/\Below w.heap.size w w':=by
 have hi:=fun w=>bP F v l w
 obtain⟨ok,hok⟩:∃ ok,ok=l.all D6:=⟨_,rfl⟩
 rw[<- hok] at hi ⊢
 have H:=zh h;have HR:=zh hr;have HI:=zh hi
 clear h hr hok hi
 go_enter Tryz.func82,Tryz.ntmps82
 go_wp2_with fail
 refine(HI.out _ H.out HR.out hl).mono ?_
 rintro e w2 ⟨⟨k,rfl,hk⟩,hb2⟩
 have HB2:=zh hb2;clear hb2
 cases ok with
 | true =>
   have hk:k = -1:=hk
   subst hk
   go_wp2
   (try go_ret)
   exact⟨rfl,HB2.out⟩
 | false =>
   have hk:0<=k:=hk
   have dk:decide ((0:Int)<=k)=true:=decide_eq_true hk
   go_wp2
   (try go_ret)
   exact⟨rfl,HB2.out⟩
end Sto
end
end Go.Proofs.YtdiiafgoccakkaaGreatDoor
