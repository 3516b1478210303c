/- Regions in which operations that make memory stand in no fixed order beside calls: one walk stands for all orders. -/
import Derived.Test.YtjlmglgmcekmhaaGreatDoorShkC5
set_option linter.unusedVariables false
set_option linter.unusedSimpArgs false
set_option maxRecDepth 100000
set_option maxHeartbeats 8000000
namespace Go.Proofs.YtjlmglgmcekmhaaGreatDoor
section
open Go Go.RowKit Go.Maps
namespace Lex
section
variable {P:Program} {ops:Array Oper} {Q:Exit->Act->World->Prop}
abbrev Grown (w w' : World):Prop:=Below w.heap.size w w'
structure Kept (lo:Nat) (w1 w' : World):Prop where
 size:w1.heap.size<=w'.heap.size
 block:∀ b,lo<=b->b<w1.heap.size->w'.heap[b]? = w1.heap[b]?
theorem Kept.refl (lo:Nat)(w:World):Kept lo w w:=⟨Nat.le_refl _,fun _ _ _=>rfl⟩
theorem Kept.of_below {lo:Nat}{w w' : World}(h:Below w.heap.size w w'):Kept lo w w':=⟨h.size,fun b _ hb=>h.block b hb⟩
theorem Kept.grown {lo:Nat}{w1 w w' : World}(h:Kept lo w1 w)(hg:Grown w w'):Kept lo w1 w' :=
 ⟨Nat.le_trans h.size hg.size,fun b h1 h2=>(hg.block b (Nat.lt_of_lt_of_le h2 h.size)).trans (h.block b h1 h2)⟩
theorem Kept.kept {lo st:Nat}{w1 w w' : World}(h:Kept lo w1 w)(hs:st<=lo)(hg:Kept st w w'):Kept lo w1 w' :=
 ⟨Nat.le_trans h.size hg.size,fun b h1 h2=>(hg.block b (Nat.le_trans hs h1) (Nat.lt_of_lt_of_le h2 h.size)).trans (h.block b h1 h2)⟩
theorem Kept.at_ {w w' : World}{cs:Array Value}{t:TypeId}(h:Kept w.heap.size (w.alloc (.cells cs t)) w'):At w' w.heap.size t cs:=by
 have:=At.new w t cs
 unfold At at this ⊢
 rw[h.block _ (Nat.le_refl _) (by simp),this]
def Off (iv:List (Nat × Nat))(lo hi:Nat):Prop:=∀ x∈iv,hi<=x.1\/x.2<=lo
def Bd (st:Nat)(iv:List (Nat × Nat))(w:World):Prop:=st<=w.heap.size/\∀ x∈iv,x.2<=w.heap.size
theorem Dx {w w' : World}(h:Grown w w'):More w w':=fun i o hi=>by
 rw[h.block i (Array.getElem?_eq_some_iff.1 hi).1]
 exact hi
theorem Makes.below {α : Type}{s:Sem α}{w w' : World}{a : α}(h:Makes P s)(hr:s.run P w=.ok a w'):Below w.heap.size w w':=by
 induction s generalizing w w' with
 | pure x =>
   simp only[Sem.run,Result.ok.injEq] at hr
   obtain⟨rfl,rfl⟩:=hr
   exact Below.refl _ _
 | program k ih=>exact ih P h hr
 | mark m k ih=>exact ih h hr
 | halt h0=>simp[Sem.run] at hr
 | load m ad k ih =>
   simp only[Sem.run] at hr
   split at hr
   ·exact ih _ (h _) hr
   ·split at hr
    ·exact ih _ (h _) hr
    ·simp at hr
 | getObj r k ih =>
   simp only[Sem.run] at hr
   split at hr
   ·simp at hr
   ·exact ih _ (h _) hr
   ·simp at hr
 | new o k ih =>
   simp only[Sem.run] at hr
   have h1:Below w.heap.size w { w with heap:=w.heap.push o } :=⟨rfl,rfl,rfl,by simp,fun k hk=>by
    show(w.heap.push o)[k]? = _
    rw[Array.getElem?_push]
    simp[Nat.ne_of_lt hk]⟩
   exact h1.trans ((ih _ (h _) hr).mono h1.size)
 | store m ad v k ih=>exact h.elim
 | shape r k ih=>exact h.elim
 | freeze ad n k ih=>exact h.elim
 | frozen ad k ih=>exact h.elim
 | setObj r o k ih=>exact h.elim
 | choose q k ih =>
   simp only[Sem.run] at hr
   split at hr
   ·exact((h _).run hr).elim
   ·exact((h _).run hr).elim
 | sys c k ih=>exact h.elim
theorem Ow {s:Sem Value}(h:Makes P s){n:Next}{w w' : World}(hr:(s >>= fun x=>pure (.value x):Sem Next).run P w=.ok n w'):Below w.heap.size w w':=by
 obtain⟨v,rfl,hv⟩:=Mg hr
 exact h.below hv
theorem mP {o:Oper}{ρ : Operand->Value}(hk:kind P o=2){n:Next}{w w' : World}(hr:(execOp ρ o).run P w=.ok n w'):Below w.heap.size w w':=by
 obtain⟨dst,op,type,pos,after,guard⟩:=o
 cases op<;>simp only[kind] at hk<;>try (exact absurd hk (by decide))
 case alloc t=>exact Ow (OQ _) hr
 case box t x=>exact Ow (Ur _ _) hr
 case buildSlice t n ps=>exact Ow (Hz _ _ _) hr
 all_goals (split at hk<;>cases hk)
theorem Yl.WK {o:Oper}{a:Act}{w w' : World}{v:Value}(h:Yl P ops o a w v w')(hk:kind P o=2):Below w.heap.size w w':=by
 rcases h with ⟨_,hr⟩|⟨_,_,rfl⟩
 ·exact mP hk hr
 ·exact Below.refl _ _
theorem Sr {a a' : Act}{k:Nat}{o:Oper}(hk:ops[k]? = some o)(hkd:kind P o=0)(hg:Gc P ops a' = true)(hsame:needs o=true->∀ t,t∈o.looksAt ops->a'.tmps[t]? = a.tmps[t]?):
 Region.wanted o (yielded ops a.tmps)=true->Quiet P (execOp a.eval o):=by
 intro hw
 refine quiet_of hkd ?_
 cases hn:needs o with
 | false=>exact NH hn _
 | true =>
   replace hsame:=hsame hn
   have hg1:=Array.all_eq_true_iff_forall_mem.1 hg o (Array.mem_of_getElem? hk)
   have hev:∀ x∈o.op.operands,a'.eval x=a.eval x:=fun x hx=>Ia fun t e=>hsame t (by
    subst e
    exact List.mem_append_left _ (List.mem_filterMap.2 ⟨.tmp t,by simpa using hx,rfl⟩))
   have hwn:Region.wanted o (yielded ops a'.tmps)=Region.wanted o (yielded ops a.tmps):=by
    unfold Region.wanted
    cases hgd:o.guard with
    | none=>rfl
    | some gw =>
      obtain⟨g,want⟩:=gw
      have:yielded ops a'.tmps g=yielded ops a.tmps g:=by
       unfold yielded
       cases hd:(ops[g]?).bind (·.dst) with
       | none=>rfl
       | some t =>
         have:=hsame t (by simp[Oper.looksAt,hgd,hd])
         simp[this]
      simp only[this]
   rw[hkd,hwn,hw] at hg1
   simp at hg1
   rw[<- Lh o hev]
   exact hg1
theorem eP {B:Nat->Prop}{w0:World}{fl:List Nat}{a a' : Act}{k:Nat}{o:Oper}(hk:ops[k]? = some o)(hkd:kind P o=1)(hm:k∈fl)(hin:allIn B w0 ops a' fl)
 (hsame:∀ t,t∈o.looksAt ops->a'.tmps[t]? = a.tmps[t]?):Region.wanted o (yielded ops a.tmps)=true->Vz P (Same B w0) (execOp a.eval o):=by
 intro hw
 have hev:∀ x∈o.op.operands,a'.eval x=a.eval x:=fun x hx=>Ia fun t e=>hsame t (by
  subst e
  exact List.mem_append_left _ (List.mem_filterMap.2 ⟨.tmp t,by simpa using hx,rfl⟩))
 have hwn:Region.wanted o (yielded ops a'.tmps)=Region.wanted o (yielded ops a.tmps):=by
  unfold Region.wanted
  cases hgd:o.guard with
  | none=>rfl
  | some gw =>
    obtain⟨g,want⟩:=gw
    have:yielded ops a'.tmps g=yielded ops a.tmps g:=by
     unfold yielded
     cases hd:(ops[g]?).bind (·.dst) with
     | none=>rfl
     | some t =>
       have:=hsame t (by simp[Oper.looksAt,hgd,hd])
       simp[this]
    simp only[this]
 have h1:=QD hin k hm o hk (by rw[hwn];exact hw)
 refine dh hkd ?_
 obtain⟨dst,op,type,pos,after,guard⟩:=o
 cases op<;>simp only[inB] at h1 ⊢
 case load t x=>rw[<- hev x (by simp[Op.operands])];exact h1
/-! ### The walk -/
def plain (P:Program)(ops:Array Oper)(i:Nat):Bool:=match ops[i]? with|some o=>kind P o==0 || kind P o==1|none=>false
def wpG (P:Program)(ops:Array Oper)(Q:Exit->Act->World->Prop)(S:World->Prop)(m:Nat)(fa:List Nat)(st:Nat):List Nat->List (Nat × Nat)->World->Act->World->Prop
 | [],_,wr,a,w=>w=wr/\Q .normal a w
 | i :: l,iv,wr,a,w =>
   if (i::l).any (fun x=>fa.contains x)=false then w=wr/\wpS P ops Q S m (i::l) a w
   else if fa.contains i=true then w=wr/\∀ w0,st<=w0.heap.size->wpOp P ops Q i (fun a1 w1=>∀ w',Grown w w' -> Kept w0.heap.size w1 w' -> Off iv w0.heap.size w1.heap.size->wpG P ops Q S m fa st l ((w0.heap.size,w1.heap.size)::iv) w' a1 w') a w0
   else if plain P ops i=true then wpOp P ops Q i (fun a1 w1=>wpG P ops Q S m fa st l iv wr a1 w1) a w
   else w=wr/\∀ w',Grown w w' -> wpOp P ops Q i (fun a1 w1=>S w1/\Kept st w' w1/\wpG P ops Q S m fa st l ((w'.heap.size,w1.heap.size)::iv) w1 a1 w1) a w'
section
variable {S:World->Prop} {m:Nat} {fa:List Nat} {st:Nat} {i:Nat} {l:List Nat} {iv:List (Nat × Nat)} {wr w:World} {a:Act}
theorem CO (h:l.any (fun x=>fa.contains x)=false):wpG P ops Q S m fa st l iv wr a w↔w=wr/\wpS P ops Q S m l a w:=by
 cases l with
 | nil=>exact Iff.rfl
 | cons i l=>unfold wpG;rw[if_pos h]
theorem FI (h:fa.contains i=true):wpG P ops Q S m fa st (i::l) iv wr a w↔w=wr/\∀ w0,st<=w0.heap.size->wpOp P ops Q i (fun a1 w1=>∀ w',Grown w w' -> Kept w0.heap.size w1 w' -> Off iv w0.heap.size w1.heap.size->wpG P ops Q S m fa st l ((w0.heap.size,w1.heap.size)::iv) w' a1 w') a w0:=by
 conv=>lhs;unfold wpG
 rw[if_neg (by simp only[List.any_cons,h,Bool.true_or];decide),if_pos h]
theorem Gl (h0:(i::l).any (fun x=>fa.contains x)=true)(h1:fa.contains i=false)(h:plain P ops i=true):wpG P ops Q S m fa st (i::l) iv wr a w↔wpOp P ops Q i (fun a1 w1=>wpG P ops Q S m fa st l iv wr a1 w1) a w:=by
 conv=>lhs;unfold wpG
 rw[if_neg (by rw[h0];decide),if_neg (by rw[h1];decide),if_pos h]
theorem DT (h0:(i::l).any (fun x=>fa.contains x)=true)(h1:fa.contains i=false)(h:plain P ops i=false):wpG P ops Q S m fa st (i::l) iv wr a w↔w=wr/\∀ w',Grown w w' -> wpOp P ops Q i (fun a1 w1=>S w1/\Kept st w' w1/\wpG P ops Q S m fa st l ((w'.heap.size,w1.heap.size)::iv) w1 a1 w1) a w':=by
 conv=>lhs;unfold wpG
 rw[if_neg (by rw[h0];decide),if_neg (by rw[h1];decide),if_neg (by rw[h];decide)]
end
theorem Sv {S:World->Prop}{m:Nat}{fa:List Nat}{st:Nat} : ∀ (l:List Nat) (iv iv2:List (Nat × Nat)) (wr:World) (a:Act) (w:World),(∀ x∈iv,x∈iv2)->wpG P ops Q S m fa st l iv wr a w->wpG P ops Q S m fa st l iv2 wr a w
 | [],_,_,_,_,_,_,h=>h
 | i :: l,iv,iv2,wr,a,w,hs,h => by
   cases h0:(i::l).any (fun x=>fa.contains x) with
   | false=>rw[CO h0] at h ⊢;exact h
   | true =>
     cases h1:fa.contains i with
     | true =>
       rw[FI h1] at h ⊢
       refine⟨h.1,fun w0 hw0=>wpOp_mono (fun a1 w1 hh w' hg hk ho=>?_) (h.2 w0 hw0)⟩
       exact Sv l _ _ _ _ _ (fun x hx=>by
        rcases List.mem_cons.1 hx with rfl|hx
        ·exact List.mem_cons_self
        ·exact List.mem_cons_of_mem _ (hs x hx)) (hh w' hg hk fun x hx=>ho x (hs x hx))
     | false =>
       cases h2:plain P ops i with
       | true =>
         rw[Gl h0 h1 h2] at h ⊢
         exact wpOp_mono (fun a1 w1 hh=>Sv l _ _ _ _ _ hs hh) h
       | false =>
         rw[DT h0 h1 h2] at h ⊢
         refine⟨h.1,fun w' hg=>wpOp_mono (fun a1 w1 hh=>⟨hh.1,hh.2.1,?_⟩) (h.2 w' hg)⟩
         exact Sv l _ _ _ _ _ (fun x hx=>by
          rcases List.mem_cons.1 hx with rfl|hx
          ·exact List.mem_cons_self
          ·exact List.mem_cons_of_mem _ (hs x hx)) hh.2.2
/-! ### The condition -/
def Cz (P:Program)(ops:Array Oper)(fl fa:List Nat)(a b:Nat):Bool:=
 match ops[a]?,ops[b]? with
 | some oa,some ob => oa.apart ops ob && (if fa.contains b then true else if fa.contains a then kind P ob == 0 || (kind P ob == 1 && fl.contains b)
    else kind P ob==0 || kind P oa==0 || (kind P oa==1&&kind P ob==1) || (kind P oa==1&&fl.contains a) || (kind P ob==1&&fl.contains b))
 | _,_=>false
def WL (P:Program)(ops:Array Oper)(fl fa:List Nat)(m:Nat):Bool:=
 Region.noSelect ops&&
 I9 ops (fun a b=>decide (b<m)&&Cz P ops fl fa a b) ops.size ops.size 0 0&&
 ((List.range ops.size).all fun k => match ops[k]? with
   | some o => !needs o || (List.range ops.size).all fun i=>decide (i<k) || (match ops[i]? with|some o' => (match o'.dst with|some t => !(o.looksAt ops).contains t|none=>true)|none=>true)
   | none=>true)&&
 (fl.all fun k => match ops[k]? with
   | some o=>(List.range ops.size).all fun i=>decide (i<k) || (match ops[i]? with|some o' => (match o'.dst with|some t => !(o.looksAt ops).contains t|none=>true)|none=>true)
   | none=>true)&&
 (fa.all fun k=>decide (k<m)&&match ops[k]? with|some o=>kind P o==2|none=>false)
structure OkF (P:Program) (ops:Array Oper) (fl fa:List Nat) (m:Nat):Prop where
 sel:∀ (j:Nat) (o:Oper) (cs:Array SelectCase) (b:Bool),ops[j]? = some o->o.op≠.select cs b
 top:∀ (b:Nat) (ob:Oper),ops[b]? = some ob->∀ e∈ob.after,Region.binds .any e=true->e.on<b
 pair:∀ b a,b<ops.size->a<b->waits ops ops.size b a=true\/(b<m/\Cz P ops fl fa a b=true)
 keep:∀ (k:Nat) (o:Oper),ops[k]? = some o->needs o=true\/k∈fl->∀ i,k<=i->∀ (o' : Oper),ops[i]? = some o' -> ∀ t,o'.dst=some t->t ∉ o.looksAt ops
 float:∀ k,fa.contains k=true->k<m/\∀ o,ops[k]? = some o->kind P o=2
theorem Py {fl fa:List Nat}{m:Nat}(h:WL P ops fl fa m=true):OkF P ops fl fa m:=by
 simp only[WL,Bool.and_eq_true,List.all_eq_true,List.mem_range] at h
 obtain⟨⟨⟨⟨h1,h2⟩,h3⟩,h4⟩,h5⟩:=h
 refine⟨fun j o cs b hj=>Region.noSelect_spec h1 j o cs b hj,fun b ob hb e he hbi=>?_,fun b a hb ha=>?_,fun k o hk hn i hki o' hi t ht=>?_,fun k hk=>?_⟩
 ·exact(BN h2 hb).1 e he hbi
 ·have:=(BN h2 (Array.getElem?_eq_getElem hb)).2 a ha
  simpa using this
 ·have hkl:k<ops.size:=(Array.getElem?_eq_some_iff.1 hk).1
  have hil:i<ops.size:=(Array.getElem?_eq_some_iff.1 hi).1
  have key:((List.range ops.size).all fun i=>decide (i<k) || (match ops[i]? with|some o' => (match o'.dst with|some t => !(o.looksAt ops).contains t|none=>true)|none=>true))=true:=by
   rcases hn with hn|hn
   ·have:=h3 k hkl
    rw[hk] at this
    simpa [hn] using this
   ·have:=h4 k hn
    rw[hk] at this
    exact this
  simp only[List.all_eq_true,List.mem_range] at key
  have:=key i hil
  rw[hi] at this
  simp only[ht,Bool.or_eq_true,decide_eq_true_eq] at this
  rcases this with this|this
  ·omega
  ·simpa using this
 ·have hm:k∈fa:=by simpa using hk
  obtain⟨q1,q2⟩:=h5 k hm
  refine⟨by simpa using q1,fun o ho=>?_⟩
  rw[ho] at q2
  simpa using q2
theorem OkF.apart {fl fa:List Nat}{a b:Nat}{oa ob:Oper}(h:Cz P ops fl fa a b=true)(ha:ops[a]? = some oa)(hb:ops[b]? = some ob):oa.apart ops ob=true:=by
 simp only[Cz,ha,hb,Bool.and_eq_true] at h
 exact h.1
/-! ### The walk comes to an end -/
section
variable {B:Nat->Prop} {wS:World} {fl fa:List Nat} {m st:Nat}
theorem YX {α : Type}{x a b : α}{l:List α}(h:x∈a::b::l):x∈b::a::l:=by
 rcases List.mem_cons.1 h with rfl|h
 ·exact List.mem_cons_of_mem _ List.mem_cons_self
 ·rcases List.mem_cons.1 h with rfl|h
  ·exact List.mem_cons_self
  ·exact List.mem_cons_of_mem _ (List.mem_cons_of_mem _ h)
theorem Ox {i:Nat}{l:List Nat}{o:Oper}(hi:ops[i]? = some o){a a1 a' : Act}(hR:Rch a o.dst a1)(ht:∀ t,(∀ j∈l,∀ o,ops[j]? = some o->o.dst≠some t)->a'.tmps[t]? = a1.tmps[t]?):
 ∀ t,(∀ j∈i::l,∀ o,ops[j]? = some o->o.dst≠some t)->a'.tmps[t]? = a.tmps[t]? :=fun t hn=>by
 obtain⟨v,ds,rfl⟩:=hR
 rw[ht t fun j hj o ho=>hn j (by simp[hj]) o ho]
 have:=hn i (by simp) _ hi
 cases hd:o.dst with
 | none=>rfl
 | some d =>
   have hne:d≠t:=fun e=>this (by rw[hd,e])
   simp[Act.put,Array.getElem?_setIfInBounds_ne hne]
theorem Bd.push {st:Nat}{iv:List (Nat × Nat)}{w w1:World}{lo:Nat}(h:Bd st iv w)(h1:w.heap.size<=w1.heap.size):Bd st ((lo,w1.heap.size)::iv) w1:=
 ⟨Nat.le_trans h.1 h1,fun x hx => by
   rcases List.mem_cons.1 hx with rfl|hx
   ·exact Nat.le_refl _
   ·exact Nat.le_trans (h.2 x hx) h1⟩
theorem Bd.off {st:Nat}{iv:List (Nat × Nat)}{w:World}{hi:Nat}(h:Bd st iv w):Off iv w.heap.size hi:=fun x hx=>.inr (h.2 x hx)
theorem Nq (hA:OkF P ops fl fa m):∀ (l:List Nat) (iv:List (Nat × Nat)) (wr:World) (a:Act) (w:World),(∀ i∈l,i<ops.size)->(l.any (fun x=>fa.contains x)=true->Bd st iv wr)->wpG P ops (Ab P ops B wS fl Q) (Same B wS) m fa st l iv wr a w->
 ∃ a',(Gc P ops a' = true/\allIn B wS ops a' fl)/\∀ t,(∀ i∈l,∀ o,ops[i]? = some o->o.dst≠some t)->a'.tmps[t]? = a.tmps[t]?
 | [],iv,wr,a,w,_,_,h=>⟨a,⟨h.2.2.1,h.2.2.2.1⟩,fun _ _=>rfl⟩
 | i :: l,iv,wr,a,w,hl,hb,h => by
   have hQ:CS (Ab P ops B wS fl Q):=Ab.Bb
   obtain⟨o,hi⟩:∃ o,ops[i]? = some o:=⟨_,Array.getElem?_eq_getElem (hl i (by simp))⟩
   cases h0:(i::l).any (fun x=>fa.contains x) with
   | false =>
     obtain⟨rfl,h'⟩:=(CO h0).1 h
     have h2:=Cb (fun e a w he=>Bu he) _ _ _ (GV _ _ _ h')
     obtain⟨a',w',⟨_,hg,hin,_⟩,ht⟩:=fin (Q:=fun _ a w=>allIn B wS ops a fl/\Q .normal a w) (i::l) a w hl h2
     exact⟨a',⟨hg,hin⟩,ht⟩
   | true =>
     have hbd:=hb h0
     cases h1:fa.contains i with
     | true =>
       obtain⟨rfl,h'⟩:=(FI h1).1 h
       have hkd:=(hA.float i h1).2 o hi
       obtain⟨v,w1,hy,hK⟩:=Dn hQ hi (fun _=>Gb hkd) (h' w hbd.1)
       have hb2:=hy.WK hkd
       obtain⟨a',he,ht⟩:=Nq hA l _ w1 _ w1 (fun j hj=>hl j (by simp[hj])) (fun _=>hbd.push hb2.size) (hK w1 hb2 (Kept.refl _ _) hbd.off)
       exact⟨a',he,Ox hi (Rch.Gu a o.dst v) ht⟩
     | false =>
       cases h2:plain P ops i with
       | true =>
         obtain⟨a1,w1,hR,hK⟩:=EO hQ hi ((Gl h0 h1 h2).1 h)
         obtain⟨a',he,ht⟩:=Nq hA l iv wr a1 w1 (fun j hj=>hl j (by simp[hj])) (fun _=>hbd) hK
         exact⟨a',he,Ox hi hR ht⟩
       | false =>
         obtain⟨rfl,h'⟩:=(DT h0 h1 h2).1 h
         obtain⟨a1,w1,hR,_,hk,hK⟩:=EO hQ hi (h' w (Below.refl _ _))
         obtain⟨a',he,ht⟩:=Nq hA l _ w1 a1 w1 (fun j hj=>hl j (by simp[hj])) (fun _=>hbd.push hk.size) hK
         exact⟨a',he,Ox hi hR ht⟩
theorem Jc (hA:OkF P ops fl fa m){i:Nat}{oi:Oper}(hi:ops[i]? = some oi)(hif:fa.contains i=true){rest:List Nat} : ∀ (ks:List Nat) (iv:List (Nat × Nat)) (wr:World) (a:Act) (w:World),(∀ x∈ks++i::rest,x<ops.size)->(∀ k∈ks,Cz P ops fl fa k i=true)->Bd st iv wr->
 wpG P ops (Ab P ops B wS fl Q) (Same B wS) m fa st (ks++i::rest) iv wr a w->∀ wq,st<=wq.heap.size->∃ v w1,Yl P ops oi a wq v w1
 | [],iv,wr,a,w,hl,hp,hbd,h => fun wq hwq => by
   obtain⟨rfl,h'⟩:=(FI hif).1 h
   obtain⟨v,w1,hy,_⟩:=Dn (Ab.Bb) hi (fun _=>Gb ((hA.float i hif).2 oi hi)) (h' wq hwq)
   exact⟨v,w1,hy⟩
 | k :: ks,iv,wr,a,w,hl,hp,hbd,h => fun wq hwq => by
   have hQ:CS (Ab P ops B wS fl Q):=Ab.Bb
   obtain⟨ok,hk⟩:∃ o,ops[k]? = some o:=⟨_,Array.getElem?_eq_getElem (hl k (by simp))⟩
   have hap:=Oper.apart_spec (OkF.apart (hp k (by simp)) hk hi)
   have hsel:∀ cs b,oi.op≠.select cs b:=fun cs b=>hA.sel i oi cs b hi
   have h0:(k::(ks++i::rest)).any (fun x=>fa.contains x)=true:=by
    simp only[List.any_cons,List.any_append,hif,Bool.true_or,Bool.or_true]
   have back:∀ a1,Rch a ok.dst a1->(∃ v w1,Yl P ops oi a1 wq v w1)->∃ v w1,Yl P ops oi a wq v w1:=fun a1 hR ⟨v,w1,hy⟩=>by
    have he:=hR.exec (o:=oi) (ops:=ops) hsel hap.1
    exact⟨v,w1,hy.same ⟨he.1.symm,he.2.symm⟩⟩
   have hl' : ∀ x∈ks++i::rest,x<ops.size:=fun x hx=>hl x (by simp at hx ⊢;right;exact hx)
   have hp' : ∀ x∈ks,Cz P ops fl fa x i=true:=fun x hx=>hp x (by simp[hx])
   have h:wpG P ops (Ab P ops B wS fl Q) (Same B wS) m fa st (k::(ks++i::rest)) iv wr a w:=h
   cases h1:fa.contains k with
   | true =>
     obtain⟨rfl,h'⟩:=(FI h1).1 h
     have hkd:=(hA.float k h1).2 ok hk
     obtain⟨v,w1,hy,hK⟩:=Dn hQ hk (fun _=>Gb hkd) (h' w hbd.1)
     have hb2:=hy.WK hkd
     exact back _ (Rch.Gu a ok.dst v) (Jc hA hi hif ks _ w1 _ w1 hl' hp' (hbd.push hb2.size) (hK w1 hb2 (Kept.refl _ _) hbd.off) wq hwq)
   | false =>
     cases h2:plain P ops k with
     | true =>
       obtain⟨a1,w1,hR,hK⟩:=EO hQ hk ((Gl h0 h1 h2).1 h)
       exact back _ hR (Jc hA hi hif ks iv wr a1 w1 hl' hp' hbd hK wq hwq)
     | false =>
       obtain⟨rfl,h'⟩:=(DT h0 h1 h2).1 h
       obtain⟨a1,w1,hR,_,hkp,hK⟩:=EO hQ hk (h' w (Below.refl _ _))
       exact back _ hR (Jc hA hi hif ks _ w1 a1 w1 hl' hp' (hbd.push hkp.size) hK wq hwq)
/-! ### Steps -/
theorem GL (hA:OkF P ops fl fa m){k:Nat}{ok:Oper}{L:List Nat}{iv:List (Nat × Nat)}{a:Act}{w:World}(hk:ops[k]? = some ok)(hkp:plain P ops k=true)(hkf:fa.contains k=false)(hl:∀ x∈k::L,x<ops.size)(hs:(k::L).Pairwise (· < ·))
 (hS:Same B wS w) (hb:(k::L).any (fun x=>fa.contains x)=true->Bd st iv w) (h:wpG P ops (Ab P ops B wS fl Q) (Same B wS) m fa st (k::L) iv w a w):
 (∃ v,Yl P ops ok a w v w/\(∀ w2,More w w2->Yl P ops ok a w2 v w2)/\(kind P ok=0\/k∈fl->∀ w2,Same B wS w2->Yl P ops ok a w2 v w2)/\wpG P ops (Ab P ops B wS fl Q) (Same B wS) m fa st L iv w (a.put ok.dst v) w):=by
 obtain⟨a',⟨hg,hin⟩,ht⟩:=Nq hA (k::L) iv w a w hl hb h
 have hsame:needs ok=true\/k∈fl->∀ t,t∈ok.looksAt ops->a'.tmps[t]? = a.tmps[t]? :=fun hn t hm=>ht t fun j hj o' ho' e=>hA.keep k ok hk hn j (by
  rcases List.mem_cons.1 hj with h|h
  ·omega
  ·have:=(List.pairwise_cons.1 hs).1 j h;omega) o' ho' t e hm
 have hkd:kind P ok=0\/kind P ok=1:=by simpa [plain,hk] using hkp
 have hq0:kind P ok=0->Region.wanted ok (yielded ops a.tmps)=true->Quiet P (execOp a.eval ok):=fun h0=>Sr hk h0 hg (fun hn=>hsame (.inl hn))
 have hre:Region.wanted ok (yielded ops a.tmps)=true->Reads P (execOp a.eval ok):=fun hw=>by
  rcases hkd with h0|h1
  ·intro n w w' hr
   obtain⟨q1,q2,q3⟩:=hq0 h0 hw n w w' hr
   exact⟨q1,q2,fun w2 _=>q3 w2⟩
  ·exact Cu h1
 have hcore:∃ v w',Yl P ops ok a w v w' /\ (∀ w'',w'' = w->w' = w'' -> wpG P ops (Ab P ops B wS fl Q) (Same B wS) m fa st L iv w (a.put ok.dst v) w''):=by
  cases h0:(k::L).any (fun x=>fa.contains x) with
  | false =>
    have hL:L.any (fun x=>fa.contains x)=false:=by
     simp only[List.any_cons,Bool.or_eq_false_iff] at h0
     exact h0.2
    obtain⟨_,h⟩:=(CO h0).1 h
    obtain⟨v,w',hy,hK⟩:=Dn Ab.Bb hk (fun hw=>(hre hw).news) (show wpOp P ops _ k (fun a' w' => (k<m->Same B wS w')/\wpS P ops (Ab P ops B wS fl Q) (Same B wS) m L a' w') a w from h)
    refine⟨v,w',hy,fun w'' e1 e2=>(CO hL).2 ⟨e1,?_⟩⟩
    rw[<- e2]
    exact hK.2
  | true =>
    obtain⟨v,w',hy,hK⟩:=Dn Ab.Bb hk (fun hw=>(hre hw).news) ((Gl h0 hkf hkp).1 h)
    exact⟨v,w',hy,fun w'' _ e2=>by rw[<- e2];exact hK⟩
 obtain⟨v,w',hy,hK⟩:=hcore
 obtain⟨rfl,hm⟩:=hy.reads hre
 refine⟨v,hy,hm,fun hc=>?_,hK _ rfl rfl⟩
 have hf:Region.wanted ok (yielded ops a.tmps)=true->Vz P (Same B wS) (execOp a.eval ok):=by
  rcases hc with hc|hc
  ·exact fun hw=>(hq0 hc hw).Ky
  ·rcases hkd with h0|h1
   ·exact fun hw=>(hq0 h0 hw).Ky
   ·exact eP hk h1 hc hin (hsame (.inr hc))
 exact(hy.Ky hS hf).2
theorem Ku {k:Nat}{ok:Oper}{L:List Nat}{iv:List (Nat × Nat)}{a:Act}{w:World}{v:Value}(hk:ops[k]? = some ok)(hkp:plain P ops k=true)(hkf:fa.contains k=false)(hS:Same B wS w)(hy:Yl P ops ok a w v w)
 (h:wpG P ops (Ab P ops B wS fl Q) (Same B wS) m fa st L iv w (a.put ok.dst v) w):wpG P ops (Ab P ops B wS fl Q) (Same B wS) m fa st (k::L) iv w a w:=by
 cases h0:(k::L).any (fun x=>fa.contains x) with
 | false =>
   have hL:L.any (fun x=>fa.contains x)=false:=by
    simp only[List.any_cons,Bool.or_eq_false_iff] at h0
    exact h0.2
   refine(CO h0).2 ⟨rfl,?_⟩
   show wpOp P ops _ k (fun a' w' => (k<m->Same B wS w')/\wpS P ops (Ab P ops B wS fl Q) (Same B wS) m L a' w') a w
   exact Yl.mk hk hy ⟨fun _=>hS,((CO hL).1 h).2⟩
 | true=>exact(Gl h0 hkf hkp).2 (Yl.mk hk hy h)
theorem Pz {k:Nat}{L:List Nat}{iv:List (Nat × Nat)}{a:Act}{w:World}(hkp:plain P ops k=false)(hkf:fa.contains k=false)
 (h:∀ w',Grown w w' -> wpOp P ops (Ab P ops B wS fl Q) k (fun a1 w1=>Same B wS w1/\Kept st w' w1/\wpG P ops (Ab P ops B wS fl Q) (Same B wS) m fa st L ((w'.heap.size,w1.heap.size)::iv) w1 a1 w1) a w'):
 wpG P ops (Ab P ops B wS fl Q) (Same B wS) m fa st (k::L) iv w a w:=by
 cases h0:(k::L).any (fun x=>fa.contains x) with
 | false =>
   have hL:L.any (fun x=>fa.contains x)=false:=by
    simp only[List.any_cons,Bool.or_eq_false_iff] at h0
    exact h0.2
   refine(CO h0).2 ⟨rfl,?_⟩
   show wpOp P ops _ k (fun a' w' => (k<m->Same B wS w')/\wpS P ops (Ab P ops B wS fl Q) (Same B wS) m L a' w') a w
   exact wpOp_mono (fun a1 w1 hh=>⟨fun _=>hh.1,((CO hL).1 hh.2.2).2⟩) (h w (Below.refl _ _))
 | true=>exact(DT h0 hkf hkp).2 ⟨rfl,h⟩
theorem early (hA:OkF P ops fl fa m){i:Nat}{oi:Oper}(hi:ops[i]? = some oi)(hif:fa.contains i=true){rest:List Nat}{v:Value}{w0 w1:World}(hw0:st<=w0.heap.size):∀ (ks:List Nat) (iv:List (Nat × Nat)) (a:Act) (w:World),(∀ x∈ks++i::rest,x<ops.size)->(ks++i::rest).Pairwise (· < ·)->
 (∀ k∈ks,Cz P ops fl fa k i=true)->Same B wS w->Bd st iv w->Yl P ops oi a w0 v w1->Kept w0.heap.size w1 w->Off iv w0.heap.size w1.heap.size->wpG P ops (Ab P ops B wS fl Q) (Same B wS) m fa st (ks++i::rest) iv w a w->
 wpG P ops (Ab P ops B wS fl Q) (Same B wS) m fa st (ks++rest) ((w0.heap.size,w1.heap.size)::iv) w (a.put oi.dst v) w
 | [],iv,a,w,hl,hs,hp,hS,hbd,hy,hkw,ho,h => by
   obtain⟨_,h⟩:=(FI hif).1 h
   obtain⟨v',w1',hy',hK⟩:=Dn Ab.Bb hi (fun _=>Gb ((hA.float i hif).2 oi hi)) (h w0 hw0)
   obtain⟨rfl,rfl⟩:=hy'.det hy
   exact hK w (Below.refl _ _) hkw ho
 | k :: ks,iv,a,w,hl,hs,hp,hS,hbd,hy,hkw,ho,h => by
   obtain⟨ok,hk⟩:∃ o,ops[k]? = some o:=⟨_,Array.getElem?_eq_getElem (hl k (by simp))⟩
   have hap:=Oper.apart_spec (OkF.apart (hp k (by simp)) hk hi)
   have Hr:∀ cs b,oi.op≠.select cs b:=fun cs b=>hA.sel i oi cs b hi
   have Jl:∀ cs b,ok.op≠.select cs b:=fun cs b=>hA.sel k ok cs b hk
   have hds:∀ t,oi.dst=some t->ok.dst≠some t:=fun t ht hk' => hap.2.1 t hk' ht
   have hs':=List.pairwise_cons.1 hs
   have hl' : ∀ x∈ks++i::rest,x<ops.size:=fun x hx=>hl x (by simp at hx ⊢;right;exact hx)
   have hp' : ∀ x∈ks,Cz P ops fl fa x i=true:=fun x hx=>hp x (by simp[hx])
   have h0:(k::(ks++i::rest)).any (fun x=>fa.contains x)=true:=by
    simp only[List.any_cons,List.any_append,hif,Bool.true_or,Bool.or_true]
   have h:wpG P ops (Ab P ops B wS fl Q) (Same B wS) m fa st (k::(ks++i::rest)) iv w a w:=h
   show wpG P ops (Ab P ops B wS fl Q) (Same B wS) m fa st (k::(ks++rest)) ((w0.heap.size,w1.heap.size)::iv) w (a.put oi.dst v) w
   cases h1:fa.contains k with
   | true =>
     obtain⟨_,h⟩:=(FI h1).1 h
     refine(FI h1).2 ⟨rfl,fun wk hwk=>I8 Ab.Bb hk Jl hap.2.2 hds (h wk hwk) fun a1 w1k hR hK w' hg hkp hoff=>?_⟩
     have he:=hR.exec (o:=oi) (ops:=ops) Hr hap.1
     have hx:=hoff (w0.heap.size,w1.heap.size) List.mem_cons_self
     have h3:=early hA hi hif hw0 ks ((wk.heap.size,w1k.heap.size)::iv) a1 w' hl' hs'.2 hp' (hS.more (Dx hg))
      ⟨Nat.le_trans hbd.1 hg.size,fun x hx => by
        rcases List.mem_cons.1 hx with rfl|hx
        ·exact hkp.size
        ·exact Nat.le_trans (hbd.2 x hx) hg.size⟩
      (hy.same he) (hkw.grown hg) (fun x hx' => by
        rcases List.mem_cons.1 hx' with rfl|hx'
        ·exact hx.symm
        ·exact ho x hx') (hK w' hg hkp fun x hx=>hoff x (List.mem_cons_of_mem _ hx))
     exact Sv _ _ _ _ _ _ (fun x hx=>YX hx) h3
   | false =>
     cases h2:plain P ops k with
     | true =>
       obtain⟨vk,hyk,hmk,_,hK⟩:=GL hA hk h2 h1 hl hs hS (fun _=>hbd) h
       have he:=(Rch.Gu a ok.dst vk).exec (o:=oi) (ops:=ops) Hr hap.1
       have hek:=(Rch.Gu a oi.dst v).exec (o:=ok) (ops:=ops) Jl hap.2.2
       have h3:=early hA hi hif hw0 ks iv (a.put ok.dst vk) w hl' hs'.2 hp' hS hbd (hy.same he) hkw ho hK
       refine Ku hk h2 h1 hS (hyk.same hek) ?_
       rw[Act.put_comm a v vk hds]
       exact h3
     | false =>
       obtain⟨_,h⟩:=(DT h0 h1 h2).1 h
       refine Pz h2 h1 fun w' hg=>I8 Ab.Bb hk Jl hap.2.2 hds (h w' hg) fun a1 w1k hR hK=>?_
       obtain⟨hS1,hkp,hK⟩:=hK
       have he:=hR.exec (o:=oi) (ops:=ops) Hr hap.1
       have yQ:=hkw.grown hg
       have h3:=early hA hi hif hw0 ks ((w'.heap.size,w1k.heap.size)::iv) a1 w1k hl' hs'.2 hp' hS1
        ⟨Nat.le_trans hbd.1 (Nat.le_trans hg.size hkp.size),fun x hx => by
          rcases List.mem_cons.1 hx with rfl|hx
          ·exact Nat.le_refl _
          ·exact Nat.le_trans (hbd.2 x hx) (Nat.le_trans hg.size hkp.size)⟩
        (hy.same he) (yQ.kept hw0 hkp) (fun x hx' => by
          rcases List.mem_cons.1 hx' with rfl|hx'
          ·exact .inl yQ.size
          ·exact ho x hx') hK
       exact⟨hS1,hkp,Sv _ _ _ _ _ _ (fun x hx=>YX hx) h3⟩
theorem bH (hA:OkF P ops fl fa m){i:Nat}(him:i<m)(hif:fa.contains i=false){rest:List Nat} : ∀ (ks:List Nat) (a:Act) (w:World),(∀ k∈ks,fa.contains k=false)->Same B wS w->(∀ x∈ks++i::rest,x<ops.size)->(ks++i::rest).Pairwise (· < ·)->
 (∀ k∈ks,Cz P ops fl fa k i=true)->wpS P ops (Ab P ops B wS fl Q) (Same B wS) m (ks++i::rest) a w->wpS P ops (Ab P ops B wS fl Q) (Same B wS) m (i::(ks++rest)) a w
 | [],_,_,_,_,_,_,_,h=>h
 | k :: ks,a,w,hkf,hS,hl,hs,hp,h => by
   have hs':=List.pairwise_cons.1 hs
   have h0:=GV _ _ _ h
   have hki:k<i:=hs'.1 i (by simp)
   have h:wpOp P ops (Ab P ops B wS fl Q) k (fun a' w' => (k<m->Same B wS w')/\wpS P ops (Ab P ops B wS fl Q) (Same B wS) m (ks++i::rest) a' w') a w:=h
   have h1:wpOp P ops (Ab P ops B wS fl Q) k (fun a' w' => Same B wS w' /\ wpS P ops (Ab P ops B wS fl Q) (Same B wS) m (i::(ks++rest)) a' w') a w:=
    wpOp_mono (fun a' w' hh=>⟨hh.1 (by omega),bH hA him hif ks a' w' (fun x hx=>hkf x (by simp[hx])) (hh.1 (by omega)) (fun x hx=>hl x (by simp at hx ⊢;right;exact hx)) hs'.2 (fun x hx=>hp x (by simp[hx])) hh.2⟩) h
   have hkl:k<ops.size:=hl k (by simp)
   have hil:i<ops.size:=hl i (by simp)
   obtain⟨ok,hk⟩:∃ o,ops[k]? = some o:=⟨_,Array.getElem?_eq_getElem hkl⟩
   obtain⟨oi,hi⟩:∃ o,ops[i]? = some o:=⟨_,Array.getElem?_eq_getElem hil⟩
   have hpk:=hp k (by simp)
   simp only[Cz,hk,hi,hif,hkf k (by simp),if_false,Bool.false_eq_true,Bool.and_eq_true,Bool.or_eq_true,beq_iff_eq,List.contains_iff_mem] at hpk
   obtain⟨hap,hc⟩:=hpk
   have h2:wpOp P ops (Ab P ops B wS fl Q) k (fun a' w' => Same B wS w' /\ wpOp P ops (Ab P ops B wS fl Q) i (fun a'' w'' => Same B wS w'' /\ wpS P ops (Ab P ops B wS fl Q) (Same B wS) m (ks++rest) a'' w'') a' w') a w:=
    wpOp_mono (fun a' w' hh=>⟨hh.1,wpOp_mono (fun a'' w'' h3=>⟨h3.1 him,h3.2⟩) (show wpOp P ops _ i (fun a'' w'' => (i<m->Same B wS w'')/\wpS P ops _ (Same B wS) m (ks++rest) a'' w'') a' w' from hh.2)⟩) h1
   have Fb:∀ x∈k::ks++i::rest,∀ o',ops[x]? = some o' -> (needs oi=true\/i∈fl)->∀ t,o'.dst=some t->t ∉ oi.looksAt ops:=fun x hx o' ho' hn t ht=>by
    by_cases hxi:i<=x
    ·exact hA.keep i oi hi hn x hxi o' ho' t ht
    ·have hxm : x ∈ k :: ks :=by
      rcases List.mem_append.1 hx with h|h
      ·exact h
      ·rcases List.mem_cons.1 h with h|h
       ·omega
       ·have:=(List.pairwise_append.1 hs).2.1
        have:=(List.pairwise_cons.1 this).1 x h
        omega
     exact(Oper.apart_spec (OkF.apart (hp x hxm) ho' hi)).1 t ht
   have Fe:∀ x∈k::ks++i::rest,∀ o',ops[x]? = some o' -> (needs ok=true\/k∈fl)->∀ t,o'.dst=some t->t ∉ ok.looksAt ops:=fun x hx o' ho' hn t ht=>by
    refine hA.keep k ok hk hn x ?_ o' ho' t ht
    rcases List.mem_cons.1 hx with h|h
    ·omega
    ·have:=hs'.1 x h;omega
   have h0g:wpOps P ops (Ends P ops (fun _ a w=>allIn B wS ops a fl/\Q .normal a w)) (k::ks++i::rest) a w:=Cb (fun e a w he=>Bu he) _ _ _ h0
   have h3:=jU (S:=Same B wS) Ab.Bb hk hi hap (fun cs b=>hA.sel k ok cs b hk) (fun cs b=>hA.sel i oi cs b hi) hS ?_ h2
   ·show wpOp P ops _ i (fun a' w' => (i<m->Same B wS w')/\wpS P ops _ (Same B wS) m (k::(ks++rest)) a' w') a w
    refine wpOp_mono (fun a' w' hh=>⟨fun _=>hh.1,?_⟩) h3
    show wpOp P ops _ k (fun a'' w'' => (k<m->Same B wS w'')/\wpS P ops _ (Same B wS) m (ks++rest) a'' w'') a' w'
    exact wpOp_mono (fun a'' w'' h4=>⟨fun _=>h4.1,h4.2⟩) hh.2
   ·rcases hc with (((hc|hc)|⟨hc1,hc2⟩)|⟨hc,hm⟩)|⟨hc,hm⟩
    ·have hq:=BL (l:=k::ks++i::rest) hl h0g hi hc fun hn x hx o' ho' t ht=>Fb x hx o' ho' (.inl hn) t ht
     exact .inl ⟨fun hw=>(hq hw).Ky,fun hw=>(hq hw).news⟩
    ·have hq:=BL (l:=k::ks++i::rest) hl h0g hk hc fun hn x hx o' ho' t ht=>Fe x hx o' ho' (.inl hn) t ht
     exact .inr (.inl ⟨fun hw=>(hq hw).Ky,fun hw=>(hq hw).news⟩)
    ·exact .inr (.inr ⟨fun _=>Cu hc1,fun _=>Cn (.inl hc2)⟩)
    ·exact .inr (.inl ⟨Ic (l:=k::ks++i::rest) hl h0 hk hc hm fun x hx o' ho' t ht=>Fe x hx o' ho' (.inr hm) t ht,fun _=>Cn (.inl hc)⟩)
    ·exact .inl ⟨Ic (l:=k::ks++i::rest) hl h0 hi hc hm fun x hx o' ho' t ht=>Fb x hx o' ho' (.inr hm) t ht,fun _=>Cn (.inl hc)⟩
theorem Ql {l:List Nat}(h:l.any (fun x=>fa.contains x)=false):∀ x∈l,fa.contains x=false:=by
 intro x hx
 have:=List.any_eq_false.1 h x hx
 simpa using this
theorem eT {l l' : List Nat}(hs:∀ x∈l',x∈l)(h:l.any (fun x=>fa.contains x)=false):l'.any (fun x=>fa.contains x)=false:=
 List.any_eq_false.2 fun x hx=>by rw[Ql h x (hs x hx)];decide
theorem Sw (hA:OkF P ops fl fa m){i:Nat}{oi:Oper}(hi:ops[i]? = some oi)(hip:plain P ops i=true)(hif:fa.contains i=false){rest:List Nat} : ∀ (ks:List Nat) (iv:List (Nat × Nat)) (a:Act) (w:World),(∀ x∈ks++i::rest,x<ops.size)->(ks++i::rest).Pairwise (· < ·)->
 (∀ k∈ks,i<m/\Cz P ops fl fa k i=true)->Same B wS w->((ks++i::rest).any (fun x=>fa.contains x)=true->Bd st iv w)->wpG P ops (Ab P ops B wS fl Q) (Same B wS) m fa st (ks++i::rest) iv w a w->
 ∃ v,Yl P ops oi a w v w/\((∀ k∈ks,plain P ops k=true)\/(∀ w2,Same B wS w2->Yl P ops oi a w2 v w2))/\wpG P ops (Ab P ops B wS fl Q) (Same B wS) m fa st (ks++rest) iv w (a.put oi.dst v) w
 | [],iv,a,w,hl,hs,hp,hS,hbd,h => by
   obtain⟨v,hy,_,_,hK⟩:=GL hA hi hip hif hl hs hS hbd h
   exact⟨v,hy,.inl (fun k hk=>by cases hk),hK⟩
 | k :: ks,iv,a,w,hl,hs,hp,hS,hbd,h => by
   obtain⟨ok,hk⟩:∃ o,ops[k]? = some o:=⟨_,Array.getElem?_eq_getElem (hl k (by simp))⟩
   obtain⟨him,hpk⟩:=hp k (by simp)
   have hap:=Oper.apart_spec (OkF.apart hpk hk hi)
   have Hr:∀ cs b,oi.op≠.select cs b:=fun cs b=>hA.sel i oi cs b hi
   have Jl:∀ cs b,ok.op≠.select cs b:=fun cs b=>hA.sel k ok cs b hk
   have hds:∀ t,oi.dst=some t->ok.dst≠some t:=fun t ht hk' => hap.2.1 t hk' ht
   have hs':=List.pairwise_cons.1 hs
   have hl' : ∀ x∈ks++i::rest,x<ops.size:=fun x hx=>hl x (by simp at hx ⊢;right;exact hx)
   have hp' : ∀ x∈ks,i<m/\Cz P ops fl fa x i=true:=fun x hx=>hp x (by simp[hx])
   have h:wpG P ops (Ab P ops B wS fl Q) (Same B wS) m fa st (k::(ks++i::rest)) iv w a w:=h
   have hbd:(k::(ks++i::rest)).any (fun x=>fa.contains x)=true->Bd st iv w:=hbd
   obtain⟨a',⟨hg,hin⟩,ht⟩:=Nq hA (k::(ks++i::rest)) iv w a w hl hbd h
   have hsame:needs oi=true\/i∈fl->∀ t,t∈oi.looksAt ops->a'.tmps[t]? = a.tmps[t]? :=fun hn t hm=>ht t fun j hj o' ho' e=>by
    by_cases hij:i<=j
    ·exact hA.keep i oi hi hn j hij o' ho' t e hm
    ·have hxm : j ∈ k :: ks :=by
      rcases List.mem_append.1 (show j∈(k::ks)++i::rest from hj) with h|h
      ·exact h
      ·rcases List.mem_cons.1 h with h|h
       ·omega
       ·have:=(List.pairwise_append.1 (show((k::ks)++i::rest).Pairwise (· < ·) from hs)).2.1
        have:=(List.pairwise_cons.1 this).1 j h
        omega
     exact(Oper.apart_spec (OkF.apart (hp j hxm).2 ho' hi)).1 t e hm
   have yR:kind P oi=0\/(kind P oi=1/\i∈fl)->Region.wanted oi (yielded ops a.tmps)=true->Vz P (Same B wS) (execOp a.eval oi):=fun hc=>by
    rcases hc with hc|⟨hc,hm⟩
    ·exact fun hw=>(Sr hi hc hg (fun hn=>hsame (.inl hn)) hw).Ky
    ·exact eP hi hc hm hin (hsame (.inr hm))
   show ∃ v,Yl P ops oi a w v w/\((∀ x∈k::ks,plain P ops x=true)\/(∀ w2,Same B wS w2->Yl P ops oi a w2 v w2))/\wpG P ops (Ab P ops B wS fl Q) (Same B wS) m fa st (k::(ks++rest)) iv w (a.put oi.dst v) w
   cases h2:plain P ops k with
   | true =>
     cases h1:fa.contains k with
     | true =>
       exfalso
       have:=(hA.float k h1).2 ok hk
       simp only[plain,hk,this] at h2
       exact absurd h2 (by decide)
     | false =>
       obtain⟨vk,hyk,hmk,hfk,hK⟩:=GL hA hk h2 h1 hl hs hS hbd h
       have he:=(Rch.Gu a ok.dst vk).exec (o:=oi) (ops:=ops) Hr hap.1
       have zaQ : (ks++i::rest).any (fun x=>fa.contains x)=true->Bd st iv w:=fun hx=>hbd (by simp only[List.any_cons,hx,Bool.or_true])
       obtain⟨v,hy,hc,h3⟩:=Sw hA hi hip hif ks iv (a.put ok.dst vk) w hl' hs'.2 hp' hS zaQ hK
       have hy':=hy.same ⟨he.1.symm,he.2.symm⟩
       have hek:=(Rch.Gu a oi.dst v).exec (o:=ok) (ops:=ops) Jl hap.2.2
       refine⟨v,hy',?_,Ku hk h2 h1 hS (hyk.same hek) (by rw[Act.put_comm a v vk hds];exact h3)⟩
       rcases hc with hc|hc
       ·exact .inl fun x hx => by
         rcases List.mem_cons.1 hx with rfl|hx
         ·exact h2
         ·exact hc x hx
       ·exact .inr fun w2 hw2=>(hc w2 hw2).same ⟨he.1.symm,he.2.symm⟩
   | false =>
     have hkd:¬ (kind P ok=0)/\¬ (kind P ok=1):=by simpa [plain,hk] using h2
     have hci:kind P oi=0\/(kind P oi=1/\i∈fl):=by
      simp only[Cz,hk,hi,hif,if_false,Bool.false_eq_true,Bool.and_eq_true,Bool.or_eq_true,beq_iff_eq,List.contains_iff_mem,hkd.1,hkd.2,or_false,false_and,and_false,false_or] at hpk
      have:=hpk.2
      split at this
      ·simpa using this
      ·simpa [hkd.1,hkd.2] using this
     have hF:=yR hci
     cases h0:(k::(ks++i::rest)).any (fun x=>fa.contains x) with
     | false =>
       have hsub:∀ x∈k::(ks++rest),x∈k::(ks++i::rest):=fun x hx=>by simp at hx ⊢;rcases hx with h|h|h<;>simp[h]
       obtain⟨_,h⟩:=(CO h0).1 h
       have h4:=bH hA him hif (k::ks) a w (fun x hx=>Ql h0 x (by simp at hx ⊢;rcases hx with h|h<;>simp[h])) hS hl hs (fun x hx=>(hp x hx).2) h
       obtain⟨v,w',hy,hK⟩:=Dn Ab.Bb hi (fun hw n w w' hr=>by
        rcases hci with hc|⟨hc,_⟩
        ·exact(Sr hi hc hg (fun hn=>hsame (.inl hn)) hw).news n w w' hr
        ·exact(Cu hc).news n w w' hr) (show wpOp P ops _ i (fun a' w' => (i<m->Same B wS w')/\wpS P ops (Ab P ops B wS fl Q) (Same B wS) m (k::(ks++rest)) a' w') a w from h4)
       obtain⟨rfl,hall⟩:=hy.Ky hS hF
       exact⟨v,hy,.inr hall,(CO (eT hsub h0)).2 ⟨rfl,hK.2⟩⟩
     | true =>
       have Iu:=hbd h0
       have move:∀ {v:Value} (hall:∀ w2,Same B wS w2->Yl P ops oi a w2 v w2) (a1:Act) (w' : World) (iv' : List (Nat × Nat)),Rch a ok.dst a1->Same B wS w' -> Bd st iv' w' -> wpG P ops (Ab P ops B wS fl Q) (Same B wS) m fa st (ks++i::rest) iv' w' a1 w' ->
        wpG P ops (Ab P ops B wS fl Q) (Same B wS) m fa st (ks++rest) iv' w' (a1.put oi.dst v) w':=fun {v} hall a1 w' iv' hR hS' hb' hK=>by
        obtain⟨v',hy',_,h3⟩:=Sw hA hi hip hif ks iv' a1 w' hl' hs'.2 hp' hS' (fun _=>hb') hK
        have he:=hR.exec (o:=oi) (ops:=ops) Hr hap.1
        obtain⟨rfl,_⟩:=hy'.det ((hall w' hS').same he)
        exact h3
       cases h1:fa.contains k with
       | true =>
         obtain⟨_,h⟩:=(FI h1).1 h
         obtain⟨vk,wk,hyk,hK⟩:=Dn Ab.Bb hk (fun _=>Gb ((hA.float k h1).2 ok hk)) (h w Iu.1)
         have hgk:=hyk.WK ((hA.float k h1).2 ok hk)
         have hSk:=hS.more (Dx hgk)
         obtain⟨v,hy,_,_⟩:=Sw hA hi hip hif ks _ (a.put ok.dst vk) wk hl' hs'.2 hp' hSk (fun _=>Iu.push hgk.size) (hK wk hgk (Kept.refl _ _) Iu.off)
         have he:=(Rch.Gu a ok.dst vk).exec (o:=oi) (ops:=ops) Hr hap.1
         obtain⟨_,hall⟩:=(hy.same ⟨he.1.symm,he.2.symm⟩).Ky hSk hF
         refine⟨v,hall w hS,.inr hall,(FI h1).2 ⟨rfl,fun w0 hw0=>I8 Ab.Bb hk Jl hap.2.2 hds (h w0 hw0) fun a1 w1 hR hK w' hg hkp hoff=>?_⟩⟩
         refine move hall a1 w' _ hR (hS.more (Dx hg)) ⟨Nat.le_trans Iu.1 hg.size,fun x hx=>?_⟩ (hK w' hg hkp hoff)
         rcases List.mem_cons.1 hx with rfl|hx
         ·exact hkp.size
         ·exact Nat.le_trans (Iu.2 x hx) hg.size
       | false =>
         obtain⟨_,h⟩:=(DT h0 h1 h2).1 h
         obtain⟨a1,w1,hR,hS1,hkp,hK⟩:=EO Ab.Bb hk (h w (Below.refl _ _))
         obtain⟨v,hy,_,_⟩:=Sw hA hi hip hif ks _ a1 w1 hl' hs'.2 hp' hS1 (fun _=>Iu.push hkp.size) hK
         have he:=hR.exec (o:=oi) (ops:=ops) Hr hap.1
         obtain⟨_,hall⟩:=(hy.same ⟨he.1.symm,he.2.symm⟩).Ky hS1 hF
         refine⟨v,hall w hS,.inr hall,Pz h2 h1 fun w' hg=>I8 Ab.Bb hk Jl hap.2.2 hds (h w' hg) fun a1 w1 hR hK=>?_⟩
         obtain⟨hS1,hkp,hK⟩:=hK
         refine⟨hS1,hkp,move hall a1 w1 _ hR hS1 ⟨Nat.le_trans Iu.1 (Nat.le_trans hg.size hkp.size),fun x hx=>?_⟩ hK⟩
         rcases List.mem_cons.1 hx with rfl|hx
         ·exact Nat.le_refl _
         ·exact Nat.le_trans (Iu.2 x hx) (Nat.le_trans hg.size hkp.size)
theorem mQ (hA:OkF P ops fl fa m){i:Nat}{oi:Oper}(hi:ops[i]? = some oi)(hip:plain P ops i=false)(hif:fa.contains i=false){rest:List Nat}(hrest:rest.any (fun x=>fa.contains x)=true):∀ (ks:List Nat) (iv:List (Nat × Nat)) (a:Act) (w:World),(∀ x∈ks++i::rest,x<ops.size)->(ks++i::rest).Pairwise (· < ·)->
 (∀ k∈ks,Cz P ops fl fa k i=true)->Same B wS w->Bd st iv w->wpG P ops (Ab P ops B wS fl Q) (Same B wS) m fa st (ks++i::rest) iv w a w->
 wpOp P ops (Ab P ops B wS fl Q) i (fun a1 w1=>Same B wS w1/\Kept st w w1/\wpG P ops (Ab P ops B wS fl Q) (Same B wS) m fa st (ks++rest) ((w.heap.size,w1.heap.size)::iv) w1 a1 w1) a w
 | [],iv,a,w,hl,hs,hp,hS,hbd,h=>((DT (by simp only[List.any_cons,hrest,Bool.or_true]) hif hip).1 h).2 w (Below.refl _ _)
 | k :: ks,iv,a,w,hl,hs,hp,hS,hbd,h => by
   obtain⟨ok,hk⟩:∃ o,ops[k]? = some o:=⟨_,Array.getElem?_eq_getElem (hl k (by simp))⟩
   have hpk:=hp k (by simp)
   have hap:=Oper.apart_spec (OkF.apart hpk hk hi)
   have Hr:∀ cs b,oi.op≠.select cs b:=fun cs b=>hA.sel i oi cs b hi
   have Jl:∀ cs b,ok.op≠.select cs b:=fun cs b=>hA.sel k ok cs b hk
   have hs':=List.pairwise_cons.1 hs
   have hkd:¬ (kind P oi=0)/\¬ (kind P oi=1):=by simpa [plain,hi] using hip
   have hc:fa.contains k=false/\(kind P ok=0\/(kind P ok=1/\k∈fl)):=by
    simp only[Cz,hk,hi,hif,if_false,Bool.false_eq_true,Bool.and_eq_true,Bool.or_eq_true,beq_iff_eq,List.contains_iff_mem,hkd.1,hkd.2,or_false,false_and,and_false,false_or] at hpk
    have:=hpk.2
    cases hfk:fa.contains k with
    | true=>rw[if_pos (by simpa using hfk)] at this;simp[hkd.1,hkd.2] at this
    | false =>
      rw[if_neg (by simpa using hfk)] at this
      exact⟨rfl,by simpa [hkd.1,hkd.2] using this⟩
   have hkp:plain P ops k=true:=by
    simp only[plain,hk,Bool.or_eq_true,beq_iff_eq]
    rcases hc.2 with h|h
    ·exact .inl h
    ·exact .inr h.1
   obtain⟨vk,hyk,_,hfk,hK⟩:=GL hA hk hkp hc.1 hl hs hS (fun _=>hbd) h
   have hall :=hfk (by rcases hc.2 with h | h
                       ·exact .inl h
                       ·exact .inr h.2)
   have h3:=mQ hA hi hip hif hrest ks iv (a.put ok.dst vk) w (fun x hx=>hl x (by simp at hx ⊢;right;exact hx)) hs'.2 (fun x hx=>hp x (by simp[hx])) hS hbd hK
   refine Qy Ab.Bb hi Hr hap.1 hap.2.1 h3 fun a1 w1 hR hK1=>?_
   have he:=hR.exec (o:=ok) (ops:=ops) Jl hap.2.2
   exact⟨hK1.1,hK1.2.1,Ku hk hkp hc.1 hK1.1 ((hall w1 hK1.1).same he) hK1.2.2⟩
theorem YZ (hA:OkF P ops fl fa m):∀ (l:List Nat) (iv:List (Nat × Nat)) (a:Act) (w w2:World),(∀ x∈l,x<ops.size)->l.Pairwise (· < ·)->Same B wS w->(l.any (fun x=>fa.contains x)=true->Bd st iv w)->Grown w w2->l.any (fun x=>fa.contains x)=true->
 wpG P ops (Ab P ops B wS fl Q) (Same B wS) m fa st l iv w a w->wpG P ops (Ab P ops B wS fl Q) (Same B wS) m fa st l iv w2 a w2
 | [],iv,a,w,w2,_,_,_,_,_,h0,_=>by cases h0
 | k :: l,iv,a,w,w2,hl,hs,hS,hbd,hg,h0,h => by
   obtain⟨ok,hk⟩:∃ o,ops[k]? = some o:=⟨_,Array.getElem?_eq_getElem (hl k (by simp))⟩
   cases h1:fa.contains k with
   | true =>
     obtain⟨_,h⟩:=(FI h1).1 h
     exact(FI h1).2 ⟨rfl,fun w0 hw0=>wpOp_mono (fun a1 w1 hh w' hg' hkp ho=>hh w' (hg.trans (hg'.mono hg.size)) hkp ho) (h w0 hw0)⟩
   | false =>
     cases h2:plain P ops k with
     | true =>
       obtain⟨v,hy,hm,_,hK⟩:=GL hA hk h2 h1 hl hs hS hbd h
       have hL:l.any (fun x=>fa.contains x)=true:=by rw[List.any_cons,h1,Bool.false_or] at h0;exact h0
       exact Ku hk h2 h1 (hS.more (Dx hg)) (hm w2 (Dx hg)) (YZ hA l iv _ w w2 (fun x hx=>hl x (by simp[hx])) (List.pairwise_cons.1 hs).2 hS (fun _=>hbd h0) hg hL hK)
     | false =>
       obtain⟨_,h⟩:=(DT h0 h1 h2).1 h
       exact(DT h0 h1 h2).2 ⟨rfl,fun w' hg' => h w' (hg.trans (hg'.mono hg.size))⟩
/-! ### Any order -/
theorem Za (hA:OkF P ops fl fa m):∀ (fuel:Nat) (l:List Nat) (listed:Array Bool) (iv:List (Nat × Nat)) (a:Act) (w:World),l.length=fuel->listed.size=ops.size->Closed ops listed->
 l.Pairwise (· < ·)->(∀ x,x∈l↔x<ops.size/\listed.getD x false=false)->((∃ x∈l,x<m)->Same B wS w)->(l.any (fun x=>fa.contains x)=true->Bd st iv w)->wpG P ops (Ab P ops B wS fl Q) (Same B wS) m fa st l iv w a w->wpAny P .any ops (Ab P ops B wS fl Q) fuel listed a w
 | 0,l,listed,iv,a,w,hlen,hsz,hcl,hs,hm,_,_,h => by
   have hl0:l=[]:=List.eq_nil_of_length_eq_zero hlen
   subst hl0
   refine⟨?_,h.2⟩
   refine List.eq_nil_iff_forall_not_mem.2 fun j hj=>?_
   obtain⟨h0,o,ho,_⟩:=mem_ready.1 hj
   have hjl:j<ops.size:=(Array.getElem?_eq_some_iff.1 ho).1
   have:=(hm j).2 ⟨hjl,getD_both h0⟩
   cases this
 | fuel + 1,l,listed,iv,a,w,hlen,hsz,hcl,hs,hm,hSl,hbd,h => by
   have both:∀ x,x<ops.size->listed.getD x false=false->listed.getD x true=false:=fun x hx hf=>getD_in (by omega) hf
   refine⟨fun hr=>?_,fun i hi=>?_⟩
   ·exfalso
    cases l with
    | nil=>cases hlen
    | cons k l =>
      have hm0:=(hm k).1 (by simp)
      obtain⟨o,ho⟩:∃ o,ops[k]? = some o:=⟨_,Array.getElem?_eq_getElem hm0.1⟩
      have:k∈Region.ready .any ops listed:=mem_ready.2 ⟨both k hm0.1 hm0.2,o,ho,fun e he hb=>by
       have hlt:=hA.top k o ho e he hb
       cases hx:listed.getD e.on false with
       | true=>rfl
       | false =>
         have hin:=(hm e.on).2 ⟨by omega,hx⟩
         rcases List.mem_cons.1 hin with h1|h1
         ·omega
         ·have:=(List.pairwise_cons.1 hs).1 _ h1
          omega⟩
      rw[hr] at this
      cases this
   ·obtain⟨hun,oi,hoi,hall⟩:=mem_ready.1 hi
    have hil:i<ops.size:=(Array.getElem?_eq_some_iff.1 hoi).1
    have hin:i∈l:=(hm i).2 ⟨hil,getD_both hun⟩
    obtain⟨ks,rest,rfl⟩:=List.append_of_mem hin
    have hpw:=List.pairwise_append.1 hs
    have hlt:∀ x∈ks++i::rest,x<ops.size:=fun x hx=>((hm x).1 hx).1
    have hks:∀ k∈ks,i<m/\Cz P ops fl fa k i=true:=fun k hk=>by
     have hki:k<i:=hpw.2.2 k hk i (by simp)
     rcases hA.pair i k hil hki with hw|hp
     ·have:=CU hcl ops.size i k oi hoi hall hw
      have hk2:=((hm k).1 (by simp[hk])).2
      rw[hk2] at this
      cases this
     ·exact hp
    have hfr:wpOp P ops (Ab P ops B wS fl Q) i (fun a' w' => (i<m->Same B wS w')/\∃ iv',((ks++rest).any (fun x=>fa.contains x)=true->Bd st iv' w')/\wpG P ops (Ab P ops B wS fl Q) (Same B wS) m fa st (ks++rest) iv' w' a' w') a w:=by
     cases h0:(ks++i::rest).any (fun x=>fa.contains x) with
     | false =>
       obtain⟨_,h⟩:=(CO h0).1 h
       have hn:(ks++rest).any (fun x=>fa.contains x)=false:=eT (fun x hx=>by simp at hx ⊢;rcases hx with h|h<;>simp[h]) h0
       have h4:wpS P ops (Ab P ops B wS fl Q) (Same B wS) m (i::(ks++rest)) a w:=by
        cases ks with
        | nil=>exact h
        | cons k ks =>
          have him:=(hks k (by simp)).1
          exact bH hA him (Ql h0 i (by simp)) (k::ks) a w (fun x hx=>Ql h0 x (by simp at hx ⊢;rcases hx with h|h<;>simp[h])) (hSl ⟨i,hin,him⟩) hlt hs (fun x hx=>(hks x hx).2) h
       exact wpOp_mono (fun a1 w1 hh=>⟨hh.1,iv,(fun hx=>by rw[hn] at hx;cases hx),(CO hn).2 ⟨rfl,hh.2⟩⟩) (show wpOp P ops _ i (fun a' w' => (i<m->Same B wS w')/\wpS P ops (Ab P ops B wS fl Q) (Same B wS) m (ks++rest) a' w') a w from h4)
     | true =>
       have Iu:=hbd h0
       have hmem:∃ x∈ks++i::rest,x<m:=by
        obtain⟨x,hx,hxf⟩:=List.any_eq_true.1 h0
        exact⟨x,hx,(hA.float x hxf).1⟩
       have hS:=hSl hmem
       cases hif:fa.contains i with
       | true =>
         obtain⟨v,w1,hy⟩:=Jc hA hoi hif ks iv w a w hlt (fun k hk=>(hks k hk).2) Iu h w Iu.1
         have hg:=hy.WK ((hA.float i hif).2 oi hoi)
         refine Yl.mk hoi hy ⟨fun _=>hS.more (Dx hg),(w.heap.size,w1.heap.size)::iv,fun _=>Iu.push hg.size,?_⟩
         have grow:wpG P ops (Ab P ops B wS fl Q) (Same B wS) m fa st (ks++i::rest) iv w1 a w1:=YZ hA (ks++i::rest) iv a w w1 hlt hs hS (fun _=>Iu) hg h0 h
         exact early hA hoi hif Iu.1 ks iv a w1 hlt hs (fun k hk=>(hks k hk).2) (hS.more (Dx hg)) ⟨Nat.le_trans Iu.1 hg.size,fun x hx=>Nat.le_trans (Iu.2 x hx) hg.size⟩ hy (Kept.refl _ _) Iu.off grow
       | false =>
         cases hip:plain P ops i with
         | true =>
           obtain⟨v,hy,_,hK⟩:=Sw hA hoi hip hif ks iv a w hlt hs hks hS hbd h
           exact Yl.mk hoi hy ⟨fun _=>hS,iv,fun _=>Iu,hK⟩
         | false =>
           have hrest:rest.any (fun x=>fa.contains x)=true:=by
            have hkn:∀ k∈ks,fa.contains k=false:=fun k hk=>by
             obtain⟨ok,hok⟩:∃ o,ops[k]? = some o:=⟨_,Array.getElem?_eq_getElem (hlt k (by simp[hk]))⟩
             have hpk:=(hks k hk).2
             have hkd:¬ (kind P oi=0)/\¬ (kind P oi=1):=by simpa [plain,hoi] using hip
             cases hfk:fa.contains k with
             | false=>rfl
             | true =>
               simp only[Cz,hok,hoi,hif,if_false,Bool.false_eq_true,Bool.and_eq_true,Bool.or_eq_true,beq_iff_eq,List.contains_iff_mem,hkd.1,hkd.2,or_false,false_and,and_false,false_or] at hpk
               have:=hpk.2
               rw[if_pos (by simpa using hfk)] at this
               simp[hkd.1,hkd.2] at this
            obtain⟨x,hx,hxf⟩:=List.any_eq_true.1 h0
            refine List.any_eq_true.2 ⟨x,?_,hxf⟩
            rcases List.mem_append.1 hx with h1|h1
            ·rw[hkn x h1] at hxf;cases hxf
            ·rcases List.mem_cons.1 h1 with rfl|h1
             ·rw[hif] at hxf;cases hxf
             ·exact h1
           refine wpOp_mono (fun a1 w1 hh=>⟨fun _=>hh.1,_,fun _=>Iu.push hh.2.1.size,hh.2.2⟩) (mQ hA hoi hip hif hrest ks iv a w hlt hs (fun k hk=>(hks k hk).2) hS Iu h)
    refine wpOp_mono (fun a' w' hh=>?_) hfr
    obtain⟨hS',iv',hb',hK⟩:=hh
    refine Za hA fuel (ks++rest) _ iv' a' w' (by simp at hlen ⊢;omega) (by simp[hsz]) ?_ ?_ ?_ ?_ hb' hK
    ·intro j o ho hl e he hb
     by_cases hij:i=j
     ·subst hij
      have:o=oi:=Option.some.inj (ho.symm.trans hoi)
      subst this
      exact getD_set_true (hall e he hb)
     ·refine getD_set_true (hcl j o ho ?_ e he hb)
      rw[getD_set_ne false (by exact hij)] at hl
      exact hl
    ·exact List.pairwise_append.2 ⟨hpw.1,(List.pairwise_cons.1 hpw.2.1).2,fun x hx y hy=>hpw.2.2 x hx y (by simp[hy])⟩
    ·intro x
     have hx:=hm x
     have hne:x∈ks++rest->i≠x:=by
      intro hxm e
      subst e
      rcases List.mem_append.1 hxm with h1|h1
      ·have:=hpw.2.2 i h1 i (by simp)
       omega
      ·have:=(List.pairwise_cons.1 hpw.2.1).1 i h1
       omega
     constructor
     ·intro hxm
      have h1:=hx.1 (by simp at hxm ⊢;rcases hxm with h|h<;>simp[h])
      exact⟨h1.1,by rw[getD_set_ne false (hne hxm)];exact h1.2⟩
     ·rintro⟨h1,h2⟩
      by_cases hix:i=x
      ·subst hix
       simp[hsz,h1] at h2
      ·rw[getD_set_ne false hix] at h2
       have:=hx.2 ⟨h1,h2⟩
       simp at this ⊢
       rcases this with h|h|h
       ·exact .inl h
       ·exact absurd h.symm hix
       ·exact .inr h
    ·rintro⟨x,hx,hxm⟩
     refine hS' ?_
     rcases List.mem_append.1 hx with h1|h1
     ·exact(hks x h1).1
     ·have:=(List.pairwise_cons.1 hpw.2.1).1 x h1
      omega
/-! ### The walk in pieces -/
theorem upS (hA:OkF P ops fl fa m):∀ (l:List Nat) (a:Act) (w:World),(∀ x∈l,x<ops.size)->l.Pairwise (· < ·)->((∃ x∈l,x<m)->Same B wS w)->
 wpC P ops (Ab P ops B wS fl Q) (Same B wS) m l a w->wpS P ops (Ab P ops B wS fl Q) (Same B wS) m l a w
 | [],_,_,_,_,_,h=>h
 | i :: l,a,w,hl,hs,hS,h => by
   have h0:=Qf _ _ _ h
   have hs':=List.pairwise_cons.1 hs
   obtain⟨o,hi⟩:∃ o,ops[i]? = some o:=⟨_,Array.getElem?_eq_getElem (hl i (by simp))⟩
   have h:wpOp P ops (Ab P ops B wS fl Q) i (fun a' w' => (i<m->wild P ops i=true->Same B wS w')/\wpC P ops (Ab P ops B wS fl Q) (Same B wS) m l a' w') a w:=h
   show wpOp P ops (Ab P ops B wS fl Q) i (fun a' w' => (i<m->Same B wS w')/\wpS P ops (Ab P ops B wS fl Q) (Same B wS) m l a' w') a w
   have QE:∀ a' w',(i<m->Same B wS w')->wpC P ops (Ab P ops B wS fl Q) (Same B wS) m l a' w' -> wpS P ops (Ab P ops B wS fl Q) (Same B wS) m l a' w':=fun a' w' hS' hh=>
    upS hA l a' w' (fun x hx=>hl x (by simp[hx])) hs'.2 (fun⟨x,hx,hxm⟩=>hS' (by have:=hs'.1 x hx;omega)) hh
   by_cases him:i<m
   ·have hSw:=hS ⟨i,by simp,him⟩
    by_cases hwd:wild P ops i=true
    ·exact wpOp_mono (fun a' w' hh=>⟨fun hm=>hh.1 hm hwd,QE a' w' (fun hm=>hh.1 hm hwd) hh.2⟩) h
    ·have hn : Region.wanted o (yielded ops a.tmps) = true → Mf P (execOp a.eval o) :=by
      simp only[wild,hi,Bool.and_eq_true,bne_iff_ne,ne_eq,not_and,Classical.not_not] at hwd
      intro hw
      by_cases h0k:kind P o=0
      ·have h0g:wpOps P ops (Ends P ops (fun _ a w=>allIn B wS ops a fl/\Q .normal a w)) (i::l) a w:=Cb (fun e a w he=>Bu he) _ _ _ h0
       exact(BL hl h0g hi h0k (fun hn x hx o' ho' t ht=>hA.keep i o hi (.inl hn) x (by
        rcases List.mem_cons.1 hx with h|h
        ·omega
        ·have:=hs'.1 x h;omega) o' ho' t ht) hw).news
      ·by_cases h1k:kind P o=1
       ·exact(Cu h1k).news
       ·exact Gb (hwd ⟨h0k,h1k⟩)
     obtain⟨v,w',hy,hc,hh⟩:=Dn Ab.Bb hi hn h
     have XA : Same B wS w':=hSw.more (hy.more hn)
     exact Yl.mk hi hy ⟨fun _=>XA,QE _ _ (fun _=>XA) hh⟩
   ·exact wpOp_mono (fun a' w' hh=>⟨fun hm=>absurd hm him,QE a' w' (fun hm=>absurd hm him) hh.2⟩) h
end
inductive Pc where
 | pure (n:Nat)
 | call
 | new
def Oy (w:World)(K:Act->Prop):Exit->Act->World->Prop:=fun e a1 w1=>e=.normal/\w1=w/\K a1
def Ug (S:World->Prop)(st:Nat)(w' : World)(K:Act->World->Prop):Exit->Act->World->Prop:=fun e a1 w1=>e=.normal/\S w1/\Kept st w' w1/\K a1 w1
def OA (w w0:World)(iv:List (Nat × Nat))(K:Act->World->World->Prop):Exit->Act->World->Prop:=fun e a1 w1=>e=.normal/\∀ w',Grown w w' -> Kept w0.heap.size w1 w' -> Off iv w0.heap.size w1.heap.size->K a1 w1 w'
theorem Oy.intro {w:World}{K:Act->Prop}{a:Act}(h:K a):Oy w K .normal a w:=⟨rfl,rfl,h⟩
theorem Ug.intro {S:World->Prop}{st:Nat}{w' : World}{K:Act->World->Prop}{a:Act}{w:World}(hS:S w)(hk:Kept st w' w)(h:K a w):Ug S st w' K .normal a w:=⟨rfl,hS,hk,h⟩
theorem OA.intro {w w0 w1:World}{iv:List (Nat × Nat)}{K:Act->World->World->Prop}{a:Act}(h:∀ w',Grown w w' -> Kept w0.heap.size w1 w' -> Off iv w0.heap.size w1.heap.size->K a w1 w'):OA w w0 iv K .normal a w1:=⟨rfl,h⟩
def Iw (P:Program)(ops:Array Oper)(Q:Exit->Act->World->Prop)(S:World->Prop)(st:Nat)(cs:List Nat):List Pc->List Oper->List (Nat × Nat)->Act->World->Prop
 | [],l,_,a,w=>Bp P ops Q S cs l a w
 | .pure n::ps,l,iv,a,w=>wpList P ops (Oy w (fun a1=>Iw P ops Q S st cs ps (l.drop n) iv a1 w)) (l.take n) a w
 | .call::ps,l,iv,a,w=>∀ w',Grown w w' -> wpList P ops (Ug S st w' (fun a1 w1=>Iw P ops Q S st cs ps (l.drop 1) ((w'.heap.size,w1.heap.size)::iv) a1 w1)) (l.take 1) a w'
 | .new::ps,l,iv,a,w=>∀ w0,st<=w0.heap.size->wpList P ops (OA w w0 iv (fun a1 w1 w' => Iw P ops Q S st cs ps (l.drop 1) ((w0.heap.size,w1.heap.size)::iv) a1 w')) (l.take 1) a w0
def La (P:Program)(ops:Array Oper)(m:Nat)(fa:List Nat)(cs:List Nat):List Pc->Nat->Nat->Bool
 | [],n,k => !((List.range' k n).any fun x=>fa.contains x)&&OW P ops m cs n k
 | .pure c::ps,n,k=>decide (c<=n)&&((List.range c).all fun j=>plain P ops (k+j) && !fa.contains (k+j))&&((List.range' (k+c) (n-c)).any fun x=>fa.contains x)&&La P ops m fa cs ps (n-c) (k+c)
 | .call::ps,n,k=>decide (0<n) && !plain P ops k && !fa.contains k&&((List.range' k n).any fun x=>fa.contains x)&&La P ops m fa cs ps (n-1) (k+1)
 | .new::ps,n,k=>decide (0<n)&&fa.contains k&&La P ops m fa cs ps (n-1) (k+1)
theorem Vg {S:World->Prop}{m:Nat}{fa:List Nat}{st:Nat}{iv:List (Nat × Nat)}{wr:World}{K:Act->Prop}{L:List Nat}(hL:L.any (fun x=>fa.contains x)=true)(hK:∀ a,K a->wpG P ops Q S m fa st L iv wr a wr):∀ (l:List Oper) (k:Nat) (a:Act) (w:World),w=wr\/l≠[]->(∀ j,j<l.length->l[j]? = ops[k+j]?)->((List.range l.length).all fun j=>plain P ops (k+j) && !fa.contains (k+j))=true->
 wpList P ops (fun e a1 w1=>e=.normal/\w1=wr/\K a1) l a w->wpG P ops Q S m fa st (List.range' k l.length++L) iv wr a w
 | [],k,a,w,_,_,_,h => by
   obtain⟨_,rfl,h⟩:=(h:(_:Exit)=.normal/\_/\K a)
   exact hK a h
 | o :: l,k,a,w,_,hl,hw,h => by
   have h0:ops[k]? = some o:=by simpa using (hl 0 (by simp)).symm
   have hNE:CS (fun(e:Exit) (a1:Act) (w1:World)=>e=.normal/\w1=wr/\K a1):=fun _ _ _ he h=>he h.1
   have hh:=E9 (Q2:=Q) hNE (Gh h0 h)
   simp only[List.all_eq_true,List.mem_range,List.length_cons,Bool.and_eq_true,Bool.not_eq_true'] at hw
   have hk:=hw 0 (by omega)
   simp only[Nat.add_zero] at hk
   rw[List.length_cons,List.range'_succ,List.cons_append]
   refine(Gl (by simp only[List.any_cons,List.any_append,hL,Bool.or_true]) hk.2 hk.1).2 (wpOp_mono (fun a1 w1 h1=>?_) hh)
   refine Vg hL hK l (k+1) a1 w1 ?_ (fun j hj=>?_) ?_ h1
   ·cases l with
    | nil=>exact .inl h1.2.1
    | cons _ _=>exact .inr (by simp)
   ·have:=hl (j+1) (by simp;omega)
    simpa [Nat.add_assoc,Nat.add_comm 1 j] using this
   ·simp only[List.all_eq_true,List.mem_range,Bool.and_eq_true,Bool.not_eq_true']
    intro j hj
    have:=hw (j+1) (by omega)
    rwa [show k+(j+1)=k+1+j from by omega] at this
section
variable {B:Nat->Prop} {wS:World} {fl fa:List Nat} {m st:Nat}
theorem Nr (hA:OkF P ops fl fa m){cs:List Nat} : ∀ (ps:List Pc) (l:List Oper) (k:Nat) (iv:List (Nat × Nat)) (a:Act) (w:World),(∀ j,j<l.length->l[j]? = ops[k+j]?)->(k+l.length=ops.size)->Same B wS w->La P ops m fa cs ps l.length k=true->
 Iw P ops (Ab P ops B wS fl Q) (Same B wS) st cs ps l iv a w->wpG P ops (Ab P ops B wS fl Q) (Same B wS) m fa st (List.range' k l.length) iv w a w
 | [],l,k,iv,a,w,hl,hsz,hS,hc,h => by
   simp only[La,Bool.and_eq_true,Bool.not_eq_true'] at hc
   refine(CO hc.1).2 ⟨rfl,upS hA _ a w (fun x hx=>?_) List.pairwise_lt_range' (fun _=>hS) (Km cs l k a w hl hc.2 h)⟩
   have:=List.mem_range'_1.1 hx
   omega
 | .pure c :: ps,l,k,iv,a,w,hl,hsz,hS,hc,h => by
   simp only[La,Bool.and_eq_true,decide_eq_true_eq] at hc
   obtain⟨⟨⟨h1,h2⟩,h3⟩,h4⟩:=hc
   have hlen:(l.take c).length=c:=by simp;omega
   have hr:List.range' k l.length=List.range' k (l.take c).length++List.range' (k+c) (l.drop c).length:=by
    rw[hlen,List.length_drop,List.range'_append_1,show c+(l.length-c)=l.length from by omega]
   rw[hr]
   refine Vg (K:=fun a1=>Iw P ops (Ab P ops B wS fl Q) (Same B wS) st cs ps (l.drop c) iv a1 w) (by rw[List.length_drop];exact h3) (fun a1 hk=>Nr hA ps (l.drop c) (k+c) iv a1 w (fun j hj=>?_) (by rw[List.length_drop];omega) hS (by rw[List.length_drop];exact h4) hk) (l.take c) k a w (.inl rfl) (fun j hj=>?_) (by rw[hlen];exact h2) h
   ·rw[List.getElem?_drop,hl (c+j) (by simp at hj;omega),Nat.add_assoc]
   ·rw[List.getElem?_take,if_pos (by omega),hl j (by simp at hj;omega)]
 | .call :: ps,l,k,iv,a,w,hl,hsz,hS,hc,h => by
   simp only[La,Bool.and_eq_true,decide_eq_true_eq,Bool.not_eq_true'] at hc
   obtain⟨⟨⟨⟨h1,h2⟩,h3⟩,h4⟩,h5⟩:=hc
   cases l with
   | nil=>simp at h1
   | cons o l =>
     have h0:ops[k]? = some o:=by simpa using (hl 0 (by simp)).symm
     rw[List.length_cons,List.range'_succ] at h4 ⊢
     refine(DT h4 h3 h2).2 ⟨rfl,fun w' hg=>?_⟩
     have hNE:CS (fun(e:Exit) (a1:Act) (w1:World)=>e=.normal/\Same B wS w1/\Kept st w' w1/\Iw P ops (Ab P ops B wS fl Q) (Same B wS) st cs ps l ((w'.heap.size,w1.heap.size)::iv) a1 w1):=fun _ _ _ he h=>he h.1
     refine wpOp_mono (fun a1 w1 hh=>?_) (E9 (Q2:=Ab P ops B wS fl Q) hNE (Gh h0 (l:=[]) (h w' hg)))
     obtain⟨_,hS1,hk,hK⟩:=(hh:(_:Exit)=.normal/\_)
     refine⟨hS1,hk,Nr hA ps l (k+1) _ a1 w1 (fun j hj=>?_) (by simp at hsz;omega) hS1 (by simpa using h5) hK⟩
     have:=hl (j+1) (by simp;omega)
     simpa [Nat.add_assoc,Nat.add_comm 1 j] using this
 | .new :: ps,l,k,iv,a,w,hl,hsz,hS,hc,h => by
   simp only[La,Bool.and_eq_true,decide_eq_true_eq] at hc
   obtain⟨⟨h1,h3⟩,h5⟩:=hc
   cases l with
   | nil=>simp at h1
   | cons o l =>
     have h0:ops[k]? = some o:=by simpa using (hl 0 (by simp)).symm
     rw[List.length_cons,List.range'_succ]
     refine(FI h3).2 ⟨rfl,fun w0 hw0=>?_⟩
     have hNE:CS (fun(e:Exit) (a1:Act) (w1:World)=>e=.normal/\∀ w',Grown w w' -> Kept w0.heap.size w1 w' -> Off iv w0.heap.size w1.heap.size->Iw P ops (Ab P ops B wS fl Q) (Same B wS) st cs ps l ((w0.heap.size,w1.heap.size)::iv) a1 w'):=fun _ _ _ he h=>he h.1
     refine wpOp_mono (fun a1 w1 hh w' hg hk ho=>?_) (E9 (Q2:=Ab P ops B wS fl Q) hNE (Gh h0 (l:=[]) (h w0 hw0)))
     obtain⟨_,hK⟩:=(hh:(_:Exit)=.normal/\_)
     refine Nr hA ps l (k+1) _ a1 w' (fun j hj=>?_) (by simp at hsz;omega) (hS.more (Dx hg)) (by simpa using h5) (hK w' hg hk ho)
     have:=hl (j+1) (by simp;omega)
     simpa [Nat.add_assoc,Nat.add_comm 1 j] using this
end
theorem pG {l:List Oper}{a:Act}{w:World}(B:Nat->Prop)(fl fa:List Nat)(m:Nat)(ps:List Pc)(cs:List Nat)(hA:WL P l.toArray fl fa m=true)(hC:La P l.toArray m fa cs ps l.length 0=true)
 (h:Iw P l.toArray (Ab P l.toArray B w fl Q) (Same B w) w.heap.size cs ps l [] a w):wpAny P .any l.toArray (Ab P l.toArray B w fl Q) l.toArray.size (Array.replicate l.toArray.size false) a w:=by
 refine Za (Py hA) (st:=w.heap.size) l.toArray.size (List.range l.toArray.size) _ [] a _ (by simp) (by simp) ?_ List.pairwise_lt_range (fun x=>by
  constructor
  ·intro hx
   have:=List.mem_range.1 hx
   exact⟨this,by simp only[Array.getD_eq_getD_getElem?];simp at this ⊢;simp[this]⟩
  ·exact fun hx=>List.mem_range.2 hx.1) (fun _=>Same.refl _ _) (fun _=>⟨Nat.le_refl _,fun _ hx=>by cases hx⟩) ?_
 ·intro j o ho hl
  rw[getD_replicate_false] at hl
  cases hl
 ·rw[List.range_eq_range',show l.toArray.size=l.length from by simp]
  exact Nr (Py hA) ps l 0 [] a w (by simp) (by simp) (Same.refl _ _) hC h
theorem EU {id:Nat}{l:List Oper}{a:Act}{w:World}(B:Nat->Prop)(fl fa:List Nat)(m:Nat)(ps:List Pc)(cs:List Nat)(hm:P.follows .mixedOrders=true)(hA:WL P l.toArray fl fa m=true)(hC:La P l.toArray m fa cs ps l.length 0=true)
 (h:Iw P l.toArray (Ab P l.toArray B w.drew fl Q) (Same B w.drew) w.drew.heap.size cs ps l [] a w.drew):(Code.region id l.toArray true).wp P Q a w:=
 Code.wp_mono (Q:=Ab P l.toArray B w.drew fl Q) (fun e a' w' he=>by obtain⟨rfl,_,_,h⟩:=he;exact h) (wp_region_any hm (pG B fl fa m ps cs hA hC h))
end
end Lex
end
section
open Go Go.RowKit Go.Maps
namespace Own
theorem Sy (o:Ao)(op:Op):(AZ o op).1.size<=3000:=by
 unfold AZ
 split
 ·rename_i h
  simp only[Bool.and_eq_true] at h
  have h1:=Gg (KD.of h.2)
  have h2:=Cod.Ce o.count.toNat
  have h3:(Sig.b1 12).size=1:=rfl
  dsimp only
  simp only[Sha.Ag]
  omega
 ·show(0:Nat)<=3000
  omega
theorem JZ (s:Space)(msg:ByteArray):∀ (l:List Ai) (seen:List ByteArray) (K:List KeyUse) (c:Int),Bl s msg seen K l=.error c->c≠0
 | [],_,_,c,h=>by cases h
 | a :: l,seen,K,c,h => by
   unfold Bl at h
   split at h
   ·cases h;decide
   ·split at h
    ·cases h;decide
    ·split at h
     ·split at h
      ·cases h;decide
      ·exact JZ s msg l _ _ c h
     ·cases h;decide
theorem Ns (s:Space)(msg:ByteArray):∀ (l:List Ai) (seen:List ByteArray) (K K' : List KeyUse),Bl s msg seen K l=.ok K' -> K'.length<=K.length+l.length
 | [],_,_,_,h=>by cases h;exact Nat.le_refl _
 | a :: l,seen,K,K',h => by
   unfold Bl at h
   split at h
   ·cases h
   ·split at h
    ·cases h
    ·split at h
     ·split at h
      ·cases h
      ·rename_i m _ _ _ _
       have h1:=Ns s msg l _ _ K' h
       rw[EP] at h1
       have h2:=Im KeyUse.pub (⟨m.pub,a.sig.index+1⟩:KeyUse) K
       rw[List.length_cons]
       omega
     ·cases h
def DY (cnt:Int)(sv kv:Value)(op:Op)(mv av:Value)(ex:Int):Array Value:=#[.int .i64 cnt,sv,kv,.int .i64 op.kind,.string op.pre,mv,.int .i64 op.threshold,.string op.name,.string op.pub,av,.int .i64 ex]
structure Chg (B:Nat) (w:World) (g:Nat) (o:Ao) (op:Op) (ex:Int) (sv kv mv av:Value) (us:List Value):Prop where
 at_:At w g 87 (DY o.count sv kv op mv av ex)
 sp:Ca B w sv o.spaces us
 ks:w.ownsRow B 59 2 kv o.keys.length (o.keys.flatMap Dw)
 ms:Aq 2 DU (fun k=>k≠g) w mv op.members
section
variable {B g:Nat} {w w' : World} {o:Ao} {op:Op} {ex:Int} {sv kv mv av:Value} {us:List Value}
theorem Chg.below (h:Chg B w g o op ex sv kv mv av us)(hb:Below w.heap.size w w'):Chg B w' g o op ex sv kv mv av us:=
 ⟨h.at_.below hb h.at_.lt,h.sp.below hb,own_below h.ks hb,h.ms.below hb⟩
theorem Chg.keys (h:Chg B w g o op ex sv kv mv av us):Du w kv o.keys:=Du.of (Bc.own h.ks) rfl
theorem Chg.spaces (h:Chg B w g o op ex sv kv mv av us):BF w sv o.spaces:=h.sp.list (F:=aP) (fun _ _=>trivial)
theorem Chg.GJ (h:Chg B w g o op ex sv kv mv av us):Af w mv op.members:=h.ms.mono (fun _ _ _=>trivial)
end
def WR (w:World)(g:Nat)(o:Ao)(op:Op)(ex:Int)(mv av:Value)(R:Except Int (List KeyUse))(e:Ending)(w' : World):Prop:=match R with
 | .error c=>e=.returned (.int .i64 c)/\Below w.heap.size w w'
 | .ok K=>e=.returned (.int .i64 0)/\(∃ sv kv us,Chg w.heap.size w' g ⟨o.count,o.spaces,K⟩ op ex sv kv mv av us)/\Fr (fun k=>k=g) w w'
end Own
theorem Sz (B g:Nat)(o:Own.Ao)(op:Own.Op)(ex:Int)(s:Own.Space)(sv kv mv av smv:Value)(us:List Value)(w:World)(hM:Il w)(h:Own.Chg B w g o op ex sv kv mv av us)(hA:Own.Hq w av op.Aa)(hsm:Own.Af w smv s.members)
 (hsrt:Own.Srt Own.KeyUse.pub o.keys) (hls:o.spaces.length<=3000000) (hlk:o.keys.length+op.Aa.length<=900000) (hlm:∀ s∈o.spaces,s.members.length<=3000000) (hml:s.members.length<=3000000) (hol:op.members.length<=140737488355328)
 (hal:∀ a∈op.Aa,a.name.size<=140737488355328/\a.sig.chains.length<=140737488355328/\a.sig.path.length<=140737488355328):
 Calls Tryz.prog 107 #[.pointer (some ⟨g,0,none⟩),.agg #[.string s.pre,smv,.int .i64 s.threshold]] w (Own.WR w g o op ex mv av (Own.AO s (Own.AZ o op).1 o.keys op.Aa)):=by
 obtain⟨R,hR⟩:∃ R,R=Own.AO s (Own.AZ o op).1 o.keys op.Aa:=⟨_,rfl⟩
 obtain⟨Q,hQ⟩:∃ Q,Q=Own.WR w g o op ex mv av R:=⟨_,rfl⟩
 rw[<- hR,<- hQ]
 obtain⟨sa,sc,hsv⟩:=h.sp.slice
 subst hsv
 obtain⟨ka,kn,kc,hkv⟩:=Ac h.ks
 subst hkv
 obtain rfl:=Ba h.ks
 obtain⟨ma,mc,hmv⟩:=h.ms.len
 subst hmv
 obtain⟨aa,ac,hav,_⟩:=id hA
 subst hav
 obtain⟨sma,smc,rfl⟩:=hsm.len
 have hms:=Own.Sy o op
 have JF:=fun W (hW:Below w.heap.size w W)=>KY o op (.slice sa o.spaces.length sc) (.slice ka o.keys.length kc) (.slice ma op.members.length mc) (.slice aa op.Aa.length ac) W (hM.below hW) ⟨_,_,_,rfl⟩ ⟨_,_,_,rfl⟩ (h.GJ.below hW) ⟨_,_,rfl⟩ hol
 have yT:=fun(M:ByteArray) (hz:M.size<=3000) W (hW:Below w.heap.size w W)=>Si o s M op.Aa (.slice sa o.spaces.length sc) (.slice ka o.keys.length kc) (.slice sma s.members.length smc) (.slice aa op.Aa.length ac) W (h.spaces.below hW) (h.keys.below hW) (hsm.below hW) (hA.below hW) hsrt hls hlk hlm hml (by omega) hal
 have hRK:∀ K,R=.ok K->K.length<=900000:=fun K hK=>by
  rw[hR] at hK
  unfold Own.AO at hK
  split at hK
  ·cases hK
  ·rename_i K2 he
   split at hK
   ·cases hK
   ·cases hK
    have:=Own.Ns s _ _ _ _ _ he
    omega
 unfold Own.opV at JF
 have HR:=zh hR;have HQ:=zh hQ;have H:=zh h;have zaR:=zh JF;have zaS:=zh yT;have HRK:=zh hRK
 clear hR hQ h JF yT hA hsm hM hsrt hlm hal hRK
 have K1:=zh (show Au w _ [(39,#[.string s.pre,.slice sma s.members.length smc,.int .i64 s.threshold])] from((CY.nil w).push 39 #[.string s.pre,.slice sma s.members.length smc,.int .i64 s.threshold]).boxes)
 have H1:=zh (H.out.below K1.out.under)
 go_enter Tryz.func107,Tryz.ntmps107
 go_upto_region 1 with fail
 generalize (w.alloc (.cells #[.string s.pre,.slice sma s.members.length smc,.int .i64 s.threshold] 39))=w1 at*
 have c0:=H1.out.at_.cell 0;have c1:=H1.out.at_.cell 1;have c2:=H1.out.at_.cell 2;have c3:=H1.out.at_.cell 3;have c4:=H1.out.at_.cell 4;have c5:=H1.out.at_.cell 5;have c6:=H1.out.at_.cell 6;have c7:=H1.out.at_.cell 7;have c8:=H1.out.at_.cell 8;have c9:=H1.out.at_.cell 9;have c10:=H1.out.at_.cell 10
 simp only[Own.DY,List.getElem?_toArray,List.getElem?_cons_zero,List.getElem?_cons_succ] at c0 c1 c2 c3 c4 c5 c6 c7 c8 c9 c10
 refine Lex.zl ?_
 go_wp2_with fail
 refine(zaR.out _ (K1.out.under.trans ((Below.refl w1.heap.size w1).drew.mono K1.out.under.size))).mono ?_
 rintro e w2 ⟨rfl,hb2⟩
 have B2:=zh (show Below w1.heap.size w1 w2 from(Below.refl w1.heap.size w1).drew.trans hb2)
 have K2:=zh (K1.out.step B2.out);have H2:=zh (H1.out.below B2.out)
 clear hb2
 clear c0 c1 c2 c3 c4 c5 c6 c7 c8 c9 c10
 obtain⟨M,hM⟩:∃ M,M=(Own.AZ o op).1:=⟨_,rfl⟩
 rw[<- hM] at hms HR ⊢
 obtain⟨mc2,yU⟩:∃ c,c=(Own.AZ o op).2:=⟨_,rfl⟩
 rw[<- yU]
 clear hM yU
 go_wp2_with fail
 refine Lex.ze ?_
 go_upto_region 2 with fail
 have c0:=H2.out.at_.cell 0;have c1:=H2.out.at_.cell 1;have c2:=H2.out.at_.cell 2;have c3:=H2.out.at_.cell 3;have c4:=H2.out.at_.cell 4;have c5:=H2.out.at_.cell 5;have c6:=H2.out.at_.cell 6;have c7:=H2.out.at_.cell 7;have c8:=H2.out.at_.cell 8;have c9:=H2.out.at_.cell 9;have c10:=H2.out.at_.cell 10
 simp only[Own.DY,List.getElem?_toArray,List.getElem?_cons_zero,List.getElem?_cons_succ] at c0 c1 c2 c3 c4 c5 c6 c7 c8 c9 c10
 obtain⟨x00,x01,x02⟩:=K2.out.Fw rfl
 refine Lex.EU (fun _=>False) [] [15] 17 [.pure 11,.call,.pure 3,.new] [1] (by kernel_rfl) (by kernel_rfl) (by kernel_rfl) ?_
 simp only[Lex.Iw,Lex.Bp,zd]
 have bd:Below w2.heap.size w2 w2.drew:=(Below.refl _ _).drew
 have BD:=zh bd
 clear bd
 go_wp2_with fail
 refine Lex.Oy.intro ?_
 intro w4 hg4
 have B4:=zh (BD.out.trans (hg4.mono BD.out.size))
 have K4:=zh (K2.out.step B4.out);have H4:=zh (H2.out.below B4.out)
 clear hg4
 (try clear x00 x01 x02)
 clear c0 c1 c2 c3 c4 c5 c6 c7 c8 c9 c10
 go_wp2_with fail
 refine(zaS.out M hms w4 K4.out.under).mono ?_
 intro e w5 hpost
 obtain⟨hval,hb5⟩:=hpost
 have HB5:=zh hb5
 have B5:=zh (B4.out.trans (hb5.mono B4.out.size))
 have K5:=zh (K4.out.step hb5);have H5:=zh (H4.out.below hb5)
 clear hb5
 cases hap:Own.Bl s M [] o.keys op.Aa with
 | error c =>
   rw[hap] at hval
   have hval:e=.returned (.tuple #[Own.nobody,.int .i64 c]):=hval
   subst hval
   have hc:=Own.JZ s M _ _ _ c hap
   have HE:=zh (show R=.error c by rw[HR.out,Own.AO,hap])
   clear hap HR
   have dz:(c==(0:Int))=false:=by rw[beq_eq_false_iff_ne];exact hc
   unfold Own.nobody
   clear hc
   go_wp2_with fail
   refine Lex.Ug.intro (fun j hj _=>absurd hj id) (Lex.Kept.of_below HB5.out) ?_
   go_wp2_with fail
   refine Lex.Oy.intro ?_
   intro w6 hw6
   go_wp2_with fail
   refine Lex.OA.intro (fun w7 hg7 hk7 ho7=>?_)
   have hs7:=hk7.at_
   have hl6:w.heap.size<=w6.heap.size:=Nat.le_trans K2.out.under.size hw6
   obtain⟨g7,hgs⟩:∃ g,g=w6.heap.size:=⟨_,rfl⟩
   rw[<- hgs] at hs7 hl6
   have mR:=zh hg7
   have B7:=zh (B5.out.trans (hg7.mono B5.out.size));have K7:=zh (K5.out.step hg7);have H7:=zh (H5.out.below hg7);have GS7:=zh hs7
   rw[<- hgs]
   clear hg7 hk7 ho7 hs7 hgs hw6
   have s0:=GS7.out.cell 0;have s1:=GS7.out.cell 1;have s2:=GS7.out.cell 2;have s3:=GS7.out.free 0;have s4:=GS7.out.free 1;have s5:=GS7.out.free 2
   simp only[zg] at s0 s1 s2
   go_wp2_with fail
   refine Lex.Mid.intro (fun j hj _=>absurd hj id) ?_
   go_wp2_with fail
   refine Lex.zk trivial ?_
   clear s0 s1 s2 s3 s4 s5
   go_wp2_with fail
   (try go_ret)
   rw[HQ.out,HE.out]
   exact⟨rfl,((K7.out.under.setCell (p:=⟨g7,0,none⟩) hl6 _).setCell (p:=⟨g7,1,none⟩) hl6 _).setCell (p:=⟨g7,2,none⟩) hl6 _⟩
 | ok L =>
   rw[hap] at hval
   have hval:if (op.Aa.length:Int)<s.threshold then e=.returned (.tuple #[Own.nobody,.int .i64 20]) else ∃ sv kv us,e=.returned (.tuple #[.agg #[.int .i64 o.count,sv,kv],.int .i64 0])/\Own.Ca w4.heap.size w5 sv o.spaces us/\w5.ownsRow w4.heap.size 59 2 kv L.length (L.flatMap Own.Dw):=hval
   by_cases ht:(op.Aa.length:Int)<s.threshold
   ·rw[if_pos ht] at hval
    subst hval
    have HE:=zh (show R=.error 20 by rw[HR.out,Own.AO,hap];exact if_pos ht)
    have hc:(20:Int)≠0:=by decide
    clear hap ht HR
    have dz:(20==(0:Int))=false:=by rw[beq_eq_false_iff_ne];exact hc
    unfold Own.nobody
    clear hc
    go_wp2_with fail
    refine Lex.Ug.intro (fun j hj _=>absurd hj id) (Lex.Kept.of_below HB5.out) ?_
    go_wp2_with fail
    refine Lex.Oy.intro ?_
    intro w6 hw6
    go_wp2_with fail
    refine Lex.OA.intro (fun w7 hg7 hk7 ho7=>?_)
    have hs7:=hk7.at_
    have hl6:w.heap.size<=w6.heap.size:=Nat.le_trans K2.out.under.size hw6
    obtain⟨g7,hgs⟩:∃ g,g=w6.heap.size:=⟨_,rfl⟩
    rw[<- hgs] at hs7 hl6
    have mR:=zh hg7
    have B7:=zh (B5.out.trans (hg7.mono B5.out.size));have K7:=zh (K5.out.step hg7);have H7:=zh (H5.out.below hg7);have GS7:=zh hs7
    rw[<- hgs]
    clear hg7 hk7 ho7 hs7 hgs hw6
    have s0:=GS7.out.cell 0;have s1:=GS7.out.cell 1;have s2:=GS7.out.cell 2;have s3:=GS7.out.free 0;have s4:=GS7.out.free 1;have s5:=GS7.out.free 2
    simp only[zg] at s0 s1 s2
    go_wp2_with fail
    refine Lex.Mid.intro (fun j hj _=>absurd hj id) ?_
    go_wp2_with fail
    refine Lex.zk trivial ?_
    clear s0 s1 s2 s3 s4 s5
    go_wp2_with fail
    (try go_ret)
    rw[HQ.out,HE.out]
    exact⟨rfl,((K7.out.under.setCell (p:=⟨g7,0,none⟩) hl6 _).setCell (p:=⟨g7,1,none⟩) hl6 _).setCell (p:=⟨g7,2,none⟩) hl6 _⟩
   ·rw[if_neg ht] at hval
    obtain⟨sv',kv',us',rfl,hsp,hks⟩:=hval
    have HE:=zh (show R=.ok L by rw[HR.out,Own.AO,hap];exact if_neg ht)
    obtain⟨sa',sc',hsv⟩:=hsp.slice
    subst hsv
    obtain⟨ka',kn',kc',hkv⟩:=Ac hks
    subst hkv
    have SP:=zh hsp;have KS:=zh hks
    have h45:w.heap.size<=w4.heap.size:=K4.out.under.size
    clear hap ht HR hsp hks
    go_wp2_with fail
    refine Lex.Ug.intro (fun j hj _=>absurd hj id) (Lex.Kept.of_below HB5.out) ?_
    go_wp2_with fail
    refine Lex.Oy.intro ?_
    intro w6 hw6
    go_wp2_with fail
    refine Lex.OA.intro (fun w7 hg7 hk7 ho7=>?_)
    have hs7:=hk7.at_
    have hl6:w.heap.size<=w6.heap.size:=Nat.le_trans K2.out.under.size hw6
    obtain⟨g7,hgs⟩:∃ g,g=w6.heap.size:=⟨_,rfl⟩
    rw[<- hgs] at hs7 hl6
    have mR:=zh hg7
    have B7:=zh (B5.out.trans (hg7.mono B5.out.size));have K7:=zh (K5.out.step hg7);have H7:=zh (H5.out.below hg7);have GS7:=zh hs7
    rw[<- hgs]
    clear hg7 hk7 ho7 hs7 hgs hw6
    have s0:=GS7.out.cell 0;have s1:=GS7.out.cell 1;have s2:=GS7.out.cell 2;have s3:=GS7.out.free 0;have s4:=GS7.out.free 1;have s5:=GS7.out.free 2
    simp only[zg] at s0 s1 s2
    go_wp2_with fail
    refine Lex.Mid.intro (fun j hj _=>absurd hj id) ?_
    go_wp2_with fail
    refine Lex.zk trivial ?_
    clear s0 s1 s2 s3 s4 s5
    have hne:g≠g7:=H7.out.at_.ne GS7.out (by decide)
    have HN:=zh hne
    have GST:=zh (((GS7.out.set 0 (.int .i64 o.count)).set 1 (.slice sa' o.spaces.length sc')).set 2 (.slice ka' kn' kc'))
    have HG7:=zh (((H7.out.at_.far (p:=⟨g7,0,none⟩) hne (.int .i64 o.count)).far (p:=⟨g7,1,none⟩) hne (.slice sa' o.spaces.length sc')).far (p:=⟨g7,2,none⟩) hne (.slice ka' kn' kc'))
    obtain⟨w8,hw8⟩:∃ w8,w8=((w7.setCell ⟨g7,0,none⟩ (.int .i64 o.count)).setCell ⟨g7,1,none⟩ (.slice sa' o.spaces.length sc')).setCell ⟨g7,2,none⟩ (.slice ka' kn' kc'):=⟨_,rfl⟩
    rw[<- hw8] at GST HG7 ⊢
    have pI:∀ k,k≠g7->w8.heap[k]? = w7.heap[k]? :=fun k hk=>by rw[hw8,zo hk,zo hk,zo hk]
    have hz8:w8.heap.size=w7.heap.size:=by rw[hw8];simp[World.setCell]
    have sp7:=SP.out.below mR.out
    have ks7:=own_below KS.out mR.out
    have sp8:Own.Ca w4.heap.size w8 (.slice sa' o.spaces.length sc') o.spaces us' :=
     ⟨sp7.len,Ae sp7.row (fun k e=>pI k (fun e2=>GS7.out.own_ne sp7.row (by decide) (by rw[e,e2]))),fun i h1 h2=>Ae (sp7.GJ i h1 h2) (fun k e=>pI k (fun e2=>GS7.out.own_ne (sp7.GJ i h1 h2) (by decide) (by rw[e,e2]))),sp7.apart⟩
    have ks8:=Ae ks7 (fun k e=>pI k (fun e2=>GS7.out.own_ne ks7 (by decide) (by rw[e,e2])))
    have hgw:=H.out.at_.lt
    have zaT:g≠g7:=hne
    have ms8:=H5.out.ms
    have b8:Below w.heap.size w w8:=by
     rw[hw8]
     exact((K7.out.under.setCell (p:=⟨g7,0,none⟩) hl6 _).setCell (p:=⟨g7,1,none⟩) hl6 _).setCell (p:=⟨g7,2,none⟩) hl6 _
    have SP8:=zh sp8;have KS8:=zh ks8;have B8:=zh b8
    clear sp7 ks7 sp8 ks8 b8 pI hz8 hw8 ms8 hne zaT H7 K7 GS7 B7 H5 K5 B5 HB5 mR SP KS
    have hst:At w8 g7 25 #[.int .i64 o.count,.slice sa' o.spaces.length sc',.slice ka' kn' kc']:=GST.out
    obtain⟨s0,s1,s2⟩:=hst.c3
    have c0:=HG7.out.cell 0;have c1:=HG7.out.cell 1;have c2:=HG7.out.cell 2;have c3:=HG7.out.cell 3;have c4:=HG7.out.cell 4;have c5:=HG7.out.cell 5;have c6:=HG7.out.cell 6;have c7:=HG7.out.cell 7;have c8:=HG7.out.cell 8;have c9:=HG7.out.cell 9;have c10:=HG7.out.cell 10
    simp only[Own.DY,List.getElem?_toArray,List.getElem?_cons_zero,List.getElem?_cons_succ] at c0 c1 c2 c3 c4 c5 c6 c7 c8 c9 c10
    have z0:=HG7.out.free 0;have z1:=HG7.out.free 1;have z2:=HG7.out.free 2
    clear hst GST
    have ms8:=zh (H.out.ms.below B8.out)
    go_wp2_with fail
    (try go_ret)
    have far:∀ k,k≠g->(((w8.setCell ⟨g,0,none⟩ (.int .i64 o.count)).setCell ⟨g,1,none⟩ (.slice sa' o.spaces.length sc')).setCell ⟨g,2,none⟩ (.slice ka' kn' kc')).heap[k]? = w8.heap[k]? :=fun k hk=>by
     rw[zo hk,zo hk,zo hk]
    rw[HQ.out,HE.out]
    refine⟨rfl,⟨_,_,us',((HG7.out.set 0 _).set 1 _).set 2 _,?_,?_,?_⟩,?_⟩
    ·exact Own.Ca.base ⟨SP8.out.len,Ae SP8.out.row (fun k e=>far k (fun e2=>HG7.out.own_ne SP8.out.row (by decide) (by rw[e,e2]))),fun i h1 h2=>Ae (SP8.out.GJ i h1 h2) (fun k e=>far k (fun e2=>HG7.out.own_ne (SP8.out.GJ i h1 h2) (by decide) (by rw[e,e2]))),SP8.out.apart⟩ h45
    ·exact Cw (Ae KS8.out (fun k e=>far k (fun e2=>HG7.out.own_ne KS8.out (by decide) (by rw[e,e2])))) h45
    ·exact ms8.out.keep (by simp[World.setCell]) (fun k hk _=>far k hk)
    ·exact(((show Fr (fun k=>k=g) w w8 from Fr.of_below B8.out).setCell (p:=⟨g,0,none⟩) (.inl rfl) _).setCell (p:=⟨g,1,none⟩) (.inl rfl) _).setCell (p:=⟨g,2,none⟩) (.inl rfl) _
end
section
open Go
namespace Lex
section
variable {P:Program} {ops:Array Oper} {Q:Exit->Act->World->Prop}
def WS (P:Program)(ops:Array Oper)(fl:List Nat)(m:Nat):Bool:=
 Region.noSelect ops&&
 I9 ops (fun a b=>BM P ops a b || (decide (b<m)&&Cv P ops fl a b)) ops.size ops.size 0 0&&
 ((List.range ops.size).all fun k => match ops[k]? with
   | some o => !needs o || (List.range ops.size).all fun i=>decide (i<k) || (match ops[i]? with|some o' => (match o'.dst with|some t => !(o.looksAt ops).contains t|none=>true)|none=>true)
   | none=>true)&&
 (fl.all fun k => match ops[k]? with
   | some o=>(List.range ops.size).all fun i=>decide (i<k) || (match ops[i]? with|some o' => (match o'.dst with|some t => !(o.looksAt ops).contains t|none=>true)|none=>true)
   | none=>true)&&
 (fl.all fun k=>decide (k<m)&&match ops[k]? with|some o=>kind P o==1|none=>false)
structure OkM (P:Program) (ops:Array Oper) (fl:List Nat) (m:Nat):Prop where
 sel:∀ (j:Nat) (o:Oper) (cs:Array SelectCase) (b:Bool),ops[j]? = some o->o.op≠.select cs b
 top:∀ (b:Nat) (ob:Oper),ops[b]? = some ob->∀ e∈ob.after,Region.binds .any e=true->e.on<b
 pair:∀ b a,b<ops.size->a<b->waits ops ops.size b a=true\/BM P ops a b=true\/(b<m/\Cv P ops fl a b=true)
 keep:∀ (k:Nat) (o:Oper),ops[k]? = some o->needs o=true\/k∈fl->∀ i,k<=i->∀ (o' : Oper),ops[i]? = some o' -> ∀ t,o'.dst=some t->t ∉ o.looksAt ops
 flm:∀ k∈fl,k<m/\∀ o,ops[k]? = some o->kind P o=1
theorem Zb {fl:List Nat}{m:Nat}(h:WS P ops fl m=true):OkM P ops fl m:=by
 simp only[WS,Bool.and_eq_true,List.all_eq_true,List.mem_range] at h
 obtain⟨⟨⟨⟨h1,h2⟩,h3⟩,h4⟩,h5⟩:=h
 refine⟨fun j o cs b hj=>Region.noSelect_spec h1 j o cs b hj,fun b ob hb e he hbi=>?_,fun b a hb ha=>?_,fun k o hk hn i hki o' hi t ht=>?_,fun k hk=>?_⟩
 ·exact(BN h2 hb).1 e he hbi
 ·have:=(BN h2 (Array.getElem?_eq_getElem hb)).2 a ha
  simpa using this
 ·have hkl:k<ops.size:=(Array.getElem?_eq_some_iff.1 hk).1
  have hil:i<ops.size:=(Array.getElem?_eq_some_iff.1 hi).1
  have key:((List.range ops.size).all fun i=>decide (i<k) || (match ops[i]? with|some o' => (match o'.dst with|some t => !(o.looksAt ops).contains t|none=>true)|none=>true))=true:=by
   rcases hn with hn|hn
   ·have:=h3 k hkl
    rw[hk] at this
    simpa [hn] using this
   ·have:=h4 k hn
    rw[hk] at this
    exact this
  simp only[List.all_eq_true,List.mem_range] at key
  have:=key i hil
  rw[hi] at this
  simp only[ht,Bool.or_eq_true,decide_eq_true_eq] at this
  rcases this with this|this
  ·omega
  ·simpa using this
 ·obtain⟨q1,q2⟩:=h5 k hk
  refine⟨by simpa using q1,fun o ho=>?_⟩
  rw[ho] at q2
  simpa using q2
theorem mU {fl:List Nat}{a b:Nat}(h:BM P ops a b=true):Cv P ops fl a b=true:=by
 unfold BM at h
 unfold Cv
 split at h
 ·rename_i oa ob ha hb
  simp only[ha,hb,Bool.and_eq_true,Bool.or_eq_true] at h ⊢
  refine⟨h.1,.inl (.inl ?_)⟩
  simpa [or_assoc] using h.2
 ·cases h
theorem ji {fl:List Nat}{a b:Nat}(h:Cv P ops fl a b=true)(ha' : a ∉ fl)(hb' : b ∉ fl):BM P ops a b=true:=by
 unfold Cv at h
 unfold BM
 split at h
 ·rename_i oa ob ha hb
  simp only[ha,hb,Bool.and_eq_true,Bool.or_eq_true,List.contains_iff_mem,ha',hb',and_false,or_false] at h ⊢
  refine⟨h.1,?_⟩
  simpa [or_assoc] using h.2
 ·cases h
theorem Jd {a b:Nat}{oa ob:Oper}(h:BM P ops a b=true)(ha:ops[a]? = some oa)(hb:ops[b]? = some ob):oa.apart ops ob=true/\(kind P ob=0\/kind P oa=0\/(kind P oa=1/\(kind P ob=1\/kind P ob=2))):=by
 simp only[BM,ha,hb,Bool.and_eq_true,Bool.or_eq_true,beq_iff_eq] at h
 exact⟨h.1,by simpa [or_assoc] using h.2⟩
section
variable {B:Nat->Prop} {w0:World} {fl:List Nat} {m:Nat}
theorem bI (hA:OkM P ops fl m){i:Nat}{rest:List Nat} : ∀ (ks:List Nat) (a:Act) (w:World),(∀ x∈ks++i::rest,x<ops.size)->(ks++i::rest).Pairwise (· < ·)->
 (∀ k∈ks,BM P ops k i=true)->wpOps P ops (Ab P ops B w0 fl Q) (ks++i::rest) a w->wpOps P ops (Ab P ops B w0 fl Q) (i::(ks++rest)) a w
 | [],_,_,_,_,_,h=>h
 | k :: ks,a,w,hl,hs,hp,h => by
   have hs':=List.pairwise_cons.1 hs
   have h0:=h
   rw[List.cons_append,wpOps_cons] at h
   have h1:wpOp P ops (Ab P ops B w0 fl Q) k (fun a' w' => wpOps P ops (Ab P ops B w0 fl Q) (i::(ks++rest)) a' w') a w:=
    wpOp_mono (fun a' w' hh=>bI hA ks a' w' (fun x hx=>hl x (by simp at hx ⊢;right;exact hx)) hs'.2 (fun x hx=>hp x (by simp[hx])) hh) h
   have hkl:k<ops.size:=hl k (by simp)
   have hil:i<ops.size:=hl i (by simp)
   obtain⟨ok,hk⟩:∃ o,ops[k]? = some o:=⟨_,Array.getElem?_eq_getElem hkl⟩
   obtain⟨oi,hi⟩:∃ o,ops[i]? = some o:=⟨_,Array.getElem?_eq_getElem hil⟩
   obtain⟨hap,hc⟩:=Jd (hp k (by simp)) hk hi
   have h0g:wpOps P ops (Ends P ops (fun _ a w=>allIn B w0 ops a fl/\Q .normal a w)) (k::ks++i::rest) a w:=Cb (fun e a w he=>Bu he) _ _ _ h0
   have h2:wpOp P ops (Ab P ops B w0 fl Q) k (fun a' w' => wpOp P ops (Ab P ops B w0 fl Q) i (wpOps P ops (Ab P ops B w0 fl Q) (ks++rest)) a' w') a w:=
    wpOp_mono (fun a' w' hh=>by rw[wpOps_cons] at hh;exact hh) h1
   show wpOps P ops (Ab P ops B w0 fl Q) (i::(k::(ks++rest))) a w
   rw[wpOps_cons]
   refine wpOp_mono (fun a' w' hh=>?_) (swap Ab.Bb hk hi hap (fun cs b=>hA.sel k ok cs b hk) (fun cs b=>hA.sel i oi cs b hi) ?_ h2)
   ·rw[wpOps_cons];exact hh
   ·rcases hc with hc|hc|⟨hc1,hc2⟩
    ·refine .inl (BL (l:=k::ks++i::rest) hl h0g hi hc fun hn x hx o' ho' t ht=>?_)
     by_cases hxi:i<=x
     ·exact hA.keep i oi hi (.inl hn) x hxi o' ho' t ht
     ·have hxm : x ∈ k :: ks :=by
       rcases List.mem_append.1 hx with h|h
       ·exact h
       ·rcases List.mem_cons.1 h with h|h
        ·omega
        ·have:=(List.pairwise_append.1 hs).2.1
         have:=(List.pairwise_cons.1 this).1 x h
         omega
      exact(Oper.apart_spec (Jd (hp x hxm) ho' hi).1).1 t ht
    ·refine .inr (.inl (BL (l:=k::ks++i::rest) hl h0g hk hc fun hn x hx o' ho' t ht=>?_))
     refine hA.keep k ok hk (.inl hn) x ?_ o' ho' t ht
     rcases List.mem_cons.1 hx with h|h
     ·omega
     ·have:=hs'.1 x h;omega
    ·exact .inr (.inr ⟨fun _=>Cu hc1,fun _=>Cn hc2⟩)
theorem WT (hA:OkM P ops fl m){i:Nat}{oi:Oper}(hi:ops[i]? = some oi)(hip:kind P oi=0\/kind P oi=1)(him:m<=i){rest:List Nat} : ∀ (ks:List Nat) (a:Act) (w:World),(∀ x∈ks++i::rest,x<ops.size)->(ks++i::rest).Pairwise (· < ·)->
 (∀ k∈ks,BM P ops k i=true)->wpS P ops (Ab P ops B w0 fl Q) (Same B w0) m (ks++i::rest) a w->
 ∃ v,Yl P ops oi a w v w/\(kind P oi=0->∀ w2,Yl P ops oi a w2 v w2)/\(∀ w2,More w w2->Yl P ops oi a w2 v w2)/\wpS P ops (Ab P ops B w0 fl Q) (Same B w0) m (ks++rest) (a.put oi.dst v) w
 | [],a,w,hl,hs,hp,h => by
   have h0:=GV _ _ _ h
   have h0g:wpOps P ops (Ends P ops (fun _ a w=>allIn B w0 ops a fl/\Q .normal a w)) (i::rest) a w:=Cb (fun e a w he=>Bu he) _ _ _ h0
   have hq:kind P oi=0->Region.wanted oi (yielded ops a.tmps)=true->Quiet P (execOp a.eval oi):=fun hc=>BL (l:=i::rest) hl h0g hi hc fun hn x hx o' ho' t ht=>hA.keep i oi hi (.inl hn) x (by
    rcases List.mem_cons.1 hx with h|h
    ·omega
    ·have:=(List.pairwise_cons.1 hs).1 x h;omega) o' ho' t ht
   have hre:Region.wanted oi (yielded ops a.tmps)=true->Reads P (execOp a.eval oi):=fun hw=>by
    rcases hip with hc|hc
    ·intro n w w' hr
     obtain⟨q1,q2,q3⟩:=hq hc hw n w w' hr
     exact⟨q1,q2,fun w2 _=>q3 w2⟩
    ·exact Cu hc
   have h:wpOp P ops (Ab P ops B w0 fl Q) i (fun a' w' => (i<m->Same B w0 w')/\wpS P ops (Ab P ops B w0 fl Q) (Same B w0) m rest a' w') a w:=h
   obtain⟨v,w',hy,_,hK⟩:=Dn Ab.Bb hi (fun hw=>(hre hw).news) h
   obtain⟨rfl,hm⟩:=hy.reads hre
   exact⟨v,hy,fun hc=>(hy.quiet (hq hc)).2,hm,hK⟩
 | k :: ks,a,w,hl,hs,hp,h => by
   have hs':=List.pairwise_cons.1 hs
   obtain⟨ok,hk⟩:∃ o,ops[k]? = some o:=⟨_,Array.getElem?_eq_getElem (hl k (by simp))⟩
   obtain⟨hap,hc⟩:=Jd (hp k (by simp)) hk hi
   have hap:=Oper.apart_spec hap
   have Hr:∀ cs b,oi.op≠.select cs b:=fun cs b=>hA.sel i oi cs b hi
   have Jl:∀ cs b,ok.op≠.select cs b:=fun cs b=>hA.sel k ok cs b hk
   have hds:∀ t,oi.dst=some t->ok.dst≠some t:=fun t ht hk' => hap.2.1 t hk' ht
   have hl' : ∀ x∈ks++i::rest,x<ops.size:=fun x hx=>hl x (by simp at hx ⊢;right;exact hx)
   have hp' : ∀ x∈ks,BM P ops x i=true:=fun x hx=>hp x (by simp[hx])
   have h0g:wpOps P ops (Ends P ops (fun _ a w=>allIn B w0 ops a fl/\Q .normal a w)) (k::ks++i::rest) a w:=Cb (fun e a w he=>Bu he) _ _ _ (GV _ _ _ h)
   have h:wpOp P ops (Ab P ops B w0 fl Q) k (fun a' w' => (k<m->Same B w0 w')/\wpS P ops (Ab P ops B w0 fl Q) (Same B w0) m (ks++i::rest) a' w') a w:=h
   have done:∀ v,(∀ a1 w1,Rch a ok.dst a1->wpS P ops (Ab P ops B w0 fl Q) (Same B w0) m (ks++i::rest) a1 w1->wpS P ops (Ab P ops B w0 fl Q) (Same B w0) m (ks++rest) (a1.put oi.dst v) w1)->wpS P ops (Ab P ops B w0 fl Q) (Same B w0) m (k::(ks++rest)) (a.put oi.dst v) w:=fun v hv=>by
    show wpOp P ops (Ab P ops B w0 fl Q) k (fun a' w' => (k<m->Same B w0 w')/\wpS P ops (Ab P ops B w0 fl Q) (Same B w0) m (ks++rest) a' w') (a.put oi.dst v) w
    exact I8 Ab.Bb hk Jl hap.2.2 hds h fun a1 w1 hR hh=>⟨hh.1,hv a1 w1 hR hh.2⟩
   have two:kind P oi=0->_:=fun hc0=>(show ∃ v,Yl P ops oi a w v w/\(kind P oi=0->∀ w2,Yl P ops oi a w2 v w2)/\(∀ w2,More w w2->Yl P ops oi a w2 v w2)/\wpS P ops (Ab P ops B w0 fl Q) (Same B w0) m (k::(ks++rest)) (a.put oi.dst v) w by
    obtain⟨a1,w1,hR,hh⟩:=EO Ab.Bb hk h
    obtain⟨v,hy,hy0,_,_⟩:=WT hA hi hip him ks a1 w1 hl' hs'.2 hp' hh.2
    have he:=hR.exec (o:=oi) (ops:=ops) Hr hap.1
    have hall:∀ w2,Yl P ops oi a w2 v w2:=fun w2=>(hy0 hc0 w2).same ⟨he.1.symm,he.2.symm⟩
    refine⟨v,hall w,fun _=>hall,fun w2 _=>hall w2,done v fun a2 w2 hR2 hh2=>?_⟩
    obtain⟨v2,hy2,_,_,hK2⟩:=WT hA hi hip him ks a2 w2 hl' hs'.2 hp' hh2
    have he2:=hR2.exec (o:=oi) (ops:=ops) Hr hap.1
    obtain⟨rfl,_⟩:=hy2.det ((hall w2).same he2)
    exact hK2)
   have three:kind P ok=0\/kind P ok=1->_:=fun hkd=>(show ∃ v,Yl P ops oi a w v w/\(kind P oi=0->∀ w2,Yl P ops oi a w2 v w2)/\(∀ w2,More w w2->Yl P ops oi a w2 v w2)/\wpS P ops (Ab P ops B w0 fl Q) (Same B w0) m (k::(ks++rest)) (a.put oi.dst v) w by
    have hre:Region.wanted ok (yielded ops a.tmps)=true->Reads P (execOp a.eval ok):=fun hw=>by
     rcases hkd with hc|hc
     ·intro n w w' hr
      obtain⟨q1,q2,q3⟩:=BL (l:=k::ks++i::rest) hl h0g hk hc (fun hn x hx o' ho' t ht=>hA.keep k ok hk (.inl hn) x (by
       rcases List.mem_cons.1 hx with h|h
       ·omega
       ·have:=hs'.1 x h;omega) o' ho' t ht) hw n w w' hr
      exact⟨q1,q2,fun w2 _=>q3 w2⟩
     ·exact Cu hc
    obtain⟨vk,w1,hyk,hSk,hh⟩:=Dn Ab.Bb hk (fun hw=>(hre hw).news) h
    obtain⟨rfl,_⟩:=hyk.reads hre
    obtain⟨v,hy,hy0,hym,hK⟩:=WT hA hi hip him ks _ w1 hl' hs'.2 hp' hh
    have he:=(Rch.Gu a ok.dst vk).exec (o:=oi) (ops:=ops) Hr hap.1
    have hek:=(Rch.Gu a oi.dst v).exec (o:=ok) (ops:=ops) Jl hap.2.2
    refine⟨v,hy.same ⟨he.1.symm,he.2.symm⟩,fun hc w2=>(hy0 hc w2).same ⟨he.1.symm,he.2.symm⟩,fun w2 hw2=>(hym w2 hw2).same ⟨he.1.symm,he.2.symm⟩,?_⟩
    show wpOp P ops (Ab P ops B w0 fl Q) k (fun a' w' => (k<m->Same B w0 w')/\wpS P ops (Ab P ops B w0 fl Q) (Same B w0) m (ks++rest) a' w') (a.put oi.dst v) w1
    exact Yl.mk hk (hyk.same hek) ⟨hSk,by rw[Act.put_comm a v vk hds];exact hK⟩)
   rcases hc with hc|hc|⟨hc,_⟩
   ·exact two hc
   ·exact three (.inl hc)
   ·exact three (.inr hc)
theorem mV (hA:OkM P ops fl m){i:Nat}(him:i<m){rest:List Nat} : ∀ (ks:List Nat) (a:Act) (w:World),Same B w0 w->(∀ x∈ks++i::rest,x<ops.size)->(ks++i::rest).Pairwise (· < ·)->
 (∀ k∈ks,Cv P ops fl k i=true)->wpS P ops (Ab P ops B w0 fl Q) (Same B w0) m (ks++i::rest) a w->wpS P ops (Ab P ops B w0 fl Q) (Same B w0) m (i::(ks++rest)) a w
 | [],_,_,_,_,_,_,h=>h
 | k :: ks,a,w,hS,hl,hs,hp,h => by
   have hsel:=hA.sel
   have hkeep:=hA.keep
   have hs':=List.pairwise_cons.1 hs
   have h0:=GV _ _ _ h
   have hki:k<i:=hs'.1 i (by simp)
   have h:wpOp P ops (Ab P ops B w0 fl Q) k (fun a' w' => (k<m->Same B w0 w')/\wpS P ops (Ab P ops B w0 fl Q) (Same B w0) m (ks++i::rest) a' w') a w:=h
   have h1:wpOp P ops (Ab P ops B w0 fl Q) k (fun a' w' => Same B w0 w' /\ wpS P ops (Ab P ops B w0 fl Q) (Same B w0) m (i::(ks++rest)) a' w') a w:=
    wpOp_mono (fun a' w' hh=>⟨hh.1 (by omega),mV hA him ks a' w' (hh.1 (by omega)) (fun x hx=>hl x (by simp at hx ⊢;right;exact hx)) hs'.2 (fun x hx=>hp x (by simp[hx])) hh.2⟩) h
   have hkl:k<ops.size:=hl k (by simp)
   have hil:i<ops.size:=hl i (by simp)
   obtain⟨ok,hk⟩:∃ o,ops[k]? = some o:=⟨_,Array.getElem?_eq_getElem hkl⟩
   obtain⟨oi,hi⟩:∃ o,ops[i]? = some o:=⟨_,Array.getElem?_eq_getElem hil⟩
   have hpk:=hp k (by simp)
   simp only[Cv,hk,hi,Bool.and_eq_true,Bool.or_eq_true,beq_iff_eq,List.contains_iff_mem] at hpk
   obtain⟨hap,hc⟩:=hpk
   have h2:wpOp P ops (Ab P ops B w0 fl Q) k (fun a' w' => Same B w0 w' /\ wpOp P ops (Ab P ops B w0 fl Q) i (fun a'' w'' => Same B w0 w'' /\ wpS P ops (Ab P ops B w0 fl Q) (Same B w0) m (ks++rest) a'' w'') a' w') a w:=
    wpOp_mono (fun a' w' hh=>⟨hh.1,wpOp_mono (fun a'' w'' h3=>⟨h3.1 him,h3.2⟩) (show wpOp P ops _ i (fun a'' w'' => (i<m->Same B w0 w'')/\wpS P ops _ (Same B w0) m (ks++rest) a'' w'') a' w' from hh.2)⟩) h1
   have Fb:∀ x∈k::ks++i::rest,∀ o',ops[x]? = some o' -> (needs oi=true\/i∈fl)->∀ t,o'.dst=some t->t ∉ oi.looksAt ops:=fun x hx o' ho' hn t ht=>by
    by_cases hxi:i<=x
    ·exact hkeep i oi hi hn x hxi o' ho' t ht
    ·have hxm : x ∈ k :: ks :=by
      rcases List.mem_append.1 hx with h|h
      ·exact h
      ·rcases List.mem_cons.1 h with h|h
       ·omega
       ·have:=(List.pairwise_append.1 hs).2.1
        have:=(List.pairwise_cons.1 this).1 x h
        omega
     have hpx:=hp x hxm
     simp only[Cv,ho',hi,Bool.and_eq_true] at hpx
     exact(Oper.apart_spec hpx.1).1 t ht
   have Fe:∀ x∈k::ks++i::rest,∀ o',ops[x]? = some o' -> (needs ok=true\/k∈fl)->∀ t,o'.dst=some t->t ∉ ok.looksAt ops:=fun x hx o' ho' hn t ht=>by
    refine hkeep k ok hk hn x ?_ o' ho' t ht
    rcases List.mem_cons.1 hx with h|h
    ·omega
    ·have:=hs'.1 x h;omega
   have h0g:wpOps P ops (Ends P ops (fun _ a w=>allIn B w0 ops a fl/\Q .normal a w)) (k::ks++i::rest) a w:=Cb (fun e a w he=>Bu he) _ _ _ h0
   have h3:=jU (S:=Same B w0) Ab.Bb hk hi hap (fun cs b=>hsel k ok cs b hk) (fun cs b=>hsel i oi cs b hi) hS ?_ h2
   ·show wpOp P ops _ i (fun a' w' => (i<m->Same B w0 w')/\wpS P ops _ (Same B w0) m (k::(ks++rest)) a' w') a w
    refine wpOp_mono (fun a' w' hh=>⟨fun _=>hh.1,?_⟩) h3
    show wpOp P ops _ k (fun a'' w'' => (k<m->Same B w0 w'')/\wpS P ops _ (Same B w0) m (ks++rest) a'' w'') a' w'
    exact wpOp_mono (fun a'' w'' h4=>⟨fun _=>h4.1,h4.2⟩) hh.2
   ·rcases hc with (((hc|hc)|⟨hc1,hc2⟩)|⟨hc,hm⟩)|⟨hc,hm⟩
    ·have hq:=BL (l:=k::ks++i::rest) hl h0g hi hc fun hn x hx o' ho' t ht=>Fb x hx o' ho' (.inl hn) t ht
     exact .inl ⟨fun hw=>(hq hw).Ky,fun hw=>(hq hw).news⟩
    ·have hq:=BL (l:=k::ks++i::rest) hl h0g hk hc fun hn x hx o' ho' t ht=>Fe x hx o' ho' (.inl hn) t ht
     exact .inr (.inl ⟨fun hw=>(hq hw).Ky,fun hw=>(hq hw).news⟩)
    ·exact .inr (.inr ⟨fun _=>Cu hc1,fun _=>Cn hc2⟩)
    ·exact .inr (.inl ⟨Ic (l:=k::ks++i::rest) hl h0 hk hc hm fun x hx o' ho' t ht=>Fe x hx o' ho' (.inr hm) t ht,fun _=>Cn (.inl hc)⟩)
    ·exact .inl ⟨Ic (l:=k::ks++i::rest) hl h0 hi hc hm fun x hx o' ho' t ht=>Fb x hx o' ho' (.inr hm) t ht,fun _=>Cn (.inl hc)⟩
theorem Zc (hA:OkM P ops fl m):∀ (fuel:Nat) (l:List Nat) (listed:Array Bool) (a:Act) (w:World),l.length=fuel->listed.size=ops.size->Closed ops listed->
 l.Pairwise (· < ·)->(∀ x,x∈l↔x<ops.size/\listed.getD x false=false)->(∀ x∈l,x ∉ fl)->wpOps P ops (Ab P ops B w0 fl Q) l a w->wpAny P .any ops (Ab P ops B w0 fl Q) fuel listed a w
 | 0,l,listed,a,w,hlen,hsz,hcl,hs,hm,_,h => by
   have hl0:l=[]:=List.eq_nil_of_length_eq_zero hlen
   subst hl0
   refine⟨?_,h⟩
   refine List.eq_nil_iff_forall_not_mem.2 fun j hj=>?_
   obtain⟨h0,o,ho,_⟩:=mem_ready.1 hj
   have hjl:j<ops.size:=(Array.getElem?_eq_some_iff.1 ho).1
   have:=(hm j).2 ⟨hjl,getD_both h0⟩
   cases this
 | fuel + 1,l,listed,a,w,hlen,hsz,hcl,hs,hm,hnf,h => by
   have both:∀ x,x<ops.size->listed.getD x false=false->listed.getD x true=false:=fun x hx hf=>getD_in (by omega) hf
   refine⟨fun hr=>?_,fun i hi=>?_⟩
   ·exfalso
    cases l with
    | nil=>cases hlen
    | cons k l =>
      have hm0:=(hm k).1 (by simp)
      obtain⟨o,ho⟩:∃ o,ops[k]? = some o:=⟨_,Array.getElem?_eq_getElem hm0.1⟩
      have:k∈Region.ready .any ops listed:=mem_ready.2 ⟨both k hm0.1 hm0.2,o,ho,fun e he hb=>by
       have hlt:=hA.top k o ho e he hb
       cases hx:listed.getD e.on false with
       | true=>rfl
       | false =>
         have hin:=(hm e.on).2 ⟨by omega,hx⟩
         rcases List.mem_cons.1 hin with h1|h1
         ·omega
         ·have:=(List.pairwise_cons.1 hs).1 _ h1
          omega⟩
      rw[hr] at this
      cases this
   ·obtain⟨hun,oi,hoi,hall⟩:=mem_ready.1 hi
    have hil:i<ops.size:=(Array.getElem?_eq_some_iff.1 hoi).1
    have hin:i∈l:=(hm i).2 ⟨hil,getD_both hun⟩
    obtain⟨ks,rest,rfl⟩:=List.append_of_mem hin
    have hpw:=List.pairwise_append.1 hs
    have hlt:∀ x∈ks++i::rest,x<ops.size:=fun x hx=>((hm x).1 hx).1
    have hks:∀ k∈ks,BM P ops k i=true\/(i<m/\Cv P ops fl k i=true):=fun k hk=>by
     have hki:k<i:=hpw.2.2 k hk i (by simp)
     rcases hA.pair i k hil hki with hw|hp
     ·have:=CU hcl ops.size i k oi hoi hall hw
      have hk2:=((hm k).1 (by simp[hk])).2
      rw[hk2] at this
      cases this
     ·exact hp
    have mW:∀ k∈ks,BM P ops k i=true:=fun k hk=>by
     rcases hks k hk with h|⟨_,h⟩
     ·exact h
     ·exact ji h (hnf k (by simp[hk])) (hnf i (by simp))
    have hfr:=bI hA ks a w hlt hs mW h
    rw[wpOps_cons] at hfr
    refine wpOp_mono (fun a' w' hh=>?_) hfr
    refine Zc hA fuel (ks++rest) _ a' w' (by simp at hlen ⊢;omega) (by simp[hsz]) ?_ ?_ ?_ (fun x hx=>hnf x (by simp at hx ⊢;rcases hx with h|h<;>simp[h])) hh
    ·intro j o ho hl e he hb
     by_cases hij:i=j
     ·subst hij
      have:o=oi:=Option.some.inj (ho.symm.trans hoi)
      subst this
      exact getD_set_true (hall e he hb)
     ·refine getD_set_true (hcl j o ho ?_ e he hb)
      rw[getD_set_ne false (by exact hij)] at hl
      exact hl
    ·exact List.pairwise_append.2 ⟨hpw.1,(List.pairwise_cons.1 hpw.2.1).2,fun x hx y hy=>hpw.2.2 x hx y (by simp[hy])⟩
    ·intro x
     have hx:=hm x
     have hne:x∈ks++rest->i≠x:=by
      intro hxm e
      subst e
      rcases List.mem_append.1 hxm with h1|h1
      ·have:=hpw.2.2 i h1 i (by simp)
       omega
      ·have:=(List.pairwise_cons.1 hpw.2.1).1 i h1
       omega
     constructor
     ·intro hxm
      have h1:=hx.1 (by simp at hxm ⊢;rcases hxm with h|h<;>simp[h])
      exact⟨h1.1,by rw[getD_set_ne false (hne hxm)];exact h1.2⟩
     ·rintro⟨h1,h2⟩
      by_cases hix:i=x
      ·subst hix
       simp[hsz,h1] at h2
      ·rw[getD_set_ne false hix] at h2
       have:=hx.2 ⟨h1,h2⟩
       simp at this ⊢
       rcases this with h|h|h
       ·exact .inl h
       ·exact absurd h.symm hix
       ·exact .inr h
theorem Zd (hA:OkM P ops fl m)(yV:∀ x∈fl,∀ i,m<=i->∀ oi,ops[i]? = some oi->kind P oi=2->False):∀ (fuel:Nat) (l:List Nat) (listed:Array Bool) (a:Act) (w:World),l.length=fuel->listed.size=ops.size->Closed ops listed->
 l.Pairwise (· < ·)->(∀ x,x∈l↔x<ops.size/\listed.getD x false=false)->((∃ x∈l,x<m)->Same B w0 w)->wpS P ops (Ab P ops B w0 fl Q) (Same B w0) m l a w->wpAny P .any ops (Ab P ops B w0 fl Q) fuel listed a w
 | 0,l,listed,a,w,hlen,hsz,hcl,hs,hm,_,h => by
   have hl0:l=[]:=List.eq_nil_of_length_eq_zero hlen
   subst hl0
   refine⟨?_,h⟩
   refine List.eq_nil_iff_forall_not_mem.2 fun j hj=>?_
   obtain⟨h0,o,ho,_⟩:=mem_ready.1 hj
   have hjl:j<ops.size:=(Array.getElem?_eq_some_iff.1 ho).1
   have:=(hm j).2 ⟨hjl,getD_both h0⟩
   cases this
 | fuel + 1,l,listed,a,w,hlen,hsz,hcl,hs,hm,hSl,h => by
   have both:∀ x,x<ops.size->listed.getD x false=false->listed.getD x true=false:=fun x hx hf=>getD_in (by omega) hf
   refine⟨fun hr=>?_,fun i hi=>?_⟩
   ·exfalso
    cases l with
    | nil=>cases hlen
    | cons k l =>
      have hm0:=(hm k).1 (by simp)
      obtain⟨o,ho⟩:∃ o,ops[k]? = some o:=⟨_,Array.getElem?_eq_getElem hm0.1⟩
      have:k∈Region.ready .any ops listed:=mem_ready.2 ⟨both k hm0.1 hm0.2,o,ho,fun e he hb=>by
       have hlt:=hA.top k o ho e he hb
       cases hx:listed.getD e.on false with
       | true=>rfl
       | false =>
         have hin:=(hm e.on).2 ⟨by omega,hx⟩
         rcases List.mem_cons.1 hin with h1|h1
         ·omega
         ·have:=(List.pairwise_cons.1 hs).1 _ h1
          omega⟩
      rw[hr] at this
      cases this
   ·obtain⟨hun,oi,hoi,hall⟩:=mem_ready.1 hi
    have hil:i<ops.size:=(Array.getElem?_eq_some_iff.1 hoi).1
    have hin:i∈l:=(hm i).2 ⟨hil,getD_both hun⟩
    obtain⟨ks,rest,rfl⟩:=List.append_of_mem hin
    have hpw:=List.pairwise_append.1 hs
    have hlt:∀ x∈ks++i::rest,x<ops.size:=fun x hx=>((hm x).1 hx).1
    have hks:∀ k∈ks,BM P ops k i=true\/(i<m/\Cv P ops fl k i=true):=fun k hk=>by
     have hki:k<i:=hpw.2.2 k hk i (by simp)
     rcases hA.pair i k hil hki with hw|hp
     ·have:=CU hcl ops.size i k oi hoi hall hw
      have hk2:=((hm k).1 (by simp[hk])).2
      rw[hk2] at this
      cases this
     ·exact hp
    have hfr:wpOp P ops (Ab P ops B w0 fl Q) i (fun a' w' => (((∃ x∈ks++rest,x<m)->Same B w0 w')/\wpS P ops (Ab P ops B w0 fl Q) (Same B w0) m (ks++rest) a' w')\/((∀ x∈ks++rest,x ∉ fl)/\wpOps P ops (Ab P ops B w0 fl Q) (ks++rest) a' w')) a w:=by
     have hgt:∀ x∈rest,i<x:=fun x hx=>(List.pairwise_cons.1 hpw.2.1).1 x hx
     by_cases him:i<m
     ·have h4 : wpS P ops (Ab P ops B w0 fl Q) (Same B w0) m (i :: (ks ++ rest)) a w :=by
       cases ks with
       | nil=>exact h
       | cons k ks =>
         exact mV hA him (k::ks) a w (hSl ⟨i,hin,him⟩) hlt hs (fun x hx=>by
          rcases hks x hx with h|⟨_,h⟩
          ·exact mU h
          ·exact h) h
      exact wpOp_mono (fun a1 w1 hh=>.inl ⟨fun _=>hh.1 him,hh.2⟩) (show wpOp P ops _ i (fun a' w' => (i<m->Same B w0 w')/\wpS P ops (Ab P ops B w0 fl Q) (Same B w0) m (ks++rest) a' w') a w from h4)
     ·have mW : ∀ k ∈ ks,BM P ops k i = true :=fun k hk => by
       rcases hks k hk with h|⟨h,_⟩
       ·exact h
       ·exact absurd h him
      by_cases hip:kind P oi=0\/kind P oi=1
      ·obtain⟨v,hy,_,_,hK⟩:=WT hA hoi hip (by omega) ks a w hlt hs mW h
       exact Yl.mk hoi hy (.inl ⟨fun⟨x,hx,hxm⟩=>hSl ⟨x,(by simp at hx ⊢;rcases hx with h|h<;>simp[h]),hxm⟩,hK⟩)
      ·have hq:=bI hA ks a w hlt hs mW (GV _ _ _ h)
       rw[wpOps_cons] at hq
       refine wpOp_mono (fun a1 w1 hh=>.inr ⟨fun x hx hf=>?_,hh⟩) hq
       rcases List.mem_append.1 hx with h1|h1
       ·obtain⟨ox,hox⟩:∃ o,ops[x]? = some o:=⟨_,Array.getElem?_eq_getElem (hlt x (by simp[h1]))⟩
        have hk1:=(hA.flm x hf).2 ox hox
        obtain⟨_,hc⟩:=Jd (mW x h1) hox hoi
        rcases hc with hc|hc|⟨_,hc⟩
        ·exact hip (.inl hc)
        ·omega
        ·rcases hc with hc|hc
         ·exact hip (.inr hc)
         ·have h2:=(hA.flm x hf).1
          exact yV x hf i (by omega) oi hoi hc
       ·have:=hgt x h1
        have:=(hA.flm x hf).1
        omega
    refine wpOp_mono (fun a' w' hh=>?_) hfr
    rcases hh with ⟨hS',hK⟩|⟨hnf,hK⟩
    ·refine Zd hA yV fuel (ks++rest) _ a' w' (by simp at hlen ⊢;omega) (by simp[hsz]) ?_ ?_ ?_ hS' hK
     ·intro j o ho hl e he hb
      by_cases hij:i=j
      ·subst hij
       have:o=oi:=Option.some.inj (ho.symm.trans hoi)
       subst this
       exact getD_set_true (hall e he hb)
      ·refine getD_set_true (hcl j o ho ?_ e he hb)
       rw[getD_set_ne false (by exact hij)] at hl
       exact hl
     ·exact List.pairwise_append.2 ⟨hpw.1,(List.pairwise_cons.1 hpw.2.1).2,fun x hx y hy=>hpw.2.2 x hx y (by simp[hy])⟩
     ·intro x
      have hx:=hm x
      have hne:x∈ks++rest->i≠x:=by
       intro hxm e
       subst e
       rcases List.mem_append.1 hxm with h1|h1
       ·have:=hpw.2.2 i h1 i (by simp)
        omega
       ·have:=(List.pairwise_cons.1 hpw.2.1).1 i h1
        omega
      constructor
      ·intro hxm
       have h1:=hx.1 (by simp at hxm ⊢;rcases hxm with h|h<;>simp[h])
       exact⟨h1.1,by rw[getD_set_ne false (hne hxm)];exact h1.2⟩
      ·rintro⟨h1,h2⟩
       by_cases hix:i=x
       ·subst hix
        simp[hsz,h1] at h2
       ·rw[getD_set_ne false hix] at h2
        have:=hx.2 ⟨h1,h2⟩
        simp at this ⊢
        rcases this with h|h|h
        ·exact .inl h
        ·exact absurd h.symm hix
        ·exact .inr h
    ·refine Zc hA fuel (ks++rest) _ a' w' (by simp at hlen ⊢;omega) (by simp[hsz]) ?_ ?_ ?_ hnf hK
     ·intro j o ho hl e he hb
      by_cases hij:i=j
      ·subst hij
       have:o=oi:=Option.some.inj (ho.symm.trans hoi)
       subst this
       exact getD_set_true (hall e he hb)
      ·refine getD_set_true (hcl j o ho ?_ e he hb)
       rw[getD_set_ne false (by exact hij)] at hl
       exact hl
     ·exact List.pairwise_append.2 ⟨hpw.1,(List.pairwise_cons.1 hpw.2.1).2,fun x hx y hy=>hpw.2.2 x hx y (by simp[hy])⟩
     ·intro x
      have hx:=hm x
      have hne:x∈ks++rest->i≠x:=by
       intro hxm e
       subst e
       rcases List.mem_append.1 hxm with h1|h1
       ·have:=hpw.2.2 i h1 i (by simp)
        omega
       ·have:=(List.pairwise_cons.1 hpw.2.1).1 i h1
        omega
      constructor
      ·intro hxm
       have h1:=hx.1 (by simp at hxm ⊢;rcases hxm with h|h<;>simp[h])
       exact⟨h1.1,by rw[getD_set_ne false (hne hxm)];exact h1.2⟩
      ·rintro⟨h1,h2⟩
       by_cases hix:i=x
       ·subst hix
        simp[hsz,h1] at h2
       ·rw[getD_set_ne false hix] at h2
        have:=hx.2 ⟨h1,h2⟩
        simp at this ⊢
        rcases this with h|h|h
        ·exact .inl h
        ·exact absurd h.symm hix
        ·exact .inr h
theorem upM (hA:OkM P ops fl m):∀ (l:List Nat) (a:Act) (w:World),(∀ x∈l,x<ops.size)->l.Pairwise (· < ·)->((∃ x∈l,x<m)->Same B w0 w)->
 wpC P ops (Ab P ops B w0 fl Q) (Same B w0) m l a w->wpS P ops (Ab P ops B w0 fl Q) (Same B w0) m l a w
 | [],_,_,_,_,_,h=>h
 | i :: l,a,w,hl,hs,hS,h => by
   have h0:=Qf _ _ _ h
   have hs':=List.pairwise_cons.1 hs
   obtain⟨o,hi⟩:∃ o,ops[i]? = some o:=⟨_,Array.getElem?_eq_getElem (hl i (by simp))⟩
   have h:wpOp P ops (Ab P ops B w0 fl Q) i (fun a' w' => (i<m->wild P ops i=true->Same B w0 w')/\wpC P ops (Ab P ops B w0 fl Q) (Same B w0) m l a' w') a w:=h
   show wpOp P ops (Ab P ops B w0 fl Q) i (fun a' w' => (i<m->Same B w0 w')/\wpS P ops (Ab P ops B w0 fl Q) (Same B w0) m l a' w') a w
   have QE:∀ a' w',(i<m->Same B w0 w')->wpC P ops (Ab P ops B w0 fl Q) (Same B w0) m l a' w' -> wpS P ops (Ab P ops B w0 fl Q) (Same B w0) m l a' w':=fun a' w' hS' hh=>
    upM hA l a' w' (fun x hx=>hl x (by simp[hx])) hs'.2 (fun⟨x,hx,hxm⟩=>hS' (by have:=hs'.1 x hx;omega)) hh
   by_cases him:i<m
   ·have hSw:=hS ⟨i,by simp,him⟩
    by_cases hwd:wild P ops i=true
    ·exact wpOp_mono (fun a' w' hh=>⟨fun hm=>hh.1 hm hwd,QE a' w' (fun hm=>hh.1 hm hwd) hh.2⟩) h
    ·have hn : Region.wanted o (yielded ops a.tmps) = true → Mf P (execOp a.eval o) :=by
      simp only[wild,hi,Bool.and_eq_true,bne_iff_ne,ne_eq,not_and,Classical.not_not] at hwd
      intro hw
      by_cases h0k:kind P o=0
      ·have h0g:wpOps P ops (Ends P ops (fun _ a w=>allIn B w0 ops a fl/\Q .normal a w)) (i::l) a w:=Cb (fun e a w he=>Bu he) _ _ _ h0
       exact(BL hl h0g hi h0k (fun hn x hx o' ho' t ht=>hA.keep i o hi (.inl hn) x (by
        rcases List.mem_cons.1 hx with h|h
        ·omega
        ·have:=hs'.1 x h;omega) o' ho' t ht) hw).news
      ·by_cases h1k:kind P o=1
       ·exact(Cu h1k).news
       ·exact Gb (hwd ⟨h0k,h1k⟩)
     obtain⟨v,w',hy,hc,hh⟩:=Dn Ab.Bb hi hn h
     have XA : Same B w0 w':=hSw.more (hy.more hn)
     exact Yl.mk hi hy ⟨fun _=>XA,QE _ _ (fun _=>XA) hh⟩
   ·exact wpOp_mono (fun a' w' hh=>⟨fun hm=>absurd hm him,QE a' w' (fun hm=>absurd hm him) hh.2⟩) h
end
def rC (P:Program)(ops:Array Oper)(m:Nat):Bool:=(List.range ops.size).all fun i=>decide (i<m) || (match ops[i]? with|some o=>kind P o != 2|none=>true)
theorem SE {id:Nat}{l:List Oper}{a:Act}{w:World}(B:Nat->Prop)(fl:List Nat)(m:Nat)(cs:List Nat)(hm:P.follows .mixedOrders=true)(hA:(WS P l.toArray fl m&&rC P l.toArray m)=true)(hC:OW P l.toArray m cs l.length 0=true)
 (h:Bp P l.toArray (Ab P l.toArray B w.drew fl Q) (Same B w.drew) cs l a w.drew):(Code.region id l.toArray true).wp P Q a w:=by
 rw[Bool.and_eq_true] at hA
 obtain⟨hA,hN⟩:=hA
 have hA:=Zb hA
 refine Code.wp_mono (Q:=Ab P l.toArray B w.drew fl Q) (fun e a' w' he=>by obtain⟨rfl,_,_,h⟩:=he;exact h) (wp_region_any hm ?_)
 have hlt:∀ x∈List.range l.toArray.size,x<l.toArray.size:=fun x hx=>List.mem_range.1 hx
 refine Zd hA (fun x _ i hi oi hoi hk=>?_) l.toArray.size (List.range l.toArray.size) _ a _ (by simp) (by simp) ?_ List.pairwise_lt_range (fun x=>by
  constructor
  ·intro hx
   have:=List.mem_range.1 hx
   exact⟨this,by simp only[Array.getD_eq_getD_getElem?];simp at this ⊢;simp[this]⟩
  ·exact fun hx=>List.mem_range.2 hx.1) (fun _=>Same.refl _ _) ?_
 ·have hil:i<l.toArray.size:=(Array.getElem?_eq_some_iff.1 hoi).1
  have:=(List.all_eq_true.1 hN) i (List.mem_range.2 hil)
  rw[hoi] at this
  simp[hk] at this
  omega
 ·intro j o ho hl
  rw[getD_replicate_false] at hl
  cases hl
 ·refine upM hA _ _ _ hlt List.pairwise_lt_range (fun _=>Same.refl _ _) ?_
  rw[List.range_eq_range',show l.toArray.size=l.length from by simp]
  exact Km cs l 0 a _ (by simp) hC h
end
end Lex
section
open Go
theorem Lex.zm{P:Program}{id:Nat}{l:List Oper}{Q:Exit->Act->World->Prop}{a:Act}{w:World}(B:Nat->Prop)(fl:List Nat)(m:Nat)(cs:List Nat)(h:Lex.Bp P l.toArray (Lex.Ab P l.toArray B w.drew fl Q) (Lex.Same B w.drew) cs l a w.drew)(hm:P.follows .mixedOrders=true:=by kernel_rfl)(hA:(Lex.WS P l.toArray fl m&&Lex.rC P l.toArray m)=true:=by kernel_rfl)(hC:Lex.OW P l.toArray m cs l.length 0=true:=by kernel_rfl):(Code.region id l.toArray true).wp P Q a w:=Lex.SE B fl m cs hm hA hC h
end
end
section
open Go Go.RowKit Go.Maps
structure RS where
 a:Nat
 e:Int
def stN (s:ByteArray)(r:RS):Nat × RS:=if r.e=0 then (match Cod.rdN s r.a with|some (v,b)=>(v,⟨b,0⟩)|none=>(0,⟨r.a,9⟩)) else (0,r)
def stT (s:ByteArray)(r:RS):ByteArray × RS:=if r.e=0 then (match Cod.rdT s r.a with|some (v,b)=>(v,⟨b,0⟩)|none=>(⟨#[]⟩,⟨r.a,9⟩)) else (⟨#[]⟩,r)
def stC (s:ByteArray)(m:Int)(r:RS):Nat × RS:=if r.e=0 then (match rdC s m r.a with|some (v,b)=>(v,⟨b,0⟩)|none=>(0,⟨r.a,9⟩)) else (0,r)
def stL (s:ByteArray)(r:RS):List ByteArray × RS:=if r.e=0 then (match Cod.Br s r.a with|some (v,b)=>(v,⟨b,0⟩)|none=>([],⟨r.a,9⟩)) else ([],r)
theorem OD {s:ByteArray}{r:RS}(h:r.a<=s.size):(stN s r).2.a<=s.size:=by
 unfold stN
 split
 ·cases hr:Cod.rdN s r.a with
  | none=>exact h
  | some y=>exact(Cod.Fa hr).2.1
 ·exact h
theorem FJ {s:ByteArray}{r:RS}(h:r.a<=s.size):(stT s r).2.a<=s.size:=by
 unfold stT
 split
 ·cases hr:Cod.rdT s r.a with
  | none=>exact h
  | some y=>exact(Cod.Mc hr).2.1
 ·exact h
theorem Ze {s:ByteArray}{m:Int}{a v b:Nat}(h:rdC s m a=some (v,b)):Cod.rdN s a=some (v,b)/\(v:Int)<=m:=by
 unfold rdC at h
 cases hr:Cod.rdN s a with
 | none=>rw[hr] at h;cases h
 | some y =>
   obtain⟨v',b'⟩:=y
   simp only[hr] at h
   split at h
   ·cases h;exact⟨rfl,by assumption⟩
   ·cases h
theorem WU {s:ByteArray}{m:Int}{r:RS}(h:r.a<=s.size):(stC s m r).2.a<=s.size:=by
 unfold stC
 split
 ·cases hr:rdC s m r.a with
  | none=>exact h
  | some y=>exact(Cod.Fa (Ze hr).1).2.1
 ·exact h
theorem Zf {s:ByteArray}{m:Nat}{r:RS} : (stC s m r).1<=m:=by
 unfold stC
 split
 ·cases hr:rdC s m r.a with
  | none=>exact Nat.zero_le _
  | some y =>
    have:=(Ze hr).2
    show y.1<=m
    omega
 ·exact Nat.zero_le _
theorem WW {s:ByteArray}{r:RS}(h:r.a<=s.size):(stL s r).2.a<=s.size:=by
 unfold stL
 split
 ·cases hr:Cod.Br s r.a with
  | none=>exact h
  | some y=>exact(Cod.Md hr).2.1
 ·exact h
theorem tN {s:ByteArray}{r:RS} : (stN s r).1<9223372036854775808:=by
 unfold stN
 split
 ·cases hr:Cod.rdN s r.a with
  | none=>show(0:Nat)<9223372036854775808;decide
  | some y=>exact(Cod.Fa hr).2.2.2
 ·show(0:Nat)<9223372036854775808
  decide
theorem mX {s:ByteArray}{r:RS} : (stT s r).1.size<=s.size:=by
 unfold stT
 split
 ·cases hr:Cod.rdT s r.a with
  | none=>exact Nat.zero_le _
  | some y =>
    have h:=Cod.Mc hr
    have e:=congrArg ByteArray.size h.2.2
    rw[ByteArray.size_extract] at e
    unfold Cod.text at e
    rw[Sha.Ag] at e
    show y.1.size<=_
    omega
 ·exact Nat.zero_le _
theorem eU {s:ByteArray}{r:RS} : (stL s r).1.length<=s.size:=by
 unfold stL
 split
 ·cases hr:Cod.Br s r.a with
  | none=>exact Nat.zero_le _
  | some y =>
    have h:=Cod.Md hr
    have e:=congrArg ByteArray.size h.2.2
    rw[ByteArray.size_extract] at e
    unfold Cod.texts at e
    rw[Sha.Ag] at e
    have:=Cod.Xp y.1
    show y.1.length<=_
    omega
 ·exact Nat.zero_le _
def vI (n:Nat):Value:=.int .i64 n
theorem bJ (rb:Nat)(s:ByteArray)(r:RS)(w:World)(h:At w rb 157 (rdV s r.a r.e))(ha:r.a<=s.size)(hs:s.size<=1000000):
 Calls Tryz.prog 81 #[.pointer (some ⟨rb,0,none⟩)] w fun e w' => e=.returned (vI (stN s r).1)/\Av rb w w' (rdV s (stN s r).2.a (stN s r).2.e):=by
 by_cases he:r.e=0
 ·rw[he] at h
  refine(bC rb s r.a w h ha (by omega)).mono ?_
  intro e w' hp
  unfold stN
  rw[if_pos he]
  cases hr:Cod.rdN s r.a with
  | none=>rw[hr] at hp;exact hp
  | some y=>rw[hr] at hp;exact hp
 ·refine(Sl rb s r.a r.e he w h).mono ?_
  rintro e _ ⟨rfl,rfl⟩
  unfold stN
  rw[if_neg he]
  exact⟨rfl,Av.refl h⟩
theorem bK (rb:Nat)(s:ByteArray)(r:RS)(w:World)(h:At w rb 157 (rdV s r.a r.e))(ha:r.a<=s.size)(hs:s.size<=1000000):
 Calls Tryz.prog 82 #[.pointer (some ⟨rb,0,none⟩)] w fun e w' => e=.returned (Value.string (stT s r).1)/\Av rb w w' (rdV s (stT s r).2.a (stT s r).2.e):=by
 by_cases he:r.e=0
 ·rw[he] at h
  refine(bD rb s r.a w h ha (by omega)).mono ?_
  intro e w' hp
  unfold stT
  rw[if_pos he]
  cases hr:Cod.rdT s r.a with
  | none=>rw[hr] at hp;exact hp
  | some y=>rw[hr] at hp;exact hp
 ·refine(Sm rb s r.a r.e he w h).mono ?_
  rintro e _ ⟨rfl,rfl⟩
  unfold stT
  rw[if_neg he]
  exact⟨rfl,Av.refl h⟩
theorem OE (rb:Nat)(s:ByteArray)(r:RS)(w:World){n:Nat}{r' : RS}(hv:stN s r=(n,r'))(h:At w rb 157 (rdV s r.a r.e))(ha:r.a<=s.size)(hs:s.size<=1000000):
 Calls Tryz.prog 81 #[.pointer (some ⟨rb,0,none⟩)] w fun e w' => e=.returned (.int .i64 n)/\Av rb w w' (rdV s r'.a r'.e):=by
 have:=bJ rb s r w h ha hs
 rw[hv] at this
 exact this
theorem Gm (rb:Nat)(s:ByteArray)(r:RS)(w:World){x:ByteArray}{r' : RS}(hv:stT s r=(x,r'))(h:At w rb 157 (rdV s r.a r.e))(ha:r.a<=s.size)(hs:s.size<=1000000):
 Calls Tryz.prog 82 #[.pointer (some ⟨rb,0,none⟩)] w fun e w' => e=.returned (.string x)/\Av rb w w' (rdV s r'.a r'.e):=by
 have:=bK rb s r w h ha hs
 rw[hv] at this
 exact this
theorem Av.of_below {rb:Nat}{w w' : World}{s:ByteArray}{a:Nat}{e:Int}(h:At w rb 157 (rdV s a e))(hb:Below w.heap.size w w'):Av rb w w' (rdV s a e):=⟨h.below hb h.lt,Fr.of_below hb⟩
theorem Zg (rb:Nat)(s:ByteArray)(m:Int)(r:RS)(w:World)(h:At w rb 157 (rdV s r.a r.e))(ha:r.a<=s.size)(hs:s.size<=1000000):
 Calls Tryz.prog 83 #[.pointer (some ⟨rb,0,none⟩),.int .i64 m] w fun e w' => e=.returned (.int .i64 (stC s m r).1)/\Av rb w w' (rdV s (stC s m r).2.a (stC s m r).2.e):=by
 by_cases he:r.e=0
 ·rw[he] at h
  refine(YP rb s r.a m w h ha (by omega)).mono ?_
  intro e w' hp
  unfold stC
  rw[if_pos he]
  cases hr:rdC s m r.a with
  | none=>rw[hr] at hp;exact hp
  | some y=>rw[hr] at hp;exact hp
 ·refine(YQ rb s r.a m r.e he w h).mono ?_
  rintro e _ ⟨rfl,hb⟩
  unfold stC
  rw[if_neg he]
  exact⟨rfl,Av.of_below h hb⟩
theorem Zh (rb:Nat)(s:ByteArray)(r:RS)(w:World)(h:At w rb 157 (rdV s r.a r.e))(ha:r.a<=s.size)(hs:s.size<=1000000):
 Calls Tryz.prog 84 #[.pointer (some ⟨rb,0,none⟩)] w fun e w' => ∃ v,e=.returned v/\Al w' v (stL s r).1/\Eb v/\(∀ k,v.ownBlock=some k->w.heap.size<=k)/\Av rb w w' (rdV s (stL s r).2.a (stL s r).2.e):=by
 by_cases he:r.e=0
 ·rw[he] at h
  refine(YT rb s r.a w h ha hs).mono ?_
  intro e w' hp
  unfold stL
  rw[if_pos he]
  cases hr:Cod.Br s r.a with
  | none =>
    rw[hr] at hp
    obtain⟨h1,h2⟩:=hp
    exact⟨_,h1,⟨_,_,rfl,.inl rfl⟩,⟨_,_,_,rfl,Nat.le_refl _⟩,(fun k hk=>by cases hk),h2⟩
  | some y =>
    rw[hr] at hp
    obtain⟨c,d,h1,⟨h2,h3⟩,h4,h5⟩:=hp
    exact⟨_,h1,h2,⟨_,_,_,rfl,h3⟩,h4,h5⟩
 ·refine(YU rb s r.a r.e he w h).mono ?_
  rintro e _ ⟨rfl,hb⟩
  unfold stL
  rw[if_neg he]
  exact⟨_,rfl,⟨_,_,rfl,.inl rfl⟩,⟨_,_,_,rfl,Nat.le_refl _⟩,(fun k hk=>by cases hk),Av.of_below h hb⟩
theorem SF (rb:Nat)(s:ByteArray)(m:Int)(r:RS)(w:World){n:Nat}{r' : RS}(hv:stC s m r=(n,r'))(h:At w rb 157 (rdV s r.a r.e))(ha:r.a<=s.size)(hs:s.size<=1000000):
 Calls Tryz.prog 83 #[.pointer (some ⟨rb,0,none⟩),.int .i64 m] w fun e w' => e=.returned (.int .i64 n)/\Av rb w w' (rdV s r'.a r'.e):=by
 have:=Zg rb s m r w h ha hs
 rw[hv] at this
 exact this
theorem SG (rb:Nat)(s:ByteArray)(r:RS)(w:World){l:List ByteArray}{r' : RS}(hv:stL s r=(l,r'))(h:At w rb 157 (rdV s r.a r.e))(ha:r.a<=s.size)(hs:s.size<=1000000):
 Calls Tryz.prog 84 #[.pointer (some ⟨rb,0,none⟩)] w fun e w' => ∃ v,e=.returned v/\Al w' v l/\Eb v/\(∀ k,v.ownBlock=some k->w.heap.size<=k)/\Av rb w w' (rdV s r'.a r'.e):=by
 have:=Zh rb s r w h ha hs
 rw[hv] at this
 exact this
namespace Own
def Ch (s:ByteArray):Nat->RS->List Member × RS
 | 0,r=>([],r)
 | n + 1,r =>
   (⟨(stT s r).1,(stT s (stT s r).2).1⟩::(Ch s n (stT s (stT s r).2).2).1,(Ch s n (stT s (stT s r).2).2).2)
def D9 (s:ByteArray)(r:RS):Sig.T × RS:=(⟨(stN s r).1,(stL s (stN s r).2).1,(stL s (stL s (stN s r).2).2).1⟩,(stL s (stL s (stN s r).2).2).2)
def Ci (s:ByteArray):Nat->RS->List Ai × RS
 | 0,r=>([],r)
 | n+1,r=>(⟨(stT s r).1,(D9 s (stT s r).2).1⟩::(Ci s n (D9 s (stT s r).2).2).1,(Ci s n (D9 s (stT s r).2).2).2)
theorem PD (s:ByteArray):∀ (n:Nat) (r:RS),Ch s (n+1) r=((Ch s n r).1++[⟨(stT s (Ch s n r).2).1,(stT s (stT s (Ch s n r).2).2).1⟩],(stT s (stT s (Ch s n r).2).2).2)
 | 0,r=>rfl
 | n + 1,r => by
   have h:=PD s n (stT s (stT s r).2).2
   show(_::(Ch s (n+1) (stT s (stT s r).2).2).1,(Ch s (n+1) (stT s (stT s r).2).2).2)=_
   rw[h]
   rfl
theorem SH (s:ByteArray):∀ (n:Nat) (r:RS),Ci s (n+1) r=((Ci s n r).1++[⟨(stT s (Ci s n r).2).1,(D9 s (stT s (Ci s n r).2).2).1⟩],(D9 s (stT s (Ci s n r).2).2).2)
 | 0,r=>rfl
 | n + 1,r => by
   have h:=SH s n (D9 s (stT s r).2).2
   show(_::(Ci s (n+1) (D9 s (stT s r).2).2).1,(Ci s (n+1) (D9 s (stT s r).2).2).2)=_
   rw[h]
   rfl
theorem LW (s:ByteArray):∀ (n:Nat) (r:RS),(Ch s n r).1.length=n
 | 0,_=>rfl
 | n+1,r=>by show(Ch s n _).1.length+1=n+1;rw[LW s n]
theorem Vh (s:ByteArray):∀ (n:Nat) (r:RS),(Ci s n r).1.length=n
 | 0,_=>rfl
 | n+1,r=>by show(Ci s n _).1.length+1=n+1;rw[Vh s n]
theorem OG (s:ByteArray):∀ (n:Nat) (r:RS),r.a<=s.size->(Ch s n r).2.a<=s.size
 | 0,_,h=>h
 | n+1,r,h=>OG s n _ (FJ (FJ h))
theorem mY {s:ByteArray}{r:RS}(h:r.a<=s.size):(D9 s r).2.a<=s.size:=WW (WW (OD h))
theorem SI (s:ByteArray):∀ (n:Nat) (r:RS),r.a<=s.size->(Ci s n r).2.a<=s.size
 | 0,_,h=>h
 | n+1,r,h=>SI s n _ (mY (FJ h))
/-! ### after an error -/
section
variable {s:ByteArray} {r:RS}
theorem eX (h:r.e≠0):stN s r=(0,r):=by unfold stN;rw[if_neg h]
theorem Je (h:r.e≠0):stT s r=(⟨#[]⟩,r):=by unfold stT;rw[if_neg h]
theorem WX {m:Int}(h:r.e≠0):stC s m r=(0,r):=by unfold stC;rw[if_neg h]
theorem Nt (h:r.e≠0):stL s r=([],r):=by unfold stL;rw[if_neg h]
theorem Vi (h:r.e≠0):(D9 s r).2=r:=by
 unfold D9
 rw[eX h]
 dsimp only
 rw[Nt h]
 dsimp only
 rw[Nt h]
end
theorem LY {s:ByteArray} : ∀ (n:Nat) {r:RS},r.e≠0->(Ch s n r).2=r
 | 0,_,_=>rfl
 | n + 1,r,h => by
   show(Ch s n (stT s (stT s r).2).2).2=r
   rw[Je h]
   dsimp only
   rw[Je h]
   exact LY n h
theorem OH {s:ByteArray} : ∀ (n:Nat) {r:RS},r.e≠0->(Ci s n r).2=r
 | 0,_,_=>rfl
 | n + 1,r,h => by
   show(Ci s n (D9 s (stT s r).2).2).2=r
   rw[Je h]
   dsimp only
   rw[Vi h]
   exact OH n h
/-! ### read,or an error -/
section
variable {s:ByteArray} {a:Nat}
theorem bL:stN s ⟨a,0⟩=match Cod.rdN s a with|some (v,b)=>(v,⟨b,0⟩)|none=>(0,⟨a,9⟩):=by unfold stN;rw[if_pos rfl]<;>(cases Cod.rdN s a<;>rfl)
theorem OI:stT s ⟨a,0⟩=match Cod.rdT s a with|some (v,b)=>(v,⟨b,0⟩)|none=>(⟨#[]⟩,⟨a,9⟩):=by unfold stT;rw[if_pos rfl]<;>(cases Cod.rdT s a<;>rfl)
theorem mZ {m:Int} : stC s m ⟨a,0⟩=match rdC s m a with|some (v,b)=>(v,⟨b,0⟩)|none=>(0,⟨a,9⟩):=by unfold stC;rw[if_pos rfl]<;>(cases rdC s m a<;>rfl)
theorem ng:stL s ⟨a,0⟩=match Cod.Br s a with|some (v,b)=>(v,⟨b,0⟩)|none=>([],⟨a,9⟩):=by unfold stL;rw[if_pos rfl]<;>(cases Cod.Br s a<;>rfl)
end
def Bad (r:RS):Prop:=r.e=9
theorem Bad.ne {r:RS}(h:Bad r):r.e≠0:=by rw[show r.e=9 from h];decide
theorem Vj {s:ByteArray} : ∀ (n a:Nat),(match IL s n a with|some (l,b)=>Ch s n ⟨a,0⟩=(l,⟨b,0⟩)|none=>Bad (Ch s n ⟨a,0⟩).2)
 | 0,a=>rfl
 | n + 1,a => by
   unfold IL Ch
   rw[OI]
   cases h1:Cod.rdT s a with
   | none =>
     dsimp only
     have hb:Bad (⟨a,9⟩:RS):=rfl
     rw[Je hb.ne]
     dsimp only
     rw[LY n hb.ne]
     exact hb
   | some y =>
     obtain⟨nm,b⟩:=y
     dsimp only
     rw[OI]
     cases h2:Cod.rdT s b with
     | none =>
       dsimp only
       have hb:Bad (⟨b,9⟩:RS):=rfl
       rw[LY n hb.ne]
       exact hb
     | some y =>
       obtain⟨pb,c⟩:=y
       dsimp only
       have ih:=Vj (s:=s) n c
       cases h3:IL s n c with
       | none =>
         rw[h3] at ih
         exact ih
       | some y =>
         obtain⟨l,d⟩:=y
         rw[h3] at ih
         have ih' : Ch s n ⟨c,0⟩=(l,⟨d,0⟩):=ih
         rw[ih']
theorem ni {s:ByteArray}(a:Nat):(match UD s a with|some (x,b)=>D9 s ⟨a,0⟩=(x,⟨b,0⟩)|none=>Bad (D9 s ⟨a,0⟩).2):=by
 unfold UD D9
 rw[bL]
 cases h1:Cod.rdN s a with
 | none =>
   dsimp only
   have hb:Bad (⟨a,9⟩:RS):=rfl
   rw[Nt hb.ne]
   dsimp only
   rw[Nt hb.ne]
   exact hb
 | some y =>
   obtain⟨i,b⟩:=y
   dsimp only
   rw[ng]
   cases h2:Cod.Br s b with
   | none =>
     dsimp only
     have hb:Bad (⟨b,9⟩:RS):=rfl
     rw[Nt hb.ne]
     exact hb
   | some y =>
     obtain⟨ch,c⟩:=y
     dsimp only
     rw[ng]
     cases h3:Cod.Br s c with
     | none=>exact rfl
     | some y =>
       obtain⟨pa,d⟩:=y
       rfl
theorem Zi {s:ByteArray} : ∀ (n a:Nat),(match MI s n a with|some (l,b)=>Ci s n ⟨a,0⟩=(l,⟨b,0⟩)|none=>Bad (Ci s n ⟨a,0⟩).2)
 | 0,a=>rfl
 | n + 1,a => by
   unfold MI Ci
   rw[OI]
   cases h1:Cod.rdT s a with
   | none =>
     dsimp only
     have hb:Bad (⟨a,9⟩:RS):=rfl
     rw[Vi hb.ne]
     rw[OH n hb.ne]
     exact hb
   | some y =>
     obtain⟨nm,b⟩:=y
     dsimp only
     have hs:=ni (s:=s) b
     cases h2:UD s b with
     | none =>
       rw[h2] at hs
       have hb:Bad (D9 s ⟨b,0⟩).2:=hs
       dsimp only
       rw[OH n hb.ne]
       exact hb
     | some y =>
       obtain⟨sg,c⟩:=y
       rw[h2] at hs
       have hs' : D9 s ⟨b,0⟩=(sg,⟨c,0⟩):=hs
       rw[hs']
       dsimp only
       have ih:=Zi (s:=s) n c
       cases h3:MI s n c with
       | none =>
         rw[h3] at ih
         exact ih
       | some y =>
         obtain⟨l,d⟩:=y
         rw[h3] at ih
         have ih' : Ci s n ⟨c,0⟩=(l,⟨d,0⟩):=ih
         rw[ih']
structure nu (s:ByteArray) where
 k:Nat × RS
 pre:ByteArray × RS
 n:Nat × RS
 ms:List Member × RS
 t:Nat × RS
 nm:ByteArray × RS
 pb:ByteArray × RS
 m:Nat × RS
 aps:List Ai × RS
def stOp (s:ByteArray):nu s:=
 let k:=stN s ⟨0,0⟩
 let pre:=stT s k.2
 let n:=stC s 8 pre.2
 let ms:=Ch s n.1 n.2
 let t:=stN s ms.2
 let nm:=stT s t.2
 let pb:=stT s nm.2
 let m:=stC s 8 pb.2
 ⟨k,pre,n,ms,t,nm,pb,m,Ci s m.1 m.2⟩
def nu.op {s:ByteArray}(x:nu s):Op:=⟨x.k.1,x.pre.1,x.ms.1,x.t.1,x.nm.1,x.pb.1,x.aps.1⟩
theorem rD {s:ByteArray}(pb:ByteArray × RS)(h:Bad pb.2):Bad (Ci s (stC s 8 pb.2).1 (stC s 8 pb.2).2).2:=by
 rw[WX h.ne]
 exact h
theorem ny {s:ByteArray}(nm:ByteArray × RS)(h:Bad nm.2):Bad (Ci s (stC s 8 (stT s nm.2).2).1 (stC s 8 (stT s nm.2).2).2).2:=by
 rw[Je h.ne]
 exact rD (s:=s) (⟨#[]⟩,nm.2) h
theorem rE {s:ByteArray}(t:Nat × RS)(h:Bad t.2):Bad (Ci s (stC s 8 (stT s (stT s t.2).2).2).1 (stC s 8 (stT s (stT s t.2).2).2).2).2:=by
 rw[Je h.ne]
 exact ny (s:=s) (⟨#[]⟩,t.2) h
theorem SK {s:ByteArray}(r:RS)(h:Bad r):Bad (Ci s (stC s 8 (stT s (stT s (stN s r).2).2).2).1 (stC s 8 (stT s (stT s (stN s r).2).2).2).2).2:=by
 rw[eX h.ne]
 exact rE (s:=s) (0,r) h
theorem pJ (s:ByteArray):(match iE s with|some (op,e)=>(stOp s).op=op/\(stOp s).aps.2=⟨e,0⟩|none=>Bad (stOp s).aps.2):=by
 unfold stOp iE nu.op
 dsimp only
 rw[bL]
 cases h1:Cod.rdN s 0 with
 | none =>
   dsimp only
   have hb:Bad (⟨0,9⟩:RS):=rfl
   rw[Je hb.ne]
   dsimp only
   rw[WX hb.ne]
   exact SK _ hb
 | some y =>
   obtain⟨k,a1⟩:=y
   dsimp only
   rw[OI]
   cases h2:Cod.rdT s a1 with
   | none =>
     dsimp only
     have hb:Bad (⟨a1,9⟩:RS):=rfl
     rw[WX hb.ne]
     exact SK _ hb
   | some y =>
     obtain⟨pre,a2⟩:=y
     dsimp only
     rw[mZ]
     unfold rdC
     cases h3:Cod.rdN s a2 with
     | none=>exact SK _ (rfl:Bad (⟨a2,9⟩:RS))
     | some y =>
       obtain⟨n,a3⟩:=y
       dsimp only
       by_cases hn:8<n
       ·rw[if_pos hn,if_neg (show ¬ ((n:Int)<=8) by omega)]
        exact SK _ (rfl:Bad (⟨a2,9⟩:RS))
       rw[if_neg hn,if_pos (show(n:Int)<=8 by omega)]
       dsimp only
       have hm:=Vj (s:=s) n a3
       cases h4:IL s n a3 with
       | none =>
         rw[h4] at hm
         exact SK _ hm
       | some y =>
         obtain⟨ms,a4⟩:=y
         rw[h4] at hm
         have hm' : Ch s n ⟨a3,0⟩=(ms,⟨a4,0⟩):=hm
         rw[hm']
         dsimp only
         rw[bL]
         cases h5:Cod.rdN s a4 with
         | none=>exact rE (s:=s) (0,⟨a4,9⟩) rfl
         | some y =>
           obtain⟨t,a5⟩:=y
           dsimp only
           rw[OI]
           cases h6:Cod.rdT s a5 with
           | none=>exact ny (s:=s) (⟨#[]⟩,⟨a5,9⟩) rfl
           | some y =>
             obtain⟨nm,a6⟩:=y
             dsimp only
             rw[OI]
             cases h7:Cod.rdT s a6 with
             | none=>exact rD (s:=s) (⟨#[]⟩,⟨a6,9⟩) rfl
             | some y =>
               obtain⟨pb,a7⟩:=y
               dsimp only
               rw[mZ]
               unfold rdC
               cases h8:Cod.rdN s a7 with
               | none=>exact(rfl:Bad (⟨a7,9⟩:RS))
               | some y =>
                 obtain⟨m,a8⟩:=y
                 dsimp only
                 by_cases hn8:8<m
                 ·rw[if_pos hn8,if_neg (show ¬ ((m:Int)<=8) by omega)]
                  exact(rfl:Bad (⟨a7,9⟩:RS))
                 rw[if_neg hn8,if_pos (show(m:Int)<=8 by omega)]
                 dsimp only
                 have ha:=Zi (s:=s) m a8
                 cases h9:MI s m a8 with
                 | none =>
                   rw[h9] at ha
                   exact ha
                 | some y =>
                   obtain⟨aps,a9⟩:=y
                   rw[h9] at ha
                   have ha' : Ci s m ⟨a8,0⟩=(aps,⟨a9,0⟩):=ha
                   rw[ha']
                   exact⟨rfl,rfl⟩
theorem pK (s:ByteArray):(stOp s).aps.2.a<=s.size:=
 SI s _ _ (WU (FJ (FJ (OD (OG s _ _ (WU (FJ (OD (Nat.zero_le _)))))))))
theorem nC (s:ByteArray):MJ s=if DX s (stOp s).aps.2.a (stOp s).aps.2.e=0/\Fv (stOp s).op=true then ((stOp s).op,0) else (.none,9):=by
 have h:=pJ s
 have hl:=pK s
 unfold MJ
 cases h1:iE s with
 | none =>
   rw[h1] at h
   have hb:(stOp s).aps.2.e=9:=h
   rw[if_neg]
   intro hx
   have:=hx.1
   unfold DX at this
   rw[hb] at this
   rw[if_neg (by intro h;cases h.1)] at this
   cases this
 | some y =>
   obtain⟨op,e⟩:=y
   rw[h1] at h
   obtain⟨ho,he⟩:=h
   rw[ho,he]
   rw[he] at hl
   dsimp only at hl ⊢
   by_cases hs:e=s.size
   ·rw[decide_eq_true hs]
    have:DX s e 0=0:=by unfold DX;rw[if_neg (by omega)]
    rw[this]
    cases hf:Fv op<;>simp
   ·rw[decide_eq_false hs]
    have:DX s e 0=9:=by unfold DX;rw[if_pos ⟨rfl,by omega⟩]
    rw[this]
    simp
end Own
end
section
open Go Go.RowKit Go.Maps
namespace Own
theorem Jf (l:List ByteArray)(h:∀ x∈l,x.size=32):(Cod.texts l).size<=10+42*l.length:=by
 have h1:=Cod.Ce l.length
 have h2:∀ l:List ByteArray,(∀ x∈l,x.size=32)->(Cod.cat (l.map Cod.text)).size<=42*l.length:=by
  intro l
  induction l with
  | nil=>intro _;exact Nat.le_refl _
  | cons x l ih =>
    intro h
    have h3:=Cr x
    have h4:=h x List.mem_cons_self
    have h5:=ih (fun y hy=>h y (List.mem_cons_of_mem _ hy))
    show(Cod.text x++Cod.cat (l.map Cod.text)).size<=_
    rw[Sha.Ag,List.length_cons]
    omega
 have h3:=h2 l h
 unfold Cod.texts
 rw[Sha.Ag]
 omega
def Ka (s:Sig.T):ByteArray × Int:=if Dq s=true then (Bw s,0) else (⟨#[]⟩,1)
theorem bM {s:Sig.T}(h:Dq s=true):(Bw s).size<=4000:=by
 unfold Dq at h
 simp only[Bool.and_eq_true,decide_eq_true_eq] at h
 obtain⟨⟨⟨⟨h0,h1⟩,h2⟩,h3⟩,h4⟩:=h
 have a:=Jf s.chains (fun x hx=>of_decide_eq_true (List.all_eq_true.1 h3 x hx))
 have b:=Jf s.path (fun x hx=>of_decide_eq_true (List.all_eq_true.1 h4 x hx))
 have c:=Cod.Ce s.index.toNat
 unfold Bw
 rw[Sha.Ag,Sha.Ag]
 omega
end Own
theorem Zj (s:Sig.T)(cv pv:Value)(w:World)(hc:Al w cv s.chains)(hp:Al w pv s.path)(hi:s.index<9223372036854775808)(hl:s.chains.length<=140737488355328)(hlp:s.path.length<=140737488355328):
 Calls Tryz.prog 76 #[.agg #[.int .i64 s.index,cv,pv]] w fun e w' => e=.returned (.tuple #[.string (Own.Ka s).1,.int .i64 (Own.Ka s).2])/\Below w.heap.size w w':=by
 obtain⟨R,hR⟩:∃ R,R=Own.Ka s:=⟨_,rfl⟩
 rw[<- hR]
 unfold Own.Ka Own.Dq at hR
 obtain⟨ca,cc,rfl⟩:=hc.len
 obtain⟨pa,pc,rfl⟩:=hp.len
 have HR:=zh hR;clear hR
 have F1:=zh (show Au w _ [(70,#[.int .i64 s.index,.slice ca s.chains.length cc,.slice pa s.path.length pc])] from((CY.nil w).push 70 #[.int .i64 s.index,.slice ca s.chains.length cc,.slice pa s.path.length pc]).boxes)
 have HC:=zh (hc.below F1.out.under);have HP:=zh (hp.below F1.out.under)
 clear hc hp
 go_enter Tryz.func76,Tryz.ntmps76
 go_upto_region 1 with fail
 generalize (w.alloc (.cells #[.int .i64 s.index,.slice ca s.chains.length cc,.slice pa s.path.length pc] 70))=w1 at*
 obtain⟨x00,x01,x02⟩:=F1.out.Fw rfl
 by_cases i1:s.index<0
 ·have e1:decide (s.index<0)=true:=decide_eq_true i1
  have HE:=zh (show R=(⟨#[]⟩,1) by rw[HR.out,decide_eq_false (show ¬ 0<=s.index by omega)];rfl)
  go_wp2_with fail
  go_ret2
  exact⟨by rw[HE.out];rfl,F1.out.under⟩
 have e1:decide (s.index<0)=false:=decide_eq_false i1
 by_cases i3:s.chains.length=67
 case neg=>
  have e3:((s.chains.length:Int) != 67)=true:=by rw[bne_iff_ne];omega
  have HE:=zh (show R=(⟨#[]⟩,1) by rw[HR.out,decide_eq_false i3];simp)
  go_wp2_with fail
  go_ret2
  exact⟨by rw[HE.out];rfl,F1.out.under⟩
 have e3:((s.chains.length:Int) != 67)=false:=by rw[bne_eq_false_iff_eq];omega
 by_cases i4:s.path.length<=6
 case neg=>
  have e4:decide ((6:Int)<(s.path.length:Int))=true:=zt
  have HE:=zh (show R=(⟨#[]⟩,1) by rw[HR.out,decide_eq_false i4];simp)
  go_wp2_with fail
  go_ret2
  exact⟨by rw[HE.out];rfl,F1.out.under⟩
 have e4:decide ((6:Int)<(s.path.length:Int))=false:=zf
 have I3:=zh i3;clear i3
 go_wp2_with fail
 refine(Hg 126 #[] Tryz.call126 (fun x => !Sig.digest x) _ s.chains _ (fun W x=>Ls x W) HC.out hl).mono ?_
 rintro e _ ⟨rfl,q,rfl⟩
 rw[Hl]
 have hbq:Below w1.heap.size w1 (w1.drewN q):=below_drewN (Below.refl _ _) q
 have F2:=zh (F1.out.step hbq);have HC2:=zh (HC.out.below hbq);have HP2:=zh (HP.out.below hbq)
 clear hbq HC HP
 generalize w1.drewN q=w2 at*
 (try clear x00 x01 x02)
 obtain⟨x00,x01,x02⟩:=F2.out.Fw rfl
 cases hall:s.chains.all Sig.digest with
 | false =>
   have HE:=zh (show R=(⟨#[]⟩,1) by rw[HR.out,hall];simp)
   clear hall
   go_wp2_with fail
   go_ret2
   exact⟨by rw[HE.out];rfl,F2.out.under⟩
 | true=>
 go_wp2_with fail
 refine(Hg 126 #[] Tryz.call126 (fun x => !Sig.digest x) _ s.path _ (fun W x=>Ls x W) HP2.out hlp).mono ?_
 rintro e _ ⟨rfl,q,rfl⟩
 rw[Hl]
 have hbq:Below w2.heap.size w2 (w2.drewN q):=below_drewN (Below.refl _ _) q
 have F3:=zh (F2.out.step hbq);have HC3:=zh (HC2.out.below hbq);have HP3:=zh (HP2.out.below hbq)
 clear hbq HC2 HP2
 generalize w2.drewN q=w3 at*
 (try clear x00 x01 x02)
 obtain⟨x00,x01,x02⟩:=F3.out.Fw rfl
 cases Pk:s.path.all Sig.digest with
 | false =>
   have HE:=zh (show R=(⟨#[]⟩,1) by rw[HR.out,Pk];simp)
   clear Pk hall
   go_wp2_with fail
   go_ret2
   exact⟨by rw[HE.out];rfl,F3.out.under⟩
 | true=>
 obtain⟨n,hn⟩:∃ n:Nat,s.index=n:=⟨s.index.toNat,by omega⟩
 have hz1:∀ x∈s.chains,x.size=32:=fun x hx=>of_decide_eq_true (List.all_eq_true.1 hall x hx)
 have hz2:∀ x∈s.path,x.size=32:=fun x hx=>of_decide_eq_true (List.all_eq_true.1 Pk x hx)
 have t1:(Cod.texts s.chains).size<=3000:=by have:=Own.Jf s.chains hz1;have:=I3.out;omega
 have t2:=Own.Jf s.path hz2
 have t0:=Cod.Ce n
 have HE:=zh (show R=(Cod.uns n++(Cod.texts s.chains++Cod.texts s.path),0) by
  rw[HR.out,hall,Pk,decide_eq_true I3.out,decide_eq_true i4,decide_eq_true (show 0<=s.index by omega),if_pos (by simp)]
  unfold Own.Bw
  rw[hn]
  rfl)
 rw[hn] at x00 hi e1
 have Z1:=zh hz1;have Z2:=zh hz2
 clear hall Pk hz1 hz2 HR hn
 have y1:(w3.cell? ⟨w.heap.size,1,none⟩).isSome=true:=by rw[x01];rfl
 have y2:(w3.cell? ⟨w.heap.size,2,none⟩).isSome=true:=by rw[x02];rfl
 have Y1:=zh y1;have Y2:=zh y2
 clear y1 y2
 have hl3:w.heap.size<w3.heap.size:=F3.out.lt (i:=0) (by simp)
 have hat:At (w3.drew.alloc (.cells #[.int .i64 (n:Int)] 3)) w3.heap.size 3 (([n]).map fun n:Nat=>Value.int .i64 (n:Int)).toArray:=At.new w3.drew 3 #[.int .i64 (n:Int)]
 have HNM:=zh (Ms w3.heap.size [n] _ hat (fun x hx=>by rcases List.mem_singleton.1 hx with rfl;omega) (by show 1<=1000;omega))
 clear hat
 go_wp2_with fail
 refine Lex.zn (fun k=>k=w.heap.size) [5,9] 11 [4,3,4] ?_
 simp only[Lex.Bp,zd]
 go_wp2_with fail
 refine HNM.out.mono ?_
 rintro e w4 ⟨rfl,hb4⟩
 have B4:=zh (show Below w3.heap.size w3 w4 from((Below.refl w3.heap.size w3).drew.alloc (Nat.le_refl _) _).trans (hb4.mono (by simp)))
 have F4:=zh (F3.out.step B4.out);clear hb4
 (try clear x00 x01 x02)
 obtain⟨x00,x01,x02⟩:=F4.out.Fw rfl
 have hu:Cod.cat ([n].map Cod.uns)=Cod.uns n:=Ou _
 rw[hu]
 clear hu
 obtain⟨U,hU⟩:∃ U,U=Cod.uns n:=⟨_,rfl⟩
 rw[<- hU] at t0 HE ⊢
 clear hU
 go_wp2_with fail
 refine Lex.Mid.intro (fun k hk hkl=>by rw[hk];exact B4.out.block _ hl3) ?_
 go_wp2_with fail
 refine(Sn _ s.chains _ (HC3.out.below B4.out) (fun x hx=>by rw[Z1.out x hx];omega) (by have:=I3.out;omega) (by omega)).mono ?_
 rintro e w5 ⟨rfl,hb5⟩
 have B5:=zh (B4.out.trans (hb5.mono B4.out.size))
 have F5:=zh (F3.out.step B5.out);clear hb5
 (try clear x00 x01 x02)
 obtain⟨x00,x01,x02⟩:=F5.out.Fw rfl
 obtain⟨T1,hT1⟩:∃ T,T=Cod.texts s.chains:=⟨_,rfl⟩
 rw[<- hT1] at t1 HE ⊢
 clear hT1
 go_wp2_with fail
 refine Lex.Mid.intro (fun k hk hkl=>by rw[hk];exact B5.out.block _ hl3) ?_
 go_wp2_with fail
 refine(Sn _ s.path _ (HP3.out.below B5.out) (fun x hx=>by rw[Z2.out x hx];omega) (by omega) (by omega)).mono ?_
 rintro e w6 ⟨rfl,hb6⟩
 have B6:=zh (B5.out.trans (hb6.mono B5.out.size))
 have F6:=zh (F3.out.step B6.out);clear hb6
 obtain⟨T2,hT2⟩:∃ T,T=Cod.texts s.path:=⟨_,rfl⟩
 rw[<- hT2] at t2 HE ⊢
 clear hT2
 (try clear x00 x01 x02)
 go_wp2_with fail
 refine Lex.Mid.intro (fun k hk hkl=>by rw[hk];exact B6.out.block _ hl3) ?_
 go_wp2_with fail
 refine Lex.zk ⟨⟨rfl,Y1.out⟩,⟨rfl,Y2.out⟩,trivial⟩ ?_
 go_wp2_with fail
 (try go_ret2)
 exact⟨by rw[HE.out,ByteArray.append_assoc];rfl,F6.out.under⟩
namespace Own
def Es:List Ai->Nat
 | []=>0
 | a::l=>a.name.size+Es l
theorem Qm:∀ (l:List Ai),(∀ a∈l,Dq a.sig=true)->(Cod.cat (l.map Ay)).size<=Es l+4010*l.length
 | [],_=>Nat.le_refl _
 | a :: l,h => by
   have h1:=Qm l (fun x hx=>h x (List.mem_cons_of_mem _ hx))
   have h2:=bM (h a List.mem_cons_self)
   have h3:=Cr a.name
   show((Cod.text a.name++Bw a.sig)++Cod.cat (l.map Ay)).size<=a.name.size+Es l+4010*(l.length+1)
   rw[Sha.Ag,Sha.Ag]
   omega
theorem Ma:∀ (l:List Ai) (k:Nat),Es (l.take k)<=Es l
 | [],k=>by simp[Es]
 | a::l,0=>Nat.zero_le _
 | a :: l,k + 1 => by
   have:=Ma l k
   show a.name.size+Es (l.take k)<=a.name.size+Es l
   omega
theorem Vk:∀ {l:List Ai} {a:Ai},a∈l->a.name.size<=Es l
 | [],_,h=>by cases h
 | b :: l,a,h => by
   rcases List.mem_cons.1 h with rfl|h
   ·exact Nat.le_add_right _ _
   ·have:=Vk h
    show _<=b.name.size+Es l
    omega
theorem pO (l:List Ai)(k:Nat)(hk:k<l.length):Cod.cat ((l.take (k+1)).map Ay)=Cod.cat ((l.take k).map Ay)++Ay l[k]:=by
 rw[List.take_succ_eq_append_getElem hk,List.map_append,List.map_cons,List.map_nil,Gy]
end Own
theorem Nu (op:Own.Op)(mv av:Value)(w:World)(hM:Il w)(hm:Own.Af w mv op.members)(hA:Own.Hq w av op.Aa)(hml:op.members.length<=140737488355328)(hsum:Own.Es op.Aa<=140737488000000)
 (hal:∀ a∈op.Aa,a.sig.index<9223372036854775808/\a.sig.chains.length<=140737488355328/\a.sig.path.length<=140737488355328):
 Calls Tryz.prog 24 #[Own.opV op mv av] w fun e w' => e=.returned (.tuple #[.string (Own.Dh op).1,.int .i64 (Own.Dh op).2])/\Below w.heap.size w w':=by
 obtain⟨R,hR⟩:∃ R,R=Own.Dh op:=⟨_,rfl⟩
 rw[<- hR]
 unfold Own.Dh Own.Fv at hR
 obtain⟨ma,mc,rfl⟩:=hm.len
 obtain⟨aa,ac,rfl,hap⟩:=id hA
 clear hap
 have HR:=zh hR;clear hR
 have F1:=zh (show Au w _ [(29,#[.int .i64 op.kind,.string op.pre,.slice ma op.members.length mc,.int .i64 op.threshold,.string op.name,.string op.pub,.slice aa op.Aa.length ac])] from((CY.nil w).push 29 #[.int .i64 op.kind,.string op.pre,.slice ma op.members.length mc,.int .i64 op.threshold,.string op.name,.string op.pub,.slice aa op.Aa.length ac]).boxes)
 have hcf:=fun W (hW:Below w.heap.size w W)=>Ja op (.slice ma op.members.length mc) (.slice aa op.Aa.length ac) W (hM.below hW) (hm.below hW) ⟨_,_,rfl⟩ hml
 have hcb:=fun(hz:Own.KD op) W (hW:Below w.heap.size w W)=>Pw op (.slice ma op.members.length mc) (.slice aa op.Aa.length ac) W (hm.below hW) ⟨_,_,rfl⟩ hz
 unfold Own.opV at hcf hcb ⊢
 have HCF:=zh hcf;have HCB:=zh hcb;have HA:=zh hA;have HAL:=zh hal
 clear hM hm hcf hcb hA hal
 go_enter Tryz.func24,Tryz.ntmps24
 go_upto_region 1 with fail
 generalize (w.alloc (.cells #[.int .i64 op.kind,.string op.pre,.slice ma op.members.length mc,.int .i64 op.threshold,.string op.name,.string op.pub,.slice aa op.Aa.length ac] 29))=w1 at*
 obtain⟨x00,x01,x02,x03,x04,x05,x06⟩:=F1.out.JI rfl
 go_wp2_with fail
 refine(HCF.out w1 F1.out.under).mono ?_
 rintro e w2 ⟨rfl,hb2⟩
 have F2:=zh (F1.out.step hb2);clear hb2
 (try clear x00 x01 x02 x03 x04 x05 x06)
 obtain⟨x00,x01,x02,x03,x04,x05,x06⟩:=F2.out.JI rfl
 cases hok:Own.Eh op with
 | false =>
   have HE:=zh (show R=(⟨#[]⟩,1) by rw[HR.out,hok];rfl)
   clear hok
   go_wp2_with fail
   go_ret2
   exact⟨by rw[HE.out];rfl,F2.out.under⟩
 | true=>
 have hz:=Own.KD.of hok
 have hbz:=Own.Gg hz
 have zbr:=hz.al
 have pF:=zh (HCB.out hz)
 have HR2:=zh (show R=if (op.Aa.all fun a=>Own.Dq a.sig)=true then (Own.CW op++(Cod.uns op.Aa.length++Cod.cat (op.Aa.map Own.Ay)),0) else (⟨#[]⟩,1) by rw[HR.out,hok];simp)
 clear hok hz HR
 have Y1:=zh (zi x06)
 have hl2:w.heap.size<w2.heap.size:=F2.out.lt (i:=0) (by simp)
 obtain⟨X,hX⟩:∃ X,X=Own.CW op:=⟨_,rfl⟩
 rw[<- hX] at hbz HR2 pF
 clear hX
 go_wp2_with fail
 refine Lex.zn (fun k=>k=w.heap.size) [3] 5 [2] ?_
 simp only[Lex.Bp,zd]
 go_wp2_with fail
 refine(pF.out _ (F2.out.under.trans ((Below.refl w2.heap.size w2).drew.mono F2.out.under.size))).mono ?_
 rintro e w3 ⟨rfl,hb3⟩
 have B3:=zh (show Below w2.heap.size w2 w3 from(Below.refl w2.heap.size w2).drew.trans hb3)
 have F3:=zh (F2.out.step B3.out);clear hb3
 (try clear x00 x01 x02 x03 x04 x05 x06)
 obtain⟨x00,x01,x02,x03,x04,x05,x06⟩:=F3.out.JI rfl
 go_wp2_with fail
 refine Lex.Mid.intro (fun k hk hkl=>by rw[hk];exact B3.out.block _ hl2) ?_
 go_wp2_with fail
 refine(Ep op.Aa.length _ (by omega)).mono ?_
 rintro e w4 ⟨rfl,hb4⟩
 have F4:=zh (F3.out.step hb4);clear hb4
 (try clear x00 x01 x02 x03 x04 x05 x06)
 obtain⟨x00,x01,x02,x03,x04,x05,x06⟩:=F4.out.JI rfl
 obtain⟨U,hU⟩:∃ U,U=Cod.uns op.Aa.length:=⟨_,rfl⟩
 rw[<- hU] at HR2 ⊢
 have zU:U.size<=10:=by rw[hU];exact Cod.Ce _
 clear hU
 go_wp2_with fail
 refine Lex.zk ⟨⟨rfl,Y1.out⟩,trivial⟩ ?_
 obtain⟨Y,hY⟩:∃ Y,Y=X++U:=⟨_,rfl⟩
 have zY:Y.size<=2010:=by rw[hY,Sha.Ag];omega
 have HR3:=zh (show R=if (op.Aa.all fun a=>Own.Dq a.sig)=true then (Y++Cod.cat (op.Aa.map Own.Ay),0) else (⟨#[]⟩,1) by rw[HR2.out,hY,ByteArray.append_assoc])
 rw[<- hY]
 clear hY HR2
 go_wp2_with fail
 (try clear x00 x01 x02 x03 x04 x05 x06)
 go_loopw [22,4] (fun i s wr=>∃ k:Nat,k<=op.Aa.length/\i=.int .i64 k/\s=.string (Y++Cod.cat ((op.Aa.take k).map Own.Ay))/\(∀ a∈op.Aa.take k,Own.Dq a.sig=true)/\Below w.heap.size w wr) (fun i _ _=>op.Aa.length-(intOf i).toNat)
 case atStart=>exact⟨0,by omega,rfl,by rw[List.take_zero];show _=Value.string (Y++⟨#[]⟩);rw[Ou],by simp,F4.out.under⟩
 case round=>
  obtain⟨k,hk,rfl,rfl,hs,hb⟩:=hrel
  have hsz:=Own.Qm (op.Aa.take k) hs
  have hnt:=Own.Ma op.Aa k
  rw[List.length_take,Nat.min_eq_left hk] at hsz
  by_cases hlt:k<op.Aa.length
  case neg=>
   have hke:k=op.Aa.length:=by omega
   have dk:decide ((k:Int)<(op.Aa.length:Int))=false:=zf
   rw[hke,List.take_length] at hs
   have HE:=zh (show R=(Y++Cod.cat ((op.Aa.take k).map Own.Ay),0) by rw[HR3.out,if_pos (List.all_eq_true.2 hs),hke,List.take_length])
   have HB:=zh hb
   clear hs hb hke hsz hnt
   go_wp2_with fail
   go_ret2
   exact⟨by rw[HE.out];rfl,HB.out⟩
  have dk:decide ((k:Int)<(op.Aa.length:Int))=true:=zt
  obtain⟨a',c',hv,hcells⟩:=HA.out.below hb
  cases hv
  obtain⟨b,q,cv,pv,ha,hbl,e0,e1,e2,e3,hcv,hpv,_⟩:=hcells k hlt
  subst ha
  clear hcells
  obtain⟨z1,z2,z3⟩:=HAL.out op.Aa[k] (List.getElem_mem hlt)
  have hnx:=Own.pO op.Aa k hlt
  have hnm:=Own.Vk (List.getElem_mem hlt)
  have hall:(op.Aa.all fun a=>Own.Dq a.sig)=true->Own.Dq op.Aa[k].sig=true:=fun h=>List.all_eq_true.1 h _ (List.getElem_mem hlt)
  have hs2:Own.Dq op.Aa[k].sig=true->∀ a∈op.Aa.take (k+1),Own.Dq a.sig=true:=fun h a ha=>by
   rw[List.take_succ_eq_append_getElem hlt] at ha
   rcases List.mem_append.1 ha with h1|h1
   ·exact hs a h1
   ·rw[List.mem_singleton.1 h1];exact h
  have htot:Own.Dq op.Aa[k].sig=true->(Y++Cod.cat ((op.Aa.take (k+1)).map Own.Ay)).size<=140737488200000:=fun h=>by
   have h1:=Own.Qm _ (hs2 h)
   have h2:=Own.Ma op.Aa (k+1)
   rw[List.length_take,Nat.min_eq_left (by omega)] at h1
   rw[Sha.Ag]
   omega
  obtain⟨Z,hZ⟩:∃ Z,Z=Y++Cod.cat ((op.Aa.take k).map Own.Ay):=⟨_,rfl⟩
  rw[hnx,<- ByteArray.append_assoc,<- hZ] at htot
  rw[<- ByteArray.append_right_inj Y,<- ByteArray.append_assoc,<- hZ] at hnx
  rw[<- hZ]
  obtain⟨A,hAe⟩:∃ A,A=op.Aa[k]:=⟨_,rfl⟩
  rw[<- hAe] at e0 e1 hcv hpv z1 z2 z3 hnx hnm hall hs2 htot
  obtain⟨an,sg⟩:=A
  obtain⟨ix,cs,ps⟩:=sg
  dsimp only at e0 e1 hcv hpv z1 z2 z3 hnx hnm hall hs2 htot
  obtain⟨ca,cc,rfl⟩:=hcv.len
  obtain⟨pa,pc,rfl⟩:=hpv.len
  have HB:=zh hb;have HNX:=zh hnx;have oF:=zh hall;have HS2:=zh hs2;have HT:=zh htot;have HCV:=zh hcv;have HPV:=zh hpv
  clear hb hnx hall hs2 htot hcv hpv hs hZ hAe hsz hnt
  have K1:=zh (show Au wr _ [(72,#[.string an,.int .i64 ix,.slice ca cs.length cc,.slice pa ps.length pc])] from((CY.nil wr).push 72 #[.string an,.int .i64 ix,.slice ca cs.length cc,.slice pa ps.length pc]).boxes)
  go_upto_region 7 with fail
  generalize (wr.alloc (.cells #[.string an,.int .i64 ix,.slice ca cs.length cc,.slice pa ps.length pc] 72))=w6 at*
  obtain⟨y00,y01,y02,y03⟩:=K1.out.wJ rfl
  clear e0 e1 e2 e3
  have hse:=Zj ⟨ix,cs,ps⟩ (.slice ca cs.length cc) (.slice pa ps.length pc) w6 (HCV.out.below K1.out.under) (HPV.out.below K1.out.under) z1 z2 z3
  dsimp only at hse
  have HSE:=zh hse
  clear hse
  go_wp2_with fail
  refine HSE.out.mono ?_
  rintro e w7 ⟨rfl,hb7⟩
  have K7:=zh (K1.out.step hb7)
  clear hb7 HSE
  (try clear y00 y01 y02 y03)
  obtain⟨y00,y01,y02,y03⟩:=K7.out.wJ rfl
  cases hso:Own.Dq ⟨ix,cs,ps⟩ with
  | false =>
    have e1:Own.Ka ⟨ix,cs,ps⟩=(⟨#[]⟩,1):=by unfold Own.Ka;rw[hso];rfl
    rw[e1]
    have HE:=zh (show R=(⟨#[]⟩,1) by
     rw[HR3.out,if_neg]
     intro h
     rw[oF.out h] at hso
     cases hso)
    clear hso e1
    go_wp2_with fail
    go_ret2
    exact⟨by rw[HE.out];rfl,(HB.out.trans (K7.out.under.mono HB.out.size))⟩
  | true=>
  have e1:Own.Ka ⟨ix,cs,ps⟩=(Own.Bw ⟨ix,cs,ps⟩,0):=by unfold Own.Ka;rw[hso];rfl
  rw[e1]
  have hto:=HT.out hso
  have hs3:=HS2.out hso
  unfold Own.Ay at hto
  rw[Sha.Ag,Sha.Ag] at hto
  dsimp only at hto ⊢
  have hn3:Y++Cod.cat ((op.Aa.take (k+1)).map Own.Ay)=Z++(Cod.text an++Own.Bw ⟨ix,cs,ps⟩):=HNX.out
  obtain⟨S,hS⟩:∃ S,S=Own.Bw ⟨ix,cs,ps⟩:=⟨_,rfl⟩
  rw[<- hS] at hto hn3 ⊢
  have HN3:=zh hn3;have HS3:=zh hs3
  clear hn3 hs3 hso e1 hS
  go_wp2_with fail
  refine(ED an _ (by omega)).mono ?_
  rintro e w8 ⟨rfl,hb8⟩
  have K8:=zh (K7.out.step hb8)
  clear hb8
  (try clear y00 y01 y02 y03)
  obtain⟨T,hT⟩:∃ T,T=Cod.text an:=⟨_,rfl⟩
  rw[<- hT] at hto HN3 ⊢
  clear hT
  go_wp2_with fail
  go_round
  case measure=>simp[intOf];omega
  case rel=>exact⟨k+1,by omega,by go_num,by rw[HN3.out],HS3.out,HB.out.trans (K8.out.under.mono HB.out.size)⟩
theorem EX : (Tryz.prog.info? 29).map (·.size)=some 7:=by kernel_rfl
structure OpI (w:World) (g:Nat) (s:ByteArray) (r:RS) (cs:Array Value) (wr:World):Prop where
 at0:At wr w.heap.size 29 #[.int .i64 0,.string ⟨#[]⟩,.slice none 0 0,.int .i64 0,.string ⟨#[]⟩,.string ⟨#[]⟩,.slice none 0 0]
 rd:At wr (w.heap.size+1) 157 (rdV s r.a r.e)
 op:At wr g 29 cs
 bel:Below w.heap.size w wr
 g2:w.heap.size+2<=g
theorem OpI.step {w wr wr' : World}{g:Nat}{s:ByteArray}{r r' : RS}{cs:Array Value}(h:OpI w g s r cs wr)(hs:Av (w.heap.size+1) wr wr' (rdV s r'.a r'.e)):OpI w g s r' cs wr' :=
 ⟨hs.fr.at h.at0 (by simp),hs.at_,hs.fr.at h.op (by have:=h.g2;intro e;have e2:g=w.heap.size+1:=e;omega),h.bel.trans (hs.fr.below h.bel.size (fun k hk=>by omega)),h.g2⟩
theorem OpI.under {w wr wr' : World}{g:Nat}{s:ByteArray}{r:RS}{cs:Array Value}(h:OpI w g s r cs wr)(hb:Below wr.heap.size wr wr'):OpI w g s r cs wr' :=
 ⟨h.at0.below hb h.at0.lt,h.rd.below hb h.rd.lt,h.op.below hb h.op.lt,h.bel.trans (hb.mono h.bel.size),h.g2⟩
theorem OpI.grown {w wr wr' : World}{g:Nat}{s:ByteArray}{r:RS}{cs:Array Value}(h:OpI w g s r cs wr){row:Option Nat}(hg:wr.grownBy wr' row)(hr:∀ k,row=some k->g+1<=k):OpI w g s r cs wr':=by
 have h2:=h.g2
 exact⟨h.at0.grown hg (fun e=>by have:=hr _ e.symm;omega),h.rd.grown hg (fun e=>by have:=hr _ e.symm;omega),h.op.grown hg (fun e=>by have:=hr _ e.symm;omega),h.bel.grown hg h.bel.size (fun k hk=>by have:=hr k hk;omega),h.g2⟩
theorem OpI.put {w wr:World}{g:Nat}{s:ByteArray}{r:RS}{cs:Array Value}(h:OpI w g s r cs wr)(i:Nat)(u:Value):OpI w g s r (cs.setIfInBounds i u) (wr.setCell ⟨g,i,none⟩ u):=by
 have h2:=h.g2
 exact⟨h.at0.far (by show w.heap.size≠g;omega) u,h.rd.far (by show w.heap.size+1≠g;omega) u,h.op.set i u,h.bel.setCell (by show w.heap.size<=g;omega) u,h.g2⟩
theorem OpI.far {w wr:World}{g b:Nat}{s:ByteArray}{r:RS}{cs:Array Value}(h:OpI w g s r cs wr)(hb:g<b)(i:Nat)(u:Value):OpI w g s r cs (wr.setCell ⟨b,i,none⟩ u):=by
 have h2:=h.g2
 exact⟨h.at0.far (by show w.heap.size≠b;omega) u,h.rd.far (by show w.heap.size+1≠b;omega) u,h.op.far (by show g≠b;omega) u,h.bel.setCell (by show w.heap.size<=b;omega) u,h.g2⟩
theorem OJ {rb base n size:Nat}{e:TypeId}{v:Value}{xs:List Value}{w w' : World}{cs:Array Value}(h:w.ownsRow base e size v n xs)(hs:Av rb w w' cs)(hb:rb<base):w'.ownsRow base e size v n xs:=
 Ae h (fun k hk=>hs.fr.keep k (Own.IZ h k hk) (fun e=>by have:=Ak h k hk;have e2:k=rb:=e;omega))
structure Op0 (w:World) (s:ByteArray) (r:RS) (wr:World):Prop where
 at0:At wr w.heap.size 29 #[.int .i64 0,.string ⟨#[]⟩,.slice none 0 0,.int .i64 0,.string ⟨#[]⟩,.string ⟨#[]⟩,.slice none 0 0]
 rd:At wr (w.heap.size+1) 157 (rdV s r.a r.e)
 bel:Below w.heap.size w wr
theorem Op0.step {w wr wr' : World}{s:ByteArray}{r r' : RS}(h:Op0 w s r wr)(hs:Av (w.heap.size+1) wr wr' (rdV s r'.a r'.e)):Op0 w s r' wr' :=
 ⟨hs.fr.at h.at0 (by simp),hs.at_,h.bel.trans (hs.fr.below h.bel.size (fun k hk=>by omega))⟩
theorem Op0.alloc {w wr:World}{s:ByteArray}{r:RS}(h:Op0 w s r wr)(cs:Array Value):OpI w wr.heap.size s r cs (wr.alloc (.cells cs 29)):=
 ⟨h.at0.alloc _,h.rd.alloc _,At.new _ _ _,h.bel.alloc h.bel.size _,h.rd.lt⟩
namespace Own
theorem Vl (s:ByteArray):∀ (n:Nat) (r:RS),Es (Ci s n r).1<=n*s.size
 | 0,_=>Nat.zero_le _
 | n + 1,r => by
   have h1:=Vl s n (D9 s (stT s r).2).2
   have h2:(stT s r).1.size<=s.size:=mX
   show(stT s r).1.size+Es (Ci s n (D9 s (stT s r).2).2).1<=(n+1)*s.size
   rw[Nat.succ_mul]
   omega
theorem Vm (s:ByteArray):∀ (n:Nat) (r:RS),∀ a∈(Ci s n r).1,a.sig.index<9223372036854775808/\a.sig.chains.length<=s.size/\a.sig.path.length<=s.size
 | 0,_,a,h=>by cases h
 | n + 1,r,a,h => by
   rcases List.mem_cons.1 (show a∈⟨(stT s r).1,(D9 s (stT s r).2).1⟩::(Ci s n (D9 s (stT s r).2).2).1 from h) with rfl|h
   ·refine⟨?_,eU,eU⟩
    have:(stN s (stT s r).2).1<9223372036854775808:=tN
    show(((stN s (stT s r).2).1:Nat):Int)<_
    omega
   ·exact Vm s n _ a h
def eY (w:World)(R:Op × Int)(e:Ending)(w' : World):Prop:=
 (∃ mv av,e=.returned (.tuple #[opV R.1 mv av,.int .i64 R.2])/\Aq 2 DU (fun k=>w.heap.size<=k) w' mv R.1.members/\Aq 4 RAp (fun k=>w.heap.size<=k) w' av R.1.Aa)/\Below w.heap.size w w'
end Own
def Qc (w:World)(b:Nat)(v0 v1 v2 v3 v4 v5 v6:Value):World:=((((((w.setCell ⟨b,0,none⟩ v0).setCell ⟨b,1,none⟩ v1).setCell ⟨b,2,none⟩ v2).setCell ⟨b,3,none⟩ v3).setCell ⟨b,4,none⟩ v4).setCell ⟨b,5,none⟩ v5).setCell ⟨b,6,none⟩ v6
theorem At.Qc {w:World}{b:Nat}{t:TypeId}{a0 a1 a2 a3 a4 a5 a6:Value}(h:At w b t #[a0,a1,a2,a3,a4,a5,a6])(v0 v1 v2 v3 v4 v5 v6:Value):At (Qc w b v0 v1 v2 v3 v4 v5 v6) b t #[v0,v1,v2,v3,v4,v5,v6]:=by
 have:=((((((h.set 0 v0).set 1 v1).set 2 v2).set 3 v3).set 4 v4).set 5 v5).set 6 v6
 simp only[List.setIfInBounds_toArray,List.set_cons_zero,List.set_cons_succ] at this
 exact this
theorem WY {B b:Nat}{w0 w:World}(h:Below B w0 w)(hb:B<=b)(v0 v1 v2 v3 v4 v5 v6:Value):Below B w0 (Qc w b v0 v1 v2 v3 v4 v5 v6):=
 ((((((h.setCell (p:=⟨b,0,none⟩) hb v0).setCell (p:=⟨b,1,none⟩) hb v1).setCell (p:=⟨b,2,none⟩) hb v2).setCell (p:=⟨b,3,none⟩) hb v3).setCell (p:=⟨b,4,none⟩) hb v4).setCell (p:=⟨b,5,none⟩) hb v5).setCell (p:=⟨b,6,none⟩) hb v6
theorem Nv {w:World}{b k:Nat}(h:k≠b)(v0 v1 v2 v3 v4 v5 v6:Value):(Qc w b v0 v1 v2 v3 v4 v5 v6).heap[k]? = w.heap[k]? :=by
 unfold Qc
 rw[zo h,zo h,zo h,zo h,zo h,zo h,zo h]
theorem OL {w:World}{b:Nat}(v0 v1 v2 v3 v4 v5 v6:Value):(Qc w b v0 v1 v2 v3 v4 v5 v6).heap.size=w.heap.size:=by simp[Qc,World.setCell]
theorem WZ (s:ByteArray)(w:World)(hM:Il w)(hs:s.size<=1000000):
 Calls Tryz.prog 26 #[.string s] w (Own.eY w (Own.MJ s)):=by
 obtain⟨D,hD⟩:∃ D,D=Own.MJ s:=⟨_,rfl⟩
 obtain⟨R,hR⟩:∃ R,R=Own.eY w D:=⟨_,rfl⟩
 rw[<- hD,<- hR]
 rw[Own.nC] at hD
 obtain⟨⟨kd,r1⟩,h1⟩:∃ y,stN s ⟨0,0⟩=y:=⟨_,rfl⟩
 obtain⟨⟨pre,r2⟩,h2⟩:∃ y,stT s r1=y:=⟨_,rfl⟩
 obtain⟨⟨n,r3⟩,h3⟩:∃ y,stC s 8 r2=y:=⟨_,rfl⟩
 obtain⟨⟨ms,r4⟩,h4⟩:∃ y,Own.Ch s n r3=y:=⟨_,rfl⟩
 obtain⟨⟨th,r5⟩,h5⟩:∃ y,stN s r4=y:=⟨_,rfl⟩
 obtain⟨⟨nm,r6⟩,h6⟩:∃ y,stT s r5=y:=⟨_,rfl⟩
 obtain⟨⟨pb,r7⟩,h7⟩:∃ y,stT s r6=y:=⟨_,rfl⟩
 obtain⟨⟨m,r8⟩,h8⟩:∃ y,stC s 8 r7=y:=⟨_,rfl⟩
 obtain⟨⟨aps,r9⟩,h9⟩:∃ y,Own.Ci s m r8=y:=⟨_,rfl⟩
 have hop:(Own.stOp s).op=⟨kd,pre,ms,th,nm,pb,aps⟩/\(Own.stOp s).aps.2=r9:=by
  unfold Own.stOp Own.nu.op
  dsimp only
  simp only[h1,h2,h3,h4,h5,h6,h7,h8,h9]
  refine⟨?_,?_⟩<;>first|rfl|trivial
 rw[hop.1,hop.2] at hD
 have l1:r1.a<=s.size:=by have:=OD (s:=s) (r:=⟨0,0⟩) (Nat.zero_le _);rw[h1] at this;exact this
 have l2:r2.a<=s.size:=by have:=FJ (s:=s) (r:=r1) l1;rw[h2] at this;exact this
 have l3:r3.a<=s.size:=by have:=WU (s:=s) (m:=8) (r:=r2) l2;rw[h3] at this;exact this
 have n8:n<=8:=by have:=Zf (s:=s) (m:=8) (r:=r2);rw[show(((8:Nat):Int))=8 from rfl,h3] at this;exact this
 have l4:r4.a<=s.size:=by have:=Own.OG s n r3 l3;rw[h4] at this;exact this
 have l5:r5.a<=s.size:=by have:=OD (s:=s) (r:=r4) l4;rw[h5] at this;exact this
 have l6:r6.a<=s.size:=by have:=FJ (s:=s) (r:=r5) l5;rw[h6] at this;exact this
 have l7:r7.a<=s.size:=by have:=FJ (s:=s) (r:=r6) l6;rw[h7] at this;exact this
 have l8:r8.a<=s.size:=by have:=WU (s:=s) (m:=8) (r:=r7) l7;rw[h8] at this;exact this
 have m8:m<=8:=by have:=Zf (s:=s) (m:=8) (r:=r7);rw[show(((8:Nat):Int))=8 from rfl,h8] at this;exact this
 have l9:r9.a<=s.size:=by have:=Own.SI s m r8 l8;rw[h9] at this;exact this
 have yX:ms.length=n:=by have:=Own.LW s n r3;rw[h4] at this;exact this
 have yY:Own.Es aps<=8000000:=by
  have:=Own.Vl s m r8
  rw[h9] at this
  have h:=Nat.mul_le_mul m8 hs
  exact Nat.le_trans this h
 have yZ:∀ a∈aps,a.sig.index<9223372036854775808/\a.sig.chains.length<=s.size/\a.sig.path.length<=s.size:=by
  have:=Own.Vm s m r8
  rw[h9] at this
  exact this
 have HR:=zh hR;have HD:=zh hD;have H1:=zh h1;have H2:=zh h2;have H3:=zh h3;have H4:=zh h4;have H5:=zh h5;have H6:=zh h6;have H7:=zh h7;have H8:=zh h8;have H9:=zh h9
 have ML:=zh yX;have AS:=zh yY;have AA:=zh yZ;have HM:=zh hM
 clear hR hD h1 h2 h3 h4 h5 h6 h7 h8 h9 hop yX yY yZ hM
 go_enter Tryz.func26,Tryz.ntmps26
 go_wp2_with fail
 refine(kC s _).mono ?_
 rintro e _ ⟨rfl,rfl⟩
 have hde:Op0 w s ⟨0,0⟩ ((w.alloc (.cells #[.int .i64 0,.string ⟨#[]⟩,.slice none 0 0,.int .i64 0,.string ⟨#[]⟩,.string ⟨#[]⟩,.slice none 0 0] 29)).alloc (.cells (rdV s 0 0) 157)):=
  ⟨(At.new w _ _).alloc _,At.new1 w _ _ _,zb.alloc (by simp) _⟩
 have O1:=zh hde;clear hde
 go_wp2_with fail
 generalize (w.alloc (.cells #[.int .i64 0,.string ⟨#[]⟩,.slice none 0 0,.int .i64 0,.string ⟨#[]⟩,.string ⟨#[]⟩,.slice none 0 0] 29)).alloc (.cells (rdV s 0 0) 157)=w2 at*
 refine(OE (w.heap.size+1) s _ _ H1.out O1.out.rd (Nat.zero_le _) hs).mono ?_
 rintro e w3 ⟨rfl,hst⟩
 have O2:=zh (O1.out.step hst);clear hst
 go_wp2_with fail
 refine(Gm (w.heap.size+1) s _ _ H2.out O2.out.rd l1 hs).mono ?_
 rintro e w4 ⟨rfl,hst⟩
 have O3:=zh (O2.out.step hst);clear hst O1 O2
 go_wp2_with fail
 have P0:=zh (O3.out.alloc #[.int .i64 kd,.string pre,.slice none 0 0,.int .i64 0,.string ⟨#[]⟩,.string ⟨#[]⟩,.slice none 0 0])
 generalize w4.alloc (.cells #[.int .i64 kd,.string pre,.slice none 0 0,.int .i64 0,.string ⟨#[]⟩,.string ⟨#[]⟩,.slice none 0 0] 29)=w5 at*
 obtain⟨g,hg⟩:∃ g,g=w4.heap.size:=⟨_,rfl⟩
 rw[<- hg] at P0 ⊢
 clear hg O3
 refine(SF (w.heap.size+1) s 8 _ _ H3.out P0.out.rd l2 hs).mono ?_
 rintro e w6 ⟨rfl,hst⟩
 have P1:=zh (P0.out.step hst);clear hst P0
 go_wp2_with fail
 go_loopw [19] (fun i wr=>∃ (k:Nat) (l:List Own.Member) (v:Value) (r:RS),k<=n/\i=.int .i64 k/\Own.Ch s k r3=(l,r)/\r.a<=s.size/\wr.ownsRow (g+1) 76 2 v l.length (l.flatMap Own.Cy)/\OpI w g s r #[.int .i64 kd,.string pre,v,.int .i64 0,.string ⟨#[]⟩,.string ⟨#[]⟩,.slice none 0 0] wr) (fun i _=>n-(intOf i).toNat)
 case atStart=>exact⟨0,[],_,r3,by omega,rfl,rfl,l3,⟨rfl,.inl ⟨rfl,rfl⟩⟩,P1.out⟩
 case round=>
  obtain⟨k,l,v,r,hk,rfl,hms,hra,hown,hpi⟩:=hrel
  have hll:l.length=k:=by have:=Own.LW s k r3;rw[hms] at this;exact this
  obtain⟨va,vm,vc,rfl⟩:=Ac hown
  obtain rfl:=Ba hown
  have HO:=zh hown;have P2:=zh hpi;have HMS:=zh hms;have HLL:=zh hll
  clear hown hpi hms hll P1
  by_cases hlt:k<n
  case neg=>
   have hke:k=n:=by omega
   have dk:decide ((k:Int)<n)=false:=zf
   have hms:=HMS.out
   rw[hke,H4.out] at hms
   obtain⟨rfl,rfl⟩:l=ms/\r=r4:=⟨(congrArg Prod.fst hms).symm,(congrArg Prod.snd hms).symm⟩
   clear hms HMS
   clear hk hke HLL
   have ZM:=zh (show l.length<=8 by rw[ML.out];exact n8)
   go_wp2_with fail
   refine(OE (w.heap.size+1) s _ _ H5.out P2.out.rd l4 hs).mono ?_
   rintro e w7 ⟨rfl,hst⟩
   have P3:=zh (P2.out.step hst);have HO3:=zh (OJ HO.out hst (by have:=P2.out.g2;omega))
   clear hst
   go_wp2_with fail
   refine(Gm (w.heap.size+1) s _ _ H6.out P3.out.rd l5 hs).mono ?_
   rintro e w8 ⟨rfl,hst⟩
   have P4:=zh (P3.out.step hst);have HO4:=zh (OJ HO3.out hst (by have:=P3.out.g2;omega))
   clear hst
   go_wp2_with fail
   refine(Gm (w.heap.size+1) s _ _ H7.out P4.out.rd l6 hs).mono ?_
   rintro e w9 ⟨rfl,hst⟩
   have P5:=zh (P4.out.step hst);have HO5:=zh (OJ HO4.out hst (by have:=P4.out.g2;omega))
   clear hst
   clear P2 P3 P4 HO HO3 HO4
   have c0:=P5.out.op.cell 0;have c1:=P5.out.op.cell 1;have c2:=P5.out.op.cell 2;have c3:=P5.out.op.cell 3;have c4:=P5.out.op.cell 4;have c5:=P5.out.op.cell 5;have c6:=P5.out.op.cell 6
   have c0f:=P5.out.op.free 0;have c1f:=P5.out.op.free 1;have c2f:=P5.out.op.free 2;have c3f:=P5.out.op.free 3;have c4f:=P5.out.op.free 4;have c5f:=P5.out.op.free 5;have c6f:=P5.out.op.free 6
   simp only[zg] at c0 c1 c2 c3 c4 c5 c6
   go_wp2_with fail
   have P6:=zh (((P5.out.put 3 (.int .i64 th)).put 4 (.string nm)).put 5 (.string pb))
   have HO6:=zh (Ae (w':=((w9.setCell ⟨g,3,none⟩ (.int .i64 th)).setCell ⟨g,4,none⟩ (.string nm)).setCell ⟨g,5,none⟩ (.string pb)) HO5.out (fun k hk=>by
    have hne:k≠g:=by have:=Ak HO5.out k hk;omega
    rw[zo hne,zo hne,zo hne]))
   clear P5 HO5 c0 c1 c2 c3 c4 c5 c6 c0f c1f c2f c3f c4f c5f c6f
   generalize ((w9.setCell ⟨g,3,none⟩ (.int .i64 th)).setCell ⟨g,4,none⟩ (.string nm)).setCell ⟨g,5,none⟩ (.string pb)=w10 at*
   refine(SF (w.heap.size+1) s 8 _ _ H8.out P6.out.rd l7 hs).mono ?_
   rintro e w11 ⟨rfl,hst⟩
   have P7:=zh (P6.out.step hst);have HO7:=zh (OJ HO6.out hst (by have:=P6.out.g2;omega))
   clear hst P6 HO6
   go_wp2_with fail
   go_loopw [44] (fun i wr=>∃ (k:Nat) (la:List Own.Ai) (v:Value) (r:RS),k<=m/\i=.int .i64 k/\Own.Ci s k r8=(la,r)/\r.a<=s.size/\Own.CJ (g+1) wr v la/\wr.ownsRow (g+1) 76 2 (.slice va l.length vc) l.length (l.flatMap Own.Cy)/\OpI w g s r #[.int .i64 kd,.string pre,.slice va l.length vc,.int .i64 th,.string nm,.string pb,v] wr) (fun i _=>m-(intOf i).toNat)
   case atStart=>exact⟨0,[],_,r8,by omega,rfl,rfl,l8,Own.CJ.nil _ _,HO7.out,P7.out⟩
   case round=>
    obtain⟨k,la,v,r,hk,rfl,hms,hra,hown,hmem,hpi⟩:=hrel
    have hll:la.length=k:=by have:=Own.Vh s k r8;rw[hms] at this;exact this
    obtain⟨ua,uc,rfl⟩:=hown.len
    have HO:=zh hown;have P8:=zh hpi;have HMS:=zh hms;have HLL:=zh hll;have HMM:=zh hmem
    clear hown hpi hms hll hmem P7 HO7
    by_cases hlt:k<m
    case neg=>
     have hke:k=m:=by omega
     have dk:decide ((k:Int)<m)=false:=zf
     have hms:=HMS.out
     rw[hke,H9.out] at hms
     obtain⟨rfl,rfl⟩:la=aps/\r=r9:=⟨(congrArg Prod.fst hms).symm,(congrArg Prod.snd hms).symm⟩
     clear hms HMS hk hke HLL
     have c0:=P8.out.op.cell 0;have c1:=P8.out.op.cell 1;have c2:=P8.out.op.cell 2;have c3:=P8.out.op.cell 3;have c4:=P8.out.op.cell 4;have c5:=P8.out.op.cell 5;have c6:=P8.out.op.cell 6
     have c0f:=P8.out.op.free 0;have c1f:=P8.out.op.free 1;have c2f:=P8.out.op.free 2;have c3f:=P8.out.op.free 3;have c4f:=P8.out.op.free 4;have c5f:=P8.out.op.free 5;have c6f:=P8.out.op.free 6
     simp only[zg] at c0 c1 c2 c3 c4 c5 c6
     have hen:=Nu ⟨kd,pre,l,th,nm,pb,la⟩ (.slice va l.length vc) (.slice ua la.length uc) wr (HM.out.below P8.out.bel) (Cq (enc:=Own.Cy) (fun _=>rfl) (fun _=>rfl) (Bc.own HMM.out) rfl (fun _ _=>trivial)) HO.out.mG.out (by have:=ZM.out;show l.length<=_;omega) (by have:=AS.out;show Own.Es la<=_;omega) (fun a ha=>by obtain⟨q1,q2,q3⟩:=AA.out a ha;exact⟨q1,by omega,by omega⟩)
     unfold Own.opV at hen
     dsimp only at hen
     have HEN:=zh hen;clear hen
     go_wp2_with fail
     refine HEN.out.mono ?_
     rintro e w12 ⟨rfl,hb⟩
     have P9:=zh (P8.out.under hb);have HO9:=zh (HO.out.below hb);have HM9:=zh (own_below HMM.out hb)
     clear hb HEN P8 HO HMM c0 c1 c2 c3 c4 c5 c6 c0f c1f c2f c3f c4f c5f c6f
     cases hfu:Own.Fv ⟨kd,pre,l,th,nm,pb,la⟩ with
     | false =>
       have HE:=zh (show D=(.none,9) by rw[HD.out,hfu,if_neg (fun h=>by cases h.2)])
       rw[show Own.Dh ⟨kd,pre,l,th,nm,pb,la⟩=(⟨#[]⟩,1) by unfold Own.Dh;rw[hfu];rfl]
       clear hfu
       have y0:=P9.out.at0.free 0;have y1:=P9.out.at0.free 1;have y2:=P9.out.at0.free 2;have y3:=P9.out.at0.free 3;have y4:=P9.out.at0.free 4;have y5:=P9.out.at0.free 5;have y6:=P9.out.at0.free 6
       have z0:=P9.out.at0.cell 0;have z1:=P9.out.at0.cell 1;have z2:=P9.out.at0.cell 2;have z3:=P9.out.at0.cell 3;have z4:=P9.out.at0.cell 4;have z5:=P9.out.at0.cell 5;have z6:=P9.out.at0.cell 6
       simp only[zg] at z0 z1 z2 z3 z4 z5 z6
       go_wp2_with fail
       refine BJ rfl rfl rfl (AJ (At.Qc P9.out.at0 _ _ _ _ _ _ _) Tryz.underlying29 rfl EX) ?_
       rw[HR.out,HE.out]
       exact⟨⟨_,_,rfl,Aq.nil _ _,Aq.nil _ _⟩,WY (b:=w.heap.size) P9.out.bel (Nat.le_refl _) _ _ _ _ _ _ _⟩
     | true =>
       have HD2:=zh (show D=if DX s r.a r.e=0 then (⟨kd,pre,l,th,nm,pb,la⟩,0) else (.none,9) by
        rw[HD.out,hfu]
        by_cases hz:DX s r.a r.e=0
        ·rw[if_pos ⟨hz,rfl⟩,if_pos hz]
        ·rw[if_neg (fun h=>hz h.1),if_neg hz])
       obtain⟨EB,hEB⟩:∃ EB,Own.Dh ⟨kd,pre,l,th,nm,pb,la⟩=(EB,0):=⟨_,by unfold Own.Dh;rw[if_pos hfu]⟩
       rw[hEB]
       clear hfu hEB
       go_wp2_with fail
       refine(je (w.heap.size+1) s r.a r.e _ P9.out.rd).mono ?_
       rintro e _ ⟨rfl,rfl⟩
       have hbd:Below w12.heap.size w12 w12.drew:=(Below.refl _ _).drew
       have P10:=zh (P9.out.under hbd);have zaU:=zh (HO9.out.below hbd);have tO:=zh (own_below HM9.out hbd)
       clear hbd P9 HO9 HM9
       generalize w12.drew=w13 at*
       by_cases hz:DX s r.a r.e=0
       case neg=>
        have HE:=zh (show D=(.none,9) by rw[HD2.out,if_neg hz])
        have dz:(DX s r.a r.e != (0:Int))=true:=by simpa using hz
        clear hz
        have y0:=P10.out.at0.free 0;have y1:=P10.out.at0.free 1;have y2:=P10.out.at0.free 2;have y3:=P10.out.at0.free 3;have y4:=P10.out.at0.free 4;have y5:=P10.out.at0.free 5;have y6:=P10.out.at0.free 6
        have z0:=P10.out.at0.cell 0;have z1:=P10.out.at0.cell 1;have z2:=P10.out.at0.cell 2;have z3:=P10.out.at0.cell 3;have z4:=P10.out.at0.cell 4;have z5:=P10.out.at0.cell 5;have z6:=P10.out.at0.cell 6
        simp only[zg] at z0 z1 z2 z3 z4 z5 z6
        go_wp2_with fail
        refine BJ rfl rfl rfl (AJ (At.Qc P10.out.at0 _ _ _ _ _ _ _) Tryz.underlying29 rfl EX) ?_
        rw[HR.out,HE.out]
        exact⟨⟨_,_,rfl,Aq.nil _ _,Aq.nil _ _⟩,WY (b:=w.heap.size) P10.out.bel (Nat.le_refl _) _ _ _ _ _ _ _⟩
       have HE:=zh (show D=(⟨kd,pre,l,th,nm,pb,la⟩,0) by rw[HD2.out,if_pos hz])
       rw[hz]
       clear hz
       have c0:=P10.out.op.cell 0;have c1:=P10.out.op.cell 1;have c2:=P10.out.op.cell 2;have c3:=P10.out.op.cell 3;have c4:=P10.out.op.cell 4;have c5:=P10.out.op.cell 5;have c6:=P10.out.op.cell 6
       have c0f:=P10.out.op.free 0;have c1f:=P10.out.op.free 1;have c2f:=P10.out.op.free 2;have c3f:=P10.out.op.free 3;have c4f:=P10.out.op.free 4;have c5f:=P10.out.op.free 5;have c6f:=P10.out.op.free 6
       simp only[zg] at c0 c1 c2 c3 c4 c5 c6
       clear c0f c1f c2f c3f c4f c5f c6f
       have y0:=P10.out.at0.free 0;have y1:=P10.out.at0.free 1;have y2:=P10.out.at0.free 2;have y3:=P10.out.at0.free 3;have y4:=P10.out.at0.free 4;have y5:=P10.out.at0.free 5;have y6:=P10.out.at0.free 6
       have z0:=P10.out.at0.cell 0;have z1:=P10.out.at0.cell 1;have z2:=P10.out.at0.cell 2;have z3:=P10.out.at0.cell 3;have z4:=P10.out.at0.cell 4;have z5:=P10.out.at0.cell 5;have z6:=P10.out.at0.cell 6
       simp only[zg] at z0 z1 z2 z3 z4 z5 z6
       go_wp2_with fail
       refine BJ rfl rfl rfl (AJ (At.Qc P10.out.at0 _ _ _ _ _ _ _) Tryz.underlying29 rfl EX) ?_
       rw[HR.out,HE.out]
       have hg2:=P10.out.g2
       refine⟨⟨_,_,rfl,?_,?_⟩,WY (b:=w.heap.size) P10.out.bel (Nat.le_refl _) _ _ _ _ _ _ _⟩
       ·refine Cq (enc:=Own.Cy) (fun _=>rfl) (fun _=>rfl) (Bc.own (Ae tO.out (fun k hk=>Nv (by have:=Ak tO.out k hk;omega) _ _ _ _ _ _ _))) rfl (fun k hk=>by have:=Ak tO.out k hk;omega)
       ·exact((zaU.out.keep (Nat.le_of_eq (OL (b:=w.heap.size) _ _ _ _ _ _ _).symm) (fun k hk _=>Nv (by omega) _ _ _ _ _ _ _)).list).mono (fun k hk _=>by omega)
    have dk:decide ((k:Int)<m)=true:=zt
    obtain⟨⟨x,ra⟩,hx⟩:∃ y,stT s r=y:=⟨_,rfl⟩
    obtain⟨⟨ix,rb⟩,hix⟩:∃ y,stN s ra=y:=⟨_,rfl⟩
    obtain⟨⟨ch,rc⟩,hch⟩:∃ y,stL s rb=y:=⟨_,rfl⟩
    obtain⟨⟨pa,rd⟩,hpa⟩:∃ y,stL s rc=y:=⟨_,rfl⟩
    have hla:ra.a<=s.size:=by have:=FJ (s:=s) (r:=r) hra;rw[hx] at this;exact this
    have hlb:rb.a<=s.size:=by have:=OD (s:=s) (r:=ra) hla;rw[hix] at this;exact this
    have hlc:rc.a<=s.size:=by have:=WW (s:=s) (r:=rb) hlb;rw[hch] at this;exact this
    have hld:rd.a<=s.size:=by have:=WW (s:=s) (r:=rc) hlc;rw[hpa] at this;exact this
    have hsn:Own.Ci s (k+1) r8=(la++[⟨x,⟨ix,ch,pa⟩⟩],rd):=by
     rw[Own.SH,HMS.out]
     dsimp only
     rw[hx]
     unfold Own.D9
     dsimp only
     rw[hix]
     dsimp only
     rw[hch]
     dsimp only
     rw[hpa]
    have HX:=zh hx;have HIX:=zh hix;have HCH:=zh hch;have HPA:=zh hpa;have HSN:=zh hsn
    clear hx hix hch hpa hsn HMS
    go_wp2_with fail
    refine(Gm (w.heap.size+1) s _ _ HX.out P8.out.rd hra hs).mono ?_
    rintro e w12 ⟨rfl,hst⟩
    have P9:=zh (P8.out.step hst);have F1:=zh hst.fr
    clear hst P8
    go_wp2_with fail
    have hbx:At (w12.alloc (.cells #[.string x,.int .i64 0,.slice none 0 0,.slice none 0 0] 72)) w12.heap.size 72 #[.string x,.int .i64 0,.slice none 0 0,.slice none 0 0]:=At.new _ _ _
    have P10:=zh (P9.out.under ((Below.refl w12.heap.size w12).alloc (Nat.le_refl _) (.cells #[.string x,.int .i64 0,.slice none 0 0,.slice none 0 0] 72)));have F2:=zh (F1.out.alloc (.cells #[.string x,.int .i64 0,.slice none 0 0,.slice none 0 0] 72))
    have hgb:g<w12.heap.size/\wr.heap.size<=w12.heap.size:=⟨P9.out.op.lt,F1.out.size⟩
    have BX:=zh hbx
    clear hbx P9 F1
    generalize w12.alloc (.cells #[.string x,.int .i64 0,.slice none 0 0,.slice none 0 0] 72)=w13 at*
    obtain⟨b,hb⟩:∃ b,b=w12.heap.size:=⟨_,rfl⟩
    rw[<- hb] at BX hgb ⊢
    clear hb
    refine(OE (w.heap.size+1) s _ _ HIX.out P10.out.rd hla hs).mono ?_
    rintro e w14 ⟨rfl,hst⟩
    have hbr:∀ k,g+1<=k->¬ (k=w.heap.size+1):=fun k hk=>by have:=P10.out.g2;omega
    have HBR:=zh hbr
    have P11:=zh (P10.out.step hst);have F3:=zh (F2.out.trans hst.fr (fun _ h=>.inl h));have BX1:=zh (hst.fr.at BX.out (hbr b (by omega)))
    clear hst P10 F2 BX hbr
    go_wp2_with fail
    refine(SG (w.heap.size+1) s _ _ HCH.out P11.out.rd hlb hs).mono ?_
    rintro e w15 ⟨cv,rfl,hcs,hcc,hcf,hst⟩
    have P12:=zh (P11.out.step hst);have F4:=zh (F3.out.trans hst.fr (fun _ h=>.inl h));have BX2:=zh (hst.fr.at BX1.out (HBR.out b (by omega)))
    have nD:b<w14.heap.size:=BX1.out.lt
    have C1:=zh hcs;have CC:=zh hcc;have CF:=zh (fun k hk=>Nat.lt_of_lt_of_le nD (hcf k hk))
    obtain⟨ca,cm,rfl⟩:=hcs.len
    clear hst P11 F3 BX1 hcs hcc hcf nD
    go_wp2_with fail
    refine(SG (w.heap.size+1) s _ _ HPA.out P12.out.rd hlc hs).mono ?_
    rintro e w16 ⟨pv,rfl,hcs,hcc,hcf,hst⟩
    have P13:=zh (P12.out.step hst);have F5:=zh (F4.out.trans hst.fr (fun _ h=>.inl h));have BX3:=zh (hst.fr.at BX2.out (HBR.out b (by omega)))
    have nD:b<w15.heap.size:=BX2.out.lt
    have C2:=zh (C1.out.keep (w':=w16) (fun k hk hl=>hst.fr.keep k hl (HBR.out k (by have:=CF.out k hk;omega))))
    have D1:=zh hcs;have DC:=zh hcc;have DF:=zh (fun k hk=>Nat.lt_of_lt_of_le nD (hcf k hk))
    obtain⟨pa',pm,rfl⟩:=hcs.len
    clear hst P12 F4 BX2 hcs hcc hcf nD C1
    have y0:=BX3.out.cell 0;have y1:=BX3.out.cell 1;have y2:=BX3.out.cell 2;have y3:=BX3.out.cell 3
    have y1f:=BX3.out.free 1;have y2f:=BX3.out.free 2;have y3f:=BX3.out.free 3
    simp only[zg] at y0 y1 y2 y3
    go_upto_region 13 with fail
    have hg2:=P13.out.g2
    have P14:=zh (((P13.out.far hgb.1 1 (.int .i64 ix)).far hgb.1 2 (.slice ca ch.length cm)).far hgb.1 3 (.slice pa' pa.length pm))
    have F6:=zh (((F5.out.setCell (p:=⟨b,1,none⟩) (.inr hgb.2) (.int .i64 ix)).setCell (p:=⟨b,2,none⟩) (.inr hgb.2) (.slice ca ch.length cm)).setCell (p:=⟨b,3,none⟩) (.inr hgb.2) (.slice pa' pa.length pm))
    have hbx:=((BX3.out.set 1 (.int .i64 ix)).set 2 (.slice ca ch.length cm)).set 3 (.slice pa' pa.length pm)
    simp only[List.setIfInBounds_toArray,List.set_cons_zero,List.set_cons_succ] at hbx
    have Ip:∀ k,b<k->(((w16.setCell ⟨b,1,none⟩ (.int .i64 ix)).setCell ⟨b,2,none⟩ (.slice ca ch.length cm)).setCell ⟨b,3,none⟩ (.slice pa' pa.length pm)).heap[k]? = w16.heap[k]? :=fun k hk=>by
     have hne:k≠b:=by omega
     rw[zo hne,zo hne,zo hne]
    have C3:=zh (C2.out.keep (fun k hk _=>Ip k (CF.out k hk)))
    have D2:=zh (D1.out.keep (fun k hk _=>Ip k (DF.out k hk)))
    have BX4:=zh hbx
    clear hbx Ip y0 y1 y2 y3 y1f y2f y3f BX3 P13 F5 C2 D1
    generalize ((w16.setCell ⟨b,1,none⟩ (.int .i64 ix)).setCell ⟨b,2,none⟩ (.slice ca ch.length cm)).setCell ⟨b,3,none⟩ (.slice pa' pa.length pm)=w17 at*
    have y0:=BX4.out.cell 0;have y1:=BX4.out.cell 1;have y2:=BX4.out.cell 2;have y3:=BX4.out.cell 3
    have c6:=P14.out.op.cell 6
    simp only[zg] at y0 y1 y2 y3 c6
    have pQ:Below w17.heap.size w17 (w17.alloc (.cells #[.string x,.int .i64 ix,.slice ca ch.length cm,.slice pa' pa.length pm] 72)):=zb
    have hF7:=F6.out.alloc (.cells #[.string x,.int .i64 ix,.slice ca ch.length cm,.slice pa' pa.length pm] 72)
    have hkeep:∀ k,g+1<=k->k<wr.heap.size->(w17.alloc (.cells #[.string x,.int .i64 ix,.slice ca ch.length cm,.slice pa' pa.length pm] 72)).heap[k]? = wr.heap[k]? :=fun k hk hl=>hF7.keep k hl (HBR.out k hk)
    have hap:=HO.out.keep hF7.size hkeep
    have hmm:=Ae HMM.out (fun k hk=>hkeep k (Ak HMM.out k hk) (Own.IZ HMM.out k hk))
    obtain⟨css,e1,e2,e3⟩:=hap
    obtain⟨tQ,z1,z2,z3⟩:=id HO.out
    have hob:∀ k,(Value.slice ua la.length uc).ownBlock=some k->k<wr.heap.size:=Own.IZ z2
    have hgw:g+1<=(w17.alloc (.cells #[.string x,.int .i64 ix,.slice ca ch.length cm,.slice pa' pa.length pm] 72)).heap.size:=by have:=P14.out.op.lt;rw[World.size_alloc];omega
    have hsc:Own.Jq (fun k=>g+1<=k/\(Value.slice ua la.length uc).ownBlock≠some k) (w17.alloc (.cells #[.string x,.int .i64 ix,.slice ca ch.length cm,.slice pa' pa.length pm] 72)) (.slice ca ch.length cm) ch:=⟨C3.out.below pQ,CC.out,fun _ k hk=>by
     have h1:=CF.out k hk
     exact⟨by omega,fun e=>by have:=hob k e;omega⟩⟩
    have hsp:Own.Jq (fun k=>g+1<=k/\(Value.slice ua la.length uc).ownBlock≠some k) (w17.alloc (.cells #[.string x,.int .i64 ix,.slice ca ch.length cm,.slice pa' pa.length pm] 72)) (.slice pa' pa.length pm) pa:=⟨D2.out.below pQ,DC.out,fun _ k hk=>by
     have h1:=DF.out k hk
     exact⟨by omega,fun e=>by have:=hob k e;omega⟩⟩
    have P18:=zh (P14.out.under pQ);have tT:=zh hmm
    have E1:=zh e1;have E2:=zh e2;have E3:=zh e3;have HSC:=zh hsc;have HSP:=zh hsp;have HGW:=zh hgw
    have hrw:=Cx w17 72 #[.string x,.int .i64 ix,.slice ca ch.length cm,.slice pa' pa.length pm] 4 1 1 rfl
    have HRW:=zh hrw
    have zbs:la.length+1<=8:=by rw[HLL.out];omega
    clear hrw hgw hsc hsp hob z1 z2 z3 tQ e1 e2 e3 hmm hkeep hF7 pQ HO F6 C3 D2 HMM hgb
    go_wp2_with (at_builtin;go_must (refine Ah KX rfl _ _ rfl (g+1) la.length (.slice ua la.length uc) css.flatten rfl E2.out (.slice (some ⟨w17.heap.size,0,none⟩) 1 1) 1 [.string x,.int .i64 ix,.slice ca ch.length cm,.slice pa' pa.length pm] rfl HRW.out (by intro u hu;simp at hu;rcases hu with rfl|rfl|rfl|rfl<;>rfl) (by omega) (by omega) HGW.out ?_);intro v9 w19 ho9 hg9 hw9;obtain⟨ya,ym,yc,rfl⟩:=Ac ho9;have zq:∀ k,(Value.slice va l.length vc).ownBlock=some k->some k≠(Value.slice ua la.length uc).ownBlock:=(fun k hk e=>Ho tT.out E2.out (by decide) k hk e.symm);have HM9:=zh (Ae tT.out (fun k hk=>hg9.block k (Own.IZ tT.out k hk) (zq k hk)));have AP9:=zh (Own.CJ.push (x:=⟨x,⟨ix,ch,pa⟩⟩) E1.out E2.out E3.out HSC.out HSP.out ho9 hg9 hw9);have P19:=zh (P18.out.grown hg9 (Ak E2.out));clear ho9 hg9 hw9 zq;have c6:=P19.out.op.cell 6;have c6f:=P19.out.op.free 6;simp only[zg] at c6)
    refine⟨⟨k+1,la++[⟨x,⟨ix,ch,pa⟩⟩],.slice ya ym yc,rd,by omega,by go_num,HSN.out,hld,?_,?_,P19.out.put 6 _⟩,by simp[intOf];omega⟩
    ·exact AP9.out.keep (by simp[World.setCell]) (fun k hk _=>zo (by show k≠g;omega))
    ·exact Ae HM9.out (fun k hk=>zo (by have:=Ak HM9.out k hk;show k≠g;omega))
  have dk:decide ((k:Int)<n)=true:=zt
  obtain⟨⟨x,ra⟩,hx⟩:∃ y,stT s r=y:=⟨_,rfl⟩
  obtain⟨⟨y,rb⟩,hy⟩:∃ y,stT s ra=y:=⟨_,rfl⟩
  have hla:ra.a<=s.size:=by have:=FJ (s:=s) (r:=r) hra;rw[hx] at this;exact this
  have hlb:rb.a<=s.size:=by have:=FJ (s:=s) (r:=ra) hla;rw[hy] at this;exact this
  have hsn:Own.Ch s (k+1) r3=(l++[⟨x,y⟩],rb):=by
   rw[Own.PD,HMS.out]
   dsimp only
   rw[hx]
   dsimp only
   rw[hy]
  have HX:=zh hx;have HY:=zh hy;have HSN:=zh hsn
  clear hx hy hsn HMS
  go_wp2_with fail
  refine(Gm (w.heap.size+1) s _ _ HX.out P2.out.rd hra hs).mono ?_
  rintro e w7 ⟨rfl,hst⟩
  have P3:=zh (P2.out.step hst);have HO3:=zh (OJ HO.out hst (by have:=P2.out.g2;omega))
  clear hst P2 HO
  have c2:=P3.out.op.cell 2
  simp only[zg] at c2
  have HX1:=zh (zi c2)
  go_wp2_with fail
  refine Lex.zn (fun j=>j=g) [1] 7 [5] ?_
  simp only[Lex.Bp,zd]
  go_wp2_with fail
  refine(Gm (w.heap.size+1) s _ _ HY.out P3.out.rd.drew hla hs).mono ?_
  rintro e w8 ⟨rfl,hst'⟩
  have hst:Av (w.heap.size+1) w7 w8 (rdV s rb.a rb.e):=⟨hst'.at_,hst'.fr.os,hst'.fr.tape,hst'.fr.output,hst'.fr.size,hst'.fr.keep⟩
  have hg2:=P3.out.g2
  have HB6:=zh (hst.fr.keep g P3.out.op.lt (by omega))
  have P4:=zh (P3.out.step hst);have HO4:=zh (OJ HO3.out hst (by omega))
  clear hst hst' P3 HO3
  have hb9:Below w8.heap.size w8 (w8.alloc (.cells #[.string x,.string y] 76)):=zb
  have P5:=zh (P4.out.under hb9);have HO5:=zh (own_below HO4.out hb9)
  have hrw:=Cx w8 76 #[.string x,.string y] 2 1 1 rfl
  have HRW:=zh hrw
  have hgw:g+1<=(w8.alloc (.cells #[.string x,.string y] 76)).heap.size:=by have:=P4.out.op.lt;rw[World.size_alloc];omega
  have HGW:=zh hgw
  have hl8:l.length+1<=8:=by rw[HLL.out];omega
  clear hrw hgw hb9 HO4 P4
  go_wp2_with fail
  refine Lex.Mid.intro (fun j hj _=>by rw[hj];exact HB6.out) ?_
  go_wp2_with (at_builtin;go_must (refine Ah JO rfl _ _ rfl (g+1) l.length (.slice va l.length vc) (l.flatMap Own.Cy) rfl HO5.out (.slice (some ⟨w8.heap.size,0,none⟩) 1 1) 1 [.string x,.string y] rfl HRW.out (by intro u hu;simp at hu;rcases hu with rfl|rfl<;>rfl) (by omega) (by omega) HGW.out ?_);intro v9 w9 ho9 hg9 hw9;obtain⟨ya,ym,yc,rfl⟩:=Ac ho9;have HO9:=zh ho9;have P9:=zh (P5.out.grown hg9 (Ak HO5.out));clear ho9 hg9 hw9;have d2:=P9.out.op.cell 2;have d2f:=P9.out.op.free 2;simp only[zg] at d2)
  refine Lex.zk ⟨⟨rfl,HX1.out⟩,trivial⟩ ?_
  go_wp2_with fail
  refine⟨⟨k+1,l++[⟨x,y⟩],.slice ya ym yc,rb,by omega,by go_num,HSN.out,hlb,?_,P9.out.put 2 _⟩,by simp[intOf];omega⟩
  have h9:w9.ownsRow (g+1) 76 2 (.slice ya ym yc) (l++[(⟨x,y⟩:Own.Member)]).length ((l++[(⟨x,y⟩:Own.Member)]).flatMap Own.Cy):=by
   rw[List.length_append,List.flatMap_append]
   simpa [Own.Cy] using HO9.out
  exact Ae h9 (fun j hj=>zo (by have:=Ak h9 j hj;show j≠g;omega))
end
end Go.Proofs.YtjlmglgmcekmhaaGreatDoor
