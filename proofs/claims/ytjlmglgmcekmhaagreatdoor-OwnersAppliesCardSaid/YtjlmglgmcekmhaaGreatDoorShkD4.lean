/- The reference's hash trees: inclusion proofs. -/
import Derived.OrdersIn
import Derived.RangeFuncCalls
import Derived.TacticsIn
import Derived.RangeFuncNested
import Derived.RangeFuncBound
import Derived.RangeFuncLeaves
import Derived.OwnWalkIn
import Derived.TacticsInMore
import Derived.LoopNIn
import Derived.LoopIn
import Derived.Lib.Builder
import Derived.Lib.FrozenHead
import Derived.Lib.AppendStr
import Derived.Lib.Split
import Derived.Lib.SplitLaws
import Derived.Laws.EntriesVeiled
import Derived.Test.YtjlmglgmcekmhaaGreatDoorShkD3
set_option linter.unusedVariables false
set_option linter.unusedSimpArgs false
set_option maxRecDepth 100000
set_option maxHeartbeats 8000000
namespace Go.Proofs.YtjlmglgmcekmhaaGreatDoor
section
open Go Go.RowKit Go.Maps
theorem Mw:Nonempty (Fu Tryz.prog 68 9 1 16):=Ec (z:=.string ⟨#[]⟩) Tryz.underlying68 (by kernel_rfl) rfl (by omega)
def Ev:Nat->List ByteArray->Nat->List ByteArray
 | 0,_,_=>[]
 | f + 1,l,i => if l.length = 1 then [] else if i < Sig.split l.length then Ev f (l.take (Sig.split l.length)) i ++ [Sig.FP f (l.drop (Sig.split l.length))]
     else Ev f (l.drop (Sig.split l.length)) (i-Sig.split l.length)++[Sig.FP f (l.take (Sig.split l.length))]
theorem NU:∀ (f:Nat) (l:List ByteArray) (i:Nat),(Ev f l i).length<=f
 | 0,_,_=>Nat.le_refl _
 | f + 1,l,i => by
   unfold Ev
   split
   ·exact Nat.zero_le _
   ·split<;>rw[List.length_append,List.length_singleton]<;>exact Nat.succ_le_succ (NU f _ _)
theorem NY:∀ (f:Nat) (v:Value) (p:List ByteArray) (i:Nat) (w:World),1<=p.length->p.length<=f->f<=4096->i<p.length->Al w v p->Eb v->
 Calls Tryz.prog 192 #[v,.int .i64 i] w fun e w' => ∃ u,e=.returned u/\w'.ownsRow w.heap.size 9 1 u (Ev f p i).length ((Ev f p i).map Value.string)/\Below w.heap.size w w':=by
 intro f
 induction f with
 | zero=>intro v p i w h1 h2;omega
 | succ f ih =>
   intro v p i w h1 hf hff hi h hcap
   obtain⟨a,c,rfl⟩:=h.len
   obtain⟨_,_,_,he,hcl⟩:=hcap
   cases he
   by_cases hp1:p.length=1
   ·obtain⟨x,rfl⟩:=List.length_eq_one_iff.1 hp1
    clear ih h
    go_enter Tryz.func192,Tryz.ntmps192
    go_wp2
    go_ret
    exact⟨_,rfl,World.ownsRow_nil _ _ _ _,Below.refl _ _⟩
   have h2:2<=p.length:=by omega
   obtain⟨R,hR⟩:∃ R,R=Ev (f+1) p i:=⟨_,rfl⟩
   rw[<- hR]
   obtain⟨b,o,ha⟩:=h.addrOf (k:=0) (by omega)
   subst ha
   have d1:((p.length:Int)==1)=false:=by rw[beq_eq_false_iff_ne];omega
   have hsp:=Sig.oq h2
   have hs0:=Sig.NK p.length
   have hk1:=h.qN (k:=Sig.split p.length) (c':=c) (by omega)
   have hk2:=h.qO (k:=Sig.split p.length) (m:=p.length-Sig.split p.length) (c':=c-Sig.split p.length) rfl
   have hl1:(p.take (Sig.split p.length)).length=Sig.split p.length:=by rw[List.length_take];omega
   have hl2:(p.drop (Sig.split p.length)).length=p.length-Sig.split p.length:=by rw[List.length_drop]
   unfold Ev at hR
   rw[if_neg hp1] at hR
   obtain⟨P1,hP1⟩:∃ P1,P1=p.take (Sig.split p.length):=⟨_,rfl⟩
   obtain⟨P2,hP2⟩:∃ P2,P2=p.drop (Sig.split p.length):=⟨_,rfl⟩
   rw[<- hP1] at hR hk1 hl1
   rw[<- hP2] at hR hk2 hl2
   have hsplit:=fun w=>Mv p.length w h2 (by omega)
   obtain⟨K,hK⟩:∃ K,K=Sig.split p.length:=⟨_,rfl⟩
   rw[<- hK] at hsp hs0 hk1 hk2 hl1 hl2 hsplit hR
   obtain⟨N,hN⟩:∃ N,N=p.length:=⟨_,rfl⟩
   rw[<- hN] at hsp hcl hf hi hk2 hl2 d1 h1 h2 hsplit ⊢
   have HR:=zh hR;have IH:=zh ih;have H1:=zh hk1;have H2:=zh hk2;have HL1:=zh hl1;have HL2:=zh hl2;have HS:=zh hsplit
   clear hR ih hk1 hk2 hl1 hl2 hP1 hP2 h hp1 hK hN hsplit
   go_enter Tryz.func192,Tryz.ntmps192
   go_wp2_with fail
   refine(HS.out w).mono ?_
   rintro e w1 ⟨rfl,rfl⟩
   by_cases hik:i<K
   ·have dk:decide ((i:Int)<K)=true:=by simp;omega
    rw[if_pos hik] at HR
    go_wp2
    refine Lex.zl ?_
    go_wp2_with fail
    refine(IH.out _ P1 i _ (by rw[HL1.out];omega) (by rw[HL1.out];omega) (by omega) (by rw[HL1.out];omega) (show Al w1.drew _ _ from H1.out) ⟨_,_,_,rfl,by omega⟩).mono ?_
    rintro e w2 ⟨u,rfl,ho,hb⟩
    have hb2:Below w1.heap.size w1 w2:=((Below.refl w1.heap.size w1).drew).trans hb
    have HB:=zh hb2;have H2':=zh (H2.out.below hb2);have HO:=zh ho;clear hb hb2 ho
    go_wp2_with fail
    refine(J9 f _ P2 _ (by rw[HL2.out];omega) (by rw[HL2.out];omega) H2'.out ⟨_,_,_,rfl,by omega⟩).mono ?_
    rintro e w3 ⟨rfl,hb⟩
    have HO3:=zh (own_below HO.out hb);have HB3:=zh (HB.out.trans (hb.mono HB.out.size));clear hb
    obtain⟨rt,hrt⟩:∃ rt,rt=Sig.FP f P2:=⟨_,rfl⟩
    rw[<- hrt] at HR ⊢
    have hil:=NU f P1 i
    obtain⟨L,hL⟩:∃ L,L=Ev f P1 i:=⟨_,rfl⟩
    rw[<- hL] at HR HO3 hil
    clear hrt hL
    obtain⟨ga,gm,gc,rfl⟩:=Ac HO3.out
    go_wp2_with (at_builtin;go_must (refine Ah Mw rfl _ _ rfl w1.heap.size L.length _ _ rfl (HO3.out.alloc _) (.slice (some ⟨w3.heap.size,0,none⟩) 1 1) 1 [.string rt] rfl (Cx w3 9 #[.string rt] 1 1 1 rfl) (by intro u hu;simp at hu;subst hu;rfl) (by omega) (by omega) (by have:=HB3.out.size;simp;omega) ?_);intro v6 w6 ho6 hg6 _;have hb6:=Bh (HB3.out.alloc HB3.out.size _) (by have:=HB3.out.size;simp;omega) HO3.out hg6;have HO6:=zh ho6;have HB6:=zh hb6;clear ho6 hg6 hb6)
    refine Lex.ze ?_
    go_wp2
    go_ret
    refine⟨v6,rfl,?_,HB6.out⟩
    rw[HR.out,List.length_append,List.map_append]
    exact HO6.out
   ·have dk:decide ((i:Int)<K)=false:=by simp;omega
    rw[if_neg hik] at HR
    have e1:(i:Int)-K=((i-K:Nat):Int):=by omega
    go_wp2
    refine Lex.zl ?_
    go_wp2_with fail
    clear e1
    refine(IH.out _ P2 (i-K) _ (by rw[HL2.out];omega) (by rw[HL2.out];omega) (by omega) (by rw[HL2.out];omega) (show Al w1.drew _ _ from H2.out) ⟨_,_,_,rfl,by omega⟩).mono ?_
    rintro e w2 ⟨u,rfl,ho,hb⟩
    have hb2:Below w1.heap.size w1 w2:=((Below.refl w1.heap.size w1).drew).trans hb
    have HB:=zh hb2;have H1':=zh (H1.out.below hb2);have HO:=zh ho;clear hb hb2 ho
    go_wp2_with fail
    refine(J9 f _ P1 _ (by rw[HL1.out];omega) (by rw[HL1.out];omega) H1'.out ⟨_,_,_,rfl,by omega⟩).mono ?_
    rintro e w3 ⟨rfl,hb⟩
    have HO3:=zh (own_below HO.out hb);have HB3:=zh (HB.out.trans (hb.mono HB.out.size));clear hb
    obtain⟨rt,hrt⟩:∃ rt,rt=Sig.FP f P1:=⟨_,rfl⟩
    rw[<- hrt] at HR ⊢
    have hil:=NU f P2 (i-K)
    obtain⟨L,hL⟩:∃ L,L=Ev f P2 (i-K):=⟨_,rfl⟩
    rw[<- hL] at HR HO3 hil
    clear hrt hL
    obtain⟨ga,gm,gc,rfl⟩:=Ac HO3.out
    go_wp2_with (at_builtin;go_must (refine Ah Mw rfl _ _ rfl w1.heap.size L.length _ _ rfl (HO3.out.alloc _) (.slice (some ⟨w3.heap.size,0,none⟩) 1 1) 1 [.string rt] rfl (Cx w3 9 #[.string rt] 1 1 1 rfl) (by intro u hu;simp at hu;subst hu;rfl) (by omega) (by omega) (by have:=HB3.out.size;simp;omega) ?_);intro v6 w6 ho6 hg6 _;have hb6:=Bh (HB3.out.alloc HB3.out.size _) (by have:=HB3.out.size;simp;omega) HO3.out hg6;have HO6:=zh ho6;have HB6:=zh hb6;clear ho6 hg6 hb6)
    refine Lex.ze ?_
    go_wp2
    go_ret
    refine⟨v6,rfl,?_,HB6.out⟩
    rw[HR.out,List.length_append,List.map_append]
    exact HO6.out
theorem M5 (v:Value)(xs:List ByteArray)(w:World)(h:Al w v xs)(hl:xs.length<=140737488355328):
 Calls Tryz.prog 191 #[v] w fun e w' => e=.returned (.bool (decide (xs.length<=4096)&&xs.all Sig.digest))/\w' = w:=by
 obtain⟨R,hR⟩:∃ R,R=(decide (xs.length<=4096)&&xs.all Sig.digest):=⟨_,rfl⟩
 rw[<- hR]
 have H:=zh h
 obtain⟨a,c,rfl⟩:=h.len
 clear h
 go_enter Tryz.func191,Tryz.ntmps191
 by_cases h1:xs.length<=4096
 ·have d1:decide ((xs.length:Int)<=4096)=true:=by simp;omega
  rw[decide_eq_true h1,Bool.true_and] at hR
  have HR:=zh hR;clear hR
  go_wp2_with fail
  refine(Ri _ xs w H.out hl).mono ?_
  rintro e w1 ⟨rfl,rfl⟩
  rw[aG,<- HR.out]
  go_wp2
  go_ret
  exact⟨rfl,rfl⟩
 ·have d1:decide ((xs.length:Int)<=4096)=false:=by simp;omega
  rw[decide_eq_false h1,Bool.false_and] at hR
  have HR:=zh hR;clear hR
  go_wp2
  go_ret
  exact⟨by rw[HR.out];rfl,rfl⟩
theorem Yd (v:Value)(p:List ByteArray)(w:World)(h:Al w v p)(hcap:Eb v)(hl:p.length<=4096)(hd:p.all Sig.digest=true):
 Calls Tryz.prog 158 #[v] w fun e w' => e=.returned (.string (Sig.root p))/\Below w.heap.size w w':=by
 have hv:=M5 v p w h (by omega)
 rw[decide_eq_true hl,hd] at hv
 have hr:=J9 p.length v p w (by omega) hl h hcap
 have HV:=zh hv;have HR:=zh hr;clear hv hr
 obtain⟨a,c,rfl⟩:=h.len
 go_enter Tryz.func158,Tryz.ntmps158
 go_wp2_with fail
 refine HV.out.mono ?_
 rintro e w1 ⟨rfl,rfl⟩
 go_wp2_with fail
 refine HR.out.mono ?_
 rintro e w2 ⟨rfl,hb⟩
 go_wp2
 go_ret
 exact⟨rfl,hb⟩
theorem NZ (v:Value)(p:List ByteArray)(i:Nat)(w:World)(h:Al w v p)(hcap:Eb v)(hl:p.length<=4096)(hd:p.all Sig.digest=true)(hi:i<p.length):
 Calls Tryz.prog 156 #[v,.int .i64 i] w fun e w' => ∃ u,e=.returned (.tuple #[u,.int .i64 0])/\w'.ownsRow w.heap.size 9 1 u (Ev p.length p i).length ((Ev p.length p i).map Value.string)/\Below w.heap.size w w':=by
 have hv:=M5 v p w h (by omega)
 rw[decide_eq_true hl,hd] at hv
 have hr:=NY p.length v p i w (by omega) (by omega) hl hi h hcap
 have d1:decide (p.length<=i)=false:=by simp;omega
 have d2:decide ((p.length:Int)<=(i:Int))=false:=by simp;omega
 have HV:=zh hv;have HR:=zh hr;clear hv hr
 obtain⟨a,c,rfl⟩:=h.len
 go_enter Tryz.func156,Tryz.ntmps156
 go_wp2_with fail
 refine HV.out.mono ?_
 rintro e w1 ⟨rfl,rfl⟩
 go_wp2_with fail
 refine HR.out.mono ?_
 rintro e w2 ⟨u,rfl,ho,hb⟩
 go_wp2
 go_ret2
 exact⟨u,rfl,ho,hb⟩
end
section
namespace Lex
open Go
section
variable {P:Program} {ops:Array Oper} {Q:Exit->Act->World->Prop} {n:Nat}
def W (r:Option Nat):Fence :={ Fence.wide with round:=r }
theorem kU {r:Option Nat}{f:FuncId}{args:Array Value}{w:World}{R:Ending->World->Prop}(h:Calls P f args w R):CallsIn (W r) n P f args w R:=by
 have h1:CallsIn Fence.wide n P f args w R:=callsIn_wide.2 h
 exact h1
theorem vH {r:Option Nat}{f:String}{args:Array Value}{w:World}{R:Value->World->Prop}(h:Rows P f args w R):RowsIn (W r) n P f args w R:=by
 have h1:RowsIn Fence.wide n P f args w R:=fun c cs _=>let ⟨v,w',x,s⟩:=h c cs;⟨v,w',x,stepsIn_wide.2 s⟩
 exact h1
theorem Rn {r:Option Nat}{o:Oper}{a:Act}{K:Act->World->Prop}{x:Result Next}(h:o.upon P a K Q x):o.uponIn (W r) n P a K Q x:=by
 match x,h with
 | .ok (.value v) w',h=>exact h
 | .ok .skip w',h=>exact h
 | .ok (.defer d) w',h=>exact h
 | .ok (.enter f args) w',h=>exact⟨fun hd=>(by cases hd),kU h⟩
 | .ok (.row row args) w',h=>exact⟨fun hd=>(by cases hd),vH h⟩
 | .halt (.panic v) w',h=>exact h
def Kt (ops:Array Oper):Bool:=ops.all fun o=>match o.op with
 | .defer _=>false
 | _=>true
theorem aH (h:Kt ops=true){i:Nat}{o:Oper}(ho:ops[i]? = some o):∀ c,o.op≠.defer c:=by
 intro c hc
 obtain⟨hi,rfl⟩:=Array.getElem?_eq_some_iff.1 ho
 have:=(Array.all_eq_true.1 h) i hi
 rw[hc] at this
 cases this
theorem JA {r:Option Nat}{i:Nat}{K K' : Act->World->Prop}{a:Act}{w:World}(hd:Kt ops=true)(hQ:¬ LetsOut Q)(hK:∀ a w,K a w->K' a w)(h:wpOp P ops Q i K a w):wpOpIn (W r) n P ops Q i K' a w:=by
 unfold wpOp at h
 unfold wpOpIn
 split
 ·rename_i ho
  rw[ho] at h
  exact hK _ _ h
 ·rename_i o ho
  rw[ho] at h
  simp only at h
  split
  ·rename_i hw
   rw[if_pos hw] at h
   rcases h with h|⟨_,h⟩
   ·refine⟨fun _ _=>trivial,?_⟩
    rw[Oper.semAt_eq _ _ _ (aH hd ho)]
    exact Rn (Oper.wp_mono hK h)
   ·exact absurd h hQ
  ·rename_i hw
   rw[if_neg hw] at h
   exact⟨fun _ _=>trivial,hK _ _ h⟩
theorem M6 {r:Option Nat}{md:Region.Mode}(hd:Kt ops=true)(hQ:¬ LetsOut Q):∀ (fuel:Nat) (listed:Array Bool) (a:Act) (w:World),wpAny P md ops Q fuel listed a w->wpAnyIn (W r) n P md ops Q fuel listed a w
 | 0,_,_,_,h=>h
 | fuel+1,listed,a,w,h=>⟨h.1,fun i hi=>JA hd hQ (fun a w h=>M6 hd hQ fuel _ a w h) (h.2 i hi)⟩
theorem Ij {r:Option Nat}(hd:Kt ops=true)(hQ:¬ LetsOut Q):∀ (l:List Nat) (a:Act) (w:World),wpOps P ops Q l a w->wpOpsIn (W r) n P ops Q l a w
 | [],_,_,h=>h
 | i :: l,a,w,h => by
   rw[wpOps_cons] at h
   rw[wpOpsIn_cons]
   exact JA hd hQ (fun a w h=>Ij hd hQ l a w h) h
def Only (Q:Exit->Act->World->Prop):Exit->Act->World->Prop:=fun e a w=>e=.normal/\Q .normal a w
theorem Only.intro {a:Act}{w:World}(h:Q .normal a w):Only Q .normal a w:=⟨rfl,h⟩
theorem Only.Bb:CS (Only Q):=fun _ _ _ he h=>he h.1
theorem MB {r:Option Nat}{id:Nat}{l:List Oper}{a:Act}{w:World}(hd:Kt l.toArray=true)(h:wpList P l.toArray (Only Q) l a w):(Code.region id l.toArray false).wpIn (W r) n P Q a w:=by
 refine wpIn_mono (Q:=Only Q) (wpIn_region (Ij hd Only.Bb.out _ _ _ ?_)) (fun e a' w' he=>by obtain⟨rfl,h⟩:=he;exact h)
 rw[List.range_eq_range',show l.toArray.size=l.length from by simp,wpOps_eq_wpList l 0 (by simp)]
 exact h
theorem PW {r:Option Nat}{id:Nat}{l:List Oper}{a:Act}{w:World}(hm:P.follows .mixedOrders=true)(hA:Q7 P l.toArray=true)(hd:Kt l.toArray=true)
 (h:wpList P l.toArray (Ends P l.toArray Q) l a w.drew):(Code.region id l.toArray true).wpIn (W r) n P Q a w:=by
 exact wpIn_mono (Q:=Ab P l.toArray (fun _=>False) w.drew [] Q) (wpIn_region_any hm (M6 hd Ab.Bb.out _ _ _ _ (Li hA h))) (fun e a' w' he=>by obtain⟨rfl,_,_,h⟩:=he;exact h)
end
end Lex
end
section
open Go Go.RowKit
structure Ye (d b:Nat) (W W' : World):Prop where
 size:W.heap.size<=W'.heap.size
 two:W'.heap[d]? = W.heap[d]? /\ W'.heap[d+1]? = W.heap[d+1]?
 bet:∀ k,b<=k->k<W.heap.size->W'.heap[k]? = W.heap[k]?
theorem Ye.refl (d b:Nat)(W:World):Ye d b W W:=⟨Nat.le_refl _,⟨rfl,rfl⟩,fun _ _ _=>rfl⟩
def roundEnd {β : Type}(d b:Nat)(J : β -> World->Prop)(Jx:Code->World->Prop)(s' : β)(W:World):Exit->Act->World->Prop:=fun e _ W' =>
 Ye d b W W' /\ (e=.normal/\J s' W' \/ ∃ c,(e=.ret/\c=.ret\/∃ i,e=.exit i/\c=.exit i)/\Jx c W')
def kV {β : Type}(J' : β -> World->Prop)(Jx' : World->Prop)(Done : β -> Prop)(e:Ending)(W' : World):Prop:=(∃ v,e=.returned v)/\((∃ s,Done s/\J' s W')\/Jx' W')
def Iter {α β : Type}(F:Fence)(m:Nat)(P:Program)(gf:Nat)(args:Nat->Array Value)(encs : α -> Array Value)(J : β -> World->Prop)(Step : β -> α -> β -> Prop)(Done : β -> Prop)(s0 : β):Prop:=
 ∀ (l : Nat) (J' : β → World → Prop) (Jx' : World → Prop) (W : World),(∀ s W,J' s W → J s W) → (∀ s W W',J' s W → Below W.heap.size W W' → J' s W') →
   (∀ s x s' W0 W,J' s W0->Below W0.heap.size W0 W->Step s x s' -> YieldAt F (m-1) P l (encs x) W (fun e W' => e=.returned (.bool true)/\J' s' W' /\ (∀ k,W0.heap.size<=k->k<W.heap.size->W'.heap[k]? = W.heap[k]?)\/e=.returned (.bool false)/\Jx' W'))->J' s0 W->
   CallsIn F m P gf (args l) W (kV J' Jx' Done)
theorem CZ (W:World)(l:Nat)(o:Obj):Fr (fun k=>k=l) W (W.putObj l o):=⟨rfl,rfl,rfl,by simp[World.putObj],fun _ _ hn=>World.putObj_heap_other hn⟩
theorem Kz {α β : Type}{P:Program}{n:Nat}{r:Option Nat}{g:Operand}{ps:Array Tmp}{assign body:Code}{Q:Exit->Act->World->Prop}{a:Act}{w:World}{gf:Nat}{pre lb:Array Value}
 (hro:r=none) (hg:a.eval g=.func (.func gf) pre lb) (eg:∀ args w,(callFunc gf args).run P w=.ok (.enter gf args) w) (encs : α -> Array Value) (hps:∀ x,(encs x).size=ps.size)
 (J : β -> World->Prop) (Jx:Code->World->Prop) (Step : β -> α -> β -> Prop) (Done : β -> Prop) (s0 : β)
 (hJb:∀ s W W',J s W->Below W.heap.size W W' -> J s W') (hJl:∀ s W W',J s W->Fr (fun k=>k=w.heap.size+1) W W' -> J s W') (VT:∀ c W W',Jx c W->Fr (fun k=>k=w.heap.size+1) W W' -> Jx c W')
 (h0:J s0 w)
 (hiter:Iter (Lex.W r) (n-1) P gf (fun l=>pre++(#[.func (.yield l) #[] #[]]++lb)) encs J Step Done s0)
 (Lv : ∀ s x s' W0 W,w.heap.size + 1 < W0.heap.size → J s W0 → Below W0.heap.size W0 W → Step s x s' →
   assign.wpIn (Lex.W (some (w.heap.size+1))) (n-1-1) P (Exit.then (fun a₁ W₁ => Ye w.heap.size W0.heap.size W W₁ /\ ∀ W₂,Fr (fun k=>k=w.heap.size+1) W₁ W₂ -> 
    body.wpIn (Lex.W (some (w.heap.size+1))) (n-1-1) P (roundEnd w.heap.size W0.heap.size J Jx s' W₂) a₁ W₂) (fun _ _ _=>False)) { tmps:=(ps.zip (encs x)).foldl (fun t (p,v)=>t.setIfInBounds p v) a.tmps,defers:=[] } W)
 (hdone:∀ s W,Done s->J s W->W.heap[w.heap.size]? = some (.deferred (some []))->Q .normal { a with defers :={ target:=.collected w.heap.size,args:=#[] } :: a.defers } W)
 (hstop:∀ (c:Code) (W:World),Jx c W->W.heap[w.heap.size]? = some (.deferred (some []))->c.wpIn (Lex.W r) n P Q { a with defers :={ target:=.collected w.heap.size,args:=#[] } :: a.defers } W):
 (Code.rangeFunc g ps assign body).wpIn (Lex.W r) n P Q a w:=by
 refine wpIn_rangeFunc ?_
 intro fn hfn
 subst hro
 obtain⟨rec,hrec⟩:∃ rec:LoopState->Option Code->Loop,rec=fun st pe => { state:=st,pending:=pe,fn,tmps:=a.tmps,params:=ps,assign,body,defers:=w.heap.size } :=⟨_,rfl⟩
 obtain⟨W1,hW1⟩:∃ W1,(w.alloc (.deferred (some []))).alloc (.loop (rec .ready none))=W1:=⟨_,rfl⟩
 have hL1:W1.heap[w.heap.size+1]? = some (.loop (rec .ready none)):=by
  rw[<- hW1];have:=World.alloc_heap_new (w.alloc (.deferred (some []))) (.loop (rec .ready none));rwa [World.size_alloc] at this
 have hK1:W1.heap[w.heap.size]? = some (.deferred (some [])):=by
  rw[<- hW1];exact(Below.heap_alloc _ _ _ (by simp)).trans (World.alloc_heap_new w _)
 have hb1:Below w.heap.size w W1:=by
  rw[<- hW1];exact((Below.refl _ w).alloc (Nat.le_refl _) _).alloc (by simp) _
 refine⟨w.heap.size+1,[{ target:=.collected w.heap.size,args:=#[] }],W1,{ target:=.fn (.func gf) lb,args:=pre++#[.func (.yield (w.heap.size+1)) #[] #[]] },W1,gf,
  pre++(#[.func (.yield (w.heap.size+1)) #[] #[]]++lb),W1,?_,?_,fun _ _=>trivial,?_,fun h=>(by cases h),?_⟩
 ·rw[<- hW1,hrec];exact run_enterLoop_outer _ _ _ _ _
 ·simp only[resolve,hg]
  simp[go_sem]
 ·simp[invoke,go_sem,eg]
 ·refine (hiter (w.heap.size + 1) (fun s W' => J s W' ∧ W'.heap[w.heap.size + 1]? = some (.loop (rec .ready none)) ∧ W'.heap[w.heap.size]? = some (.deferred (some [])))
   (fun W' => ∃ c,Jx c W' /\ W'.heap[w.heap.size+1]? = some (.loop (rec .done (some c)))/\W'.heap[w.heap.size]? = some (.deferred (some []))) W1
   (fun s W h=>h.1)
   (fun s W W' h hb => by
     have hl:=(Array.getElem?_eq_some_iff.1 h.2.1).1
     exact⟨hJb s W W' h.1 hb,(hb.block _ hl).trans h.2.1,(hb.block _ (by omega)).trans h.2.2⟩) ?_ ⟨hJb s0 w W1 h0 hb1,hL1,hK1⟩).mono ?_
  ·rintro s x s' W0 W ⟨hJ,hl0,hd0⟩ hbW hst
   have vJ:w.heap.size+1<W0.heap.size:=(Array.getElem?_eq_some_iff.1 hl0).1
   have hl:=(hbW.block _ vJ).trans hl0
   have hd:=(hbW.block w.heap.size (by omega)).trans hd0
   have hlt:w.heap.size+1<W.heap.size:=(Array.getElem?_eq_some_iff.1 hl).1
   have hy:=run_yield (P:=P) (args:=encs x) hl (by rw[hrec];exact hps x)
   rw[hrec] at hy
   refine⟨fn,_,assign,body,hy,roundIn_of_wpIn hfn (wpIn_mono (Lv s x s' W0 W vJ hJ hbW hst) ?_)⟩
   rintro e a₁ W₁ he
   cases e with
   | normal =>
     obtain⟨hk,hbody⟩:=he
     have hl1:W₁.heap[w.heap.size+1]? = some (.loop (rec .ready none)):=hk.two.2.trans hl
     have hd1:W₁.heap[w.heap.size]? = some (.deferred (some [])):=hk.two.1.trans hd
     refine⟨_,run_beginRound hl1 (by rw[hrec]),?_⟩
     have hlt1:w.heap.size+1<W₁.heap.size:=(Array.getElem?_eq_some_iff.1 hl1).1
     have hl2:(W₁.putObj (w.heap.size+1) (.loop { rec .ready none with state:=.busy })).heap[w.heap.size+1]? = some (.loop { rec .ready none with state:=.busy }):=World.putObj_heap_same hlt1
     have hd2:(W₁.putObj (w.heap.size+1) (.loop { rec .ready none with state:=.busy })).heap[w.heap.size]? = some (.deferred (some [])):=(World.putObj_heap_other (by omega)).trans hd1
     refine wpIn_mono (hbody _ (CZ _ _ _)) ?_
     rintro e a3 W3 ⟨hk3,hres⟩
     have hl3:=hk3.two.2.trans hl2
     have hd3:=hk3.two.1.trans hd2
     rcases hres with ⟨rfl,hJ3⟩|⟨c,hc,hx⟩
     ·have hr:=run_endRound (P:=P) none hl3
      have hl4:=World.putObj_heap_same (o:=.loop (rec .ready none)) (Array.getElem?_eq_some_iff.1 hl3).1
      have hk4:(W3.putObj (w.heap.size+1) (.loop (rec .ready none))).heap[w.heap.size]? = some (.deferred (some [])):=(World.putObj_heap_other (by omega)).trans hd3
      have hf:=hJl s' _ _ hJ3 (CZ W3 (w.heap.size+1) (.loop (rec .ready none)))
      rw[hrec] at hr hl4 hk4 hf
      refine⟨_,_,hr,.inl ⟨rfl,⟨hf,by rw[hrec];exact hl4,hk4⟩,fun k hk0 hkl=>?_⟩⟩
      have hsz2:W₁.heap.size=(W₁.putObj (w.heap.size+1) (.loop { rec .ready none with state:=.busy })).heap.size:=by simp[World.putObj]
      exact(World.putObj_heap_other (by omega)).trans ((hk3.bet k hk0 (by rw[<- hsz2];exact Nat.lt_of_lt_of_le hkl hk.size)).trans ((World.putObj_heap_other (by omega)).trans (hk.bet k hk0 hkl)))
     ·have hr:=run_endRound (P:=P) (some c) hl3
      have hl4:=World.putObj_heap_same (o:=.loop (rec .done (some c))) (Array.getElem?_eq_some_iff.1 hl3).1
      have hk4:(W3.putObj (w.heap.size+1) (.loop (rec .done (some c)))).heap[w.heap.size]? = some (.deferred (some [])):=(World.putObj_heap_other (by omega)).trans hd3
      have hf:=VT c _ _ hx (CZ W3 (w.heap.size+1) (.loop (rec .done (some c))))
      rw[hrec] at hr hl4 hk4 hf
      rcases hc with ⟨rfl,rfl⟩|⟨i,rfl,rfl⟩
      ·exact⟨_,_,hr,.inr ⟨rfl,.ret,hf,by rw[hrec];exact hl4,hk4⟩⟩
      ·exact⟨_,_,hr,.inr ⟨rfl,.exit i,hf,by rw[hrec];exact hl4,hk4⟩⟩
   | ret=>exact he.elim
   | exit id=>exact he.elim
   | goto t=>exact he.elim
   | panic ch=>exact he.elim
   | outgrown=>exact he.elim
  ·rintro e W2 ⟨⟨v,rfl⟩,⟨s,hD,hJ,hl,hd⟩|⟨c,hi,hl,hd⟩⟩
   ·refine⟨none,_,by have:=run_endLoop (P:=P) hl (by rw[hrec];simp);rw[hrec] at this;exact this,hdone s _ hD (hJl s _ _ hJ (CZ _ _ _)) ((World.putObj_heap_other (by omega)).trans hd)⟩
   ·refine⟨some c,_,by have:=run_endLoop (P:=P) hl (by rw[hrec];simp);rw[hrec] at this;exact this,hstop c _ (VT c _ _ hi (CZ _ _ _)) ((World.putObj_heap_other (by omega)).trans hd)⟩
def Kept (KT:_root_.Go.Obj->Prop)(W W' : World):Prop:=∀ (k:Nat) (o:_root_.Go.Obj),W.heap[k]? = some o->KT o->W'.heap[k]? = some o
theorem Kept.refl (KT:_root_.Go.Obj->Prop)(W:World):Kept KT W W:=fun _ _ h _=>h
theorem Kept.trans {KT:_root_.Go.Obj->Prop}{A B C:World}(h:Kept KT A B)(k:Kept KT B C):Kept KT A C:=fun i o hi ho=>k i o (h i o hi ho) ho
def VU (t:TypeId)(o:_root_.Go.Obj):Prop:=∃ cs fz,o=.cells cs t fz
def gW {β : Type}(KT:_root_.Go.Obj->Prop)(d:Nat)(J : β -> World->Prop)(Jx:Code->World->Prop)(s' : β)(W:World):Exit->Act->World->Prop:=fun e _ W' =>
 (W'.heap[d]? = W.heap[d]? /\ W'.heap[d+1]? = W.heap[d+1]?)/\Kept KT W W' /\ (e=.normal/\J s' W' \/ ∃ c,(e=.ret/\c=.ret\/∃ i,e=.exit i/\c=.exit i)/\Jx c W')
def iq {β : Type}(J' : β -> World->Prop)(Jx' : World->Prop)(Done : β -> Prop)(e:Ending)(W' : World):Prop:=(∃ v,e=.returned v)/\((∃ s,Done s/\J' s W')\/Jx' W')
def qP {α β : Type}(KT:_root_.Go.Obj->Prop)(F:Fence)(m:Nat)(P:Program)(gf:Nat)(args:Nat->Array Value)(encs : α -> Array Value)(J : β -> World->Prop)(Step : β -> α -> β -> Prop)(Done : β -> Prop)(s0 : β):Prop:=
 ∀ (l : Nat) (J' : β → World → Prop) (Jx' : World → Prop) (W : World),(∀ s W,J' s W → J s W) → (∀ s W W',J' s W → Below W.heap.size W W' → J' s W') →
   (∀ s x s' W,J' s W->Step s x s' -> YieldAt F (m-1) P l (encs x) W (fun e W' => e=.returned (.bool true)/\J' s' W' /\ Kept KT W W' \/ e=.returned (.bool false)/\Jx' W'))->J' s0 W->
   CallsIn F m P gf (args l) W (iq J' Jx' Done)
theorem JC {α β : Type}{P:Program}(KT:_root_.Go.Obj->Prop)(hKT:∀ L,¬ KT (.loop L)){n:Nat}{r:Option Nat}{g:Operand}{ps:Array Tmp}{assign body:Code}{Q:Exit->Act->World->Prop}{a:Act}{w:World}{gf:Nat}{pre lb:Array Value}
 (hro:r=none) (hg:a.eval g=.func (.func gf) pre lb) (eg:∀ args w,(callFunc gf args).run P w=.ok (.enter gf args) w) (encs : α -> Array Value) (hps:∀ x,(encs x).size=ps.size)
 (J : β -> World->Prop) (Jx:Code->World->Prop) (Step : β -> α -> β -> Prop) (Done : β -> Prop) (s0 : β)
 (hJb:∀ s W W',J s W->Below W.heap.size W W' -> J s W') (hJl:∀ s W W',J s W->Fr (fun k=>k=w.heap.size+1) W W' -> (∃ L,W.heap[w.heap.size+1]? = some (.loop L))->J s W') (VT:∀ c W W',Jx c W->Fr (fun k=>k=w.heap.size+1) W W' -> Jx c W')
 (h0:J s0 w)
 (hiter:qP KT (Lex.W r) (n-1) P gf (fun l=>pre++(#[.func (.yield l) #[] #[]]++lb)) encs J Step Done s0)
 (Lv : ∀ s x s' W,w.heap.size + 1 < W.heap.size → (∃ L,W.heap[w.heap.size + 1]? = some (.loop L)) → W.heap[w.heap.size]? = some (.deferred (some [])) → J s W → Step s x s' →
   assign.wpIn (Lex.W (some (w.heap.size+1))) (n-1-1) P (Exit.then (fun a₁ W₁ => W₁ = W/\∀ W₂,Fr (fun k=>k=w.heap.size+1) W W₂ -> (∃ L,W₂.heap[w.heap.size+1]? = some (.loop L)) -> 
    body.wpIn (Lex.W (some (w.heap.size+1))) (n-1-1) P (gW KT w.heap.size J Jx s' W₂) a₁ W₂) (fun _ _ _=>False)) { tmps:=(ps.zip (encs x)).foldl (fun t (p,v)=>t.setIfInBounds p v) a.tmps,defers:=[] } W)
 (hdone:∀ s W,Done s->J s W->W.heap[w.heap.size]? = some (.deferred (some []))->Q .normal { a with defers :={ target:=.collected w.heap.size,args:=#[] } :: a.defers } W)
 (hstop:∀ (c:Code) (W:World),Jx c W->W.heap[w.heap.size]? = some (.deferred (some []))->c.wpIn (Lex.W r) n P Q { a with defers :={ target:=.collected w.heap.size,args:=#[] } :: a.defers } W):
 (Code.rangeFunc g ps assign body).wpIn (Lex.W r) n P Q a w:=by
 refine wpIn_rangeFunc ?_
 intro fn hfn
 subst hro
 obtain⟨rec,hrec⟩:∃ rec:LoopState->Option Code->Loop,rec=fun st pe => { state:=st,pending:=pe,fn,tmps:=a.tmps,params:=ps,assign,body,defers:=w.heap.size } :=⟨_,rfl⟩
 obtain⟨W1,hW1⟩:∃ W1,(w.alloc (.deferred (some []))).alloc (.loop (rec .ready none))=W1:=⟨_,rfl⟩
 have hL1:W1.heap[w.heap.size+1]? = some (.loop (rec .ready none)):=by
  rw[<- hW1];have:=World.alloc_heap_new (w.alloc (.deferred (some []))) (.loop (rec .ready none));rwa [World.size_alloc] at this
 have hK1:W1.heap[w.heap.size]? = some (.deferred (some [])):=by
  rw[<- hW1];exact(Below.heap_alloc _ _ _ (by simp)).trans (World.alloc_heap_new w _)
 have hb1:Below w.heap.size w W1:=by
  rw[<- hW1];exact((Below.refl _ w).alloc (Nat.le_refl _) _).alloc (by simp) _
 have hb1' : Below w.heap.size w W1:=hb1
 refine⟨w.heap.size+1,[{ target:=.collected w.heap.size,args:=#[] }],W1,{ target:=.fn (.func gf) lb,args:=pre++#[.func (.yield (w.heap.size+1)) #[] #[]] },W1,gf,
  pre++(#[.func (.yield (w.heap.size+1)) #[] #[]]++lb),W1,?_,?_,fun _ _=>trivial,?_,fun h=>(by cases h),?_⟩
 ·rw[<- hW1,hrec];exact run_enterLoop_outer _ _ _ _ _
 ·simp only[resolve,hg]
  simp[go_sem]
 ·simp[invoke,go_sem,eg]
 ·refine (hiter (w.heap.size + 1) (fun s W' => J s W' ∧ W'.heap[w.heap.size + 1]? = some (.loop (rec .ready none)) ∧ W'.heap[w.heap.size]? = some (.deferred (some [])))
   (fun W' => ∃ c,Jx c W' /\ W'.heap[w.heap.size+1]? = some (.loop (rec .done (some c)))/\W'.heap[w.heap.size]? = some (.deferred (some []))) W1
   (fun s W h=>h.1)
   (fun s W W' h hb=>⟨hJb s W W' h.1 hb,(hb.block _ (Array.getElem?_eq_some_iff.1 h.2.1).1).trans h.2.1,(hb.block _ (Array.getElem?_eq_some_iff.1 h.2.2).1).trans h.2.2⟩) ?_ ⟨hJb s0 w W1 h0 (hb1'),hL1,hK1⟩).mono ?_
  ·rintro s x s' W ⟨hJ,hl,hd⟩ hst
   have hlt:w.heap.size+1<W.heap.size:=(Array.getElem?_eq_some_iff.1 hl).1
   have hy:=run_yield (P:=P) (args:=encs x) hl (by rw[hrec];exact hps x)
   rw[hrec] at hy
   refine⟨fn,_,assign,body,hy,roundIn_of_wpIn hfn (wpIn_mono (Lv s x s' W hlt ⟨_,hl⟩ hd hJ hst) ?_)⟩
   rintro e a₁ W₁ he
   cases e with
   | normal =>
     obtain⟨rfl,hbody⟩:=he
     refine⟨_,run_beginRound hl (by rw[hrec]),?_⟩
     have hl2:(W₁.putObj (w.heap.size+1) (.loop { rec .ready none with state:=.busy })).heap[w.heap.size+1]? = some (.loop { rec .ready none with state:=.busy }):=World.putObj_heap_same hlt
     have hd2:(W₁.putObj (w.heap.size+1) (.loop { rec .ready none with state:=.busy })).heap[w.heap.size]? = some (.deferred (some [])):=(World.putObj_heap_other (by omega)).trans hd
     have hm2:Kept KT W₁ (W₁.putObj (w.heap.size+1) (.loop { rec .ready none with state:=.busy })):=fun k o hk ho=>(World.putObj_heap_other (fun e=>by
      rw[e,hl] at hk
      cases hk
      exact hKT _ ho)).trans hk
     refine wpIn_mono (hbody _ (CZ _ _ _) ⟨_,hl2⟩) ?_
     rintro e a3 W3 ⟨hk3,zae,hres⟩
     have hl3:=hk3.2.trans hl2
     have hd3:=hk3.1.trans hd2
     have hm4:∀ o',Kept KT W3 (W3.putObj (w.heap.size+1) o'):=fun o' k o hk ho=>(World.putObj_heap_other (fun e=>by
      rw[e,hl3] at hk
      cases hk
      exact hKT _ ho)).trans hk
     rcases hres with ⟨rfl,hJ3⟩|⟨c,hc,hx⟩
     ·have hr:=run_endRound (P:=P) none hl3
      have hl4:=World.putObj_heap_same (o:=.loop (rec .ready none)) (Array.getElem?_eq_some_iff.1 hl3).1
      have hk4:(W3.putObj (w.heap.size+1) (.loop (rec .ready none))).heap[w.heap.size]? = some (.deferred (some [])):=(World.putObj_heap_other (by omega)).trans hd3
      have hf:=hJl s' _ _ hJ3 (CZ W3 (w.heap.size+1) (.loop (rec .ready none))) ⟨_,hl3⟩
      have hmf:=hm2.trans (zae.trans (hm4 (.loop (rec .ready none))))
      rw[hrec] at hr hl4 hk4 hf hmf
      refine⟨_,_,hr,.inl ⟨rfl,⟨hf,by rw[hrec];exact hl4,hk4⟩,hmf⟩⟩
     ·have hr:=run_endRound (P:=P) (some c) hl3
      have hl4:=World.putObj_heap_same (o:=.loop (rec .done (some c))) (Array.getElem?_eq_some_iff.1 hl3).1
      have hk4:(W3.putObj (w.heap.size+1) (.loop (rec .done (some c)))).heap[w.heap.size]? = some (.deferred (some [])):=(World.putObj_heap_other (by omega)).trans hd3
      have hf:=VT c _ _ hx (CZ W3 (w.heap.size+1) (.loop (rec .done (some c))))
      rw[hrec] at hr hl4 hk4 hf
      rcases hc with ⟨rfl,rfl⟩|⟨i,rfl,rfl⟩
      ·exact⟨_,_,hr,.inr ⟨rfl,.ret,hf,by rw[hrec];exact hl4,hk4⟩⟩
      ·exact⟨_,_,hr,.inr ⟨rfl,.exit i,hf,by rw[hrec];exact hl4,hk4⟩⟩
   | ret=>exact he.elim
   | exit id=>exact he.elim
   | goto t=>exact he.elim
   | panic ch=>exact he.elim
   | outgrown=>exact he.elim
  ·rintro e W2 ⟨⟨v,rfl⟩,⟨s,hD,hJ,hl,hd⟩|⟨c,hi,hl,hd⟩⟩
   ·refine⟨none,_,by have:=run_endLoop (P:=P) hl (by rw[hrec];simp);rw[hrec] at this;exact this,hdone s _ hD (hJl s _ _ hJ (CZ _ _ _) ⟨_,hl⟩) ((World.putObj_heap_other (by omega)).trans hd)⟩
   ·refine⟨some c,_,by have:=run_endLoop (P:=P) hl (by rw[hrec];simp);rw[hrec] at this;exact this,hstop c _ (VT c _ _ hi (CZ _ _ _)) ((World.putObj_heap_other (by omega)).trans hd)⟩
end
section
open Go Go.RowKit Go.Maps
attribute [local go_sem] Oper.semAt_some
def dS (m:ByteArray)(k:Nat)(x:Nat × Nat)(k' : Nat):Prop:=k<67/\x=(k,(Sig.digits m).getD k 0)/\k' = k+1
theorem kW (r:Option Nat):(Lex.W r).round=r:=rfl
theorem VW (mb n:Nat)(m:ByteArray)(hs:m.size<=9223372036854775000)(J:Nat->World->Prop)(hJ:∀ W,J 0 W->W.cell? ⟨mb,0,none⟩=some (.string m)):
 qP (VU 3) (Lex.W none) n Tryz.prog 215 (fun l=>#[]++(#[.func (.yield l) #[] #[]]++#[.pointer (some ⟨mb,0,none⟩)])) (fun x:Nat × Nat=>#[.int .i64 x.1,.int .i64 x.2]) J (dS m) (fun k=>k=67) 0:=by
 intro l J' Jx' W hJJ hJb hY h0
 have hrr:(Lex.W none).round=none:=rfl
 refine callsIn_of_wp Tryz.func215 rfl trivial ?_ rfl
 simp only[Tryz.ntmps215,List.size_toArray,List.length_cons,List.length_nil,Nat.reduceAdd,Nat.reduceSub,Array.replicate_succ,Array.replicate_zero,List.push_toArray,List.append_toArray,List.nil_append,List.cons_append]
 have hc:=hJ _ (hJJ _ _ h0)
 have H0:=zh h0;have HJb:=zh hJb;have HY:=zh hY
 clear hJJ hJ hJb hY h0
 have hcall:=Ya m W hs
 have HC:=zh hcall;clear hcall
 gi_wp2
 refine⟨trivial,fun h=>(by cases h),(Lex.kU HC.out).mono ?_⟩
 rintro e w1 ⟨v,rfl,ho,hb⟩
 obtain⟨g,cap,rfl,hcell⟩:=Ct ho (by omega)
 have hat:∃ cur,At w1 g 3 cur:=Db ho rfl
 obtain⟨cur,hat⟩:=hat
 have hcells:∀ k (hk:k<67),cur[k]? = some (.int .i64 (((Sig.digits m).getD k 0:Nat):Int)):=by
  intro k hk
  rw[<- hat.cell k]
  refine hcell k _ ?_
  unfold Ii
  have hl:=Sig.QM m
  rw[List.getElem?_map,List.getElem?_eq_getElem (by omega),List.getD_eq_getElem?_getD,List.getElem?_eq_getElem (by omega)]
  rfl
 have H1:=zh (HJb.out _ _ _ H0.out hb);have HCE:=zh hcells;have HAT:=zh hat
 clear ho hb hcell hat hcells hc H0 HC
 gi_wp2
 gi_loopw [8] (fun i wr=>∃ k:Nat,k<=67/\i=.int .i64 k/\J' k wr/\At wr g 3 cur) (fun i _=>67-(intOf i).toNat)
 case atStart=>exact⟨0,by omega,rfl,H1.out,HAT.out⟩
 case round=>
  obtain⟨k,hk,rfl,hj,ha⟩:=hrel
  have HJ1:=zh hj;have HA:=zh ha
  clear hj ha H1 HAT
  by_cases hlt:k<67
  ·have dk:decide ((k:Int)<67)=true:=by simp;omega
   have hck:=(HA.out.cell k).trans (HCE.out k hlt)
   obtain⟨d,hd⟩:∃ d,d=(Sig.digits m).getD k 0:=⟨_,rfl⟩
   rw[<- hd] at hck
   obtain⟨fn,tmps,assign,body,hy,hR⟩:=HY.out k (k,d) (k+1) wr HJ1.out ⟨hlt,by rw[hd],rfl⟩
   clear hd
   gi_wp2
   refine⟨fun h=>(by cases h),hR.mono ?_⟩
   rintro e W3 (⟨rfl,hJ3,hk3⟩|⟨rfl,hJx3⟩)
   ·have HJ3:=zh hJ3;have HA3:=zh (hk3 g _ HA.out ⟨cur,(0,0),rfl⟩:At W3 g 3 cur);clear hJ3 hk3 hck
    gi_wp2
    go_roundw
    case rel=>exact⟨k+1,by omega,by go_num,HJ3.out,HA3.out⟩
    case measure=>simp[intOf];omega
   ·gi_wp2
    refine bodyPost_ret (results_none rfl _ _ _) rfl ?_
    exact⟨⟨_,rfl⟩,.inr hJx3⟩
  ·have dk:decide ((k:Int)<67)=false:=by simp;omega
   have vK:k=67:=by omega
   have HK:=zh vK;clear vK
   gi_wp2
   refine bodyPost_end (results_none rfl _ _ _) rfl ⟨⟨_,rfl⟩,.inl ⟨k,HK.out,HJ1.out⟩⟩
end
section
open Go Go.RowKit
theorem Yf:(Tryz.prog.info? 142).map (·.size)=some 2:=by kernel_rfl
theorem kX:liesAt Tryz.prog Tryz.prog.depth 142 (2/Tryz.prog.cellsOf 142) 0 142 1=true:=by kernel_rfl
theorem KJ (b:Nat)(w:World)(h0:w.cell? ⟨b,0,none⟩=some (.pointer (some ⟨b,0,none⟩))):
 Calls Tryz.prog 167 #[.pointer (some ⟨b,0,none⟩)] w fun e w' => e=.returned (.tuple #[])/\w' = w:=by
 obtain⟨j,hj,_⟩:=Option.map_eq_some_iff.1 Yf
 go_enter Tryz.func167,Tryz.ntmps167
 go_wp2
 rw[Lib.run_neq_ptr_same w _ Tryz.underlying140 hj]
 go_wp2
 go_end0
 exact⟨rfl,rfl⟩
theorem JE (b:Nat)(w:World)(h0:w.cell? ⟨b,0,none⟩=some (.pointer none))(hsh:w.shape? b=some (142,2))(hfz:w.frozen? ⟨b,0,none⟩=false):
 Calls Tryz.prog 167 #[.pointer (some ⟨b,0,none⟩)] w fun e w' => e=.returned (.tuple #[])/\w' = w.setCell ⟨b,0,none⟩ (.pointer (some ⟨b,0,none⟩)):=by
 obtain⟨j,hj,hjs⟩:=Option.map_eq_some_iff.1 Yf
 go_enter Tryz.func167,Tryz.ntmps167
 go_wp2
 rw[Lib.run_to_unsafe w ⟨b,0,none⟩ Tryz.underlying140 Tryz.underlying218 hj (by rw[hjs];decide) hsh (Nat.zero_lt_succ 1)]
 simp only[Result.andThen]
 rw[Oper.upon_value]
 go_wp2
 rw[run_callFunc_extern Tryz.func200 (by kernel_rfl) (by kernel_rfl) (by kernel_rfl) (e:=Extern.AbiNoEscape.same) (by kernel_rfl)]
 rw[Lib.run_noEscape]
 simp only[Result.andThen]
 rw[Oper.upon_value]
 go_wp2
 rw[Lib.run_from_unsafe w ⟨b,0,none⟩ Tryz.underlying218 Tryz.underlying140 hj hsh kX]
 simp only[Result.andThen]
 rw[Oper.upon_value]
 go_wp2
 go_end0
 exact⟨rfl,rfl⟩
theorem VY (B b:Nat)(bs:List Value)(w:World)(h:Lib.IsBuilderF 142 5 B b bs w):
 Calls Tryz.prog 167 #[.pointer (some ⟨b,0,none⟩)] w fun e w' => e=.returned (.tuple #[])/\(Lib.BuilderAtF 142 5 B b (.pointer (some ⟨b,0,none⟩)) bs w' /\ Below B w w'):=by
 rcases h with h|h
 ·refine(JE b w h.cell0 h.shape h.frozen0).mono ?_
  rintro e w' ⟨rfl,rfl⟩
  exact⟨rfl,h.used _,(Below.refl B w).setCell (p:=⟨b,0,none⟩) h.1 _⟩
 ·refine(KJ b w h.cell0).mono ?_
  rintro e w' ⟨rfl,rfl⟩
  exact⟨rfl,h,Below.refl B _⟩
theorem VZ (B b:Nat)(bs:List Value)(s:ByteArray)(w:World)(h:Lib.IsBuilderF 142 5 B b bs w)(hlen:bs.length+s.size<=140737488355328)(hBw:B<=w.heap.size):
 Calls Tryz.prog 118 #[.pointer (some ⟨b,0,none⟩),.string s] w fun e w' => e=.returned (.tuple #[.int .i64 s.size,.nilIface])/\(Lib.IsBuilderF 142 5 B b (bs++Lib.strCells s) w' /\ Below B w w'):=by
 obtain⟨i0,hi,hz0,hz1,hz2⟩:=info_parts GX
 go_enter Tryz.func118,Tryz.ntmps118
 go_wp2_with (go_at_call 167;refine(VY B b bs _ h).mono ?_)
 rintro e w1 ⟨rfl,h1,hb1⟩
 obtain⟨hB,v,hbk,hown,hne⟩:=h1
 have c0:w1.cell? ⟨b,0,none⟩=some (.pointer (some ⟨b,0,none⟩)):=by rw[Lib.cell_of_heap hbk];rfl
 have c1:w1.cell? ⟨b,1,none⟩=some v:=by rw[Lib.cell_of_heap hbk];rfl
 go_wp2_with (at_builtin;refine Lib.wpList_append_own_stringF _ rfl _ _ 66 9 rfl B 5 i0 Tryz.underlying66 Tryz.underlying9 hi hz0 hz1 hz2 _ _ _ rfl hown s rfl ?c3 ?c4 ?c5 ?_)
 case c3=>unfold maxLen;omega
 case c4=>omega
 case c5=>have:=hb1.size;omega
 intro v' w2 hown' hgrow _
 have hlt:b<w1.heap.size:=by
  rcases Nat.lt_or_ge b w1.heap.size with h' | h'
  ·exact h'
  ·simp[Array.getElem?_eq_none h'] at hbk
 have hb2:w2.heap[b]? = some (.cells #[.pointer (some ⟨b,0,none⟩),v] 142 (0,0)):=by
  rw[hgrow.block b hlt (fun e=>hne e.symm)]
  exact hbk
 have d0:w2.cell? ⟨b,0,none⟩=some (.pointer (some ⟨b,0,none⟩)):=by rw[Lib.cell_of_heap hb2];rfl
 have d1:w2.cell? ⟨b,1,none⟩=some v:=by rw[Lib.cell_of_heap hb2];rfl
 have f1:w2.frozen? ⟨b,1,none⟩=false:=Lib.frozen_of_heap hb2 1
 obtain⟨ao,n',cap,rfl⟩:∃ ao n' cap,v' = .slice ao n' cap:=by
  rcases hown'.2 with ⟨hv,_⟩|⟨g,cap,cur,fz,hv,_⟩
  ·exact⟨_,_,_,hv⟩
  ·exact⟨_,_,_,hv⟩
 go_wp2
 go_ret2
 refine⟨rfl,?_,?_⟩
 ·exact .inr (Lib.BuilderAtF.put (T:=142) (e:=5) hB hb2 (bs':=bs++Lib.strCells s) (by simpa [Lib.strCells_length] using hown') (by decide))
 ·exact(hb1.grown hgrow (by have:=hb1.size;omega) (fun k hk=>(hown.lt k hk).1)).setCell (p:=⟨b,1,none⟩) hB _
theorem rU (w:World):Lib.IsBuilderF 142 5 w.heap.size w.heap.size [] (w.alloc (.cells #[.pointer none,.slice none 0 0] 142)):=
 .inl ⟨Nat.le_refl _,_,heap_alloc_new w _,⟨rfl,.inl ⟨rfl,rfl⟩⟩,by simp[Value.ownBlock]⟩
theorem Ro {w w' : World}(h:Below w.heap.size w w'):w.grownBy w' none:=⟨h.os,h.tape,h.output,h.size,fun k hk _=>h.block k hk⟩
theorem Ik {T e:TypeId}{B b:Nat}{p:Value}{bs:List Value}{w w' : World}(h:Lib.BuilderAtF T e B b p bs w)(hb:Below w.heap.size w w'):Lib.BuilderAtF T e B b p bs w':=by
 have hlt:=h.lt
 obtain⟨hB,v,hbk,hown,hne⟩:=h
 exact⟨hB,v,(hb.block _ hlt).trans hbk,hown.kept (Ro hb) (by cases hv:v.ownBlock<;>simp),hne⟩
theorem Oa {T e:TypeId}{B b:Nat}{bs:List Value}{w w' : World}(h:Lib.IsBuilderF T e B b bs w)(hb:Below w.heap.size w w'):Lib.IsBuilderF T e B b bs w':=h.imp (fun h=>Ik h hb) (fun h=>Ik h hb)
end
section
open Go Go.RowKit Go.Maps
def BK (w:World)(b:Nat)(X:ByteArray):Prop:=Lib.IsBuilderF 142 5 b b (Lib.strCells X) w
theorem ME (X s:ByteArray):Lib.strCells (X++s)=Lib.strCells X++Lib.strCells s:=by
 unfold Lib.strCells
 rw[Sha.Bq,List.map_append]
theorem BK.below {w w' : World}{b:Nat}{X:ByteArray}(h:BK w b X)(hb:Below w.heap.size w w'):BK w' b X:=Oa h hb
theorem BK.new (w:World):BK (w.alloc (.cells #[.pointer none,.slice none 0 0] 142)) w.heap.size ⟨#[]⟩:=rU w
theorem BK.lt {w:World}{b:Nat}{X:ByteArray}(h:BK w b X):b<w.heap.size:=by
 rcases h with h|h
 ·exact h.lt
 ·exact h.lt
theorem kY (b:Nat)(X s:ByteArray)(w:World)(h:BK w b X)(hl:X.size+s.size<=140737488355328):
 Calls Tryz.prog 118 #[.pointer (some ⟨b,0,none⟩),.string s] w fun e w' => e=.returned (.tuple #[.int .i64 s.size,.nilIface])/\BK w' b (X++s)/\Below b w w' :=
 (VZ b b _ s w h (by rw[Lib.strCells_length];exact hl) (Nat.le_of_lt h.lt)).mono fun _ _ ⟨h1,h2,h3⟩=>⟨h1,by unfold BK;rw[ME];exact h2,h3⟩
theorem vL (b:Nat)(X:ByteArray)(w:World)(h:BK w b X):
 Calls Tryz.prog 119 #[.pointer (some ⟨b,0,none⟩)] w fun e w' => e=.returned (.string X)/\BK w' b X/\Below b w w' :=
 (Tryz.Builder_String_any_f b b X.data.toList w h (Nat.le_of_lt h.lt)).mono fun _ _ ⟨h1,h2,h3⟩=>⟨by rw[h1],h2,h3⟩
theorem Tx (B b:Nat)(bs:List Value)(w:World)(h:Lib.IsBuilderF 142 5 B b bs w):
 Calls Tryz.prog 167 #[.pointer (some ⟨b,0,none⟩)] w fun e w' => e=.returned (.tuple #[])/\(Lib.BuilderAtF 142 5 B b (.pointer (some ⟨b,0,none⟩)) bs w' /\ Below B w w')/\Lib.OthersKept 5 (some b) w w':=by
 rcases h with h|h
 ·refine(JE b w h.cell0 h.shape h.frozen0).mono ?_
  rintro e w' ⟨rfl,rfl⟩
  exact⟨rfl,⟨h.used _,(Below.refl B w).setCell (p:=⟨b,0,none⟩) h.1 _⟩,(Lib.OthersKept.refl _ _ _).setCell ⟨b,0,none⟩ rfl _⟩
 ·refine(KJ b w h.cell0).mono ?_
  rintro e w' ⟨rfl,rfl⟩
  exact⟨rfl,⟨h,Below.refl B _⟩,Lib.OthersKept.refl _ _ _⟩
theorem Tz (B b:Nat)(bs:List Value)(s:ByteArray)(w:World)(h:Lib.IsBuilderF 142 5 B b bs w)(hlen:bs.length+s.size<=140737488355328)(hBw:B<=w.heap.size):
 Calls Tryz.prog 118 #[.pointer (some ⟨b,0,none⟩),.string s] w fun e w' => e=.returned (.tuple #[.int .i64 s.size,.nilIface])/\(Lib.IsBuilderF 142 5 B b (bs++Lib.strCells s) w' /\ Below B w w')/\Lib.OthersKept 5 (some b) w w':=by
 obtain⟨i0,hi,hz0,hz1,hz2⟩:=info_parts GX
 go_enter Tryz.func118,Tryz.ntmps118
 go_wp2_with (go_at_call 167;refine(Tx B b bs _ h).mono ?_)
 rintro e w1 ⟨rfl,⟨h1,hb1⟩,hk1⟩
 obtain⟨hB,v,hbk,hown,hne⟩:=h1
 have c0:w1.cell? ⟨b,0,none⟩=some (.pointer (some ⟨b,0,none⟩)):=by rw[Lib.cell_of_heap hbk];rfl
 have c1:w1.cell? ⟨b,1,none⟩=some v:=by rw[Lib.cell_of_heap hbk];rfl
 go_wp2_with (at_builtin;refine Lib.wpList_append_own_stringF _ rfl _ _ 66 9 rfl B 5 i0 Tryz.underlying66 Tryz.underlying9 hi hz0 hz1 hz2 _ _ _ rfl hown s rfl ?c3 ?c4 ?c5 ?_)
 case c3=>unfold maxLen;omega
 case c4=>omega
 case c5=>have:=hb1.size;omega
 intro v' w2 hown' hgrow _
 have hlt:b<w1.heap.size:=by
  rcases Nat.lt_or_ge b w1.heap.size with h' | h'
  ·exact h'
  ·simp[Array.getElem?_eq_none h'] at hbk
 have hb2:w2.heap[b]? = some (.cells #[.pointer (some ⟨b,0,none⟩),v] 142 (0,0)):=by
  rw[hgrow.block b hlt (fun e=>hne e.symm)]
  exact hbk
 have d0:w2.cell? ⟨b,0,none⟩=some (.pointer (some ⟨b,0,none⟩)):=by rw[Lib.cell_of_heap hb2];rfl
 have d1:w2.cell? ⟨b,1,none⟩=some v:=by rw[Lib.cell_of_heap hb2];rfl
 have f1:w2.frozen? ⟨b,1,none⟩=false:=Lib.frozen_of_heap hb2 1
 have hk2:=hk1.grown hgrow (Lib.ownsRowF_kind hown)
 obtain⟨ao,n',cap,rfl⟩:∃ ao n' cap,v' = .slice ao n' cap:=by
  rcases hown'.2 with ⟨hv,_⟩|⟨g,cap,cur,fz,hv,_⟩
  ·exact⟨_,_,_,hv⟩
  ·exact⟨_,_,_,hv⟩
 go_wp2
 go_ret2
 refine⟨rfl,⟨?_,?_⟩,hk2.setCell ⟨b,1,none⟩ rfl _⟩
 ·exact .inr (Lib.BuilderAtF.put (T:=142) (e:=5) hB hb2 (bs':=bs++Lib.strCells s) (by simpa [Lib.strCells_length] using hown') (by decide))
 ·exact(hb1.grown hgrow (by have:=hb1.size;omega) (fun k hk=>(hown.lt k hk).1)).setCell (p:=⟨b,1,none⟩) hB _
theorem zaf (b:Nat)(X s:ByteArray)(w:World)(h:BK w b X)(hl:X.size+s.size<=140737488355328):
 Calls Tryz.prog 118 #[.pointer (some ⟨b,0,none⟩),.string s] w fun e w' => e=.returned (.tuple #[.int .i64 s.size,.nilIface])/\BK w' b (X++s)/\Below b w w' /\ Lib.OthersKept 5 (some b) w w' :=
 (Tz b b _ s w h (by rw[Lib.strCells_length];exact hl) (Nat.le_of_lt h.lt)).mono fun _ _ ⟨h1,⟨h2,h3⟩,h4⟩=>⟨h1,by unfold BK;rw[ME];exact h2,h3,h4⟩
attribute [local go_sem] Oper.semAt_some kW
theorem Yg (m:ByteArray)(w:World):Calls Tryz.prog 179 #[.string m] w fun e w' => e=.returned (.func (.func 215) #[] #[.pointer (some ⟨w.heap.size,0,none⟩)])/\w' = w.alloc (.cells #[.string m] 9):=by
 go_enter Tryz.func179,Tryz.ntmps179
 go_wp2
 go_ret
 exact⟨rfl,rfl⟩
theorem BK.loop {w w' : World}{b j:Nat}{X:ByteArray}(h:BK w b X)(hf:Fr (fun k=>k=j) w w')(hl:∃ L,w.heap[j]? = some (.loop L)):BK w' b X:=by
 obtain⟨L,hl⟩:=hl
 have hg:w.grownBy w' (some j):=⟨hf.os,hf.tape,hf.output,hf.size,fun k hk hne=>hf.keep k hk (fun e=>hne (by rw[e]))⟩
 have key:∀ p,Lib.BuilderAtF 142 5 b b p (Lib.strCells X) w->Lib.BuilderAtF 142 5 b b p (Lib.strCells X) w':=by
  intro p h
  have hlt:=h.lt
  obtain⟨hB,v,hbk,hown,hne⟩:=h
  refine⟨hB,v,(hg.block b hlt (fun e=>?_)).trans hbk,hown.kept hg (.inr fun e=>?_),hne⟩
  ·cases e
   rw[hl] at hbk
   cases hbk
  ·obtain⟨c,fz,hc⟩:=Lib.ownsRowF_kind hown j e
   rw[hl] at hc
   cases hc
 exact h.imp (key _) (key _)
theorem BK.obj {w:World}{b:Nat}{X:ByteArray}(h:BK w b X):∃ cs,w.heap[b]? = some (.cells cs 142 (0,0)):=by
 rcases h with ⟨_,v,hbk,_⟩|⟨_,v,hbk,_⟩<;>exact⟨_,hbk⟩
theorem iw (key:Nat)(m:ByteArray)(l:List ByteArray)(k:Nat)(hk:k<67):(Sig.ends key m l).take (k+1)=(Sig.ends key m l).take k++[Sig.chain key k ((Sig.digits m).getD k 0) (15-(Sig.digits m).getD k 0) (l.getD k ⟨#[]⟩)]:=by
 have hl:k<(Sig.ends key m l).length:=by unfold Sig.ends;rw[List.length_map,List.length_range];exact hk
 rw[List.take_succ_eq_append_getElem hl]
 unfold Sig.ends
 simp
structure Wd (w2:World) (m:ByteArray) (E:List ByteArray) (k:Nat) (W:World):Prop where
 bld:BK W w2.heap.size (Cod.cat (E.take k))
 msg:At W (w2.heap.size+1) 9 #[.string m]
 bel:Below w2.heap.size w2 W
theorem Wd.below {w2 W W' : World}{m:ByteArray}{E:List ByteArray}{k:Nat}(h:Wd w2 m E k W)(hb:Below W.heap.size W W'):Wd w2 m E k W':=⟨h.bld.below hb,h.msg.below hb h.msg.lt,h.bel.trans (hb.mono h.bel.size)⟩
theorem Wd.loop {w2 W W' : World}{m:ByteArray}{E:List ByteArray}{k j:Nat}(h:Wd w2 m E k W)(hj:w2.heap.size+1<j)(hf:Fr (fun i=>i=j) W W')(hl:∃ L,W.heap[j]? = some (.loop L)):Wd w2 m E k W' :=
 ⟨h.bld.loop hf hl,h.msg.keep (hf.keep _ h.msg.lt (by omega)),h.bel.trans (hf.below h.bel.size (fun k hk=>by have e:k=j:=hk;omega))⟩
theorem Rp (l:List ByteArray)(h:∀ x∈l,x.size=32):(Cod.cat l).size=32*l.length:=by
 induction l with
 | nil=>rfl
 | cons x l ih =>
   show(x++Cod.cat l).size=_
   rw[ByteArray.size_append,ih (fun y hy=>h y (List.mem_cons_of_mem _ hy)),h x List.mem_cons_self,List.length_cons]
   omega
theorem Gi {F:Fence}{n:Nat}{P:Program}{fn:Func}{R:Ending->World->Prop}{tmps:Array Value}{w:World}{v:Value}(h:(results fn tmps).run P w=.ok v w)(hq:R (.returned v) w):bodyPostM F n P fn R Exit.ret { tmps:=tmps,defers:=[] } w:=⟨v,h,hq⟩
theorem iy {F:Fence}{n:Nat}{P:Program}{fn:Func}{R:Ending->World->Prop}{tmps:Array Value}{w:World}{v:Value}{r:Nat}(hd:w.heap[r]? = some (.deferred (some [])))(h:(results fn tmps).run P (w.putObj r (.deferred none))=.ok v (w.putObj r (.deferred none)))(hq:R (.returned v) (w.putObj r (.deferred none))):
 bodyPostM F n P fn R Exit.ret { tmps:=tmps,defers:=[{ target:=.collected r,args:=#[] }] } w:=
 ⟨by simp,.inl ⟨r,_,rfl,run_takeDeferred hd,v,h,hq⟩⟩
theorem Yh (pub m:ByteArray)(s:Sig.T)(cv pv:Value)(w:World)(hc:Al w cv s.chains)(hp:Al w pv s.path)(hcap:Eb pv)(hl:s.chains.length<=140737488355328)(hpl:s.path.length<=140737488355328)(hm:m.size<=9223372036854775000):
 Calls Tryz.prog 148 #[.string pub,.string m,.agg #[.int .i64 s.index,cv,pv]] w fun e w' => e=.returned (.bool (Sig.verify pub m s))/\Below w.heap.size w w':=by
 obtain⟨R,hR⟩:∃ R,R=Sig.verify pub m s:=⟨_,rfl⟩
 rw[<- hR]
 unfold Sig.verify at hR
 obtain⟨ca,cc,rfl⟩:=hc.len
 obtain⟨pa,pc,rfl⟩:=hp.len
 have HR:=zh hR;have HC:=zh hc;have HP:=zh hp;have HCAP:=zh hcap
 clear hR hc hp hcap
 refine(callsIn_wide (n:=9)).1 ?_
 refine callsIn_of_wp_marks Tryz.func148 rfl trivial ?_ rfl
 simp only[Tryz.ntmps148,List.size_toArray,List.length_cons,List.length_nil,Nat.reduceAdd,Nat.reduceSub,Array.replicate_succ,Array.replicate_zero,List.push_toArray,List.append_toArray,List.nil_append,List.cons_append]
 refine wpIn_wide.2 ?_
 have hb1:Below w.heap.size w (w.alloc (.cells #[.int .i64 s.index,.slice ca s.chains.length cc,.slice pa s.path.length pc] 70)):=zb
 have ha1:At (w.alloc (.cells #[.int .i64 s.index,.slice ca s.chains.length cc,.slice pa s.path.length pc] 70)) w.heap.size 70 #[.int .i64 s.index,.slice ca s.chains.length cc,.slice pa s.path.length pc]:=At.new w _ _
 have HB1:=zh hb1;have HA1:=zh ha1
 clear hb1 ha1
 obtain⟨c0,c1,c2⟩:=HA1.out.c3
 by_cases h33:pub.size=33
 case neg=>
  have d1:((pub.size:Int) != 33)=true:=by rw[bne_iff_ne];omega
  have hx:R=false:=by rw[HR.out];unfold Sig.Bn;rw[decide_eq_false h33];rfl
  have HX:=zh hx;clear hx
  go_wp2_with fail
  refine Gi (results_tmp rfl _ _ _) ?_
  exact⟨by rw[HX.out];rfl,HB1.out⟩
 have d1:((pub.size:Int) != 33)=false:=by rw[bne_eq_false_iff_eq];omega
 have h32:32<pub.size:=by omega
 have hg:pub.get! 32=pub[32]:=getElem!_pos pub.data 32 h32
 have hxl:pub[32].toNat<256:=pub[32].toNat_lt
 rw[hg] at HR
 by_cases h6:pub[32].toNat<=6
 case neg=>
  have d2:decide ((6:Int)<(pub[32].toNat:Int))=true:=zt
  have hx:R=false:=by
   rw[HR.out]
   have:Sig.Bn pub=false:=by unfold Sig.Bn;rw[hg,decide_eq_false h6];simp
   rw[this];rfl
  have HX:=zh hx;clear hx
  go_wp2_with fail
  refine Gi (results_tmp rfl _ _ _) ?_
  exact⟨by rw[HX.out];rfl,HB1.out⟩
 have d2:decide ((6:Int)<(pub[32].toNat:Int))=false:=zf
 have vM:Sig.Bn pub=true:=by unfold Sig.Bn;rw[hg,decide_eq_true h33,decide_eq_true h6];rfl
 obtain⟨N,hN⟩:∃ N:Nat,N=2^pub[32].toNat:=⟨_,rfl⟩
 have zah:N<=64:=by
  rw[hN]
  exact Nat.le_trans (Nat.pow_le_pow_right (by omega) h6) (by decide)
 have hN0:0<N:=by rw[hN];exact Nat.two_pow_pos _
 have hsh:wrap64 ((2:Int)^pub[32].toNat)=(N:Int):=by
  have:((2:Int)^pub[32].toNat)=((2^pub[32].toNat:Nat):Int):=(Int.natCast_pow 2 _).symm
  rw[this,<- hN]
  unfold wrap64
  omega
 have hR2:R=(decide (0<=s.index)&&decide (s.index<(N:Int))&&decide (s.chains.length=67)&&s.chains.all Sig.digest&&Sig.included (Sig.Jy (Sig.ends s.index.toNat m s.chains)) s.index N s.path (pub.extract 0 32)):=by
  have:((2:Int)^pub[32].toNat)=(N:Int):=by rw[hN];exact(Int.natCast_pow 2 _).symm
  rw[HR.out,vM,this]
  simp
 have HR2:=zh hR2;have HSH:=zh hsh
 clear hR2 vM hN hsh
 go_upto_region 4 with fail
 rw[HSH.out]
 have hlw:w.heap.size<(w.alloc (.cells #[.int .i64 s.index,.slice ca s.chains.length cc,.slice pa s.path.length pc] 70)).heap.size:=by simp
 have HC1:=zh (HC.out.below HB1.out);have HP1:=zh (HP.out.below HB1.out)
 generalize w.alloc (.cells #[.int .i64 s.index,.slice ca s.chains.length cc,.slice pa s.path.length pc] 70)=w1 at*
 by_cases i1:s.index<0
 ·have e1:decide (s.index<0)=true:=decide_eq_true i1
  have hx:R=false:=by rw[HR2.out,zf];rfl
  have HX:=zh hx;clear hx
  go_wp2_with fail
  refine Gi (results_tmp rfl _ _ _) ?_
  exact⟨by rw[HX.out];rfl,HB1.out⟩
 have e1:decide (s.index<0)=false:=decide_eq_false i1
 by_cases i2:(N:Int)<=s.index
 ·have e2:decide ((N:Int)<=s.index)=true:=decide_eq_true i2
  have hx:R=false:=by rw[HR2.out,decide_eq_false (p:=s.index<(N:Int)) (by omega)];simp
  have HX:=zh hx;clear hx
  go_wp2_with fail
  refine Gi (results_tmp rfl _ _ _) ?_
  exact⟨by rw[HX.out];rfl,HB1.out⟩
 have e2:decide ((N:Int)<=s.index)=false:=decide_eq_false i2
 by_cases i3:s.chains.length=67
 case neg=>
  have e3:((s.chains.length:Int) != 67)=true:=by rw[bne_iff_ne];omega
  have hx:R=false:=by rw[HR2.out,decide_eq_false i3];simp
  have HX:=zh hx;clear hx
  go_wp2_with fail
  refine Gi (results_tmp rfl _ _ _) ?_
  exact⟨by rw[HX.out];rfl,HB1.out⟩
 have e3:((s.chains.length:Int) != 67)=false:=by rw[bne_eq_false_iff_eq];omega
 have I3:=zh i3;clear i3
 go_wp2_with fail
 refine(Hg 126 #[] Tryz.call126 (fun x => !Sig.digest x) _ s.chains _ (fun W x=>Ls x W) HC1.out hl).mono ?_
 rintro e _ ⟨rfl,q,rfl⟩
 rw[Hl]
 have hbq:Below w1.heap.size w1 (w1.drewN q):=below_drewN (Below.refl _ _) q
 have HB2:=zh (HB1.out.trans (hbq.mono HB1.out.size));have HA2:=zh (HA1.out.below hbq HA1.out.lt);have HC2:=zh (HC1.out.below hbq);have HP2:=zh (HP1.out.below hbq)
 clear hbq c0 c1 c2 HC1 HP1 HA1 HB1
 generalize w1.drewN q=w2 at*
 cases hall:s.chains.all Sig.digest with
 | false =>
   have hx:R=false:=by rw[HR2.out,hall];simp
   have HX:=zh hx;clear hx hall
   go_wp2_with fail
   refine Gi (results_tmp rfl _ _ _) ?_
   exact⟨by rw[HX.out];rfl,HB2.out⟩
 | true=>
 have hR3:R=Sig.included (Sig.Jy (Sig.ends s.index.toNat m s.chains)) s.index N s.path (pub.extract 0 32):=by
  rw[HR2.out,hall,decide_eq_true I3.out,decide_eq_true (p:=0<=s.index) (by omega),decide_eq_true (p:=s.index<(N:Int)) (by omega)]
  rfl
 have Pk:∀ x∈s.chains,x.size=32:=fun x hx=>of_decide_eq_true (List.all_eq_true.1 hall x hx)
 have HR3:=zh hR3;have oF:=zh Pk
 clear hR3 hall Pk HR HR2
 go_wp2_with fail
 refine(Yg m _).mono ?_
 rintro e w3 ⟨rfl,rfl⟩
 go_wp2_with fail
 have hpw:w.heap.size<w2.heap.size:=HA2.out.lt
 have hj0:Wd w2 m (Sig.ends s.index.toNat m s.chains) 0 ((w2.alloc (.cells #[.pointer none,.slice none 0 0] 142)).alloc (.cells #[.string m] 9)):=
  ⟨BK.below (BK.new w2) zb,At.new1 w2 _ _ _,zb.alloc (by simp) _⟩
 have hs4:((w2.alloc (.cells #[.pointer none,.slice none 0 0] 142)).alloc (.cells #[.string m] 9)).heap.size=w2.heap.size+2:=by simp
 have hEl:(Sig.ends s.index.toNat m s.chains).length=67:=by unfold Sig.ends;rw[List.length_map,List.length_range]
 have hEz:∀ x∈Sig.ends s.index.toNat m s.chains,x.size=32:=by
  intro x hx
  unfold Sig.ends at hx
  obtain⟨c,hc,rfl⟩:=List.mem_map.1 hx
  have hc:=List.mem_range.1 hc
  refine Sig.Gx _ _ _ _ _ ?_
  rw[List.getD_eq_getElem?_getD,List.getElem?_eq_getElem (by have:=I3.out;omega)]
  exact oF.out _ (List.getElem_mem _)
 have HJ0:=zh hj0;have HS4:=zh hs4;have HEL:=zh hEl;have HEZ:=zh hEz
 clear hj0 hs4 hEl hEz
 generalize (w2.alloc (.cells #[.pointer none,.slice none 0 0] 142)).alloc (.cells #[.string m] 9)=w4 at*
 have hs4:=HS4.out
 have hrr:Fence.wide.round=none:=rfl
 refine(wpIn_wide (n:=9)).1 ?_
 refine JC (VU 3) (fun L h=>by obtain⟨_,_,h⟩:=h;cases h) (r:=none) rfl rfl (enters_of Tryz.func215 (by kernel_rfl) rfl) (fun x:Nat × Nat=>#[.int .i64 x.1,.int .i64 x.2]) (fun _=>rfl)
  (Wd w2 m (Sig.ends s.index.toNat m s.chains)) (fun _ _=>False) (dS m) (fun k=>k=67) 0 ?hJb ?hJl ?VT ?h0 ?hiter ?Lv ?hdone ?hstop
 case hJb=>exact fun k W W' h hb=>h.below hb
 case hJl=>exact fun k W W' h hf hl=>h.loop (by omega) hf hl
 case VT=>exact fun c W W' h _=>h
 case h0=>exact HJ0.out
 case hiter=>
  refine VW (w2.heap.size+1) _ m hm _ ?_
  rintro W h
  exact h.msg.cell 0
 case Lv=>
  rintro k ⟨k',d⟩ k2 W hsz hl hd hj ⟨hk,hx,rfl⟩
  obtain⟨rfl,hdd⟩:=Prod.mk.inj hx
  have vN:d<=15:=by rw[hdd];exact Sig.QN m k'
  have HJ:=zh hj;have HL:=zh hl;have HDF:=zh hd;have HDD:=zh hdd
  clear hj hl hx hd hdd
  gi_wp2
  refine⟨trivial,?_⟩
  intro W2 hf hl2
  have hj2:=HJ.out.loop (by omega) hf HL.out
  have vO:W2.heap[w4.heap.size]? = some (.deferred (some [])):=(hf.keep _ (by omega) (by omega)).trans HDF.out
  have hfs:=hf.size
  have rV:At W2 w.heap.size 70 #[.int .i64 s.index,.slice ca s.chains.length cc,.slice pa s.path.length pc]:=HA2.out.below hj2.bel hpw
  have hcs2:=HC2.out.below hj2.bel
  have hkl:k' < s.chains.length:=by have:=I3.out;omega
  obtain⟨cb,co,hca⟩:=hcs2.addrOf hkl
  subst hca
  have hcell:=hcs2.cellAt hkl
  obtain⟨I,hI⟩:∃ I:Nat,s.index=I:=⟨s.index.toNat,by omega⟩
  obtain⟨x,hx⟩:∃ x,x=s.chains.getD k' ⟨#[]⟩:=⟨_,rfl⟩
  have hxz:x.size=32:=by
   rw[hx,List.getD_eq_getElem?_getD,List.getElem?_eq_getElem hkl]
   exact oF.out _ (List.getElem_mem _)
  rw[<- hx] at hcell
  have q0:=rV.cell 0;have q1:=rV.cell 1
  simp only[zg] at q0 q1
  rw[hI] at q0
  have HJ2:=zh hj2;have vP:=zh vO;have HL2:=zh hl2;have HX:=zh hx;have HII:=zh hI
  have hIN:I<64:=by omega
  clear hj2 vO hl2 hx rV hcs2 hf hI
  gi_step
  refine wpIn_block ?_
  refine Lex.PW (by kernel_rfl) (by kernel_rfl) (by kernel_rfl) ?_
  go_wp2_with fail
  refine(show Calls Tryz.prog 180 #[.string x,.int .i64 I,.int .i64 k',.int .i64 d,.int .i64 15] W2.drew _ from gH x I k' d (15-d) 15 W2.drew (by omega) (by omega) (by omega) (by omega) (by omega)).mono ?_
  rintro e w5 ⟨rfl,hb5⟩
  have iA:Below W2.heap.size W2 w5:=((Below.refl W2.heap.size W2).drew).trans hb5
  have hyz:=Sig.Gx I k' d (15-d) x hxz
  have hE:(Sig.ends s.index.toNat m s.chains).take (k' + 1)=(Sig.ends s.index.toNat m s.chains).take k' ++ [Sig.chain I k' d (15-d) x]:=by
   rw[iw _ _ _ _ hk,<- HDD.out,<- HX.out]
   have:s.index.toNat=I:=by rw[HII.out];exact Int.toNat_natCast I
   rw[this]
  obtain⟨y,hy⟩:∃ y,y=Sig.chain I k' d (15-d) x:=⟨_,rfl⟩
  rw[<- hy] at hyz hE ⊢
  have hj5:=HJ2.out.below iA
  have hcl:(Cod.cat ((Sig.ends s.index.toNat m s.chains).take k')).size<=3000:=by
   rw[Rp _ (fun z hz=>HEZ.out z (List.mem_of_mem_take hz)),List.length_take]
   omega
  have HJ5:=zh hj5;have aI:=zh iA;have HE:=zh hE
  clear hy hE hb5 iA hj5 q0 q1 hcell
  go_wp2_with fail
  refine(zaf w2.heap.size _ y w5 HJ5.out.bld (by omega)).mono ?_
  rintro e w6 ⟨rfl,iB,hb6,kZ⟩
  obtain⟨cs,hob⟩:=HJ5.out.bld.obj
  obtain⟨L2,hl2⟩:=HL2.out
  have hsz2:w4.heap.size+1<W2.heap.size:=(Array.getElem?_eq_some_iff.1 hl2).1
  have hk0:w6.heap[w4.heap.size]? = W2.heap[w4.heap.size]? :=by
   have h1:=(aI.out.block w4.heap.size (by omega)).trans vP.out
   rw[vP.out]
   exact kZ _ _ h1 (fun e=>by have:=Option.some.inj e;omega) (fun c fz e=>by cases e)
  have hk1:w6.heap[w4.heap.size+1]? = W2.heap[w4.heap.size+1]? :=by
   have h1:=(aI.out.block (w4.heap.size+1) hsz2).trans hl2
   rw[hl2]
   exact kZ _ _ h1 (fun e=>by have:=Option.some.inj e;omega) (fun c fz e=>by cases e)
  have hkk:Kept (VU 3) W2 w6:=by
   intro k o hk ho
   have h1:=(aI.out.block k (Array.getElem?_eq_some_iff.1 hk).1).trans hk
   obtain⟨c,fz,rfl⟩:=ho
   refine kZ _ _ h1 (fun e=>?_) (fun c fz e=>by cases e)
   rw[Option.some.inj e] at h1
   rw[hob] at h1
   cases h1
  have JF:At w6 (w2.heap.size+1) 9 #[.string m]:=kZ _ _ HJ5.out.msg (fun e=>by have:=Option.some.inj e;omega) (fun c fz e=>by cases e)
  have hnew:Wd w2 m (Sig.ends s.index.toNat m s.chains) (k' + 1) w6:=by
   refine⟨?_,JF,HJ5.out.bel.trans hb6⟩
   rw[HE.out,Gy]
   exact iB
  have HK0:=zh hk0;have HK1:=zh hk1;have HKK:=zh hkk;have kT:=zh hnew
  clear iB hb6 kZ hob hl2 hk0 hk1 hkk JF hnew
  go_wp2
  refine Lex.ze ?_
  gi_wp2
  exact⟨⟨HK0.out,HK1.out⟩,HKK.out,.inl ⟨rfl,kT.out⟩⟩
 case hdone=>
  intro k W hD hJ hdf
  subst hD
  have hE:(Sig.ends s.index.toNat m s.chains).take 67=Sig.ends s.index.toNat m s.chains:=List.take_of_length_le (by have:=HEL.out;omega)
  have hat:At W w.heap.size 70 #[.int .i64 s.index,.slice ca s.chains.length cc,.slice pa s.path.length pc]:=HA2.out.below hJ.bel hpw
  have iB:=hJ.bld
  rw[hE] at iB
  have hps:=HP2.out.below hJ.bel
  have hcl:(Cod.cat (Sig.ends s.index.toNat m s.chains)).size<=3000:=by
   rw[Rp _ HEZ.out,HEL.out]
   omega
  have hbel:Below w.heap.size w W:=HB2.out.trans (hJ.bel.mono HB2.out.size)
  have q0:=hat.cell 0;have q2:=hat.cell 2
  simp only[zg] at q0 q2
  have HAT:=zh hat;have HBL:=zh iB;have HPS:=zh hps;have HBE:=zh hbel;have HDF:=zh hdf;have HJD:=zh hJ
  clear hat iB hps hbel hdf hJ hE
  go_wp2
  refine Lex.zn (fun k=>k=w.heap.size) [3,6] 9 [1,1] ?_
  simp only[Lex.Bp,zd]
  go_wp2_with fail
  obtain⟨C,hC⟩:∃ C,C=Cod.cat (Sig.ends s.index.toNat m s.chains):=⟨_,rfl⟩
  rw[<- hC] at HBL hcl
  refine(Tryz.Builder_String_any_k w2.heap.size w2.heap.size C.data.toList W.drew HBL.out (Nat.le_of_lt HBL.out.lt)).mono ?_
  rintro e w5 ⟨rfl,hx5,hb5,vQ⟩
  clear hx5
  have iA:Below w2.heap.size w2 w5:=HJD.out.bel.trans ((Below.refl w2.heap.size W).drew.trans hb5)
  have vR:w5.heap[w4.heap.size]? = some (.deferred (some [])):=vQ _ _ HDF.out (fun e=>by have:=Option.some.inj e;omega) (fun c fz e=>by cases e)
  have hC2:(⟨C.data.toList.toArray⟩:ByteArray)=C:=rfl
  rw[hC2]
  have aI:=zh iA;have HD5:=zh vR;have HCC:=zh hC
  clear hb5 vQ iA vR hC hC2
  go_wp2
  refine Lex.Mid.intro (fun k hk hl=>by subst hk;exact(aI.out.block _ hpw).trans (HJD.out.bel.block _ hpw).symm) ?_
  go_wp2_with fail
  refine(gG C w5 (by omega)).mono ?_
  rintro e w6 ⟨rfl,hb6⟩
  have rW:Below w2.heap.size w2 w6:=aI.out.trans (hb6.mono aI.out.size)
  have vS:w6.heap[w4.heap.size]? = some (.deferred (some [])):=(hb6.block _ (Array.getElem?_eq_some_iff.1 HD5.out).1).trans HD5.out
  have Di:=HA2.out.below rW hpw
  have hlf:Sha.sha (Sig.b1 0++C)=Sig.Jy (Sig.ends s.index.toNat m s.chains):=by rw[HCC.out];rfl
  rw[hlf]
  have q0':=Di.cell 0;have q2':=Di.cell 2
  simp only[zg] at q0' q2'
  have oG:=zh rW;have HD6:=zh vS
  clear hb6 rW vS Di hlf q0 q2
  go_wp2
  refine Lex.Mid.intro (fun k hk hl=>by subst hk;exact(oG.out.block _ hpw).trans (HJD.out.bel.block _ hpw).symm) ?_
  obtain⟨I,hI⟩:∃ I:Nat,s.index=I:=⟨s.index.toNat,by omega⟩
  have vT:=HP2.out.below oG.out
  have zai:=zh vT;clear vT
  have d33:decide ((33:Int)<32)=false:=by decide
  have hpz:(pub.size:Int)=33:=by omega
  have qQ:R=Sig.included (Sig.Jy (Sig.ends I m s.chains)) (I:Int) (N:Int) s.path (pub.extract 0 32):=by
   rw[HR3.out,hI,Int.toNat_natCast]
  have HFR:=zh qQ;clear qQ
  go_wp2_with fail
  refine(Tt (Sig.Jy (Sig.ends I m s.chains)) I N (.slice pa s.path.length pc) s.path (pub.extract 0 32) w6 zai.out HCAP.out hpl).mono ?_
  rintro e w7 ⟨rfl,hb7⟩
  rw[<- HFR.out]
  have vU:w7.heap[w2.heap.size+2]? = some (.deferred (some [])):=by
   have:=(hb7.block _ (Array.getElem?_eq_some_iff.1 HD6.out).1).trans HD6.out
   rwa [HS4.out] at this
  have hbf:Below w.heap.size w w7:=HB2.out.trans ((oG.out.trans (hb7.mono oG.out.size)).mono HB2.out.size)
  have k0:=HAT.out.cell 0;have k2:=HAT.out.cell 2
  simp only[zg] at k0 k2
  have zaj:=zh vU;have HBF:=zh hbf
  clear hb7 vU hbf q0' q2'
  go_wp2
  refine Lex.zk ⟨⟨rfl,zi k0⟩,⟨rfl,zi k2⟩,trivial⟩ ?_
  go_wp2_with fail
  refine iy zaj.out (results_tmp rfl _ _ _) ?_
  refine⟨rfl,HBF.out.trans ⟨rfl,rfl,rfl,by simp[World.putObj],fun k hk=>World.putObj_heap_other (by omega)⟩⟩
 case hstop=>exact fun c W h=>h.elim
end
section
open Go Go.RowKit Go.Maps
theorem Gz {β : Type}(f:Nat -> β)(k:Nat):(List.range (k+1)).map f=(List.range k).map f++[f k]:=by rw[List.range_succ,List.map_append];rfl
theorem PX (seed:ByteArray)(key:Nat)(g:Nat->Nat)(k:Nat):(Cod.cat ((List.range k).map fun c=>Sig.chain key c 0 (g c) (Sig.secret seed key c))).size=32*k:=by
 rw[Rp _ (fun x hx=>by obtain⟨c,_,rfl⟩:=List.mem_map.1 hx;exact Sig.Gx _ _ _ _ _ (Sig.GY _ _ _)),List.length_map,List.length_range]
theorem Yi (seed:ByteArray)(key:Nat)(w:World)(hs:seed.size<=1000)(hk:key<9223372036854775808):
 Calls Tryz.prog 193 #[.string seed,.int .i64 key] w fun e w' => e=.returned (.string (Sig.leaf seed key))/\Below w.heap.size w w':=by
 obtain⟨R,hR⟩:∃ R,R=Sig.leaf seed key:=⟨_,rfl⟩
 rw[<- hR]
 obtain⟨F,hF⟩:∃ F:Nat->ByteArray,F=fun k=>Cod.cat ((List.range k).map fun c=>Sig.chain key c 0 15 (Sig.secret seed key c)):=⟨_,rfl⟩
 have hFz:∀ k,(F k).size=32*k:=fun k=>by rw[hF];exact PX seed key (fun _=>15) k
 have hFs:∀ k,F (k+1)=F k++Sig.chain key k 0 15 (Sig.secret seed key k):=fun k=>by rw[hF];show Cod.cat _=Cod.cat _++_;rw[Gz,Gy]
 have hF0:F 0=⟨#[]⟩:=by rw[hF];rfl
 have hR2:R=Sha.sha (Sig.b1 0++F 67):=by rw[hR,hF];rfl
 have HFZ:=zh hFz;have HFS:=zh hFs;have HR2:=zh hR2;have HF0:=zh hF0
 clear hR hF hFz hFs hF0 hR2
 go_enter Tryz.func193,Tryz.ntmps193
 go_wp2
 go_loopw [5,6] (fun s i wr=>∃ k:Nat,k<=67/\i=.int .i64 k/\s=.string (F k)/\Below w.heap.size w wr) (fun _ i _=>67-(intOf i).toNat)
 case atStart=>exact⟨0,by omega,rfl,by rw[HF0.out],Below.refl _ _⟩
 case round=>
  obtain⟨k,hk2,rfl,rfl,hb⟩:=hrel
  have HB:=zh hb;clear hb
  by_cases hlt:k<67
  ·have dk:decide ((k:Int)<67)=true:=by simp;omega
   go_wp2_with fail
   refine(KI seed key k wr hs hk (by omega)).mono ?_
   rintro e w2 ⟨rfl,hb2⟩
   have HB2:=zh (HB.out.trans (hb2.mono HB.out.size));clear hb2
   have hsz:=Sig.GY seed key k
   have hst:=HFS.out k
   obtain⟨x,hx⟩:∃ x,x=Sig.secret seed key k:=⟨_,rfl⟩
   rw[<- hx] at hsz hst ⊢
   have HST:=zh hst;clear hx hst
   go_wp2_with fail
   refine(show Calls Tryz.prog 154 #[.int .i64 key,.int .i64 k,.int .i64 0,.int .i64 15,.string x] w2 _ from Pf key k 0 15 15 x w2 (by omega) (by omega) hk (by omega) (by omega)).mono ?_
   rintro e w3 ⟨rfl,hb3⟩
   have HB3:=zh (HB2.out.trans (hb3.mono HB2.out.size));clear hb3
   have hyz:=Sig.Gx key k 0 15 x hsz
   obtain⟨y,hy⟩:∃ y,y=Sig.chain key k 0 15 x:=⟨_,rfl⟩
   rw[<- hy] at HST hyz ⊢
   have hkz:=HFZ.out k
   clear hy
   go_wp2
   exact⟨⟨k+1,by omega,by go_num,by rw[HST.out],HB3.out⟩,by simp[intOf];omega⟩
  ·obtain rfl:k=67:=by omega
   go_wp2_with fail
   refine(Yb (F 67) wr (by have:=HFZ.out 67;omega)).mono ?_
   rintro e w2 ⟨rfl,hb2⟩
   have HB2:=zh (HB.out.trans (hb2.mono HB.out.size));clear hb2
   rw[<- HR2.out]
   go_wp2
   go_ret
   exact⟨rfl,HB2.out⟩
theorem KL (seed:ByteArray)(nx:Int)(w:World)(hs:seed.size<=1000):
 Calls Tryz.prog 157 #[.agg #[.string seed,.int .i64 1,.int .i64 nx]] w fun e w' => ∃ v,e=.returned v/\w'.ownsRow w.heap.size 9 1 v 2 ((Sig.leaves seed 2).map Value.string)/\Below w.heap.size w w':=by
 have hL:Sig.leaves seed 2=Sig.leaves seed 2:=rfl
 obtain⟨R,hR⟩:∃ R,R=(Sig.leaves seed 2).map Value.string:=⟨_,rfl⟩
 rw[<- hR]
 have HR:=zh hR;clear hL hR
 go_enter Tryz.func157,Tryz.ntmps157
 go_wp2_with fail
 have hb1:Below w.heap.size w (w.alloc (.cells #[.string seed,.int .i64 1,.int .i64 nx] 123)):=zb
 have ha1:=At.new w 123 #[.string seed,.int .i64 1,.int .i64 nx]
 have hn1:(w.alloc (.cells #[.string seed,.int .i64 1,.int .i64 nx] 123)).heap.size=w.heap.size+1:=by simp
 have HB1:=zh hb1;have HA1:=zh ha1;clear hb1 ha1
 generalize w.alloc (.cells #[.string seed,.int .i64 1,.int .i64 nx] 123)=w1 at*
 go_loopw [3,4] (fun v i wr=>∃ k:Nat,k<=2/\i=.int .i64 k/\wr.ownsRow w1.heap.size 9 1 v k ((Sig.leaves seed k).map Value.string)/\Below w1.heap.size w1 wr) (fun _ i _=>2-(intOf i).toNat)
 case atStart=>exact⟨0,by omega,rfl,World.ownsRow_nil _ _ _ _,Below.refl _ _⟩
 case round=>
  obtain⟨k0,hk2,rfl,ho,hb⟩:=hrel
  have ha:=HA1.out.below hb (by omega)
  have HO:=zh ho;have HB:=zh hb;have HA:=zh ha
  obtain⟨ga,k,gc,rfl⟩:=Ac ho
  obtain rfl:=Ba ho
  have c0:=ha.cell 0;have c1:=ha.cell 1
  simp only[zg] at c0 c1
  clear ho hb ha
  by_cases hlt:k<2
  ·have dk:decide ((k:Int)<2)=true:=by simp;omega
   go_wp2_with fail
   refine(Yi seed k wr hs (by omega)).mono ?_
   rintro e w2 ⟨rfl,hb2⟩
   have hlk:(Sig.leaves seed (k+1)).map Value.string=(Sig.leaves seed k).map Value.string++[.string (Sig.leaf seed k)]:=by
    unfold Sig.leaves
    rw[Gz,List.map_append]
    rfl
   obtain⟨x,hx⟩:∃ x,x=Sig.leaf seed k:=⟨_,rfl⟩
   rw[<- hx] at hlk ⊢
   have HO2:=zh (own_below HO.out hb2);have HB2:=zh (HB.out.trans (hb2.mono HB.out.size));have HLK:=zh hlk
   clear hb2 hlk hx c0 c1
   go_wp2_with (at_builtin;go_must (refine Ah Mw rfl _ _ rfl w1.heap.size k _ _ rfl (HO2.out.alloc _) (.slice (some ⟨w2.heap.size,0,none⟩) 1 1) 1 [.string x] rfl (Cx w2 9 #[.string x] 1 1 1 rfl) (by intro u hu;simp at hu;subst hu;rfl) (by omega) (by omega) (by have:=HB2.out.size;simp;omega) ?_);intro v6 w6 ho6 hg6 _;have hb6:=Bh (HB2.out.alloc HB2.out.size _) (by have:=HB2.out.size;simp;omega) HO2.out hg6;have HO6:=zh ho6;have HB6:=zh hb6;clear ho6 hg6 hb6)
   exact⟨⟨k+1,by omega,by go_num,by rw[HLK.out];exact HO6.out,HB6.out⟩,by simp[intOf];omega⟩
  ·obtain rfl:k=2:=by omega
   go_wp2
   go_ret
   exact⟨_,rfl,Cw (by rw[HR.out];exact HO.out) (by omega),HB1.out.trans (HB.out.mono (by omega))⟩
namespace Lex
section
variable {P:Program} {ops:Array Oper} {Q:Exit->Act->World->Prop}
abbrev Grown (w w' : World):Prop:=Below w.heap.size w w'
structure Kept (lo:Nat) (w1 w' : World):Prop where
 size:w1.heap.size<=w'.heap.size
 block:∀ b,lo<=b->b<w1.heap.size->w'.heap[b]? = w1.heap[b]?
theorem Kept.refl (lo:Nat)(w:World):Kept lo w w:=⟨Nat.le_refl _,fun _ _ _=>rfl⟩
theorem Kept.of_below {lo:Nat}{w w' : World}(h:Below w.heap.size w w'):Kept lo w w':=⟨h.size,fun b _ hb=>h.block b hb⟩
theorem Kept.grown {lo:Nat}{w1 w w' : World}(h:Kept lo w1 w)(hg:Grown w w'):Kept lo w1 w' :=
 ⟨Nat.le_trans h.size hg.size,fun b h1 h2=>(hg.block b (Nat.lt_of_lt_of_le h2 h.size)).trans (h.block b h1 h2)⟩
theorem Kept.kept {lo st:Nat}{w1 w w' : World}(h:Kept lo w1 w)(hs:st<=lo)(hg:Kept st w w'):Kept lo w1 w' :=
 ⟨Nat.le_trans h.size hg.size,fun b h1 h2=>(hg.block b (Nat.le_trans hs h1) (Nat.lt_of_lt_of_le h2 h.size)).trans (h.block b h1 h2)⟩
theorem Kept.at_ {w w' : World}{cs:Array Value}{t:TypeId}(h:Kept w.heap.size (w.alloc (.cells cs t)) w'):At w' w.heap.size t cs:=by
 have:=At.new w t cs
 unfold At at this ⊢
 rw[h.block _ (Nat.le_refl _) (by simp),this]
def Off (iv:List (Nat × Nat))(lo hi:Nat):Prop:=∀ x∈iv,hi<=x.1\/x.2<=lo
def Bd (st:Nat)(iv:List (Nat × Nat))(w:World):Prop:=st<=w.heap.size/\∀ x∈iv,x.2<=w.heap.size
theorem Dx {w w' : World}(h:Grown w w'):More w w':=fun i o hi=>by
 rw[h.block i (Array.getElem?_eq_some_iff.1 hi).1]
 exact hi
theorem Makes.below {α : Type}{s:Sem α}{w w' : World}{a : α}(h:Makes P s)(hr:s.run P w=.ok a w'):Below w.heap.size w w':=by
 induction s generalizing w w' with
 | pure x =>
   simp only[Sem.run,Result.ok.injEq] at hr
   obtain⟨rfl,rfl⟩:=hr
   exact Below.refl _ _
 | program k ih=>exact ih P h hr
 | mark m k ih=>exact ih h hr
 | halt h0=>simp[Sem.run] at hr
 | load m ad k ih =>
   simp only[Sem.run] at hr
   split at hr
   ·exact ih _ (h _) hr
   ·split at hr
    ·exact ih _ (h _) hr
    ·simp at hr
 | getObj r k ih =>
   simp only[Sem.run] at hr
   split at hr
   ·simp at hr
   ·exact ih _ (h _) hr
   ·simp at hr
 | new o k ih =>
   simp only[Sem.run] at hr
   have h1:Below w.heap.size w { w with heap:=w.heap.push o } :=⟨rfl,rfl,rfl,by simp,fun k hk=>by
    show(w.heap.push o)[k]? = _
    rw[Array.getElem?_push]
    simp[Nat.ne_of_lt hk]⟩
   exact h1.trans ((ih _ (h _) hr).mono h1.size)
 | store m ad v k ih=>exact h.elim
 | shape r k ih=>exact h.elim
 | freeze ad n k ih=>exact h.elim
 | frozen ad k ih=>exact h.elim
 | setObj r o k ih=>exact h.elim
 | choose q k ih =>
   simp only[Sem.run] at hr
   split at hr
   ·exact((h _).run hr).elim
   ·exact((h _).run hr).elim
 | sys c k ih=>exact h.elim
theorem Ow {s:Sem Value}(h:Makes P s){n:Next}{w w' : World}(hr:(s >>= fun x=>pure (.value x):Sem Next).run P w=.ok n w'):Below w.heap.size w w':=by
 obtain⟨v,rfl,hv⟩:=Mg hr
 exact h.below hv
theorem mP {o:Oper}{ρ : Operand->Value}(hk:kind P o=2){n:Next}{w w' : World}(hr:(execOp ρ o).run P w=.ok n w'):Below w.heap.size w w':=by
 obtain⟨dst,op,type,pos,after,guard⟩:=o
 cases op<;>simp only[kind] at hk<;>try (exact absurd hk (by decide))
 case alloc t=>exact Ow (OQ _) hr
 case box t x=>exact Ow (Ur _ _) hr
 case buildSlice t n ps=>exact Ow (Hz _ _ _) hr
 all_goals (split at hk<;>cases hk)
theorem Yl.WK {o:Oper}{a:Act}{w w' : World}{v:Value}(h:Yl P ops o a w v w')(hk:kind P o=2):Below w.heap.size w w':=by
 rcases h with ⟨_,hr⟩|⟨_,_,rfl⟩
 ·exact mP hk hr
 ·exact Below.refl _ _
theorem Sr {a a' : Act}{k:Nat}{o:Oper}(hk:ops[k]? = some o)(hkd:kind P o=0)(hg:Gc P ops a' = true)(hsame:needs o=true->∀ t,t∈o.looksAt ops->a'.tmps[t]? = a.tmps[t]?):
 Region.wanted o (yielded ops a.tmps)=true->Quiet P (execOp a.eval o):=by
 intro hw
 refine quiet_of hkd ?_
 cases hn:needs o with
 | false=>exact NH hn _
 | true =>
   replace hsame:=hsame hn
   have hg1:=Array.all_eq_true_iff_forall_mem.1 hg o (Array.mem_of_getElem? hk)
   have hev:∀ x∈o.op.operands,a'.eval x=a.eval x:=fun x hx=>Ia fun t e=>hsame t (by
    subst e
    exact List.mem_append_left _ (List.mem_filterMap.2 ⟨.tmp t,by simpa using hx,rfl⟩))
   have hwn:Region.wanted o (yielded ops a'.tmps)=Region.wanted o (yielded ops a.tmps):=by
    unfold Region.wanted
    cases hgd:o.guard with
    | none=>rfl
    | some gw =>
      obtain⟨g,want⟩:=gw
      have:yielded ops a'.tmps g=yielded ops a.tmps g:=by
       unfold yielded
       cases hd:(ops[g]?).bind (·.dst) with
       | none=>rfl
       | some t =>
         have:=hsame t (by simp[Oper.looksAt,hgd,hd])
         simp[this]
      simp only[this]
   rw[hkd,hwn,hw] at hg1
   simp at hg1
   rw[<- Lh o hev]
   exact hg1
theorem eP {B:Nat->Prop}{w0:World}{fl:List Nat}{a a' : Act}{k:Nat}{o:Oper}(hk:ops[k]? = some o)(hkd:kind P o=1)(hm:k∈fl)(hin:allIn B w0 ops a' fl)
 (hsame:∀ t,t∈o.looksAt ops->a'.tmps[t]? = a.tmps[t]?):Region.wanted o (yielded ops a.tmps)=true->Vz P (Same B w0) (execOp a.eval o):=by
 intro hw
 have hev:∀ x∈o.op.operands,a'.eval x=a.eval x:=fun x hx=>Ia fun t e=>hsame t (by
  subst e
  exact List.mem_append_left _ (List.mem_filterMap.2 ⟨.tmp t,by simpa using hx,rfl⟩))
 have hwn:Region.wanted o (yielded ops a'.tmps)=Region.wanted o (yielded ops a.tmps):=by
  unfold Region.wanted
  cases hgd:o.guard with
  | none=>rfl
  | some gw =>
    obtain⟨g,want⟩:=gw
    have:yielded ops a'.tmps g=yielded ops a.tmps g:=by
     unfold yielded
     cases hd:(ops[g]?).bind (·.dst) with
     | none=>rfl
     | some t =>
       have:=hsame t (by simp[Oper.looksAt,hgd,hd])
       simp[this]
    simp only[this]
 have h1:=QD hin k hm o hk (by rw[hwn];exact hw)
 refine dh hkd ?_
 obtain⟨dst,op,type,pos,after,guard⟩:=o
 cases op<;>simp only[inB] at h1 ⊢
 case load t x=>rw[<- hev x (by simp[Op.operands])];exact h1
/-! ### The walk -/
def plain (P:Program)(ops:Array Oper)(i:Nat):Bool:=match ops[i]? with|some o=>kind P o==0 || kind P o==1|none=>false
def wpG (P:Program)(ops:Array Oper)(Q:Exit->Act->World->Prop)(S:World->Prop)(m:Nat)(fa:List Nat)(st:Nat):List Nat->List (Nat × Nat)->World->Act->World->Prop
 | [],_,wr,a,w=>w=wr/\Q .normal a w
 | i :: l,iv,wr,a,w =>
   if (i::l).any (fun x=>fa.contains x)=false then w=wr/\wpS P ops Q S m (i::l) a w
   else if fa.contains i=true then w=wr/\∀ w0,st<=w0.heap.size->wpOp P ops Q i (fun a1 w1=>∀ w',Grown w w' -> Kept w0.heap.size w1 w' -> Off iv w0.heap.size w1.heap.size->wpG P ops Q S m fa st l ((w0.heap.size,w1.heap.size)::iv) w' a1 w') a w0
   else if plain P ops i=true then wpOp P ops Q i (fun a1 w1=>wpG P ops Q S m fa st l iv wr a1 w1) a w
   else w=wr/\∀ w',Grown w w' -> wpOp P ops Q i (fun a1 w1=>S w1/\Kept st w' w1/\wpG P ops Q S m fa st l ((w'.heap.size,w1.heap.size)::iv) w1 a1 w1) a w'
section
variable {S:World->Prop} {m:Nat} {fa:List Nat} {st:Nat} {i:Nat} {l:List Nat} {iv:List (Nat × Nat)} {wr w:World} {a:Act}
theorem CO (h:l.any (fun x=>fa.contains x)=false):wpG P ops Q S m fa st l iv wr a w↔w=wr/\wpS P ops Q S m l a w:=by
 cases l with
 | nil=>exact Iff.rfl
 | cons i l=>unfold wpG;rw[if_pos h]
theorem FI (h:fa.contains i=true):wpG P ops Q S m fa st (i::l) iv wr a w↔w=wr/\∀ w0,st<=w0.heap.size->wpOp P ops Q i (fun a1 w1=>∀ w',Grown w w' -> Kept w0.heap.size w1 w' -> Off iv w0.heap.size w1.heap.size->wpG P ops Q S m fa st l ((w0.heap.size,w1.heap.size)::iv) w' a1 w') a w0:=by
 conv=>lhs;unfold wpG
 rw[if_neg (by simp only[List.any_cons,h,Bool.true_or];decide),if_pos h]
theorem Gl (h0:(i::l).any (fun x=>fa.contains x)=true)(h1:fa.contains i=false)(h:plain P ops i=true):wpG P ops Q S m fa st (i::l) iv wr a w↔wpOp P ops Q i (fun a1 w1=>wpG P ops Q S m fa st l iv wr a1 w1) a w:=by
 conv=>lhs;unfold wpG
 rw[if_neg (by rw[h0];decide),if_neg (by rw[h1];decide),if_pos h]
theorem DT (h0:(i::l).any (fun x=>fa.contains x)=true)(h1:fa.contains i=false)(h:plain P ops i=false):wpG P ops Q S m fa st (i::l) iv wr a w↔w=wr/\∀ w',Grown w w' -> wpOp P ops Q i (fun a1 w1=>S w1/\Kept st w' w1/\wpG P ops Q S m fa st l ((w'.heap.size,w1.heap.size)::iv) w1 a1 w1) a w':=by
 conv=>lhs;unfold wpG
 rw[if_neg (by rw[h0];decide),if_neg (by rw[h1];decide),if_neg (by rw[h];decide)]
end
theorem Sv {S:World->Prop}{m:Nat}{fa:List Nat}{st:Nat} : ∀ (l:List Nat) (iv iv2:List (Nat × Nat)) (wr:World) (a:Act) (w:World),(∀ x∈iv,x∈iv2)->wpG P ops Q S m fa st l iv wr a w->wpG P ops Q S m fa st l iv2 wr a w
 | [],_,_,_,_,_,_,h=>h
 | i :: l,iv,iv2,wr,a,w,hs,h => by
   cases h0:(i::l).any (fun x=>fa.contains x) with
   | false=>rw[CO h0] at h ⊢;exact h
   | true =>
     cases h1:fa.contains i with
     | true =>
       rw[FI h1] at h ⊢
       refine⟨h.1,fun w0 hw0=>wpOp_mono (fun a1 w1 hh w' hg hk ho=>?_) (h.2 w0 hw0)⟩
       exact Sv l _ _ _ _ _ (fun x hx=>by
        rcases List.mem_cons.1 hx with rfl|hx
        ·exact List.mem_cons_self
        ·exact List.mem_cons_of_mem _ (hs x hx)) (hh w' hg hk fun x hx=>ho x (hs x hx))
     | false =>
       cases h2:plain P ops i with
       | true =>
         rw[Gl h0 h1 h2] at h ⊢
         exact wpOp_mono (fun a1 w1 hh=>Sv l _ _ _ _ _ hs hh) h
       | false =>
         rw[DT h0 h1 h2] at h ⊢
         refine⟨h.1,fun w' hg=>wpOp_mono (fun a1 w1 hh=>⟨hh.1,hh.2.1,?_⟩) (h.2 w' hg)⟩
         exact Sv l _ _ _ _ _ (fun x hx=>by
          rcases List.mem_cons.1 hx with rfl|hx
          ·exact List.mem_cons_self
          ·exact List.mem_cons_of_mem _ (hs x hx)) hh.2.2
/-! ### The condition -/
def Cz (P:Program)(ops:Array Oper)(fl fa:List Nat)(a b:Nat):Bool:=
 match ops[a]?,ops[b]? with
 | some oa,some ob => oa.apart ops ob && (if fa.contains b then true else if fa.contains a then kind P ob == 0 || (kind P ob == 1 && fl.contains b)
    else kind P ob==0 || kind P oa==0 || (kind P oa==1&&kind P ob==1) || (kind P oa==1&&fl.contains a) || (kind P ob==1&&fl.contains b))
 | _,_=>false
def WL (P:Program)(ops:Array Oper)(fl fa:List Nat)(m:Nat):Bool:=
 Region.noSelect ops&&
 I9 ops (fun a b=>decide (b<m)&&Cz P ops fl fa a b) ops.size ops.size 0 0&&
 ((List.range ops.size).all fun k => match ops[k]? with
   | some o => !needs o || (List.range ops.size).all fun i=>decide (i<k) || (match ops[i]? with|some o' => (match o'.dst with|some t => !(o.looksAt ops).contains t|none=>true)|none=>true)
   | none=>true)&&
 (fl.all fun k => match ops[k]? with
   | some o=>(List.range ops.size).all fun i=>decide (i<k) || (match ops[i]? with|some o' => (match o'.dst with|some t => !(o.looksAt ops).contains t|none=>true)|none=>true)
   | none=>true)&&
 (fa.all fun k=>decide (k<m)&&match ops[k]? with|some o=>kind P o==2|none=>false)
structure OkF (P:Program) (ops:Array Oper) (fl fa:List Nat) (m:Nat):Prop where
 sel:∀ (j:Nat) (o:Oper) (cs:Array SelectCase) (b:Bool),ops[j]? = some o->o.op≠.select cs b
 top:∀ (b:Nat) (ob:Oper),ops[b]? = some ob->∀ e∈ob.after,Region.binds .any e=true->e.on<b
 pair:∀ b a,b<ops.size->a<b->waits ops ops.size b a=true\/(b<m/\Cz P ops fl fa a b=true)
 keep:∀ (k:Nat) (o:Oper),ops[k]? = some o->needs o=true\/k∈fl->∀ i,k<=i->∀ (o' : Oper),ops[i]? = some o' -> ∀ t,o'.dst=some t->t ∉ o.looksAt ops
 float:∀ k,fa.contains k=true->k<m/\∀ o,ops[k]? = some o->kind P o=2
theorem Py {fl fa:List Nat}{m:Nat}(h:WL P ops fl fa m=true):OkF P ops fl fa m:=by
 simp only[WL,Bool.and_eq_true,List.all_eq_true,List.mem_range] at h
 obtain⟨⟨⟨⟨h1,h2⟩,h3⟩,h4⟩,h5⟩:=h
 refine⟨fun j o cs b hj=>Region.noSelect_spec h1 j o cs b hj,fun b ob hb e he hbi=>?_,fun b a hb ha=>?_,fun k o hk hn i hki o' hi t ht=>?_,fun k hk=>?_⟩
 ·exact(BN h2 hb).1 e he hbi
 ·have:=(BN h2 (Array.getElem?_eq_getElem hb)).2 a ha
  simpa using this
 ·have hkl:k<ops.size:=(Array.getElem?_eq_some_iff.1 hk).1
  have hil:i<ops.size:=(Array.getElem?_eq_some_iff.1 hi).1
  have key:((List.range ops.size).all fun i=>decide (i<k) || (match ops[i]? with|some o' => (match o'.dst with|some t => !(o.looksAt ops).contains t|none=>true)|none=>true))=true:=by
   rcases hn with hn|hn
   ·have:=h3 k hkl
    rw[hk] at this
    simpa [hn] using this
   ·have:=h4 k hn
    rw[hk] at this
    exact this
  simp only[List.all_eq_true,List.mem_range] at key
  have:=key i hil
  rw[hi] at this
  simp only[ht,Bool.or_eq_true,decide_eq_true_eq] at this
  rcases this with this|this
  ·omega
  ·simpa using this
 ·have hm:k∈fa:=by simpa using hk
  obtain⟨q1,q2⟩:=h5 k hm
  refine⟨by simpa using q1,fun o ho=>?_⟩
  rw[ho] at q2
  simpa using q2
theorem OkF.apart {fl fa:List Nat}{a b:Nat}{oa ob:Oper}(h:Cz P ops fl fa a b=true)(ha:ops[a]? = some oa)(hb:ops[b]? = some ob):oa.apart ops ob=true:=by
 simp only[Cz,ha,hb,Bool.and_eq_true] at h
 exact h.1
/-! ### The walk comes to an end -/
section
variable {B:Nat->Prop} {wS:World} {fl fa:List Nat} {m st:Nat}
theorem YX {α : Type}{x a b : α}{l:List α}(h:x∈a::b::l):x∈b::a::l:=by
 rcases List.mem_cons.1 h with rfl|h
 ·exact List.mem_cons_of_mem _ List.mem_cons_self
 ·rcases List.mem_cons.1 h with rfl|h
  ·exact List.mem_cons_self
  ·exact List.mem_cons_of_mem _ (List.mem_cons_of_mem _ h)
theorem Ox {i:Nat}{l:List Nat}{o:Oper}(hi:ops[i]? = some o){a a1 a' : Act}(hR:Rch a o.dst a1)(ht:∀ t,(∀ j∈l,∀ o,ops[j]? = some o->o.dst≠some t)->a'.tmps[t]? = a1.tmps[t]?):
 ∀ t,(∀ j∈i::l,∀ o,ops[j]? = some o->o.dst≠some t)->a'.tmps[t]? = a.tmps[t]? :=fun t hn=>by
 obtain⟨v,ds,rfl⟩:=hR
 rw[ht t fun j hj o ho=>hn j (by simp[hj]) o ho]
 have:=hn i (by simp) _ hi
 cases hd:o.dst with
 | none=>rfl
 | some d =>
   have hne:d≠t:=fun e=>this (by rw[hd,e])
   simp[Act.put,Array.getElem?_setIfInBounds_ne hne]
theorem Bd.push {st:Nat}{iv:List (Nat × Nat)}{w w1:World}{lo:Nat}(h:Bd st iv w)(h1:w.heap.size<=w1.heap.size):Bd st ((lo,w1.heap.size)::iv) w1:=
 ⟨Nat.le_trans h.1 h1,fun x hx => by
   rcases List.mem_cons.1 hx with rfl|hx
   ·exact Nat.le_refl _
   ·exact Nat.le_trans (h.2 x hx) h1⟩
theorem Bd.off {st:Nat}{iv:List (Nat × Nat)}{w:World}{hi:Nat}(h:Bd st iv w):Off iv w.heap.size hi:=fun x hx=>.inr (h.2 x hx)
theorem Nq (hA:OkF P ops fl fa m):∀ (l:List Nat) (iv:List (Nat × Nat)) (wr:World) (a:Act) (w:World),(∀ i∈l,i<ops.size)->(l.any (fun x=>fa.contains x)=true->Bd st iv wr)->wpG P ops (Ab P ops B wS fl Q) (Same B wS) m fa st l iv wr a w->
 ∃ a',(Gc P ops a' = true/\allIn B wS ops a' fl)/\∀ t,(∀ i∈l,∀ o,ops[i]? = some o->o.dst≠some t)->a'.tmps[t]? = a.tmps[t]?
 | [],iv,wr,a,w,_,_,h=>⟨a,⟨h.2.2.1,h.2.2.2.1⟩,fun _ _=>rfl⟩
 | i :: l,iv,wr,a,w,hl,hb,h => by
   have hQ:CS (Ab P ops B wS fl Q):=Ab.Bb
   obtain⟨o,hi⟩:∃ o,ops[i]? = some o:=⟨_,Array.getElem?_eq_getElem (hl i (by simp))⟩
   cases h0:(i::l).any (fun x=>fa.contains x) with
   | false =>
     obtain⟨rfl,h'⟩:=(CO h0).1 h
     have h2:=Cb (fun e a w he=>Bu he) _ _ _ (GV _ _ _ h')
     obtain⟨a',w',⟨_,hg,hin,_⟩,ht⟩:=fin (Q:=fun _ a w=>allIn B wS ops a fl/\Q .normal a w) (i::l) a w hl h2
     exact⟨a',⟨hg,hin⟩,ht⟩
   | true =>
     have hbd:=hb h0
     cases h1:fa.contains i with
     | true =>
       obtain⟨rfl,h'⟩:=(FI h1).1 h
       have hkd:=(hA.float i h1).2 o hi
       obtain⟨v,w1,hy,hK⟩:=Dn hQ hi (fun _=>Gb hkd) (h' w hbd.1)
       have hb2:=hy.WK hkd
       obtain⟨a',he,ht⟩:=Nq hA l _ w1 _ w1 (fun j hj=>hl j (by simp[hj])) (fun _=>hbd.push hb2.size) (hK w1 hb2 (Kept.refl _ _) hbd.off)
       exact⟨a',he,Ox hi (Rch.Gu a o.dst v) ht⟩
     | false =>
       cases h2:plain P ops i with
       | true =>
         obtain⟨a1,w1,hR,hK⟩:=EO hQ hi ((Gl h0 h1 h2).1 h)
         obtain⟨a',he,ht⟩:=Nq hA l iv wr a1 w1 (fun j hj=>hl j (by simp[hj])) (fun _=>hbd) hK
         exact⟨a',he,Ox hi hR ht⟩
       | false =>
         obtain⟨rfl,h'⟩:=(DT h0 h1 h2).1 h
         obtain⟨a1,w1,hR,_,hk,hK⟩:=EO hQ hi (h' w (Below.refl _ _))
         obtain⟨a',he,ht⟩:=Nq hA l _ w1 a1 w1 (fun j hj=>hl j (by simp[hj])) (fun _=>hbd.push hk.size) hK
         exact⟨a',he,Ox hi hR ht⟩
theorem Jc (hA:OkF P ops fl fa m){i:Nat}{oi:Oper}(hi:ops[i]? = some oi)(hif:fa.contains i=true){rest:List Nat} : ∀ (ks:List Nat) (iv:List (Nat × Nat)) (wr:World) (a:Act) (w:World),(∀ x∈ks++i::rest,x<ops.size)->(∀ k∈ks,Cz P ops fl fa k i=true)->Bd st iv wr->
 wpG P ops (Ab P ops B wS fl Q) (Same B wS) m fa st (ks++i::rest) iv wr a w->∀ wq,st<=wq.heap.size->∃ v w1,Yl P ops oi a wq v w1
 | [],iv,wr,a,w,hl,hp,hbd,h => fun wq hwq => by
   obtain⟨rfl,h'⟩:=(FI hif).1 h
   obtain⟨v,w1,hy,_⟩:=Dn (Ab.Bb) hi (fun _=>Gb ((hA.float i hif).2 oi hi)) (h' wq hwq)
   exact⟨v,w1,hy⟩
 | k :: ks,iv,wr,a,w,hl,hp,hbd,h => fun wq hwq => by
   have hQ:CS (Ab P ops B wS fl Q):=Ab.Bb
   obtain⟨ok,hk⟩:∃ o,ops[k]? = some o:=⟨_,Array.getElem?_eq_getElem (hl k (by simp))⟩
   have hap:=Oper.apart_spec (OkF.apart (hp k (by simp)) hk hi)
   have hsel:∀ cs b,oi.op≠.select cs b:=fun cs b=>hA.sel i oi cs b hi
   have h0:(k::(ks++i::rest)).any (fun x=>fa.contains x)=true:=by
    simp only[List.any_cons,List.any_append,hif,Bool.true_or,Bool.or_true]
   have back:∀ a1,Rch a ok.dst a1->(∃ v w1,Yl P ops oi a1 wq v w1)->∃ v w1,Yl P ops oi a wq v w1:=fun a1 hR ⟨v,w1,hy⟩=>by
    have he:=hR.exec (o:=oi) (ops:=ops) hsel hap.1
    exact⟨v,w1,hy.same ⟨he.1.symm,he.2.symm⟩⟩
   have hl' : ∀ x∈ks++i::rest,x<ops.size:=fun x hx=>hl x (by simp at hx ⊢;right;exact hx)
   have hp' : ∀ x∈ks,Cz P ops fl fa x i=true:=fun x hx=>hp x (by simp[hx])
   have h:wpG P ops (Ab P ops B wS fl Q) (Same B wS) m fa st (k::(ks++i::rest)) iv wr a w:=h
   cases h1:fa.contains k with
   | true =>
     obtain⟨rfl,h'⟩:=(FI h1).1 h
     have hkd:=(hA.float k h1).2 ok hk
     obtain⟨v,w1,hy,hK⟩:=Dn hQ hk (fun _=>Gb hkd) (h' w hbd.1)
     have hb2:=hy.WK hkd
     exact back _ (Rch.Gu a ok.dst v) (Jc hA hi hif ks _ w1 _ w1 hl' hp' (hbd.push hb2.size) (hK w1 hb2 (Kept.refl _ _) hbd.off) wq hwq)
   | false =>
     cases h2:plain P ops k with
     | true =>
       obtain⟨a1,w1,hR,hK⟩:=EO hQ hk ((Gl h0 h1 h2).1 h)
       exact back _ hR (Jc hA hi hif ks iv wr a1 w1 hl' hp' hbd hK wq hwq)
     | false =>
       obtain⟨rfl,h'⟩:=(DT h0 h1 h2).1 h
       obtain⟨a1,w1,hR,_,hkp,hK⟩:=EO hQ hk (h' w (Below.refl _ _))
       exact back _ hR (Jc hA hi hif ks _ w1 a1 w1 hl' hp' (hbd.push hkp.size) hK wq hwq)
/-! ### Steps -/
theorem GL (hA:OkF P ops fl fa m){k:Nat}{ok:Oper}{L:List Nat}{iv:List (Nat × Nat)}{a:Act}{w:World}(hk:ops[k]? = some ok)(hkp:plain P ops k=true)(hkf:fa.contains k=false)(hl:∀ x∈k::L,x<ops.size)(hs:(k::L).Pairwise (· < ·))
 (hS:Same B wS w) (hb:(k::L).any (fun x=>fa.contains x)=true->Bd st iv w) (h:wpG P ops (Ab P ops B wS fl Q) (Same B wS) m fa st (k::L) iv w a w):
 (∃ v,Yl P ops ok a w v w/\(∀ w2,More w w2->Yl P ops ok a w2 v w2)/\(kind P ok=0\/k∈fl->∀ w2,Same B wS w2->Yl P ops ok a w2 v w2)/\wpG P ops (Ab P ops B wS fl Q) (Same B wS) m fa st L iv w (a.put ok.dst v) w):=by
 obtain⟨a',⟨hg,hin⟩,ht⟩:=Nq hA (k::L) iv w a w hl hb h
 have hsame:needs ok=true\/k∈fl->∀ t,t∈ok.looksAt ops->a'.tmps[t]? = a.tmps[t]? :=fun hn t hm=>ht t fun j hj o' ho' e=>hA.keep k ok hk hn j (by
  rcases List.mem_cons.1 hj with h|h
  ·omega
  ·have:=(List.pairwise_cons.1 hs).1 j h;omega) o' ho' t e hm
 have hkd:kind P ok=0\/kind P ok=1:=by simpa [plain,hk] using hkp
 have hq0:kind P ok=0->Region.wanted ok (yielded ops a.tmps)=true->Quiet P (execOp a.eval ok):=fun h0=>Sr hk h0 hg (fun hn=>hsame (.inl hn))
 have hre:Region.wanted ok (yielded ops a.tmps)=true->Reads P (execOp a.eval ok):=fun hw=>by
  rcases hkd with h0|h1
  ·intro n w w' hr
   obtain⟨q1,q2,q3⟩:=hq0 h0 hw n w w' hr
   exact⟨q1,q2,fun w2 _=>q3 w2⟩
  ·exact Cu h1
 have hcore:∃ v w',Yl P ops ok a w v w' /\ (∀ w'',w'' = w->w' = w'' -> wpG P ops (Ab P ops B wS fl Q) (Same B wS) m fa st L iv w (a.put ok.dst v) w''):=by
  cases h0:(k::L).any (fun x=>fa.contains x) with
  | false =>
    have hL:L.any (fun x=>fa.contains x)=false:=by
     simp only[List.any_cons,Bool.or_eq_false_iff] at h0
     exact h0.2
    obtain⟨_,h⟩:=(CO h0).1 h
    obtain⟨v,w',hy,hK⟩:=Dn Ab.Bb hk (fun hw=>(hre hw).news) (show wpOp P ops _ k (fun a' w' => (k<m->Same B wS w')/\wpS P ops (Ab P ops B wS fl Q) (Same B wS) m L a' w') a w from h)
    refine⟨v,w',hy,fun w'' e1 e2=>(CO hL).2 ⟨e1,?_⟩⟩
    rw[<- e2]
    exact hK.2
  | true =>
    obtain⟨v,w',hy,hK⟩:=Dn Ab.Bb hk (fun hw=>(hre hw).news) ((Gl h0 hkf hkp).1 h)
    exact⟨v,w',hy,fun w'' _ e2=>by rw[<- e2];exact hK⟩
 obtain⟨v,w',hy,hK⟩:=hcore
 obtain⟨rfl,hm⟩:=hy.reads hre
 refine⟨v,hy,hm,fun hc=>?_,hK _ rfl rfl⟩
 have hf:Region.wanted ok (yielded ops a.tmps)=true->Vz P (Same B wS) (execOp a.eval ok):=by
  rcases hc with hc|hc
  ·exact fun hw=>(hq0 hc hw).Ky
  ·rcases hkd with h0|h1
   ·exact fun hw=>(hq0 h0 hw).Ky
   ·exact eP hk h1 hc hin (hsame (.inr hc))
 exact(hy.Ky hS hf).2
theorem Ku {k:Nat}{ok:Oper}{L:List Nat}{iv:List (Nat × Nat)}{a:Act}{w:World}{v:Value}(hk:ops[k]? = some ok)(hkp:plain P ops k=true)(hkf:fa.contains k=false)(hS:Same B wS w)(hy:Yl P ops ok a w v w)
 (h:wpG P ops (Ab P ops B wS fl Q) (Same B wS) m fa st L iv w (a.put ok.dst v) w):wpG P ops (Ab P ops B wS fl Q) (Same B wS) m fa st (k::L) iv w a w:=by
 cases h0:(k::L).any (fun x=>fa.contains x) with
 | false =>
   have hL:L.any (fun x=>fa.contains x)=false:=by
    simp only[List.any_cons,Bool.or_eq_false_iff] at h0
    exact h0.2
   refine(CO h0).2 ⟨rfl,?_⟩
   show wpOp P ops _ k (fun a' w' => (k<m->Same B wS w')/\wpS P ops (Ab P ops B wS fl Q) (Same B wS) m L a' w') a w
   exact Yl.mk hk hy ⟨fun _=>hS,((CO hL).1 h).2⟩
 | true=>exact(Gl h0 hkf hkp).2 (Yl.mk hk hy h)
theorem Pz {k:Nat}{L:List Nat}{iv:List (Nat × Nat)}{a:Act}{w:World}(hkp:plain P ops k=false)(hkf:fa.contains k=false)
 (h:∀ w',Grown w w' -> wpOp P ops (Ab P ops B wS fl Q) k (fun a1 w1=>Same B wS w1/\Kept st w' w1/\wpG P ops (Ab P ops B wS fl Q) (Same B wS) m fa st L ((w'.heap.size,w1.heap.size)::iv) w1 a1 w1) a w'):
 wpG P ops (Ab P ops B wS fl Q) (Same B wS) m fa st (k::L) iv w a w:=by
 cases h0:(k::L).any (fun x=>fa.contains x) with
 | false =>
   have hL:L.any (fun x=>fa.contains x)=false:=by
    simp only[List.any_cons,Bool.or_eq_false_iff] at h0
    exact h0.2
   refine(CO h0).2 ⟨rfl,?_⟩
   show wpOp P ops _ k (fun a' w' => (k<m->Same B wS w')/\wpS P ops (Ab P ops B wS fl Q) (Same B wS) m L a' w') a w
   exact wpOp_mono (fun a1 w1 hh=>⟨fun _=>hh.1,((CO hL).1 hh.2.2).2⟩) (h w (Below.refl _ _))
 | true=>exact(DT h0 hkf hkp).2 ⟨rfl,h⟩
theorem early (hA:OkF P ops fl fa m){i:Nat}{oi:Oper}(hi:ops[i]? = some oi)(hif:fa.contains i=true){rest:List Nat}{v:Value}{w0 w1:World}(hw0:st<=w0.heap.size):∀ (ks:List Nat) (iv:List (Nat × Nat)) (a:Act) (w:World),(∀ x∈ks++i::rest,x<ops.size)->(ks++i::rest).Pairwise (· < ·)->
 (∀ k∈ks,Cz P ops fl fa k i=true)->Same B wS w->Bd st iv w->Yl P ops oi a w0 v w1->Kept w0.heap.size w1 w->Off iv w0.heap.size w1.heap.size->wpG P ops (Ab P ops B wS fl Q) (Same B wS) m fa st (ks++i::rest) iv w a w->
 wpG P ops (Ab P ops B wS fl Q) (Same B wS) m fa st (ks++rest) ((w0.heap.size,w1.heap.size)::iv) w (a.put oi.dst v) w
 | [],iv,a,w,hl,hs,hp,hS,hbd,hy,hkw,ho,h => by
   obtain⟨_,h⟩:=(FI hif).1 h
   obtain⟨v',w1',hy',hK⟩:=Dn Ab.Bb hi (fun _=>Gb ((hA.float i hif).2 oi hi)) (h w0 hw0)
   obtain⟨rfl,rfl⟩:=hy'.det hy
   exact hK w (Below.refl _ _) hkw ho
 | k :: ks,iv,a,w,hl,hs,hp,hS,hbd,hy,hkw,ho,h => by
   obtain⟨ok,hk⟩:∃ o,ops[k]? = some o:=⟨_,Array.getElem?_eq_getElem (hl k (by simp))⟩
   have hap:=Oper.apart_spec (OkF.apart (hp k (by simp)) hk hi)
   have Hr:∀ cs b,oi.op≠.select cs b:=fun cs b=>hA.sel i oi cs b hi
   have Jl:∀ cs b,ok.op≠.select cs b:=fun cs b=>hA.sel k ok cs b hk
   have hds:∀ t,oi.dst=some t->ok.dst≠some t:=fun t ht hk' => hap.2.1 t hk' ht
   have hs':=List.pairwise_cons.1 hs
   have hl' : ∀ x∈ks++i::rest,x<ops.size:=fun x hx=>hl x (by simp at hx ⊢;right;exact hx)
   have hp' : ∀ x∈ks,Cz P ops fl fa x i=true:=fun x hx=>hp x (by simp[hx])
   have h0:(k::(ks++i::rest)).any (fun x=>fa.contains x)=true:=by
    simp only[List.any_cons,List.any_append,hif,Bool.true_or,Bool.or_true]
   have h:wpG P ops (Ab P ops B wS fl Q) (Same B wS) m fa st (k::(ks++i::rest)) iv w a w:=h
   show wpG P ops (Ab P ops B wS fl Q) (Same B wS) m fa st (k::(ks++rest)) ((w0.heap.size,w1.heap.size)::iv) w (a.put oi.dst v) w
   cases h1:fa.contains k with
   | true =>
     obtain⟨_,h⟩:=(FI h1).1 h
     refine(FI h1).2 ⟨rfl,fun wk hwk=>I8 Ab.Bb hk Jl hap.2.2 hds (h wk hwk) fun a1 w1k hR hK w' hg hkp hoff=>?_⟩
     have he:=hR.exec (o:=oi) (ops:=ops) Hr hap.1
     have hx:=hoff (w0.heap.size,w1.heap.size) List.mem_cons_self
     have h3:=early hA hi hif hw0 ks ((wk.heap.size,w1k.heap.size)::iv) a1 w' hl' hs'.2 hp' (hS.more (Dx hg))
      ⟨Nat.le_trans hbd.1 hg.size,fun x hx => by
        rcases List.mem_cons.1 hx with rfl|hx
        ·exact hkp.size
        ·exact Nat.le_trans (hbd.2 x hx) hg.size⟩
      (hy.same he) (hkw.grown hg) (fun x hx' => by
        rcases List.mem_cons.1 hx' with rfl|hx'
        ·exact hx.symm
        ·exact ho x hx') (hK w' hg hkp fun x hx=>hoff x (List.mem_cons_of_mem _ hx))
     exact Sv _ _ _ _ _ _ (fun x hx=>YX hx) h3
   | false =>
     cases h2:plain P ops k with
     | true =>
       obtain⟨vk,hyk,hmk,_,hK⟩:=GL hA hk h2 h1 hl hs hS (fun _=>hbd) h
       have he:=(Rch.Gu a ok.dst vk).exec (o:=oi) (ops:=ops) Hr hap.1
       have hek:=(Rch.Gu a oi.dst v).exec (o:=ok) (ops:=ops) Jl hap.2.2
       have h3:=early hA hi hif hw0 ks iv (a.put ok.dst vk) w hl' hs'.2 hp' hS hbd (hy.same he) hkw ho hK
       refine Ku hk h2 h1 hS (hyk.same hek) ?_
       rw[Act.put_comm a v vk hds]
       exact h3
     | false =>
       obtain⟨_,h⟩:=(DT h0 h1 h2).1 h
       refine Pz h2 h1 fun w' hg=>I8 Ab.Bb hk Jl hap.2.2 hds (h w' hg) fun a1 w1k hR hK=>?_
       obtain⟨hS1,hkp,hK⟩:=hK
       have he:=hR.exec (o:=oi) (ops:=ops) Hr hap.1
       have yQ:=hkw.grown hg
       have h3:=early hA hi hif hw0 ks ((w'.heap.size,w1k.heap.size)::iv) a1 w1k hl' hs'.2 hp' hS1
        ⟨Nat.le_trans hbd.1 (Nat.le_trans hg.size hkp.size),fun x hx => by
          rcases List.mem_cons.1 hx with rfl|hx
          ·exact Nat.le_refl _
          ·exact Nat.le_trans (hbd.2 x hx) (Nat.le_trans hg.size hkp.size)⟩
        (hy.same he) (yQ.kept hw0 hkp) (fun x hx' => by
          rcases List.mem_cons.1 hx' with rfl|hx'
          ·exact .inl yQ.size
          ·exact ho x hx') hK
       exact⟨hS1,hkp,Sv _ _ _ _ _ _ (fun x hx=>YX hx) h3⟩
theorem bH (hA:OkF P ops fl fa m){i:Nat}(him:i<m)(hif:fa.contains i=false){rest:List Nat} : ∀ (ks:List Nat) (a:Act) (w:World),(∀ k∈ks,fa.contains k=false)->Same B wS w->(∀ x∈ks++i::rest,x<ops.size)->(ks++i::rest).Pairwise (· < ·)->
 (∀ k∈ks,Cz P ops fl fa k i=true)->wpS P ops (Ab P ops B wS fl Q) (Same B wS) m (ks++i::rest) a w->wpS P ops (Ab P ops B wS fl Q) (Same B wS) m (i::(ks++rest)) a w
 | [],_,_,_,_,_,_,_,h=>h
 | k :: ks,a,w,hkf,hS,hl,hs,hp,h => by
   have hs':=List.pairwise_cons.1 hs
   have h0:=GV _ _ _ h
   have hki:k<i:=hs'.1 i (by simp)
   have h:wpOp P ops (Ab P ops B wS fl Q) k (fun a' w' => (k<m->Same B wS w')/\wpS P ops (Ab P ops B wS fl Q) (Same B wS) m (ks++i::rest) a' w') a w:=h
   have h1:wpOp P ops (Ab P ops B wS fl Q) k (fun a' w' => Same B wS w' /\ wpS P ops (Ab P ops B wS fl Q) (Same B wS) m (i::(ks++rest)) a' w') a w:=
    wpOp_mono (fun a' w' hh=>⟨hh.1 (by omega),bH hA him hif ks a' w' (fun x hx=>hkf x (by simp[hx])) (hh.1 (by omega)) (fun x hx=>hl x (by simp at hx ⊢;right;exact hx)) hs'.2 (fun x hx=>hp x (by simp[hx])) hh.2⟩) h
   have hkl:k<ops.size:=hl k (by simp)
   have hil:i<ops.size:=hl i (by simp)
   obtain⟨ok,hk⟩:∃ o,ops[k]? = some o:=⟨_,Array.getElem?_eq_getElem hkl⟩
   obtain⟨oi,hi⟩:∃ o,ops[i]? = some o:=⟨_,Array.getElem?_eq_getElem hil⟩
   have hpk:=hp k (by simp)
   simp only[Cz,hk,hi,hif,hkf k (by simp),if_false,Bool.false_eq_true,Bool.and_eq_true,Bool.or_eq_true,beq_iff_eq,List.contains_iff_mem] at hpk
   obtain⟨hap,hc⟩:=hpk
   have h2:wpOp P ops (Ab P ops B wS fl Q) k (fun a' w' => Same B wS w' /\ wpOp P ops (Ab P ops B wS fl Q) i (fun a'' w'' => Same B wS w'' /\ wpS P ops (Ab P ops B wS fl Q) (Same B wS) m (ks++rest) a'' w'') a' w') a w:=
    wpOp_mono (fun a' w' hh=>⟨hh.1,wpOp_mono (fun a'' w'' h3=>⟨h3.1 him,h3.2⟩) (show wpOp P ops _ i (fun a'' w'' => (i<m->Same B wS w'')/\wpS P ops _ (Same B wS) m (ks++rest) a'' w'') a' w' from hh.2)⟩) h1
   have Fb:∀ x∈k::ks++i::rest,∀ o',ops[x]? = some o' -> (needs oi=true\/i∈fl)->∀ t,o'.dst=some t->t ∉ oi.looksAt ops:=fun x hx o' ho' hn t ht=>by
    by_cases hxi:i<=x
    ·exact hA.keep i oi hi hn x hxi o' ho' t ht
    ·have hxm : x ∈ k :: ks :=by
      rcases List.mem_append.1 hx with h|h
      ·exact h
      ·rcases List.mem_cons.1 h with h|h
       ·omega
       ·have:=(List.pairwise_append.1 hs).2.1
        have:=(List.pairwise_cons.1 this).1 x h
        omega
     exact(Oper.apart_spec (OkF.apart (hp x hxm) ho' hi)).1 t ht
   have Fe:∀ x∈k::ks++i::rest,∀ o',ops[x]? = some o' -> (needs ok=true\/k∈fl)->∀ t,o'.dst=some t->t ∉ ok.looksAt ops:=fun x hx o' ho' hn t ht=>by
    refine hA.keep k ok hk hn x ?_ o' ho' t ht
    rcases List.mem_cons.1 hx with h|h
    ·omega
    ·have:=hs'.1 x h;omega
   have h0g:wpOps P ops (Ends P ops (fun _ a w=>allIn B wS ops a fl/\Q .normal a w)) (k::ks++i::rest) a w:=Cb (fun e a w he=>Bu he) _ _ _ h0
   have h3:=jU (S:=Same B wS) Ab.Bb hk hi hap (fun cs b=>hA.sel k ok cs b hk) (fun cs b=>hA.sel i oi cs b hi) hS ?_ h2
   ·show wpOp P ops _ i (fun a' w' => (i<m->Same B wS w')/\wpS P ops _ (Same B wS) m (k::(ks++rest)) a' w') a w
    refine wpOp_mono (fun a' w' hh=>⟨fun _=>hh.1,?_⟩) h3
    show wpOp P ops _ k (fun a'' w'' => (k<m->Same B wS w'')/\wpS P ops _ (Same B wS) m (ks++rest) a'' w'') a' w'
    exact wpOp_mono (fun a'' w'' h4=>⟨fun _=>h4.1,h4.2⟩) hh.2
   ·rcases hc with (((hc|hc)|⟨hc1,hc2⟩)|⟨hc,hm⟩)|⟨hc,hm⟩
    ·have hq:=Gd (l:=k::ks++i::rest) hl h0g hi hc fun hn x hx o' ho' t ht=>Fb x hx o' ho' (.inl hn) t ht
     exact .inl ⟨fun hw=>(hq hw).Ky,fun hw=>(hq hw).news⟩
    ·have hq:=Gd (l:=k::ks++i::rest) hl h0g hk hc fun hn x hx o' ho' t ht=>Fe x hx o' ho' (.inl hn) t ht
     exact .inr (.inl ⟨fun hw=>(hq hw).Ky,fun hw=>(hq hw).news⟩)
    ·exact .inr (.inr ⟨fun _=>Cu hc1,fun _=>Cn (.inl hc2)⟩)
    ·exact .inr (.inl ⟨Ic (l:=k::ks++i::rest) hl h0 hk hc hm fun x hx o' ho' t ht=>Fe x hx o' ho' (.inr hm) t ht,fun _=>Cn (.inl hc)⟩)
    ·exact .inl ⟨Ic (l:=k::ks++i::rest) hl h0 hi hc hm fun x hx o' ho' t ht=>Fb x hx o' ho' (.inr hm) t ht,fun _=>Cn (.inl hc)⟩
theorem Ql {l:List Nat}(h:l.any (fun x=>fa.contains x)=false):∀ x∈l,fa.contains x=false:=by
 intro x hx
 have:=List.any_eq_false.1 h x hx
 simpa using this
theorem eT {l l' : List Nat}(hs:∀ x∈l',x∈l)(h:l.any (fun x=>fa.contains x)=false):l'.any (fun x=>fa.contains x)=false:=
 List.any_eq_false.2 fun x hx=>by rw[Ql h x (hs x hx)];decide
theorem Sw (hA:OkF P ops fl fa m){i:Nat}{oi:Oper}(hi:ops[i]? = some oi)(hip:plain P ops i=true)(hif:fa.contains i=false){rest:List Nat} : ∀ (ks:List Nat) (iv:List (Nat × Nat)) (a:Act) (w:World),(∀ x∈ks++i::rest,x<ops.size)->(ks++i::rest).Pairwise (· < ·)->
 (∀ k∈ks,i<m/\Cz P ops fl fa k i=true)->Same B wS w->((ks++i::rest).any (fun x=>fa.contains x)=true->Bd st iv w)->wpG P ops (Ab P ops B wS fl Q) (Same B wS) m fa st (ks++i::rest) iv w a w->
 ∃ v,Yl P ops oi a w v w/\((∀ k∈ks,plain P ops k=true)\/(∀ w2,Same B wS w2->Yl P ops oi a w2 v w2))/\wpG P ops (Ab P ops B wS fl Q) (Same B wS) m fa st (ks++rest) iv w (a.put oi.dst v) w
 | [],iv,a,w,hl,hs,hp,hS,hbd,h => by
   obtain⟨v,hy,_,_,hK⟩:=GL hA hi hip hif hl hs hS hbd h
   exact⟨v,hy,.inl (fun k hk=>by cases hk),hK⟩
 | k :: ks,iv,a,w,hl,hs,hp,hS,hbd,h => by
   obtain⟨ok,hk⟩:∃ o,ops[k]? = some o:=⟨_,Array.getElem?_eq_getElem (hl k (by simp))⟩
   obtain⟨him,hpk⟩:=hp k (by simp)
   have hap:=Oper.apart_spec (OkF.apart hpk hk hi)
   have Hr:∀ cs b,oi.op≠.select cs b:=fun cs b=>hA.sel i oi cs b hi
   have Jl:∀ cs b,ok.op≠.select cs b:=fun cs b=>hA.sel k ok cs b hk
   have hds:∀ t,oi.dst=some t->ok.dst≠some t:=fun t ht hk' => hap.2.1 t hk' ht
   have hs':=List.pairwise_cons.1 hs
   have hl' : ∀ x∈ks++i::rest,x<ops.size:=fun x hx=>hl x (by simp at hx ⊢;right;exact hx)
   have hp' : ∀ x∈ks,i<m/\Cz P ops fl fa x i=true:=fun x hx=>hp x (by simp[hx])
   have h:wpG P ops (Ab P ops B wS fl Q) (Same B wS) m fa st (k::(ks++i::rest)) iv w a w:=h
   have hbd:(k::(ks++i::rest)).any (fun x=>fa.contains x)=true->Bd st iv w:=hbd
   obtain⟨a',⟨hg,hin⟩,ht⟩:=Nq hA (k::(ks++i::rest)) iv w a w hl hbd h
   have hsame:needs oi=true\/i∈fl->∀ t,t∈oi.looksAt ops->a'.tmps[t]? = a.tmps[t]? :=fun hn t hm=>ht t fun j hj o' ho' e=>by
    by_cases hij:i<=j
    ·exact hA.keep i oi hi hn j hij o' ho' t e hm
    ·have hxm : j ∈ k :: ks :=by
      rcases List.mem_append.1 (show j∈(k::ks)++i::rest from hj) with h|h
      ·exact h
      ·rcases List.mem_cons.1 h with h|h
       ·omega
       ·have:=(List.pairwise_append.1 (show((k::ks)++i::rest).Pairwise (· < ·) from hs)).2.1
        have:=(List.pairwise_cons.1 this).1 j h
        omega
     exact(Oper.apart_spec (OkF.apart (hp j hxm).2 ho' hi)).1 t e hm
   have yR:kind P oi=0\/(kind P oi=1/\i∈fl)->Region.wanted oi (yielded ops a.tmps)=true->Vz P (Same B wS) (execOp a.eval oi):=fun hc=>by
    rcases hc with hc|⟨hc,hm⟩
    ·exact fun hw=>(Sr hi hc hg (fun hn=>hsame (.inl hn)) hw).Ky
    ·exact eP hi hc hm hin (hsame (.inr hm))
   show ∃ v,Yl P ops oi a w v w/\((∀ x∈k::ks,plain P ops x=true)\/(∀ w2,Same B wS w2->Yl P ops oi a w2 v w2))/\wpG P ops (Ab P ops B wS fl Q) (Same B wS) m fa st (k::(ks++rest)) iv w (a.put oi.dst v) w
   cases h2:plain P ops k with
   | true =>
     cases h1:fa.contains k with
     | true =>
       exfalso
       have:=(hA.float k h1).2 ok hk
       simp only[plain,hk,this] at h2
       exact absurd h2 (by decide)
     | false =>
       obtain⟨vk,hyk,hmk,hfk,hK⟩:=GL hA hk h2 h1 hl hs hS hbd h
       have he:=(Rch.Gu a ok.dst vk).exec (o:=oi) (ops:=ops) Hr hap.1
       have zaQ : (ks++i::rest).any (fun x=>fa.contains x)=true->Bd st iv w:=fun hx=>hbd (by simp only[List.any_cons,hx,Bool.or_true])
       obtain⟨v,hy,hc,h3⟩:=Sw hA hi hip hif ks iv (a.put ok.dst vk) w hl' hs'.2 hp' hS zaQ hK
       have hy':=hy.same ⟨he.1.symm,he.2.symm⟩
       have hek:=(Rch.Gu a oi.dst v).exec (o:=ok) (ops:=ops) Jl hap.2.2
       refine⟨v,hy',?_,Ku hk h2 h1 hS (hyk.same hek) (by rw[Act.put_comm a v vk hds];exact h3)⟩
       rcases hc with hc|hc
       ·exact .inl fun x hx => by
         rcases List.mem_cons.1 hx with rfl|hx
         ·exact h2
         ·exact hc x hx
       ·exact .inr fun w2 hw2=>(hc w2 hw2).same ⟨he.1.symm,he.2.symm⟩
   | false =>
     have hkd:¬ (kind P ok=0)/\¬ (kind P ok=1):=by simpa [plain,hk] using h2
     have hci:kind P oi=0\/(kind P oi=1/\i∈fl):=by
      simp only[Cz,hk,hi,hif,if_false,Bool.false_eq_true,Bool.and_eq_true,Bool.or_eq_true,beq_iff_eq,List.contains_iff_mem,hkd.1,hkd.2,or_false,false_and,and_false,false_or] at hpk
      have:=hpk.2
      split at this
      ·simpa using this
      ·simpa [hkd.1,hkd.2] using this
     have hF:=yR hci
     cases h0:(k::(ks++i::rest)).any (fun x=>fa.contains x) with
     | false =>
       have hsub:∀ x∈k::(ks++rest),x∈k::(ks++i::rest):=fun x hx=>by simp at hx ⊢;rcases hx with h|h|h<;>simp[h]
       obtain⟨_,h⟩:=(CO h0).1 h
       have h4:=bH hA him hif (k::ks) a w (fun x hx=>Ql h0 x (by simp at hx ⊢;rcases hx with h|h<;>simp[h])) hS hl hs (fun x hx=>(hp x hx).2) h
       obtain⟨v,w',hy,hK⟩:=Dn Ab.Bb hi (fun hw n w w' hr=>by
        rcases hci with hc|⟨hc,_⟩
        ·exact(Sr hi hc hg (fun hn=>hsame (.inl hn)) hw).news n w w' hr
        ·exact(Cu hc).news n w w' hr) (show wpOp P ops _ i (fun a' w' => (i<m->Same B wS w')/\wpS P ops (Ab P ops B wS fl Q) (Same B wS) m (k::(ks++rest)) a' w') a w from h4)
       obtain⟨rfl,hall⟩:=hy.Ky hS hF
       exact⟨v,hy,.inr hall,(CO (eT hsub h0)).2 ⟨rfl,hK.2⟩⟩
     | true =>
       have Iu:=hbd h0
       have move:∀ {v:Value} (hall:∀ w2,Same B wS w2->Yl P ops oi a w2 v w2) (a1:Act) (w' : World) (iv' : List (Nat × Nat)),Rch a ok.dst a1->Same B wS w' -> Bd st iv' w' -> wpG P ops (Ab P ops B wS fl Q) (Same B wS) m fa st (ks++i::rest) iv' w' a1 w' ->
        wpG P ops (Ab P ops B wS fl Q) (Same B wS) m fa st (ks++rest) iv' w' (a1.put oi.dst v) w':=fun {v} hall a1 w' iv' hR hS' hb' hK=>by
        obtain⟨v',hy',_,h3⟩:=Sw hA hi hip hif ks iv' a1 w' hl' hs'.2 hp' hS' (fun _=>hb') hK
        have he:=hR.exec (o:=oi) (ops:=ops) Hr hap.1
        obtain⟨rfl,_⟩:=hy'.det ((hall w' hS').same he)
        exact h3
       cases h1:fa.contains k with
       | true =>
         obtain⟨_,h⟩:=(FI h1).1 h
         obtain⟨vk,wk,hyk,hK⟩:=Dn Ab.Bb hk (fun _=>Gb ((hA.float k h1).2 ok hk)) (h w Iu.1)
         have hgk:=hyk.WK ((hA.float k h1).2 ok hk)
         have hSk:=hS.more (Dx hgk)
         obtain⟨v,hy,_,_⟩:=Sw hA hi hip hif ks _ (a.put ok.dst vk) wk hl' hs'.2 hp' hSk (fun _=>Iu.push hgk.size) (hK wk hgk (Kept.refl _ _) Iu.off)
         have he:=(Rch.Gu a ok.dst vk).exec (o:=oi) (ops:=ops) Hr hap.1
         obtain⟨_,hall⟩:=(hy.same ⟨he.1.symm,he.2.symm⟩).Ky hSk hF
         refine⟨v,hall w hS,.inr hall,(FI h1).2 ⟨rfl,fun w0 hw0=>I8 Ab.Bb hk Jl hap.2.2 hds (h w0 hw0) fun a1 w1 hR hK w' hg hkp hoff=>?_⟩⟩
         refine move hall a1 w' _ hR (hS.more (Dx hg)) ⟨Nat.le_trans Iu.1 hg.size,fun x hx=>?_⟩ (hK w' hg hkp hoff)
         rcases List.mem_cons.1 hx with rfl|hx
         ·exact hkp.size
         ·exact Nat.le_trans (Iu.2 x hx) hg.size
       | false =>
         obtain⟨_,h⟩:=(DT h0 h1 h2).1 h
         obtain⟨a1,w1,hR,hS1,hkp,hK⟩:=EO Ab.Bb hk (h w (Below.refl _ _))
         obtain⟨v,hy,_,_⟩:=Sw hA hi hip hif ks _ a1 w1 hl' hs'.2 hp' hS1 (fun _=>Iu.push hkp.size) hK
         have he:=hR.exec (o:=oi) (ops:=ops) Hr hap.1
         obtain⟨_,hall⟩:=(hy.same ⟨he.1.symm,he.2.symm⟩).Ky hS1 hF
         refine⟨v,hall w hS,.inr hall,Pz h2 h1 fun w' hg=>I8 Ab.Bb hk Jl hap.2.2 hds (h w' hg) fun a1 w1 hR hK=>?_⟩
         obtain⟨hS1,hkp,hK⟩:=hK
         refine⟨hS1,hkp,move hall a1 w1 _ hR hS1 ⟨Nat.le_trans Iu.1 (Nat.le_trans hg.size hkp.size),fun x hx=>?_⟩ hK⟩
         rcases List.mem_cons.1 hx with rfl|hx
         ·exact Nat.le_refl _
         ·exact Nat.le_trans (Iu.2 x hx) (Nat.le_trans hg.size hkp.size)
theorem mQ (hA:OkF P ops fl fa m){i:Nat}{oi:Oper}(hi:ops[i]? = some oi)(hip:plain P ops i=false)(hif:fa.contains i=false){rest:List Nat}(hrest:rest.any (fun x=>fa.contains x)=true):∀ (ks:List Nat) (iv:List (Nat × Nat)) (a:Act) (w:World),(∀ x∈ks++i::rest,x<ops.size)->(ks++i::rest).Pairwise (· < ·)->
 (∀ k∈ks,Cz P ops fl fa k i=true)->Same B wS w->Bd st iv w->wpG P ops (Ab P ops B wS fl Q) (Same B wS) m fa st (ks++i::rest) iv w a w->
 wpOp P ops (Ab P ops B wS fl Q) i (fun a1 w1=>Same B wS w1/\Kept st w w1/\wpG P ops (Ab P ops B wS fl Q) (Same B wS) m fa st (ks++rest) ((w.heap.size,w1.heap.size)::iv) w1 a1 w1) a w
 | [],iv,a,w,hl,hs,hp,hS,hbd,h=>((DT (by simp only[List.any_cons,hrest,Bool.or_true]) hif hip).1 h).2 w (Below.refl _ _)
 | k :: ks,iv,a,w,hl,hs,hp,hS,hbd,h => by
   obtain⟨ok,hk⟩:∃ o,ops[k]? = some o:=⟨_,Array.getElem?_eq_getElem (hl k (by simp))⟩
   have hpk:=hp k (by simp)
   have hap:=Oper.apart_spec (OkF.apart hpk hk hi)
   have Hr:∀ cs b,oi.op≠.select cs b:=fun cs b=>hA.sel i oi cs b hi
   have Jl:∀ cs b,ok.op≠.select cs b:=fun cs b=>hA.sel k ok cs b hk
   have hs':=List.pairwise_cons.1 hs
   have hkd:¬ (kind P oi=0)/\¬ (kind P oi=1):=by simpa [plain,hi] using hip
   have hc:fa.contains k=false/\(kind P ok=0\/(kind P ok=1/\k∈fl)):=by
    simp only[Cz,hk,hi,hif,if_false,Bool.false_eq_true,Bool.and_eq_true,Bool.or_eq_true,beq_iff_eq,List.contains_iff_mem,hkd.1,hkd.2,or_false,false_and,and_false,false_or] at hpk
    have:=hpk.2
    cases hfk:fa.contains k with
    | true=>rw[if_pos (by simpa using hfk)] at this;simp[hkd.1,hkd.2] at this
    | false =>
      rw[if_neg (by simpa using hfk)] at this
      exact⟨rfl,by simpa [hkd.1,hkd.2] using this⟩
   have hkp:plain P ops k=true:=by
    simp only[plain,hk,Bool.or_eq_true,beq_iff_eq]
    rcases hc.2 with h|h
    ·exact .inl h
    ·exact .inr h.1
   obtain⟨vk,hyk,_,hfk,hK⟩:=GL hA hk hkp hc.1 hl hs hS (fun _=>hbd) h
   have hall :=hfk (by rcases hc.2 with h | h
                       ·exact .inl h
                       ·exact .inr h.2)
   have h3:=mQ hA hi hip hif hrest ks iv (a.put ok.dst vk) w (fun x hx=>hl x (by simp at hx ⊢;right;exact hx)) hs'.2 (fun x hx=>hp x (by simp[hx])) hS hbd hK
   refine Qy Ab.Bb hi Hr hap.1 hap.2.1 h3 fun a1 w1 hR hK1=>?_
   have he:=hR.exec (o:=ok) (ops:=ops) Jl hap.2.2
   exact⟨hK1.1,hK1.2.1,Ku hk hkp hc.1 hK1.1 ((hall w1 hK1.1).same he) hK1.2.2⟩
theorem YZ (hA:OkF P ops fl fa m):∀ (l:List Nat) (iv:List (Nat × Nat)) (a:Act) (w w2:World),(∀ x∈l,x<ops.size)->l.Pairwise (· < ·)->Same B wS w->(l.any (fun x=>fa.contains x)=true->Bd st iv w)->Grown w w2->l.any (fun x=>fa.contains x)=true->
 wpG P ops (Ab P ops B wS fl Q) (Same B wS) m fa st l iv w a w->wpG P ops (Ab P ops B wS fl Q) (Same B wS) m fa st l iv w2 a w2
 | [],iv,a,w,w2,_,_,_,_,_,h0,_=>by cases h0
 | k :: l,iv,a,w,w2,hl,hs,hS,hbd,hg,h0,h => by
   obtain⟨ok,hk⟩:∃ o,ops[k]? = some o:=⟨_,Array.getElem?_eq_getElem (hl k (by simp))⟩
   cases h1:fa.contains k with
   | true =>
     obtain⟨_,h⟩:=(FI h1).1 h
     exact(FI h1).2 ⟨rfl,fun w0 hw0=>wpOp_mono (fun a1 w1 hh w' hg' hkp ho=>hh w' (hg.trans (hg'.mono hg.size)) hkp ho) (h w0 hw0)⟩
   | false =>
     cases h2:plain P ops k with
     | true =>
       obtain⟨v,hy,hm,_,hK⟩:=GL hA hk h2 h1 hl hs hS hbd h
       have hL:l.any (fun x=>fa.contains x)=true:=by rw[List.any_cons,h1,Bool.false_or] at h0;exact h0
       exact Ku hk h2 h1 (hS.more (Dx hg)) (hm w2 (Dx hg)) (YZ hA l iv _ w w2 (fun x hx=>hl x (by simp[hx])) (List.pairwise_cons.1 hs).2 hS (fun _=>hbd h0) hg hL hK)
     | false =>
       obtain⟨_,h⟩:=(DT h0 h1 h2).1 h
       exact(DT h0 h1 h2).2 ⟨rfl,fun w' hg' => h w' (hg.trans (hg'.mono hg.size))⟩
/-! ### Any order -/
theorem Za (hA:OkF P ops fl fa m):∀ (fuel:Nat) (l:List Nat) (listed:Array Bool) (iv:List (Nat × Nat)) (a:Act) (w:World),l.length=fuel->listed.size=ops.size->Closed ops listed->
 l.Pairwise (· < ·)->(∀ x,x∈l↔x<ops.size/\listed.getD x false=false)->((∃ x∈l,x<m)->Same B wS w)->(l.any (fun x=>fa.contains x)=true->Bd st iv w)->wpG P ops (Ab P ops B wS fl Q) (Same B wS) m fa st l iv w a w->wpAny P .any ops (Ab P ops B wS fl Q) fuel listed a w
 | 0,l,listed,iv,a,w,hlen,hsz,hcl,hs,hm,_,_,h => by
   have hl0:l=[]:=List.eq_nil_of_length_eq_zero hlen
   subst hl0
   refine⟨?_,h.2⟩
   refine List.eq_nil_iff_forall_not_mem.2 fun j hj=>?_
   obtain⟨h0,o,ho,_⟩:=mem_ready.1 hj
   have hjl:j<ops.size:=(Array.getElem?_eq_some_iff.1 ho).1
   have:=(hm j).2 ⟨hjl,getD_both h0⟩
   cases this
 | fuel + 1,l,listed,iv,a,w,hlen,hsz,hcl,hs,hm,hSl,hbd,h => by
   have both:∀ x,x<ops.size->listed.getD x false=false->listed.getD x true=false:=fun x hx hf=>getD_in (by omega) hf
   refine⟨fun hr=>?_,fun i hi=>?_⟩
   ·exfalso
    cases l with
    | nil=>cases hlen
    | cons k l =>
      have hm0:=(hm k).1 (by simp)
      obtain⟨o,ho⟩:∃ o,ops[k]? = some o:=⟨_,Array.getElem?_eq_getElem hm0.1⟩
      have:k∈Region.ready .any ops listed:=mem_ready.2 ⟨both k hm0.1 hm0.2,o,ho,fun e he hb=>by
       have hlt:=hA.top k o ho e he hb
       cases hx:listed.getD e.on false with
       | true=>rfl
       | false =>
         have hin:=(hm e.on).2 ⟨by omega,hx⟩
         rcases List.mem_cons.1 hin with h1|h1
         ·omega
         ·have:=(List.pairwise_cons.1 hs).1 _ h1
          omega⟩
      rw[hr] at this
      cases this
   ·obtain⟨hun,oi,hoi,hall⟩:=mem_ready.1 hi
    have hil:i<ops.size:=(Array.getElem?_eq_some_iff.1 hoi).1
    have hin:i∈l:=(hm i).2 ⟨hil,getD_both hun⟩
    obtain⟨ks,rest,rfl⟩:=List.append_of_mem hin
    have hpw:=List.pairwise_append.1 hs
    have hlt:∀ x∈ks++i::rest,x<ops.size:=fun x hx=>((hm x).1 hx).1
    have hks:∀ k∈ks,i<m/\Cz P ops fl fa k i=true:=fun k hk=>by
     have hki:k<i:=hpw.2.2 k hk i (by simp)
     rcases hA.pair i k hil hki with hw|hp
     ·have:=CU hcl ops.size i k oi hoi hall hw
      have hk2:=((hm k).1 (by simp[hk])).2
      rw[hk2] at this
      cases this
     ·exact hp
    have hfr:wpOp P ops (Ab P ops B wS fl Q) i (fun a' w' => (i<m->Same B wS w')/\∃ iv',((ks++rest).any (fun x=>fa.contains x)=true->Bd st iv' w')/\wpG P ops (Ab P ops B wS fl Q) (Same B wS) m fa st (ks++rest) iv' w' a' w') a w:=by
     cases h0:(ks++i::rest).any (fun x=>fa.contains x) with
     | false =>
       obtain⟨_,h⟩:=(CO h0).1 h
       have hn:(ks++rest).any (fun x=>fa.contains x)=false:=eT (fun x hx=>by simp at hx ⊢;rcases hx with h|h<;>simp[h]) h0
       have h4:wpS P ops (Ab P ops B wS fl Q) (Same B wS) m (i::(ks++rest)) a w:=by
        cases ks with
        | nil=>exact h
        | cons k ks =>
          have him:=(hks k (by simp)).1
          exact bH hA him (Ql h0 i (by simp)) (k::ks) a w (fun x hx=>Ql h0 x (by simp at hx ⊢;rcases hx with h|h<;>simp[h])) (hSl ⟨i,hin,him⟩) hlt hs (fun x hx=>(hks x hx).2) h
       exact wpOp_mono (fun a1 w1 hh=>⟨hh.1,iv,(fun hx=>by rw[hn] at hx;cases hx),(CO hn).2 ⟨rfl,hh.2⟩⟩) (show wpOp P ops _ i (fun a' w' => (i<m->Same B wS w')/\wpS P ops (Ab P ops B wS fl Q) (Same B wS) m (ks++rest) a' w') a w from h4)
     | true =>
       have Iu:=hbd h0
       have hmem:∃ x∈ks++i::rest,x<m:=by
        obtain⟨x,hx,hxf⟩:=List.any_eq_true.1 h0
        exact⟨x,hx,(hA.float x hxf).1⟩
       have hS:=hSl hmem
       cases hif:fa.contains i with
       | true =>
         obtain⟨v,w1,hy⟩:=Jc hA hoi hif ks iv w a w hlt (fun k hk=>(hks k hk).2) Iu h w Iu.1
         have hg:=hy.WK ((hA.float i hif).2 oi hoi)
         refine Yl.mk hoi hy ⟨fun _=>hS.more (Dx hg),(w.heap.size,w1.heap.size)::iv,fun _=>Iu.push hg.size,?_⟩
         have grow:wpG P ops (Ab P ops B wS fl Q) (Same B wS) m fa st (ks++i::rest) iv w1 a w1:=YZ hA (ks++i::rest) iv a w w1 hlt hs hS (fun _=>Iu) hg h0 h
         exact early hA hoi hif Iu.1 ks iv a w1 hlt hs (fun k hk=>(hks k hk).2) (hS.more (Dx hg)) ⟨Nat.le_trans Iu.1 hg.size,fun x hx=>Nat.le_trans (Iu.2 x hx) hg.size⟩ hy (Kept.refl _ _) Iu.off grow
       | false =>
         cases hip:plain P ops i with
         | true =>
           obtain⟨v,hy,_,hK⟩:=Sw hA hoi hip hif ks iv a w hlt hs hks hS hbd h
           exact Yl.mk hoi hy ⟨fun _=>hS,iv,fun _=>Iu,hK⟩
         | false =>
           have hrest:rest.any (fun x=>fa.contains x)=true:=by
            have hkn:∀ k∈ks,fa.contains k=false:=fun k hk=>by
             obtain⟨ok,hok⟩:∃ o,ops[k]? = some o:=⟨_,Array.getElem?_eq_getElem (hlt k (by simp[hk]))⟩
             have hpk:=(hks k hk).2
             have hkd:¬ (kind P oi=0)/\¬ (kind P oi=1):=by simpa [plain,hoi] using hip
             cases hfk:fa.contains k with
             | false=>rfl
             | true =>
               simp only[Cz,hok,hoi,hif,if_false,Bool.false_eq_true,Bool.and_eq_true,Bool.or_eq_true,beq_iff_eq,List.contains_iff_mem,hkd.1,hkd.2,or_false,false_and,and_false,false_or] at hpk
               have:=hpk.2
               rw[if_pos (by simpa using hfk)] at this
               simp[hkd.1,hkd.2] at this
            obtain⟨x,hx,hxf⟩:=List.any_eq_true.1 h0
            refine List.any_eq_true.2 ⟨x,?_,hxf⟩
            rcases List.mem_append.1 hx with h1|h1
            ·rw[hkn x h1] at hxf;cases hxf
            ·rcases List.mem_cons.1 h1 with rfl|h1
             ·rw[hif] at hxf;cases hxf
             ·exact h1
           refine wpOp_mono (fun a1 w1 hh=>⟨fun _=>hh.1,_,fun _=>Iu.push hh.2.1.size,hh.2.2⟩) (mQ hA hoi hip hif hrest ks iv a w hlt hs (fun k hk=>(hks k hk).2) hS Iu h)
    refine wpOp_mono (fun a' w' hh=>?_) hfr
    obtain⟨hS',iv',hb',hK⟩:=hh
    refine Za hA fuel (ks++rest) _ iv' a' w' (by simp at hlen ⊢;omega) (by simp[hsz]) ?_ ?_ ?_ ?_ hb' hK
    ·intro j o ho hl e he hb
     by_cases hij:i=j
     ·subst hij
      have:o=oi:=Option.some.inj (ho.symm.trans hoi)
      subst this
      exact getD_set_true (hall e he hb)
     ·refine getD_set_true (hcl j o ho ?_ e he hb)
      rw[getD_set_ne false (by exact hij)] at hl
      exact hl
    ·exact List.pairwise_append.2 ⟨hpw.1,(List.pairwise_cons.1 hpw.2.1).2,fun x hx y hy=>hpw.2.2 x hx y (by simp[hy])⟩
    ·intro x
     have hx:=hm x
     have hne:x∈ks++rest->i≠x:=by
      intro hxm e
      subst e
      rcases List.mem_append.1 hxm with h1|h1
      ·have:=hpw.2.2 i h1 i (by simp)
       omega
      ·have:=(List.pairwise_cons.1 hpw.2.1).1 i h1
       omega
     constructor
     ·intro hxm
      have h1:=hx.1 (by simp at hxm ⊢;rcases hxm with h|h<;>simp[h])
      exact⟨h1.1,by rw[getD_set_ne false (hne hxm)];exact h1.2⟩
     ·rintro⟨h1,h2⟩
      by_cases hix:i=x
      ·subst hix
       simp[hsz,h1] at h2
      ·rw[getD_set_ne false hix] at h2
       have:=hx.2 ⟨h1,h2⟩
       simp at this ⊢
       rcases this with h|h|h
       ·exact .inl h
       ·exact absurd h.symm hix
       ·exact .inr h
    ·rintro⟨x,hx,hxm⟩
     refine hS' ?_
     rcases List.mem_append.1 hx with h1|h1
     ·exact(hks x h1).1
     ·have:=(List.pairwise_cons.1 hpw.2.1).1 x h1
      omega
/-! ### The walk in pieces -/
theorem upS (hA:OkF P ops fl fa m):∀ (l:List Nat) (a:Act) (w:World),(∀ x∈l,x<ops.size)->l.Pairwise (· < ·)->((∃ x∈l,x<m)->Same B wS w)->
 wpC P ops (Ab P ops B wS fl Q) (Same B wS) m l a w->wpS P ops (Ab P ops B wS fl Q) (Same B wS) m l a w
 | [],_,_,_,_,_,h=>h
 | i :: l,a,w,hl,hs,hS,h => by
   have h0:=Qf _ _ _ h
   have hs':=List.pairwise_cons.1 hs
   obtain⟨o,hi⟩:∃ o,ops[i]? = some o:=⟨_,Array.getElem?_eq_getElem (hl i (by simp))⟩
   have h:wpOp P ops (Ab P ops B wS fl Q) i (fun a' w' => (i<m->wild P ops i=true->Same B wS w')/\wpC P ops (Ab P ops B wS fl Q) (Same B wS) m l a' w') a w:=h
   show wpOp P ops (Ab P ops B wS fl Q) i (fun a' w' => (i<m->Same B wS w')/\wpS P ops (Ab P ops B wS fl Q) (Same B wS) m l a' w') a w
   have QE:∀ a' w',(i<m->Same B wS w')->wpC P ops (Ab P ops B wS fl Q) (Same B wS) m l a' w' -> wpS P ops (Ab P ops B wS fl Q) (Same B wS) m l a' w':=fun a' w' hS' hh=>
    upS hA l a' w' (fun x hx=>hl x (by simp[hx])) hs'.2 (fun⟨x,hx,hxm⟩=>hS' (by have:=hs'.1 x hx;omega)) hh
   by_cases him:i<m
   ·have hSw:=hS ⟨i,by simp,him⟩
    by_cases hwd:wild P ops i=true
    ·exact wpOp_mono (fun a' w' hh=>⟨fun hm=>hh.1 hm hwd,QE a' w' (fun hm=>hh.1 hm hwd) hh.2⟩) h
    ·have hn : Region.wanted o (yielded ops a.tmps) = true → Mf P (execOp a.eval o) :=by
      simp only[wild,hi,Bool.and_eq_true,bne_iff_ne,ne_eq,not_and,Classical.not_not] at hwd
      intro hw
      by_cases h0k:kind P o=0
      ·have h0g:wpOps P ops (Ends P ops (fun _ a w=>allIn B wS ops a fl/\Q .normal a w)) (i::l) a w:=Cb (fun e a w he=>Bu he) _ _ _ h0
       exact(Gd hl h0g hi h0k (fun hn x hx o' ho' t ht=>hA.keep i o hi (.inl hn) x (by
        rcases List.mem_cons.1 hx with h|h
        ·omega
        ·have:=hs'.1 x h;omega) o' ho' t ht) hw).news
      ·by_cases h1k:kind P o=1
       ·exact(Cu h1k).news
       ·exact Gb (hwd ⟨h0k,h1k⟩)
     obtain⟨v,w',hy,hc,hh⟩:=Dn Ab.Bb hi hn h
     have XA : Same B wS w':=hSw.more (hy.more hn)
     exact Yl.mk hi hy ⟨fun _=>XA,QE _ _ (fun _=>XA) hh⟩
   ·exact wpOp_mono (fun a' w' hh=>⟨fun hm=>absurd hm him,QE a' w' (fun hm=>absurd hm him) hh.2⟩) h
end
inductive Pc where
 | pure (n:Nat)
 | call
 | new
def Oy (w:World)(K:Act->Prop):Exit->Act->World->Prop:=fun e a1 w1=>e=.normal/\w1=w/\K a1
def Ug (S:World->Prop)(st:Nat)(w' : World)(K:Act->World->Prop):Exit->Act->World->Prop:=fun e a1 w1=>e=.normal/\S w1/\Kept st w' w1/\K a1 w1
def OA (w w0:World)(iv:List (Nat × Nat))(K:Act->World->World->Prop):Exit->Act->World->Prop:=fun e a1 w1=>e=.normal/\∀ w',Grown w w' -> Kept w0.heap.size w1 w' -> Off iv w0.heap.size w1.heap.size->K a1 w1 w'
theorem Oy.intro {w:World}{K:Act->Prop}{a:Act}(h:K a):Oy w K .normal a w:=⟨rfl,rfl,h⟩
theorem Ug.intro {S:World->Prop}{st:Nat}{w' : World}{K:Act->World->Prop}{a:Act}{w:World}(hS:S w)(hk:Kept st w' w)(h:K a w):Ug S st w' K .normal a w:=⟨rfl,hS,hk,h⟩
theorem OA.intro {w w0 w1:World}{iv:List (Nat × Nat)}{K:Act->World->World->Prop}{a:Act}(h:∀ w',Grown w w' -> Kept w0.heap.size w1 w' -> Off iv w0.heap.size w1.heap.size->K a w1 w'):OA w w0 iv K .normal a w1:=⟨rfl,h⟩
def Iw (P:Program)(ops:Array Oper)(Q:Exit->Act->World->Prop)(S:World->Prop)(st:Nat)(cs:List Nat):List Pc->List Oper->List (Nat × Nat)->Act->World->Prop
 | [],l,_,a,w=>Bp P ops Q S cs l a w
 | .pure n::ps,l,iv,a,w=>wpList P ops (Oy w (fun a1=>Iw P ops Q S st cs ps (l.drop n) iv a1 w)) (l.take n) a w
 | .call::ps,l,iv,a,w=>∀ w',Grown w w' -> wpList P ops (Ug S st w' (fun a1 w1=>Iw P ops Q S st cs ps (l.drop 1) ((w'.heap.size,w1.heap.size)::iv) a1 w1)) (l.take 1) a w'
 | .new::ps,l,iv,a,w=>∀ w0,st<=w0.heap.size->wpList P ops (OA w w0 iv (fun a1 w1 w' => Iw P ops Q S st cs ps (l.drop 1) ((w0.heap.size,w1.heap.size)::iv) a1 w')) (l.take 1) a w0
def La (P:Program)(ops:Array Oper)(m:Nat)(fa:List Nat)(cs:List Nat):List Pc->Nat->Nat->Bool
 | [],n,k => !((List.range' k n).any fun x=>fa.contains x)&&zbD P ops m cs n k
 | .pure c::ps,n,k=>decide (c<=n)&&((List.range c).all fun j=>plain P ops (k+j) && !fa.contains (k+j))&&((List.range' (k+c) (n-c)).any fun x=>fa.contains x)&&La P ops m fa cs ps (n-c) (k+c)
 | .call::ps,n,k=>decide (0<n) && !plain P ops k && !fa.contains k&&((List.range' k n).any fun x=>fa.contains x)&&La P ops m fa cs ps (n-1) (k+1)
 | .new::ps,n,k=>decide (0<n)&&fa.contains k&&La P ops m fa cs ps (n-1) (k+1)
theorem Vg {S:World->Prop}{m:Nat}{fa:List Nat}{st:Nat}{iv:List (Nat × Nat)}{wr:World}{K:Act->Prop}{L:List Nat}(hL:L.any (fun x=>fa.contains x)=true)(hK:∀ a,K a->wpG P ops Q S m fa st L iv wr a wr):∀ (l:List Oper) (k:Nat) (a:Act) (w:World),w=wr\/l≠[]->(∀ j,j<l.length->l[j]? = ops[k+j]?)->((List.range l.length).all fun j=>plain P ops (k+j) && !fa.contains (k+j))=true->
 wpList P ops (fun e a1 w1=>e=.normal/\w1=wr/\K a1) l a w->wpG P ops Q S m fa st (List.range' k l.length++L) iv wr a w
 | [],k,a,w,_,_,_,h => by
   obtain⟨_,rfl,h⟩:=(h:(_:Exit)=.normal/\_/\K a)
   exact hK a h
 | o :: l,k,a,w,_,hl,hw,h => by
   have h0:ops[k]? = some o:=by simpa using (hl 0 (by simp)).symm
   have hNE:CS (fun(e:Exit) (a1:Act) (w1:World)=>e=.normal/\w1=wr/\K a1):=fun _ _ _ he h=>he h.1
   have hh:=E9 (Q2:=Q) hNE (Gh h0 h)
   simp only[List.all_eq_true,List.mem_range,List.length_cons,Bool.and_eq_true,Bool.not_eq_true'] at hw
   have hk:=hw 0 (by omega)
   simp only[Nat.add_zero] at hk
   rw[List.length_cons,List.range'_succ,List.cons_append]
   refine(Gl (by simp only[List.any_cons,List.any_append,hL,Bool.or_true]) hk.2 hk.1).2 (wpOp_mono (fun a1 w1 h1=>?_) hh)
   refine Vg hL hK l (k+1) a1 w1 ?_ (fun j hj=>?_) ?_ h1
   ·cases l with
    | nil=>exact .inl h1.2.1
    | cons _ _=>exact .inr (by simp)
   ·have:=hl (j+1) (by simp;omega)
    simpa [Nat.add_assoc,Nat.add_comm 1 j] using this
   ·simp only[List.all_eq_true,List.mem_range,Bool.and_eq_true,Bool.not_eq_true']
    intro j hj
    have:=hw (j+1) (by omega)
    rwa [show k+(j+1)=k+1+j from by omega] at this
section
variable {B:Nat->Prop} {wS:World} {fl fa:List Nat} {m st:Nat}
theorem Nr (hA:OkF P ops fl fa m){cs:List Nat} : ∀ (ps:List Pc) (l:List Oper) (k:Nat) (iv:List (Nat × Nat)) (a:Act) (w:World),(∀ j,j<l.length->l[j]? = ops[k+j]?)->(k+l.length=ops.size)->Same B wS w->La P ops m fa cs ps l.length k=true->
 Iw P ops (Ab P ops B wS fl Q) (Same B wS) st cs ps l iv a w->wpG P ops (Ab P ops B wS fl Q) (Same B wS) m fa st (List.range' k l.length) iv w a w
 | [],l,k,iv,a,w,hl,hsz,hS,hc,h => by
   simp only[La,Bool.and_eq_true,Bool.not_eq_true'] at hc
   refine(CO hc.1).2 ⟨rfl,upS hA _ a w (fun x hx=>?_) List.pairwise_lt_range' (fun _=>hS) (Km cs l k a w hl hc.2 h)⟩
   have:=List.mem_range'_1.1 hx
   omega
 | .pure c :: ps,l,k,iv,a,w,hl,hsz,hS,hc,h => by
   simp only[La,Bool.and_eq_true,decide_eq_true_eq] at hc
   obtain⟨⟨⟨h1,h2⟩,h3⟩,h4⟩:=hc
   have hlen:(l.take c).length=c:=by simp;omega
   have hr:List.range' k l.length=List.range' k (l.take c).length++List.range' (k+c) (l.drop c).length:=by
    rw[hlen,List.length_drop,List.range'_append_1,show c+(l.length-c)=l.length from by omega]
   rw[hr]
   refine Vg (K:=fun a1=>Iw P ops (Ab P ops B wS fl Q) (Same B wS) st cs ps (l.drop c) iv a1 w) (by rw[List.length_drop];exact h3) (fun a1 hk=>Nr hA ps (l.drop c) (k+c) iv a1 w (fun j hj=>?_) (by rw[List.length_drop];omega) hS (by rw[List.length_drop];exact h4) hk) (l.take c) k a w (.inl rfl) (fun j hj=>?_) (by rw[hlen];exact h2) h
   ·rw[List.getElem?_drop,hl (c+j) (by simp at hj;omega),Nat.add_assoc]
   ·rw[List.getElem?_take,if_pos (by omega),hl j (by simp at hj;omega)]
 | .call :: ps,l,k,iv,a,w,hl,hsz,hS,hc,h => by
   simp only[La,Bool.and_eq_true,decide_eq_true_eq,Bool.not_eq_true'] at hc
   obtain⟨⟨⟨⟨h1,h2⟩,h3⟩,h4⟩,h5⟩:=hc
   cases l with
   | nil=>simp at h1
   | cons o l =>
     have h0:ops[k]? = some o:=by simpa using (hl 0 (by simp)).symm
     rw[List.length_cons,List.range'_succ] at h4 ⊢
     refine(DT h4 h3 h2).2 ⟨rfl,fun w' hg=>?_⟩
     have hNE:CS (fun(e:Exit) (a1:Act) (w1:World)=>e=.normal/\Same B wS w1/\Kept st w' w1/\Iw P ops (Ab P ops B wS fl Q) (Same B wS) st cs ps l ((w'.heap.size,w1.heap.size)::iv) a1 w1):=fun _ _ _ he h=>he h.1
     refine wpOp_mono (fun a1 w1 hh=>?_) (E9 (Q2:=Ab P ops B wS fl Q) hNE (Gh h0 (l:=[]) (h w' hg)))
     obtain⟨_,hS1,hk,hK⟩:=(hh:(_:Exit)=.normal/\_)
     refine⟨hS1,hk,Nr hA ps l (k+1) _ a1 w1 (fun j hj=>?_) (by simp at hsz;omega) hS1 (by simpa using h5) hK⟩
     have:=hl (j+1) (by simp;omega)
     simpa [Nat.add_assoc,Nat.add_comm 1 j] using this
 | .new :: ps,l,k,iv,a,w,hl,hsz,hS,hc,h => by
   simp only[La,Bool.and_eq_true,decide_eq_true_eq] at hc
   obtain⟨⟨h1,h3⟩,h5⟩:=hc
   cases l with
   | nil=>simp at h1
   | cons o l =>
     have h0:ops[k]? = some o:=by simpa using (hl 0 (by simp)).symm
     rw[List.length_cons,List.range'_succ]
     refine(FI h3).2 ⟨rfl,fun w0 hw0=>?_⟩
     have hNE:CS (fun(e:Exit) (a1:Act) (w1:World)=>e=.normal/\∀ w',Grown w w' -> Kept w0.heap.size w1 w' -> Off iv w0.heap.size w1.heap.size->Iw P ops (Ab P ops B wS fl Q) (Same B wS) st cs ps l ((w0.heap.size,w1.heap.size)::iv) a1 w'):=fun _ _ _ he h=>he h.1
     refine wpOp_mono (fun a1 w1 hh w' hg hk ho=>?_) (E9 (Q2:=Ab P ops B wS fl Q) hNE (Gh h0 (l:=[]) (h w0 hw0)))
     obtain⟨_,hK⟩:=(hh:(_:Exit)=.normal/\_)
     refine Nr hA ps l (k+1) _ a1 w' (fun j hj=>?_) (by simp at hsz;omega) (hS.more (Dx hg)) (by simpa using h5) (hK w' hg hk ho)
     have:=hl (j+1) (by simp;omega)
     simpa [Nat.add_assoc,Nat.add_comm 1 j] using this
end
theorem pG {l:List Oper}{a:Act}{w:World}(B:Nat->Prop)(fl fa:List Nat)(m:Nat)(ps:List Pc)(cs:List Nat)(hA:WL P l.toArray fl fa m=true)(hC:La P l.toArray m fa cs ps l.length 0=true)
 (h:Iw P l.toArray (Ab P l.toArray B w fl Q) (Same B w) w.heap.size cs ps l [] a w):wpAny P .any l.toArray (Ab P l.toArray B w fl Q) l.toArray.size (Array.replicate l.toArray.size false) a w:=by
 refine Za (Py hA) (st:=w.heap.size) l.toArray.size (List.range l.toArray.size) _ [] a _ (by simp) (by simp) ?_ List.pairwise_lt_range (fun x=>by
  constructor
  ·intro hx
   have:=List.mem_range.1 hx
   exact⟨this,by simp only[Array.getD_eq_getD_getElem?];simp at this ⊢;simp[this]⟩
  ·exact fun hx=>List.mem_range.2 hx.1) (fun _=>Same.refl _ _) (fun _=>⟨Nat.le_refl _,fun _ hx=>by cases hx⟩) ?_
 ·intro j o ho hl
  rw[getD_replicate_false] at hl
  cases hl
 ·rw[List.range_eq_range',show l.toArray.size=l.length from by simp]
  exact Nr (Py hA) ps l 0 [] a w (by simp) (by simp) (Same.refl _ _) hC h
theorem EU {id:Nat}{l:List Oper}{a:Act}{w:World}(B:Nat->Prop)(fl fa:List Nat)(m:Nat)(ps:List Pc)(cs:List Nat)(hm:P.follows .mixedOrders=true)(hA:WL P l.toArray fl fa m=true)(hC:La P l.toArray m fa cs ps l.length 0=true)
 (h:Iw P l.toArray (Ab P l.toArray B w.drew fl Q) (Same B w.drew) w.drew.heap.size cs ps l [] a w.drew):(Code.region id l.toArray true).wp P Q a w:=
 Code.wp_mono (Q:=Ab P l.toArray B w.drew fl Q) (fun e a' w' he=>by obtain⟨rfl,_,_,h⟩:=he;exact h) (wp_region_any hm (pG B fl fa m ps cs hA hC h))
theorem zbU {l:List Oper}{a:Act}{w:World}(B:Nat->Prop)(fl fa:List Nat)(m:Nat)(ps:List Pc)(cs:List Nat)(hA:WL P l.toArray fl fa m=true)(hC:La P l.toArray m fa cs ps l.length 0=true)
 (h:Iw P l.toArray (Ab P l.toArray B w fl Q) (Same B w) w.heap.size cs ps l [] a w):zb9 P l.toArray Q a w:=
 zb9.post (Q1:=Ab P l.toArray B w fl Q) (fun e a' w' he=>by obtain⟨rfl,_,_,h⟩:=he;exact h) (fun o ho=>zcm _ _ _ a w (pG B fl fa m ps cs hA hC h) ho)
end
end Lex
end
section
open Go Go.RowKit Go.Maps
theorem MF (seed:ByteArray)(nx:Nat)(w:World)(hs:seed.size=32)(hn:nx<=2):
 Calls Tryz.prog 152 #[.agg #[.string seed,.int .i64 1,.int .i64 nx]] w fun e w' => e=.returned (.bool true)/\Below w.heap.size w w':=by
 have ha:=At.new w 123 #[.string seed,.int .i64 1,.int .i64 nx]
 have d1:((seed.size:Int)==32)=true:=by rw[hs];rfl
 have d2:decide ((nx:Int)<=2)=true:=by simp;omega
 have d3:decide ((0:Int)<=(nx:Int))=true:=by simp
 go_enter Tryz.func152,Tryz.ntmps152
 go_wp2_with fail
 have hb1:Below w.heap.size w (w.alloc (.cells #[.string seed,.int .i64 1,.int .i64 nx] 123)):=zb
 have HB1:=zh hb1;have HA:=zh ha
 have c0:=ha.cell 0;have c1:=ha.cell 1;have c2:=ha.cell 2
 simp only[zg] at c0 c1 c2
 clear hb1 ha
 generalize w.alloc (.cells #[.string seed,.int .i64 1,.int .i64 nx] 123)=w1 at*
 refine Lex.zl ?_
 go_wp2
 refine Lex.ze ?_
 go_wp2
 go_ret
 exact⟨rfl,HB1.out.drew⟩
theorem dU (W:World)(g:Nat)(h:At W g 5 #[.int .u8 1]):(convert 66 9 (.slice (some ⟨g,0,none⟩) 1 1)).run Tryz.prog W=.ok (.string (Sig.b1 1)) W:=by
 have:=run_convert_bytes_arg (P:=Tryz.prog) W 66 5 rfl rfl g 0 1 1 [1] rfl (fun i hi=>by
  have:i=0:=by simpa using hi
  subst this
  exact h.cell 0) 9 rfl
 exact this
theorem Rq (seed:ByteArray)(n:Nat):(Sig.leaves seed n).all Sig.digest=true:=by
 rw[List.all_eq_true]
 intro x hx
 obtain⟨k,_,rfl⟩:=List.mem_map.1 hx
 exact decide_eq_true (Sig.Ie seed k)
theorem TA (seed:ByteArray)(w:World)(hs:seed.size=32):
 Calls Tryz.prog 102 #[.agg #[.string seed,.int .i64 1,.int .i64 0]] w fun e w' => e=.returned (.tuple #[.string (Sig.Jz seed),.int .i64 0])/\Below w.heap.size w w':=by
 obtain⟨R,hR⟩:∃ R,R=Sig.Jz seed:=⟨_,rfl⟩
 rw[<- hR]
 have HR:=zh hR;clear hR
 have ha:=At.new w 123 #[.string seed,.int .i64 1,.int .i64 0]
 go_enter Tryz.func102,Tryz.ntmps102
 go_wp2_with fail
 have hb1:Below w.heap.size w (w.alloc (.cells #[.string seed,.int .i64 1,.int .i64 0] 123)):=zb
 have hn1:(w.alloc (.cells #[.string seed,.int .i64 1,.int .i64 0] 123)).heap.size=w.heap.size+1:=by simp
 have HB1:=zh hb1;have HA1:=zh ha;clear hb1 ha
 generalize w.alloc (.cells #[.string seed,.int .i64 1,.int .i64 0] 123)=w1 at*
 refine(show Calls Tryz.prog 152 #[.agg #[.string seed,.int .i64 1,.int .i64 0]] w1 _ from MF seed 0 w1 hs (by omega)).mono ?_
 rintro e w2 ⟨rfl,hb⟩
 have HB2:=zh (HB1.out.trans (hb.mono HB1.out.size));have HA2:=zh (HA1.out.below hb (by omega))
 clear hb
 obtain⟨c0,c1,c2⟩:=HA2.out.c3
 go_wp2_with fail
 have hlw:=HA2.out.lt
 have hrt:R=Sig.root (Sig.leaves seed 2)++Sig.b1 1:=HR.out
 have hrz:=Sig.IE seed
 have C0:=zh c0;have C1:=zh c1;have C2:=zh c2
 have hroot:=fun(v:Value) (W:World) (h:Al W v (Sig.leaves seed 2)) (hc:Eb v)=>Yd v (Sig.leaves seed 2) W h hc (by show 2<=4096;omega) (Rq seed 2)
 have hown:∀ (b:Nat) (v:Value) (W:World),W.ownsRow b 9 1 v 2 ((Sig.leaves seed 2).map Value.string)->Al W v (Sig.leaves seed 2):=fun b v W h=>Al.own h
 have hlv:=fun W=>KL seed 0 W (by omega)
 generalize Sig.leaves seed 2=LV at*
 obtain⟨RT,hRT⟩:∃ RT,RT=Sig.root LV:=⟨_,rfl⟩
 rw[<- hRT] at hrt hrz hroot
 have HRT:=zh hrt;have vV:=zh hroot;have HLV:=zh hlv;have HOWN:=zh hown
 clear hrt hroot hlv HR hRT hown
 go_cut [2,3] (fun v2 v3 wx=>v2=.string (RT++Sig.b1 1)/\v3=.int .i64 0/\Below w2.heap.size w2 wx)
 case first=>
  have hd:Below w2.heap.size w2 w2.drew:=(Below.refl _ _).drew
  have HAT:=zh (fun W (hW:Below w2.heap.size w2 W)=>HA2.out.below hW hlw)
  have Y0:=zh (zi c0)
  have Y1:=zh (zi c1)
  refine Lex.Tq (by kernel_rfl) ?_
  refine Lex.kH 2 7 (by decide) (by kernel_rfl) ?_ (Lex.kH 1 7 (by decide) (by kernel_rfl) ?_ ?_)
  ·refine Lex.zbU (fun k=>k=w.heap.size) [0,4] [6] 8 [.pure 1,.call,.call,.pure 3,.new] [1] (by kernel_rfl) (by kernel_rfl) ?_
   simp only[Lex.late,Lex.OX,Lex.Uy,List.map_cons,List.map_nil,List.getD_cons_zero,List.getD_cons_succ,Option.map_none,Nat.reduceEqDiff,if_false,Nat.reduceAdd,Nat.zero_add,Lex.Iw,Lex.Bp,List.take_succ_cons,List.take_zero,List.drop_succ_cons,List.drop_zero]
   go_wp2
   refine Lex.Oy.intro ?_
   intro w3 hg3
   have X3:=zh (hd.trans hg3)
   clear hg3
   go_wp2_with fail
   refine(HLV.out w3).mono ?_
   rintro e w4 ⟨lv,rfl,hol,hbl⟩
   have X4:=zh (X3.out.trans (hbl.mono X3.out.size));have BL:=zh hbl;have OL:=zh hol
   clear hbl hol
   go_wp2
   refine Lex.Ug.intro (fun j hj _=>by rw[hj];exact X4.out.block _ hlw) (Lex.Kept.of_below BL.out) ?_
   intro w5 hg5
   have X5:=zh (X4.out.trans (hg5.mono X4.out.size));have SL:=zh (Al.below (HOWN.out _ _ _ OL.out) hg5)
   clear hg5
   go_wp2_with fail
   refine(vV.out lv w5 SL.out (Eb.own OL.out)).mono ?_
   rintro e w6 ⟨rfl,hbr⟩
   have X6:=zh (X5.out.trans (hbr.mono X5.out.size));have BR:=zh hbr
   clear hbr c0 c1 c2
   go_wp2
   refine Lex.Ug.intro (fun j hj _=>by rw[hj];exact X6.out.block _ hlw) (Lex.Kept.of_below BR.out) ?_
   have c1:=(HAT.out w6 X6.out).cell 1
   simp only[zg] at c1
   go_wp2
   refine Lex.Oy.intro ?_
   intro w7 hw7
   go_wp2
   refine Lex.OA.intro (fun w8 hg8 hk8 ho8=>?_)
   have X8:=zh (X6.out.trans (hg8.mono X6.out.size));have P8:=zh hk8.at_
   clear hg8 hk8 ho8 hw7 c1
   go_wp2_with fail
   rw[dU _ _ P8.out]
   go_wp2
   refine Lex.Mid.intro (fun j hj _=>by rw[hj];exact X8.out.block _ hlw) ?_
   go_wp2
   refine Lex.zk ⟨⟨rfl,Y0.out⟩,⟨rfl,Y1.out⟩,trivial⟩ ?_
   go_wp2
   go_meet
   exact⟨rfl,rfl,X8.out⟩
  ·refine Lex.zbA [0,1,3,4,5,6,7,2,8,9,10] (by kernel_rfl) ?_
   refine Lex.zbU (fun k=>k=w.heap.size) [0,3] [5] 8 [.pure 1,.call,.pure 3,.new] [1,1] (by kernel_rfl) (by kernel_rfl) ?_
   simp only[Lex.late,Lex.OX,Lex.Uy,List.map_cons,List.map_nil,List.getD_cons_zero,List.getD_cons_succ,Option.map_none,Nat.reduceEqDiff,if_false,Nat.reduceAdd,Nat.zero_add,Lex.Iw,Lex.Bp,List.take_succ_cons,List.take_zero,List.drop_succ_cons,List.drop_zero]
   go_wp2
   refine Lex.Oy.intro ?_
   intro w3 hg3
   have X3:=zh (hd.trans hg3)
   clear hg3
   go_wp2_with fail
   refine(HLV.out w3).mono ?_
   rintro e w4 ⟨lv,rfl,hol,hbl⟩
   have X4:=zh (X3.out.trans (hbl.mono X3.out.size));have BL:=zh hbl;have OL:=zh hol
   clear hbl hol c0 c1 c2
   go_wp2
   refine Lex.Ug.intro (fun j hj _=>by rw[hj];exact X4.out.block _ hlw) (Lex.Kept.of_below BL.out) ?_
   have c1:=(HAT.out w4 X4.out).cell 1
   simp only[zg] at c1
   go_wp2
   refine Lex.Oy.intro ?_
   intro w7 hw7
   go_wp2
   refine Lex.OA.intro (fun w8 hg8 hk8 ho8=>?_)
   have X8:=zh (X4.out.trans (hg8.mono X4.out.size));have P8:=zh hk8.at_;have SL:=zh (Al.below (HOWN.out _ _ _ OL.out) hg8)
   clear hg8 hk8 ho8 hw7 c1
   go_wp2_with fail
   rw[dU _ _ P8.out]
   go_wp2
   refine Lex.Mid.intro (fun j hj _=>by rw[hj];exact X8.out.block _ hlw) ?_
   go_wp2_with fail
   refine(vV.out lv w8 SL.out (Eb.own OL.out)).mono ?_
   rintro e w9 ⟨rfl,hbr⟩
   have X9:=zh (X8.out.trans (hbr.mono X8.out.size))
   clear hbr
   go_wp2
   refine Lex.Mid.intro (fun j hj _=>by rw[hj];exact X9.out.block _ hlw) ?_
   go_wp2
   refine Lex.zk ⟨⟨rfl,Y0.out⟩,⟨rfl,Y1.out⟩,trivial⟩ ?_
   go_wp2
   go_meet
   exact⟨rfl,rfl,X9.out⟩
  ·refine Lex.zbA [0,3,4,5,6,7,1,2,8,9,10] (by kernel_rfl) ?_
   refine Lex.zbU (fun k=>k=w.heap.size) [0,2] [4] 8 [.pure 4,.new] [1,1,1] (by kernel_rfl) (by kernel_rfl) ?_
   simp only[Lex.late,Lex.OX,Lex.Uy,List.map_cons,List.map_nil,List.getD_cons_zero,List.getD_cons_succ,Option.map_none,Nat.reduceEqDiff,if_false,Nat.reduceAdd,Nat.zero_add,Lex.Iw,Lex.Bp,List.take_succ_cons,List.take_zero,List.drop_succ_cons,List.drop_zero]
   go_wp2
   refine Lex.Oy.intro ?_
   intro w7 hw7
   go_wp2
   refine Lex.OA.intro (fun w8 hg8 hk8 ho8=>?_)
   have X8:=zh (hd.trans hg8);have P8:=zh hk8.at_
   clear hg8 hk8 ho8 hw7 c0 c1 c2
   go_wp2_with fail
   rw[dU _ _ P8.out]
   go_wp2
   refine Lex.Mid.intro (fun j hj _=>by rw[hj];exact X8.out.block _ hlw) ?_
   go_wp2_with fail
   refine(HLV.out w8).mono ?_
   rintro e w4 ⟨lv,rfl,hol,hbl⟩
   have X4:=zh (X8.out.trans (hbl.mono X8.out.size));have SL:=zh (HOWN.out _ _ _ hol);have OL:=zh hol
   clear hbl hol
   go_wp2
   refine Lex.Mid.intro (fun j hj _=>by rw[hj];exact X4.out.block _ hlw) ?_
   go_wp2_with fail
   refine(vV.out lv w4 SL.out (Eb.own OL.out)).mono ?_
   rintro e w9 ⟨rfl,hbr⟩
   have X9:=zh (X4.out.trans (hbr.mono X4.out.size))
   clear hbr
   go_wp2
   refine Lex.Mid.intro (fun j hj _=>by rw[hj];exact X9.out.block _ hlw) ?_
   go_wp2
   refine Lex.zk ⟨⟨rfl,Y0.out⟩,⟨rfl,Y1.out⟩,trivial⟩ ?_
   go_wp2
   go_meet
   exact⟨rfl,rfl,X9.out⟩
 obtain⟨rfl,rfl,hb⟩:=hcut
 go_wp2
 go_ret2
 exact⟨by rw[HRT.out];rfl,HB2.out.trans (hb.mono HB2.out.size)⟩
section
variable {P:Program} {fn:Func} {tmps:Array Value} {w:World} {Q:Ending->World->Prop}
theorem AJ {g:Nat}{t ty:TypeId}{cs:Array Value}{d:TypeDesc}(hat:At w g t cs)(hu:P.underlying ty=some d)(hd:(match d with|.struct _|.array _ _=>true|_=>false)=true)(hi:(P.info? ty).map (·.size)=some cs.size):
 (loadVar ty ⟨g,0,none⟩).run P w=.ok (.agg cs) w:=run_loadVar_row w g t ty cs (0,0) d hat hu hd hi
theorem Ob {p:Tmp}{t1:TypeId}{b1:Nat}{v1:Value}(h:fn.results=#[.cell p t1])(hp:tmps.getD p undef=.pointer (some ⟨b1,0,none⟩))
 (l1:(loadVar t1 ⟨b1,0,none⟩).run P w=.ok v1 w) (hQ:Q (.returned v1) w):bodyPost P fn Q Exit.ret { tmps:=tmps,defers:=[] } w:=by
 refine bodyPost_ret (v:=v1) ?_ rfl hQ
 have hp' : tmps[p]?.getD undef=.pointer (some ⟨b1,0,none⟩):=by rw[<- hp];simp
 simp[results,h,hp',asAddr,l1,Sem.run_bind]
theorem BJ {p u:Tmp}{t1:TypeId}{b1:Nat}{v1 x:Value}(h:fn.results=#[.cell p t1,.tmp u])(hp:tmps.getD p undef=.pointer (some ⟨b1,0,none⟩))(hu:tmps.getD u undef=x)
 (l1:(loadVar t1 ⟨b1,0,none⟩).run P w=.ok v1 w) (hQ:Q (.returned (.tuple #[v1,x])) w):bodyPost P fn Q Exit.ret { tmps:=tmps,defers:=[] } w:=by
 refine bodyPost_ret (v:=.tuple #[v1,x]) ?_ rfl hQ
 have e:(results fn tmps).run P w=((asAddr (tmps.getD p undef)).run P w).andThen fun a w₁ => ((loadVar t1 a).run P w₁).andThen fun x w₂ => .ok (.tuple #[x,tmps.getD u undef]) w₂ :=by
  simp only[results,h]
  simp[Sem.run_bind,Result.andThen]
 show(results fn tmps).run P w=_
 rw[e,hp,hu]
 simp[asAddr,l1]
theorem lg {p q u:Tmp}{t1 t2:TypeId}{b1 b2:Nat}{v1 v2 x:Value}(h:fn.results=#[.cell p t1,.cell q t2,.tmp u])(hp:tmps.getD p undef=.pointer (some ⟨b1,0,none⟩))(hq:tmps.getD q undef=.pointer (some ⟨b2,0,none⟩))(hu:tmps.getD u undef=x)
 (l1:(loadVar t1 ⟨b1,0,none⟩).run P w=.ok v1 w) (l2:(loadVar t2 ⟨b2,0,none⟩).run P w=.ok v2 w) (hQ:Q (.returned (.tuple #[v1,v2,x])) w):bodyPost P fn Q Exit.ret { tmps:=tmps,defers:=[] } w:=by
 refine bodyPost_ret (v:=.tuple #[v1,v2,x]) ?_ rfl hQ
 have e:(results fn tmps).run P w=((asAddr (tmps.getD p undef)).run P w).andThen fun a w₁ => ((loadVar t1 a).run P w₁).andThen fun x w₂ => ((asAddr (tmps.getD q undef)).run P w₂).andThen fun a w₁ => ((loadVar t2 a).run P w₁).andThen fun y w₂ => .ok (.tuple #[x,y,tmps.getD u undef]) w₂ :=by
  simp only[results,h]
  simp[Sem.run_bind,Result.andThen]
 show(results fn tmps).run P w=_
 rw[e,hp,hq,hu]
 simp[asAddr,l1,l2]
end
theorem Uz {P:Program}{ops:Array Oper}{Q:Exit->Act->World->Prop}{a:Act}{w:World}{rest:List Oper}{o:Oper}(hw:Region.wanted o (yielded ops a.tmps)=true)
 (h:wpList P ops Q ({ o with guard:=none } :: rest) a w):wpList P ops Q (o::rest) a w:=by
 unfold wpList at h ⊢
 rw[if_pos hw]
 rw[if_pos (by simp[Region.wanted])] at h
 exact h
end
section
open Go Go.RowKit Go.Maps
theorem U4:Sig.split 2=1:=by decide
theorem Wh (seed:ByteArray)(k:Nat)(hk:k<2):Ev 2 (Sig.leaves seed 2) k=[Sig.leaf seed (1-k)]:=by
 have hl:Sig.leaves seed 2=[Sig.leaf seed 0,Sig.leaf seed 1]:=rfl
 rw[hl]
 rcases(show k=0\/k=1 by omega) with rfl|rfl
 ·unfold Ev
  simp[U4,Ev,Sig.FP]
 ·unfold Ev
  simp[U4,Ev,Sig.FP]
def JG (seed:ByteArray)(key:Nat)(m:ByteArray)(k:Nat):List ByteArray:=(List.range k).map fun c=>Sig.chain key c 0 ((Sig.digits m).getD c 0) (Sig.secret seed key c)
theorem Rs:(Tryz.prog.info? 70).map (·.size)=some 3:=by kernel_rfl
theorem Jj:(Tryz.prog.info? 123).map (·.size)=some 3:=by kernel_rfl
theorem Yj {w:World}{b c k:Nat}(hb:k≠b)(hc:k≠c)(v0 v1 v2 u0 u1 u2:Value):((((((w.setCell ⟨b,0,none⟩ v0).setCell ⟨b,1,none⟩ v1).setCell ⟨b,2,none⟩ v2).setCell ⟨c,0,none⟩ u0).setCell ⟨c,1,none⟩ u1).setCell ⟨c,2,none⟩ u2).drew.heap[k]? = w.heap[k]? :=by
 rw[Ez,zo hc,zo hc,zo hc,zo hb,zo hb,zo hb]
theorem Yk (seed m:ByteArray)(nx:Nat)(w:World)(hs:seed.size=32)(hn:nx<2)(hm:m.size<=140737488350000):
 Calls Tryz.prog 99 #[.agg #[.string seed,.int .i64 1,.int .i64 nx],.string m] w fun e w' => ∃ cv pv,e=.returned (.tuple #[.agg #[.int .i64 nx,cv,pv],.agg #[.string seed,.int .i64 1,.int .i64 ((nx+1:Nat):Int)],.int .i64 0])/\w'.ownsRow w.heap.size 9 1 cv 67 ((Sig.BH seed nx m).chains.map Value.string)/\w'.ownsRow w.heap.size 9 1 pv 1 ((Sig.BH seed nx m).path.map Value.string)/\Below w.heap.size w w':=by
 go_enter Tryz.func99,Tryz.ntmps99
 go_wp2_with fail
 have ha:=At.new w 123 #[.string seed,.int .i64 1,.int .i64 nx]
 have hb1:Below w.heap.size w (w.alloc (.cells #[.string seed,.int .i64 1,.int .i64 nx] 123)):=zb
 have hn1:(w.alloc (.cells #[.string seed,.int .i64 1,.int .i64 nx] 123)).heap.size=w.heap.size+1:=by simp
 have h2:=At.new (w.alloc (.cells #[.string seed,.int .i64 1,.int .i64 nx] 123)) 70 #[.int .i64 0,.slice none 0 0,.slice none 0 0]
 have h3:=At.new ((w.alloc (.cells #[.string seed,.int .i64 1,.int .i64 nx] 123)).alloc (.cells #[.int .i64 0,.slice none 0 0,.slice none 0 0] 70)) 123 #[.string ⟨#[]⟩,.int .i64 0,.int .i64 0]
 have hv:=fun W=>MF seed nx W hs (by omega)
 have HV:=zh hv;clear hv
 refine(HV.out _).mono ?_
 rintro e w2 ⟨rfl,hb⟩
 have hs3:(((w.alloc (.cells #[.string seed,.int .i64 1,.int .i64 nx] 123)).alloc (.cells #[.int .i64 0,.slice none 0 0,.slice none 0 0] 70)).alloc (.cells #[.string ⟨#[]⟩,.int .i64 0,.int .i64 0] 123)).heap.size=w.heap.size+3:=by simp
 have hb2:Below w.heap.size w w2:=(((hb1.alloc hb1.size _).alloc (by simp;omega) _)).trans (hb.mono (by omega))
 have a0:At w2 w.heap.size 123 #[.string seed,.int .i64 1,.int .i64 nx]:=(((ha.below zb (by omega)).below zb (by simp;omega))).below hb (by omega)
 have a1:At w2 (w.heap.size+1) 70 #[.int .i64 0,.slice none 0 0,.slice none 0 0]:=by
  rw[hn1] at h2
  exact(h2.below zb (by simp)).below hb (by omega)
 have a2:At w2 (w.heap.size+1+1) 123 #[.string ⟨#[]⟩,.int .i64 0,.int .i64 0]:=by
  have:((w.alloc (.cells #[.string seed,.int .i64 1,.int .i64 nx] 123)).alloc (.cells #[.int .i64 0,.slice none 0 0,.slice none 0 0] 70)).heap.size=w.heap.size+1+1:=by simp
  rw[this] at h3
  exact h3.below hb (by omega)
 have hz2:w.heap.size+3<=w2.heap.size:=by rw[<- hs3];exact hb.size
 have HB2:=zh hb2;have A0:=zh a0;have A1:=zh a1;have A2:=zh a2
 clear hb hb1 hb2 ha h2 h3 hs3 hn1
 obtain⟨c0,c1,c2⟩:=a0.c3
 clear a0 a1 a2
 have d1:((nx:Int)==2)=false:=by rw[beq_eq_false_iff_ne];omega
 go_wp2
 refine Lex.zl ?_
 go_wp2
 refine Lex.ze ?_
 go_wp2_with fail
 have hS:=At.new w2 70 #[.int .i64 nx,.slice none 0 0,.slice none 0 0]
 have hbS:Below w2.heap.size w2 (w2.alloc (.cells #[.int .i64 nx,.slice none 0 0,.slice none 0 0] 70)).drew:=zb.drew
 have hzS:(w2.alloc (.cells #[.int .i64 nx,.slice none 0 0,.slice none 0 0] 70)).drew.heap.size=w2.heap.size+1:=by simp
 have hS' : At (w2.alloc (.cells #[.int .i64 nx,.slice none 0 0,.slice none 0 0] 70)).drew w2.heap.size 70 #[.int .i64 nx,.slice none 0 0,.slice none 0 0]:=hS
 have HS:=zh hS'
 have HBS:=zh hbS
 clear hS hS' hbS
 generalize (w2.alloc (.cells #[.int .i64 nx,.slice none 0 0,.slice none 0 0] 70)).drew=w3 at*
 refine(Tv m w3 hm).mono ?_
 rintro e w4 ⟨dv,rfl,hdo,hb4⟩
 have HS4:=zh (HS.out.below hb4 (by omega));have HB4:=zh (HBS.out.trans (hb4.mono (by omega)));have HD4:=zh hdo
 have hz4:=hb4.size
 clear hb4 hdo HS HBS
 go_wp2_with fail
 obtain⟨g,zbk,hdv,hdc⟩:=Ct HD4.out (by omega)
 have hgu:=Ak HD4.out g (by rw[hdv];rfl)
 have hgl:g<w4.heap.size:=by
  obtain⟨cur,hc⟩:=Db HD4.out (g:=g) (by rw[hdv];rfl)
  exact At.lt hc
 subst hdv
 have HDC:=zh hdc
 have hA4:At w4 w.heap.size 123 #[.string seed,.int .i64 1,.int .i64 nx]:=A0.out.below HB4.out (by omega)
 have HA4:=zh hA4
 obtain⟨S,hSS⟩:∃ S,S=w2.heap.size:=⟨_,rfl⟩
 rw[<- hSS] at HS4 hz2 hzS ⊢
 have HSS:=zh hSS
 clear hdc hA4 c0 c1 c2 hSS
 go_loopw [9] (fun i wr=>∃ k:Nat,k<=67/\i=.int .i64 k/\∃ cv,At wr S 70 #[.int .i64 nx,cv,.slice none 0 0]/\wr.ownsRow w4.heap.size 9 1 cv k ((JG seed nx m k).map Value.string)/\Fr (fun j=>j=S) w4 wr) (fun i _=>67-(intOf i).toNat)
 case atStart=>exact⟨0,by omega,rfl,_,HS4.out,World.ownsRow_nil _ _ _ _,Fr.refl _ _⟩
 case round=>
  obtain⟨k0,hk,rfl,cv,hat,ho,hfr⟩:=hrel
  have hfz:=hfr.size
  have ha0:At wr w.heap.size 123 #[.string seed,.int .i64 1,.int .i64 nx]:=hfr.at HA4.out (by omega)
  obtain⟨ca,k,cc,rfl⟩:=Ac ho
  obtain rfl:=Ba ho
  have HAT:=zh hat;have HO:=zh ho;have HFR:=zh hfr;have HA0:=zh ha0
  have c0:=ha0.cell 0;have c1:=ha0.cell 1;have c2:=ha0.cell 2;have s1:=hat.cell 1
  simp only[zg] at c0 c1 c2 s1
  clear ho hat hfr ha0
  by_cases hlt:k<67
  ·have dk:decide ((k:Int)<67)=true:=by simp;omega
   have hdl:k<(Sig.digits m).length:=by rw[Sig.QM];omega
   have hd0:w4.cell? ⟨g,k,none⟩=some (.int .i64 (((Sig.digits m).getD k 0:Nat):Int)):=HDC.out k _ (by unfold Ii;rw[List.getElem?_map,List.getElem?_eq_getElem hdl,List.getD_eq_getElem?_getD,List.getElem?_eq_getElem hdl];rfl)
   have hd:wr.cell? ⟨g,k,none⟩=some (.int .i64 (((Sig.digits m).getD k 0:Nat):Int)):=by rw[Kl (a:=⟨g,k,none⟩) (HFR.out.keep g hgl (by omega))];exact hd0
   have vN:=Sig.QN m k
   have hch:JG seed nx m (k+1)=JG seed nx m k++[Sig.chain nx k 0 ((Sig.digits m).getD k 0) (Sig.secret seed nx k)]:=Gz _ _
   obtain⟨d,hdd⟩:∃ d,d=(Sig.digits m).getD k 0:=⟨_,rfl⟩
   rw[<- hdd] at hd vN hch
   have HCH:=zh hch
   clear hdl hd0 hdd hch
   go_wp2
   refine Lex.zn (fun j=>j=S\/j=w.heap.size\/j=g) [1,3,8] 17 [15,1] ?_
   simp only[Lex.Bp,zd]
   go_wp2_with fail
   have hSl:S<wr.heap.size:=HAT.out.lt
   have hDl:w.heap.size<wr.heap.size:=HA0.out.lt
   refine(KI seed nx k wr.drew (by omega) (by omega) (by omega)).mono ?_
   rintro e w5 ⟨rfl,hb5⟩
   have Wi:∀ j,(j=S\/j=w.heap.size\/j=g)->w5.heap[j]? = wr.drew.heap[j]? :=fun j hj=>hb5.block j (by show j<wr.heap.size;omega)
   have TF : Below wr.heap.size wr w5:=((Below.refl wr.heap.size wr).drew).trans hb5
   have HB5:=zh TF;clear hb5 TF
   have hxz:=Sig.GY seed nx k
   obtain⟨x,hx⟩:∃ x,x=Sig.secret seed nx k:=⟨_,rfl⟩
   rw[<- hx] at hxz HCH ⊢
   clear hx
   go_wp2
   refine Lex.Mid.intro (fun j hj _=>Wi j hj) ?_
   go_wp2_with fail
   refine(show Calls Tryz.prog 154 #[.int .i64 nx,.int .i64 k,.int .i64 0,.int .i64 d,.string x] w5 _ from Pf nx k 0 d d x w5 (by omega) (by omega) (by omega) (by omega) (by omega)).mono ?_
   rintro e w6 ⟨rfl,hb6⟩
   have hz5:=HB5.out.size
   have iC:∀ j,(j=S\/j=w.heap.size\/j=g)->w6.heap[j]? = wr.drew.heap[j]? :=fun j hj=>(hb6.block j (by omega)).trans (Wi j hj)
   have HB6:=zh (HB5.out.trans (hb6.mono hz5));clear hb6
   obtain⟨y,hy⟩:∃ y,y=Sig.chain nx k 0 d x:=⟨_,rfl⟩
   rw[<- hy] at HCH ⊢
   clear hy
   have HO6:=zh (own_below HO.out HB6.out)
   have Di:At w6 S 70 #[.int .i64 nx,.slice ca k cc,.slice none 0 0]:=HAT.out.below HB6.out hSl
   have s6:=Di.cell 1
   simp only[zg] at s6
   have S6:=zh s6
   have Eu:=zh Di;clear Di s6
   go_wp2
   refine Lex.Mid.intro (fun j hj _=>iC j hj) ?_
   have oH:=zh iC
   clear Wi iC
   have zbl:S<w6.heap.size:=Eu.out.lt
   go_wp2_with (at_builtin;go_must (refine Ah Mw rfl _ _ rfl w4.heap.size k (.slice ca k cc) _ rfl (HO6.out.alloc _) (.slice (some ⟨w6.heap.size,0,none⟩) 1 1) 1 [.string y] rfl (Cx w6 9 #[.string y] 1 1 1 rfl) (by intro u hu;simp at hu;subst hu;rfl) (by omega) (by omega) (by have:=HB6.out.size;simp;omega) ?_);intro v7 w7 ho7 hg7 hx7;obtain⟨va,vm,vc,rfl⟩:=Ac ho7;have zam:some S≠(Value.slice ca k cc).ownBlock:=(fun e=>by have:=Ak HO6.out S e.symm;omega);have Jo:=(Eu.out.alloc (.cells #[.string y] 9)).grown hg7 zam;have z7:=Jo.free 1;have y7:=Jo.cell 1;simp only[zg] at y7;have HO7:=zh ho7;have HG7:=zh hg7;have HX7:=zh hx7;have Oc:=zh Jo;clear ho7 hg7 hx7 Jo)
   have hwS:(w7.setCell ⟨S,1,none⟩ (.slice va vm vc)).ownsRow w4.heap.size 9 1 (.slice va vm vc) (k+1) ((JG seed nx m (k+1)).map Value.string):=by
    rw[HCH.out,List.map_append]
    exact Ae HO7.out (fun j hj=>zo (by have:=Ak HO7.out j hj;show j≠S;omega))
   have vW:Fr (fun j=>j=S) w4 (w7.setCell ⟨S,1,none⟩ (.slice va vm vc)):=by
    have f1:Fr (fun j=>j=S) w4 w6:=HFR.out.trans (Fr.of_below HB6.out |>.mono (fun _ h=>h)) (fun _ h=>.inl h)
    exact((f1.alloc _).grown HG7.out (fun j hj=>.inr (Ak HO6.out j hj))).setCell (.inl rfl) _
   have Wj:=Oc.out.set 1 (.slice va vm vc)
   have HWS:=zh hwS;have zan:=zh vW;have oI:=zh Wj
   clear hwS vW Wj
   refine Lex.zk ⟨⟨.inl rfl,zi s1⟩,⟨.inr (.inl rfl),zi c2⟩,⟨.inr (.inr rfl),zi hd⟩,trivial⟩ ?_
   go_wp2
   exact⟨⟨k+1,by omega,by go_num,_,oI.out,HWS.out,zan.out⟩,by simp[intOf];omega⟩
  ·obtain rfl:k=67:=by omega
   have hinc:=fun(v:Value) (W:World) (h:Al W v (Sig.leaves seed 2)) (hc:Eb v)=>NZ v (Sig.leaves seed 2) nx W h hc (by show 2<=4096;omega) (Rq seed 2) (by show nx<2;omega)
   have hpl:Ev (Sig.leaves seed 2).length (Sig.leaves seed 2) nx=(Sig.BH seed nx m).path:=Wh seed nx hn
   rw[hpl] at hinc
   have hch:JG seed nx m 67=(Sig.BH seed nx m).chains:=rfl
   rw[hch] at HO
   have hlv:=fun W=>KL seed nx W (by omega)
   have hown:∀ (b:Nat) (v:Value) (W:World),W.ownsRow b 9 1 v 2 ((Sig.leaves seed 2).map Value.string)->Al W v (Sig.leaves seed 2):=fun b v W h=>Al.own h
   have hcl:(Sig.BH seed nx m).chains.length=67:=by show((List.range 67).map _).length=67;simp
   have hp1:(Sig.BH seed nx m).path.length=1:=rfl
   obtain⟨CH,rX⟩:∃ CH,CH=(Sig.BH seed nx m).chains:=⟨_,rfl⟩
   obtain⟨PA,oJ⟩:∃ PA,PA=(Sig.BH seed nx m).path:=⟨_,rfl⟩
   rw[<- rX] at HO hcl
   rw[<- oJ] at hp1
   simp only[<- oJ] at hinc
   have zao:=zh rX;have zaq:=zh oJ
   clear rX oJ
   generalize Sig.leaves seed 2=LV at*
   have vX:=zh hinc;have HLV:=zh hlv;have HOWN:=zh hown
   have hSl:S<wr.heap.size:=HAT.out.lt
   have hDl:w.heap.size<wr.heap.size:=HA0.out.lt
   clear hinc hlv hown hpl hch
   go_wp2
   refine Lex.zn (fun j=>j=w.heap.size) [3] 10 [2,3,5] ?_
   simp only[Lex.Bp,zd]
   go_wp2_with fail
   refine(HLV.out _).mono ?_
   rintro e w5 ⟨lv,rfl,hol,hbl⟩
   have hb5:Below wr.heap.size wr w5:=((Below.refl wr.heap.size wr).drew).trans hbl
   have Wi:∀ j,(j=w.heap.size)->w5.heap[j]? = wr.drew.heap[j]? :=fun j hj=>hbl.block j (by show j<wr.heap.size;omega)
   have HB5:=zh hb5;have HOL:=zh hol
   clear hbl hb5 hol
   go_wp2
   refine Lex.Mid.intro (fun j hj _=>Wi j hj) ?_
   have c2' : w5.cell? ⟨w.heap.size,2,none⟩=some (.int .i64 nx):=(HB5.out.cell (p:=⟨w.heap.size,2,none⟩) hDl).trans c2
   go_wp2_with fail
   refine(vX.out lv _ (HOWN.out _ _ _ HOL.out) (Eb.own HOL.out)).mono ?_
   rintro e w6 ⟨pv,rfl,hop,hbp⟩
   obtain⟨pa,pm,pc,rfl⟩:=Ac hop
   obtain rfl:=Ba hop
   have hb6:=HB5.out.trans (hbp.mono HB5.out.size)
   have iC:∀ j,(j=w.heap.size)->w6.heap[j]? = wr.drew.heap[j]? :=fun j hj=>(hbp.block j (by have:=HB5.out.size;omega)).trans (HB5.out.block j (by omega))
   have Di:=HAT.out.below hb6 hSl
   have z6:=Di.free 2;have y6:=Di.cell 2
   simp only[zg] at y6
   have HOP:=zh hop;have HB6:=zh hb6;have Eu:=zh Di;have oH:=zh iC
   have hz5:=HB5.out.size
   clear hop hbp hb6 Di iC Wi
   go_wp2
   refine Lex.Mid.intro (fun j hj _=>oH.out j hj) ?_
   go_wp2
   refine Lex.Mid.intro (fun j hj _=>(zo (by show j≠S;omega)).trans (oH.out j hj)) ?_
   go_wp2
   refine Lex.zk ⟨⟨rfl,zi c2⟩,trivial⟩ ?_
   have Jo:At (w6.setCell ⟨S,2,none⟩ (.slice pa PA.length pc)) S 70 #[.int .i64 nx,.slice ca 67 cc,.slice pa PA.length pc]:=Eu.out.set 2 (.slice pa PA.length pc)
   have iD:Below S w2 (w6.setCell ⟨S,2,none⟩ (.slice pa PA.length pc)):=by
    have zar:Below S w2 w4:=by rw[HSS.out];exact HB4.out
    have hS4:S<w4.heap.size:=HS4.out.lt
    exact((zar.trans (HFR.out.below (B:=S) (by omega) (fun j hj=>Nat.le_of_eq hj.symm))).trans (HB6.out.mono (by omega))).setCell (p:=⟨S,2,none⟩) (Nat.le_refl _) _
   have hoc:(w6.setCell ⟨S,2,none⟩ (.slice pa PA.length pc)).ownsRow w.heap.size 9 1 (.slice ca 67 cc) 67 (CH.map Value.string):=
    Cw (Ae (own_below HO.out HB6.out) (fun j hj=>zo (by have:=Ak HO.out j hj;show j≠S;have:S<w4.heap.size:=HS4.out.lt;omega))) (by have:S<w4.heap.size:=HS4.out.lt;omega)
   have hop:(w6.setCell ⟨S,2,none⟩ (.slice pa PA.length pc)).ownsRow w.heap.size 9 1 (.slice pa PA.length pc) PA.length (PA.map Value.string):=
    Cw (Ae HOP.out (fun j hj=>zo (by have:=Ak HOP.out j hj;show j≠S;omega))) (by omega)
   rw[hp1] at Jo iD hoc hop
   have hS7:S<(w6.setCell ⟨S,2,none⟩ (.slice pa 1 pc)).heap.size:=Jo.lt
   generalize w6.setCell ⟨S,2,none⟩ (.slice pa 1 pc)=w7 at*
   have a0:=A0.out.below iD (by omega);have a1:=A1.out.below iD (by omega);have a2:=A2.out.below iD (by omega)
   have vY:Below w.heap.size w w7:=HB2.out.trans (iD.mono (by omega))
   have Oc:=zh Jo;have HOC:=zh hoc;have vZ:=zh hop;have rY:=zh vY
   have B0:=zh a0;have B1:=zh a1;have B2:=zh a2
   obtain⟨p0,p1,p2⟩:=a0.c3
   clear Jo hoc hop vY a0 a1 a2 iD c0 c1 c2 s1 HAT HA0 HFR HB6 HB5 oH Eu HOP HO HOL vX HLV HOWN HA4 HS4 HDC HD4 A0 A1 A2 HB4 HB2 c2' z6 y6
   have q2:=(B0.out.alloc (.cells #[.string seed,.int .i64 1,.int .i64 nx] 123)).cell 2
   simp only[zg] at q2
   go_wp2_with fail
   have hz8:(w7.alloc (.cells #[.string seed,.int .i64 1,.int .i64 ((nx:Int)+1)] 123)).heap.size=w7.heap.size+1:=World.size_alloc _ _
   have A8:=Oc.out.alloc (.cells #[.string seed,.int .i64 1,.int .i64 ((nx:Int)+1)] 123)
   have B81:=B1.out.alloc (.cells #[.string seed,.int .i64 1,.int .i64 ((nx:Int)+1)] 123)
   have B82:=B2.out.alloc (.cells #[.string seed,.int .i64 1,.int .i64 ((nx:Int)+1)] 123)
   have N8:=At.new w7 123 #[.string seed,.int .i64 1,.int .i64 ((nx:Int)+1)]
   have hb8:Below w.heap.size w (w7.alloc (.cells #[.string seed,.int .i64 1,.int .i64 ((nx:Int)+1)] 123)):=rY.out.alloc rY.out.size _
   have wC:=own_below HOC.out ((Below.refl w7.heap.size w7).alloc (Nat.le_refl _) (.cells #[.string seed,.int .i64 1,.int .i64 ((nx:Int)+1)] 123))
   have wD:=own_below vZ.out ((Below.refl w7.heap.size w7).alloc (Nat.le_refl _) (.cells #[.string seed,.int .i64 1,.int .i64 ((nx:Int)+1)] 123))
   generalize w7.alloc (.cells #[.string seed,.int .i64 1,.int .i64 ((nx:Int)+1)] 123)=w8 at*
   have e0:=A8.cell 0;have e1:=A8.cell 1;have e2:=A8.cell 2
   have f0:=N8.cell 0;have f1:=N8.cell 1;have f2:=N8.cell 2
   have g0:=B81.cell 0;have g1:=B81.cell 1;have g2:=B81.cell 2;have g3:=B81.free 0;have g4:=B81.free 1;have g5:=B81.free 2
   have i0:=B82.cell 0;have i1:=B82.cell 1;have i2:=B82.cell 2;have i3:=B82.free 0;have i4:=B82.free 1;have i5:=B82.free 2
   simp only[zg] at e0 e1 e2 f0 f1 f2 g0 g1 g2 i0 i1 i2
   have A8':=zh A8;have N8':=zh N8;have rZ:=zh B81;have sj:=zh B82;have HB8:=zh hb8;have su:=zh wC;have sw:=zh wD
   clear A8 N8 B81 B82 hb8 wC wD q2 Oc HOC vZ rY B0 B1 B2 p0 p1 p2
   refine Lex.zn (fun j=>j=w7.heap.size) [1] 3 [3] ?_
   simp only[Lex.Bp,zd]
   go_wp2_with fail
   have hz7:w.heap.size+3<=w7.heap.size:=by omega
   refine Lex.Mid.intro (fun j hj _=>by
    subst hj
    rw[Ez,zo (by show w7.heap.size≠w.heap.size+1;omega),zo (by show w7.heap.size≠w.heap.size+1;omega),zo (by show w7.heap.size≠w.heap.size+1;omega)]
    rfl) ?_
   go_wp2
   refine Lex.zk ⟨⟨rfl,zi f0⟩,trivial⟩ ?_
   go_wp2_with fail
   have F1:=((((((rZ.out.set 0 (.int .i64 nx)).set 1 (.slice ca 67 cc)).set 2 (.slice pa 1 pc)).far (p:=⟨w.heap.size+1+1,0,none⟩) (by simp) (.string seed)).far (p:=⟨w.heap.size+1+1,1,none⟩) (by simp) (.int .i64 1)).far (p:=⟨w.heap.size+1+1,2,none⟩) (by simp) (.int .i64 ((nx:Int)+1))).drew
   have F2:=((((((sj.out.far (p:=⟨w.heap.size+1,0,none⟩) (by simp) (.int .i64 nx)).far (p:=⟨w.heap.size+1,1,none⟩) (by simp) (.slice ca 67 cc)).far (p:=⟨w.heap.size+1,2,none⟩) (by simp) (.slice pa 1 pc)).set 0 (.string seed)).set 1 (.int .i64 1)).set 2 (.int .i64 ((nx:Int)+1))).drew
   have hbE:Below w8.heap.size w8 w8:=Below.refl _ _
   refine lg rfl rfl rfl rfl (AJ F1 Tryz.underlying70 rfl Rs) (AJ F2 Tryz.underlying123 rfl Jj) ⟨.slice ca 67 cc,.slice pa 1 pc,rfl,?_,?_,?_⟩
   ·rw[<- zao.out]
    exact Ae su.out (fun j hj=>Yj (by rintro rfl;exact rZ.out.own_ne su.out (by decide) hj) (by rintro rfl;exact sj.out.own_ne su.out (by decide) hj) _ _ _ _ _ _)
   ·rw[<- zaq.out]
    exact Ae sw.out (fun j hj=>Yj (by rintro rfl;exact rZ.out.own_ne sw.out (by decide) hj) (by rintro rfl;exact sj.out.own_ne sw.out (by decide) hj) _ _ _ _ _ _)
   ·exact((((((HB8.out.setCell (p:=⟨w.heap.size+1,0,none⟩) (by simp) _).setCell (p:=⟨w.heap.size+1,1,none⟩) (by simp) _).setCell (p:=⟨w.heap.size+1,2,none⟩) (by simp) _).setCell (p:=⟨w.heap.size+1+1,0,none⟩) (by show w.heap.size<=w.heap.size+1+1;omega) _).setCell (p:=⟨w.heap.size+1+1,1,none⟩) (by show w.heap.size<=w.heap.size+1+1;omega) _).setCell (p:=⟨w.heap.size+1+1,2,none⟩) (by show w.heap.size<=w.heap.size+1+1;omega) _).drew
end
section
open Go
namespace GR
def DK (s:Nat):ByteArray:=⟨(List.replicate 32 s.toUInt8).toArray⟩
end GR
end
section
open Go Go.RowKit Go.Maps
theorem wE (W:World)(g b:Nat)(hb:b<256)(h:At W g 5 #[.int .u8 b]):(convert 66 9 (.slice (some ⟨g,0,none⟩) 1 1)).run Tryz.prog W=.ok (.string ⟨#[b.toUInt8]⟩) W:=by
 have:=run_convert_bytes_arg (P:=Tryz.prog) W 66 5 rfl rfl g 0 1 1 [(b:Int)] rfl (fun i hi=>by
  have:i=0:=by simpa using hi
  subst this
  exact h.cell 0) 9 rfl
 rw[this]
 have e:((b:Int)).toNat.toUInt8=b.toUInt8:=by rw[Int.toNat_natCast]
 first
  | rfl
  | (congr 1;simp[e])
theorem lq (b:Nat):(⟨(Lib.repeatL (⟨#[b.toUInt8]⟩:ByteArray).data.toList 32).toArray⟩:ByteArray)=GR.DK b:=by
 unfold GR.DK
 have:Lib.repeatL (⟨#[b.toUInt8]⟩:ByteArray).data.toList 32=List.replicate 32 b.toUInt8:=by
  first|rfl|(simp[Lib.repeatL])
 rw[this]
theorem aJ (b:Nat)(w:World):Calls Tryz.prog 151 #[.string ⟨#[b.toUInt8]⟩,.int .i64 32] w fun e w' => e=.returned (.string (GR.DK b))/\Below w.heap.size w w' :=
 (Tryz.strings_Repeat_main ⟨#[b.toUInt8]⟩ 32 w (by omega) (by omega) (by show 1*32<=140737488355328;omega) (by show 0<1;omega)).mono fun e w' ⟨he,hb⟩=>⟨by rw[he,lq],hb⟩
theorem MH (b:Nat)(w:World)(hb:b<256):Calls Tryz.prog 98 #[.int .u8 b] w fun e w' => e=.returned (.agg #[.string (GR.DK b),.int .i64 1,.int .i64 0])/\Below w.heap.size w w':=by
 have hrp:=fun W=>aJ b W
 have hcv:=fun W g=>wE W g b hb
 have HRP:=zh hrp;have HCV:=zh hcv;clear hrp hcv
 go_enter Tryz.func98,Tryz.ntmps98
 go_wp2_with fail
 have ha1:At (w.alloc (.cells #[.string ⟨#[]⟩,.int .i64 0,.int .i64 0] 123)) w.heap.size 123 #[.string ⟨#[]⟩,.int .i64 0,.int .i64 0]:=At.new w _ _
 have hb1:Below w.heap.size w (w.alloc (.cells #[.string ⟨#[]⟩,.int .i64 0,.int .i64 0] 123)):=zb
 have hn1:(w.alloc (.cells #[.string ⟨#[]⟩,.int .i64 0,.int .i64 0] 123)).heap.size=w.heap.size+1:=by simp
 rw[<- hn1]
 generalize w.alloc (.cells #[.string ⟨#[]⟩,.int .i64 0,.int .i64 0] 123)=w1 at*
 rw[HCV.out _ _ (At.new _ _ _)]
 go_wp2_with fail
 refine(HRP.out _).mono ?_
 rintro e w2 ⟨rfl,hb2⟩
 have hb3:Below w1.heap.size w1 w2:=Below.trans (b:=_) (by repeat' first|exact Below.refl _ _|refine Below.drew ?_|refine Below.alloc ?_ ?_ _|(simp;done)|(simp;omega)) (hb2.mono (by simp))
 have hlt:=ha1.lt
 have HA2:=zh (ha1.below hb3 hlt);have HB2:=zh (hb1.trans (hb3.mono hb1.size))
 clear ha1 hb1 hb2 hb3
 have z0:w2.frozen? ⟨w.heap.size,0,none⟩=false:=HA2.out.free 0
 have z1:w2.frozen? ⟨w.heap.size,1,none⟩=false:=HA2.out.free 1
 have z2:w2.frozen? ⟨w.heap.size,2,none⟩=false:=HA2.out.free 2
 obtain⟨c0,c1,c2⟩:=HA2.out.c3
 go_wp2_with fail
 have ha3:At (((w2.setCell ⟨w.heap.size,0,none⟩ (.string (GR.DK b))).setCell ⟨w.heap.size,1,none⟩ (.int .i64 1)).setCell ⟨w.heap.size,2,none⟩ (.int .i64 0)) w.heap.size 123 #[.string (GR.DK b),.int .i64 1,.int .i64 0]:=((HA2.out.set 0 _).set 1 _).set 2 _
 refine Ob rfl rfl (AJ ha3 Tryz.underlying123 rfl Jj) ⟨rfl,((HB2.out.setCell (p:=⟨w.heap.size,0,none⟩) (Nat.le_refl _) _).setCell (p:=⟨w.heap.size,1,none⟩) (Nat.le_refl _) _).setCell (p:=⟨w.heap.size,2,none⟩) (Nat.le_refl _) _⟩
namespace Nam
def cuts:List UInt8->List (List UInt8)
 | []=>[[]]
 | c::l=>if c=47 then []::cuts l else (c::(cuts l).headD [])::(cuts l).tail
theorem U5:∀ l:List UInt8,(47:UInt8) ∉ l->cuts l=[l]
 | [],_=>rfl
 | c :: l,h => by
   have h1:c≠47:=fun e=>h (by rw[e];exact List.mem_cons_self)
   have h2:=U5 l (fun hm=>h (List.mem_cons_of_mem _ hm))
   unfold cuts
   rw[if_neg h1,h2]
   rfl
theorem Ym (b:List UInt8):∀ a:List UInt8,(47:UInt8) ∉ a->cuts (a++47::b)=a::cuts b
 | [],_=>by simp[cuts]
 | c :: l,h => by
   have h1:c≠47:=fun e=>h (by rw[e];exact List.mem_cons_self)
   have h2:=Ym b l (fun hm=>h (List.mem_cons_of_mem _ hm))
   have e:cuts (c::(l++47::b))=(c::(cuts (l++47::b)).headD [])::(cuts (l++47::b)).tail:=by rw[cuts,if_neg h1]
   rw[List.cons_append,e,h2]
   rfl
theorem occ_one (s:List UInt8)(i:Nat):Lib.occAt s [47] i=true↔s[i]? = some 47:=by
 unfold Lib.occAt
 rw[<- List.head?_drop]
 cases s.drop i with
 | nil=>simp
 | cons c l=>simp[List.isPrefixOf];exact⟨fun h=>h.symm,fun h=>h.symm⟩
theorem aK:∀ (n:Nat) (l:List UInt8),l.length<=n->Lib.split l [47]=cuts l:=by
 intro n
 induction n with
 | zero =>
   intro l h
   have:l=[]:=List.eq_nil_of_length_eq_zero (by omega)
   subst this
   rfl
 | succ n ih =>
   intro l h
   rcases Lib.index_spec l [47] with ⟨h1,h2⟩|⟨i,h1,h2,h3,h4⟩
   ·have hm : (47 : UInt8) ∉ l :=by
     intro hm
     obtain⟨j,hj⟩:=List.mem_iff_getElem?.1 hm
     have hjl:j<l.length:=(List.getElem?_eq_some_iff.1 hj).1
     have:=h2 j (by omega)
     rw[(occ_one l j).2 hj] at this
     cases this
    rw[U5 l hm]
    unfold Lib.split
    rw[Lib.count_miss h1]
    rfl
   ·have hi:=(occ_one l i).1 h3
    have hil:i<l.length:=(List.getElem?_eq_some_iff.1 hi).1
    have e:l=l.take i++47::l.drop (i+1):=by
     conv=>lhs;rw[<- List.take_append_drop i l]
     rw[List.drop_eq_getElem_cons hil]
     have:=(List.getElem?_eq_some_iff.1 hi).2
     rw[this]
    have hm:(47:UInt8) ∉ l.take i:=by
     intro hm
     obtain⟨j,hj⟩:=List.mem_iff_getElem?.1 hm
     have hjl:j<(l.take i).length:=(List.getElem?_eq_some_iff.1 hj).1
     rw[List.length_take] at hjl
     have hji:j<i:=by omega
     rw[List.getElem?_take_of_lt hji] at hj
     have:=h4 j hji
     rw[(occ_one l j).2 hj] at this
     cases this
    have e2:cuts l=l.take i::cuts (l.drop (i+1)):=by
     conv=>lhs;rw[e]
     exact Ym _ _ hm
    have hne:¬ ((Lib.index l [47] == -1)=true):=by rw[h1,beq_iff_eq];omega
    have ih2:=ih (l.drop (i+1)) (by rw[List.length_drop];omega)
    rw[e2,<- ih2]
    unfold Lib.split
    rw[Lib.count_hit (by simp) h1,Nat.add_comm 1]
    conv=>lhs;unfold Lib.splitK
    rw[if_neg hne,h1]
    simp
end Nam
def Il (w:World):Prop:=∃ m:Int,w.cell? ⟨0,0,none⟩=some (.int .i64 m)
theorem Il.below {w w' : World}(h:Il w)(hb:Below w.heap.size w w'):Il w':=by
 obtain⟨m,h⟩:=h
 exact⟨m,(hb.cell (p:=⟨0,0,none⟩) (block_lt h)).trans h⟩
end
section
open Go
namespace Own
def dV (l:List UInt8):Bool:=(Nam.cuts l).all fun p => !p.isEmpty
def BI (s:ByteArray):Bool:=decide (1<=s.size)&&decide (s.size<=64)&&dV s.data.toList
def dK:Bool->List UInt8->Bool
 | f,[] => !f
 | f,c::l=>if c=47 then !f&&dK true l else dK false l
theorem zc7 (l:List UInt8):(dV l=dK true l)/\(Nam.cuts l).tail.all (fun p => !p.isEmpty)=dK false l:=by
 induction l with
 | nil=>exact⟨rfl,rfl⟩
 | cons c l ih =>
   by_cases h:c=47
   ·subst h
    have e:Nam.cuts (47::l)=[]::Nam.cuts l:=by simp[Nam.cuts]
    constructor
    ·unfold dV dK
     rw[e]
     simp
    ·rw[e,List.tail_cons]
     unfold dK
     rw[if_pos rfl]
     show dV l=_
     rw[ih.1]
     rfl
   ·have e:Nam.cuts (c::l)=(c::(Nam.cuts l).headD [])::(Nam.cuts l).tail:=by rw[Nam.cuts,if_neg h]
    constructor
    ·unfold dV dK
     rw[e,if_neg h,List.all_cons]
     simpa using ih.2
    ·rw[e,List.tail_cons]
     unfold dK
     rw[if_neg h]
     exact ih.2
def belongs (s p:ByteArray):Bool:=decide (s=p) || (p.data.toList++[47]).isPrefixOf s.data.toList
end Own
namespace Own
def Aj (a b:ByteArray):Bool:=Op.bytesLess a.toList b.toList
structure Member where
 name:ByteArray
 pub:ByteArray
deriving DecidableEq
structure Space where
 pre:ByteArray
 members:List Member
 threshold:Int
deriving DecidableEq
structure KeyUse where
 pub:ByteArray
 next:Int
deriving DecidableEq
structure Ao where
 count:Int
 spaces:List Space
 keys:List KeyUse
deriving DecidableEq
structure Ai where
 name:ByteArray
 sig:Sig.T
deriving DecidableEq
def Ao.none:Ao:=⟨0,[],[]⟩
def EG (s:ByteArray):Bool:=decide (1<=s.size)&&decide (s.size<=32)
def CX (pre:List Member)(m:Member):Bool:=EG m.name&&Sig.Bn m.pub && !(pre.any fun x=>decide (x.pub=m.pub))&&(match pre.getLast? with|none=>true|some x=>Aj x.name m.name)
def Am:List Member->List Member->Bool
 | _,[]=>true
 | pre,m::l=>CX pre m&&Am (pre++[m]) l
def Co (l:List Member):Bool:=decide (1<=l.length)&&decide (l.length<=8)&&Am [] l
def AX (s:Space):Bool:=BI s.pre&&Co s.members&&decide (1<=s.threshold)&&decide (s.threshold<=s.members.length)
def late:Int:=1099511627776
def Ar {α : Type}(ok : α -> Bool)(lt : α -> α -> Bool):Option α -> List α -> Bool
 | _,[]=>true
 | p,x::l=>ok x&&(match p with|none=>true|some y=>lt y x)&&Ar ok lt (some x) l
def Df (k:KeyUse):Bool:=Sig.Bn k.pub&&decide (0<=k.next)&&decide (k.next<=2^(k.pub.get! 32).toNat)
def Bv (o:Ao):Bool:=decide (0<=o.count)&&decide (o.count<=late)&&decide (o.spaces.length<=64)&&Ar AX (fun x y=>Aj x.pre y.pre) none o.spaces&&Ar Df (fun x y=>Aj x.pub y.pub) none o.keys
def CB (s:ByteArray):Option Space->List Space->Option Space
 | b,[]=>b
 | b,x::l=>CB s (if belongs s x.pre&&(match b with|none=>true|some y=>decide (y.pre.size<x.pre.size)) then some x else b) l
def authority (o:Ao)(s:ByteArray):Option Space:=if Bv o&&BI s then CB s none o.spaces else none
def Bf (K:List KeyUse)(p:ByteArray):Int:=match K.find? fun k=>decide (k.pub=p) with|none=>0|some k=>k.next
def use:List KeyUse->KeyUse->List KeyUse
 | [],x=>[x]
 | k::l,x=>if Aj k.pub x.pub then k::use l x else if k.pub=x.pub then x::l else x::k::l
def find (l:List Member)(n:ByteArray):Option Member:=l.find? fun m=>decide (m.name=n)
def Bl (s:Space)(msg:ByteArray):List ByteArray->List KeyUse->List Ai->Except Int (List KeyUse)
 | _,K,[]=>.ok K
 | seen,K,a :: l => match find s.members a.name with
   | none=>.error 6
   | some m=>if seen.any (fun x=>decide (x=a.name)) then .error 5 else if Sig.verify m.pub msg a.sig then (if a.sig.index<Bf K m.pub then .error 8 else Bl s msg (a.name::seen) (use K ⟨m.pub,a.sig.index+1⟩) l) else .error 18
structure wF where
 name:ByteArray
 pub:ByteArray
 agrees:Bool
deriving DecidableEq
structure lu where
 id:Int
 path:ByteArray
 digest:ByteArray
 opened:Int
 expires:Int
 wG:List wF
deriving DecidableEq
end Own
namespace Own
structure Op where
 kind:Int
 pre:ByteArray
 members:List Member
 threshold:Int
 name:ByteArray
 pub:ByteArray
 Aa:List Ai
def Op.none:Op:=⟨0,⟨#[]⟩,[],0,⟨#[]⟩,⟨#[]⟩,[]⟩
def U7 (op:Op):Bool:=if 3<=op.kind then decide (op.members.length=0)&&decide (op.threshold=0) else Co op.members&&decide (1<=op.threshold)&&decide (op.threshold<=op.members.length)
def opName (op:Op):Bool:=if op.kind=4 then EG op.name&&Sig.Bn op.pub else decide (op.name=⟨#[]⟩)&&decide (op.pub=⟨#[]⟩)
def Eh (op:Op):Bool:=decide (0<=op.kind)&&decide (op.kind<=4)&&BI op.pre&&decide (op.Aa.length<=8)&&U7 op&&opName op
def AV (m:Member):ByteArray:=Cod.text m.name++Cod.text m.pub
def CW (op:Op):ByteArray:=Cod.uns op.kind.toNat++(Cod.text op.pre++(Cod.uns op.members.length++(Cod.cat (op.members.map AV)++(Cod.uns op.threshold.toNat++(Cod.text op.name++Cod.text op.pub)))))
def AZ (o:Ao)(op:Op):ByteArray × Int:=if (decide (0<=o.count)&&decide (o.count<=late)&&Eh op)=true then (Sig.b1 12++(Cod.uns o.count.toNat++CW op),0) else (⟨#[]⟩,1)
def Dq (s:Sig.T):Bool:=decide (0<=s.index)&&decide (s.chains.length=67)&&decide (s.path.length<=6)&&s.chains.all Sig.digest&&s.path.all Sig.digest
def Bw (s:Sig.T):ByteArray:=Cod.uns s.index.toNat++(Cod.texts s.chains++Cod.texts s.path)
def Ay (a:Ai):ByteArray:=Cod.text a.name++Bw a.sig
def Fv (op:Op):Bool:=Eh op&&op.Aa.all fun a=>Dq a.sig
def Dh (op:Op):ByteArray × Int:=if Fv op=true then (CW op++(Cod.uns op.Aa.length++Cod.cat (op.Aa.map Ay)),0) else (⟨#[]⟩,1)
def IL (s:ByteArray):Nat->Nat->Option (List Member × Nat)
 | 0,a=>some ([],a)
 | n + 1,a => match Cod.rdT s a with
   | none=>none
   | some (nm,b) => match Cod.rdT s b with
     | none=>none
     | some (pb,c) => match IL s n c with
       | none=>none
       | some (l,d)=>some (⟨nm,pb⟩::l,d)
def UD (s:ByteArray)(a:Nat):Option (Sig.T × Nat):=match Cod.rdN s a with
 | none=>none
 | some (i,b) => match Cod.Br s b with
   | none=>none
   | some (ch,c) => match Cod.Br s c with
     | none=>none
     | some (pa,d)=>some (⟨i,ch,pa⟩,d)
def MI (s:ByteArray):Nat->Nat->Option (List Ai × Nat)
 | 0,a=>some ([],a)
 | n + 1,a => match Cod.rdT s a with
   | none=>none
   | some (nm,b) => match UD s b with
     | none=>none
     | some (sg,c) => match MI s n c with
       | none=>none
       | some (l,d)=>some (⟨nm,sg⟩::l,d)
def iE (s:ByteArray):Option (Op × Nat):=match Cod.rdN s 0 with
 | none=>none
 | some (k,a1) => match Cod.rdT s a1 with
   | none=>none
   | some (pre,a2) => match Cod.rdN s a2 with
     | none=>none
     | some (n,a3) => if 8 < n then none else match IL s n a3 with
       | none=>none
       | some (ms,a4) => match Cod.rdN s a4 with
         | none=>none
         | some (t,a5) => match Cod.rdT s a5 with
           | none=>none
           | some (nm,a6) => match Cod.rdT s a6 with
             | none=>none
             | some (pb,a7) => match Cod.rdN s a7 with
               | none=>none
               | some (m,a8) => if 8 < m then none else match MI s m a8 with
                 | none=>none
                 | some (aps,a9)=>some (⟨k,pre,ms,t,nm,pb,aps⟩,a9)
def MJ (s:ByteArray):Op × Int:=match iE s with
 | none=>(.none,9)
 | some (op,e)=>if (decide (e=s.size)&&Fv op)=true then (op,0) else (.none,9)
/-! ### what is read has just these bytes -/
theorem Wm (s:ByteArray):s++⟨#[]⟩=s:=by
 apply Sha.BG
 rw[Sha.Bq]
 simp
end Own
theorem UE:∀ x:List UInt8,Op.bytesLess x x=false
 | []=>rfl
 | a :: x => by
   unfold Op.bytesLess
   rw[UE x]
   simp
theorem Yn:∀ x y z:List UInt8,Op.bytesLess x y=true->Op.bytesLess y z=true->Op.bytesLess x z=true
 | _,[],_,h,_=>by unfold Op.bytesLess at h;cases h
 | _,_::_,[],_,h=>by unfold Op.bytesLess at h;cases h
 | [],_::_,_::_,_,_=>rfl
 | a :: x,b :: y,c :: z,h1,h2 => by
   unfold Op.bytesLess at h1 h2 ⊢
   simp only[Bool.or_eq_true,Bool.and_eq_true,decide_eq_true_eq,beq_iff_eq] at h1 h2 ⊢
   rcases h1 with h1|⟨rfl,h1⟩
   ·rcases h2 with h2|⟨rfl,h2⟩
    ·exact .inl (UInt8.lt_trans h1 h2)
    ·exact .inl h1
   ·rcases h2 with h2|⟨rfl,h2⟩
    ·exact .inl h2
    ·exact .inr ⟨rfl,Yn x y z h1 h2⟩
theorem lC:∀ x y:List UInt8,Op.bytesLess x y=false->Op.bytesLess y x=false->x=y
 | [],[],_,_=>rfl
 | [],_::_,h,_=>by unfold Op.bytesLess at h;cases h
 | _::_,[],_,h=>by unfold Op.bytesLess at h;cases h
 | a :: x,b :: y,h1,h2 => by
   unfold Op.bytesLess at h1 h2
   simp only[Bool.or_eq_false_iff,Bool.and_eq_false_iff,decide_eq_false_iff_not,beq_eq_false_iff_ne] at h1 h2
   obtain⟨h1a,h1b⟩:=h1
   obtain⟨h2a,h2b⟩:=h2
   have e:a=b:=UInt8.le_antisymm (UInt8.not_lt.1 h2a) (UInt8.not_lt.1 h1a)
   subst e
   rw[lC x y (h1b.resolve_left (fun h=>h rfl)) (h2b.resolve_left (fun h=>h rfl))]
namespace Own
theorem BP (x:ByteArray):Aj x x=false:=UE _
theorem Dr {x y z:ByteArray}(h1:Aj x y=true)(h2:Aj y z=true):Aj x z=true:=Yn _ _ _ h1 h2
theorem toList_inj {x y:ByteArray}(h:x.toList=y.toList):x=y:=by
 rw[ByteArray.toList_eq,ByteArray.toList_eq] at h
 exact Sha.BG h
theorem iF {x y:ByteArray}(h1:Aj x y=false)(h2:Aj y x=false):x=y:=toList_inj (lC _ _ h1 h2)
section
variable {α : Type} (f : α -> ByteArray)
def Srt (l:List α):Prop:=l.Pairwise fun x y=>Aj (f x) (f y)=true
def posB (t:ByteArray):List α -> Nat
 | []=>0
 | x::l=>if Aj (f x) t then posB t l+1 else 0
def Dj (x : α):List α -> List α
 | []=>[x]
 | y::l=>if Aj (f y) (f x) then y::Dj x l else if f y=f x then x::l else x::y::l
variable {f}
theorem MK (t:ByteArray):∀ l:List α,posB f t l<=l.length
 | []=>Nat.le_refl _
 | x :: l => by
   unfold posB
   split
   ·have:=MK t l;simp;omega
   ·simp
theorem UF (t:ByteArray):∀ (l:List α) (k:Nat) (_:k<posB f t l) (h:k<l.length),Aj (f l[k]) t=true
 | [],k,hk,h=>by cases h
 | x :: l,k,hk,h => by
   unfold posB at hk
   split at hk
   ·rename_i hx
    cases k with
    | zero=>exact hx
    | succ k=>exact UF t l k (by omega) (by simpa using h)
   ·omega
theorem Srt.ge {l:List α}(hs:Srt f l)(t:ByteArray):∀ (k:Nat) (_:posB f t l<=k) (h:k<l.length),Aj (f l[k]) t=false:=by
 induction l with
 | nil=>intro k _ h;cases h
 | cons x l ih =>
   intro k hk h
   unfold posB at hk
   obtain⟨h1,h2⟩:=List.pairwise_cons.1 hs
   split at hk
   ·cases k with
    | zero=>omega
    | succ k=>exact ih h2 k (by omega) (by simpa using h)
   ·rename_i hx
    have hx' : Aj (f x) t=false:=by simpa using hx
    cases k with
    | zero=>exact hx'
    | succ k =>
      have hl:k<l.length:=by simpa using h
      show Aj (f l[k]) t=false
      cases hc:Aj (f l[k]) t with
      | false=>rfl
      | true =>
        have:=Dr (h1 _ (List.getElem_mem hl)) hc
        rw[hx'] at this
        cases this
theorem Pm (t:ByteArray){l:List α}{i:Nat}(hi:i<=l.length)(h1:∀ k (h:k<l.length),k<i->Aj (f l[k]) t=true)(h2:∀ k (h:k<l.length),i<=k->Aj (f l[k]) t=false):i=posB f t l:=by
 have hp:=MK (f:=f) t l
 rcases Nat.lt_trichotomy i (posB f t l) with h|h|h
 ·have a:=UF t l i h (by omega)
  have b:=h2 i (by omega) (Nat.le_refl _)
  rw[a] at b;cases b
 ·exact h
 ·have a:=h1 (posB f t l) (by omega) h
  exfalso
  have key:∀ (l:List α),posB f t l<l.length->∀ (hh:posB f t l<l.length),Aj (f l[posB f t l]) t=false:=by
   intro l
   induction l with
   | nil=>intro h;cases h
   | cons x l ih =>
     intro hlt hh
     by_cases hx:Aj (f x) t=true
     ·have e:posB f t (x::l)=posB f t l+1:=by rw[posB,if_pos hx]
      have hl2:posB f t l<l.length:=by rw[e] at hlt;simpa using hlt
      have:=ih hl2 hl2
      simp only[e,List.getElem_cons_succ]
      exact this
     ·have e:posB f t (x::l)=0:=by rw[posB,if_neg hx]
      simp only[e,List.getElem_cons_zero]
      simpa using hx
  have b:=key l (by omega) (by omega)
  rw[a] at b
  cases b
def Dl (f : α -> ByteArray)(t:ByteArray)(l:List α):Bool:=match l[posB f t l]? with
 | none=>false
 | some y=>decide (f y=t)
theorem MN (x : α):∀ l:List α,Dj f x l=l.take (posB f (f x) l)++x::l.drop (posB f (f x) l+if Dl f (f x) l then 1 else 0)
 | []=>rfl
 | y :: l => by
   by_cases h:Aj (f y) (f x)=true
   ·have e:posB f (f x) (y::l)=posB f (f x) l+1:=by rw[posB,if_pos h]
    have eh:Dl f (f x) (y::l)=Dl f (f x) l:=by unfold Dl;rw[e];rfl
    rw[Dj,if_pos h,MN x l,e,eh,List.take_succ_cons,Nat.add_right_comm,List.drop_succ_cons]
    rfl
   ·have e:posB f (f x) (y::l)=0:=by rw[posB,if_neg h]
    have eh:Dl f (f x) (y::l)=decide (f y=f x):=by unfold Dl;rw[e];rfl
    rw[Dj,if_neg h,e,eh]
    by_cases h2:f y=f x
    ·rw[if_pos h2,decide_eq_true h2];rfl
    ·rw[if_neg h2,decide_eq_false h2];rfl
theorem MW (x : α):∀ (l:List α) (y : α),y∈Dj f x l->y=x\/y∈l
 | [],y,h=>.inl (by simpa [Dj] using h)
 | z :: l,y,h => by
   unfold Dj at h
   split at h
   ·rcases List.mem_cons.1 h with rfl|h
    ·exact .inr List.mem_cons_self
    ·exact(MW x l y h).imp id (List.mem_cons_of_mem _)
   ·split at h
    ·exact(List.mem_cons.1 h).imp id (List.mem_cons_of_mem _)
    ·exact List.mem_cons.1 h
theorem Srt.put (x : α):∀ {l:List α},Srt f l->Srt f (Dj f x l)
 | [],_=>List.pairwise_singleton _ _
 | y :: l,h => by
   obtain⟨h1,h2⟩:=List.pairwise_cons.1 h
   unfold Dj
   split
   ·rename_i hy
    refine List.pairwise_cons.2 ⟨fun z hz=>?_,Srt.put x h2⟩
    rcases MW x l z hz with rfl|hz
    ·exact hy
    ·exact h1 z hz
   ·rename_i hy
    have hy' : Aj (f y) (f x)=false:=by simpa using hy
    split
    ·rename_i he
     exact List.pairwise_cons.2 ⟨fun z hz=>by rw[<- he];exact h1 z hz,h2⟩
    ·rename_i he
     have hxy:Aj (f x) (f y)=true:=by
      cases hc:Aj (f x) (f y) with
      | true=>rfl
      | false=>exact absurd (iF hy' hc) he
     refine List.pairwise_cons.2 ⟨fun z hz=>?_,h⟩
     rcases List.mem_cons.1 hz with rfl|hz
     ·exact hxy
     ·exact Dr hxy (h1 z hz)
theorem IQ {ok : α -> Bool} : ∀ {l:List α} {p:Option α},Ar ok (fun x y=>Aj (f x) (f y)) p l=true->Srt f l/\∀ q,p=some q->∀ x∈l,Aj (f q) (f x)=true
 | [],_,_=>⟨List.Pairwise.nil,fun _ _ _ h=>by cases h⟩
 | y :: l,p,h => by
   have h' : ((ok y&&(match p with|none=>true|some z=>Aj (f z) (f y)))&&Ar ok (fun x y=>Aj (f x) (f y)) (some y) l)=true:=by cases p<;>exact h
   obtain⟨h1,h2⟩:=Bool.and_eq_true_iff.1 h'
   obtain⟨hs,hq⟩:=IQ h2
   refine⟨List.pairwise_cons.2 ⟨hq y rfl,hs⟩,?_⟩
   rintro q rfl x hx
   have hqy:Aj (f q) (f y)=true:=(Bool.and_eq_true_iff.1 h1).2
   rcases List.mem_cons.1 hx with rfl|hx
   ·exact hqy
   ·exact Dr hqy (hq y rfl x hx)
end
theorem EP:∀ (l:List KeyUse) (x:KeyUse),use l x=Dj KeyUse.pub x l
 | [],_=>rfl
 | y::l,x=>by unfold use Dj;rw[EP l x]
theorem LD (p:ByteArray):∀ {l:List KeyUse},Srt KeyUse.pub l->Bf l p=if Dl KeyUse.pub p l then (match l[posB KeyUse.pub p l]? with|none=>0|some k=>k.next) else 0
 | [],_=>rfl
 | y :: l,h => by
   obtain⟨h1,h2⟩:=List.pairwise_cons.1 h
   have ih:=LD p h2
   by_cases hy:Aj y.pub p=true
   ·have e:posB KeyUse.pub p (y::l)=posB KeyUse.pub p l+1:=by rw[posB,if_pos hy]
    have eh:Dl KeyUse.pub p (y::l)=Dl KeyUse.pub p l:=by unfold Dl;rw[e];rfl
    have hn:¬ y.pub=p:=fun e=>by rw[e,BP] at hy;cases hy
    have e2:Bf (y::l) p=Bf l p:=by
     unfold Bf
     rw[List.find?_cons_of_neg (by simpa using hn)]
    rw[e2,ih,eh,e]
    rfl
   ·have e:posB KeyUse.pub p (y::l)=0:=by rw[posB,if_neg hy]
    have eh:Dl KeyUse.pub p (y::l)=decide (y.pub=p):=by unfold Dl;rw[e];rfl
    rw[eh,e]
    by_cases he:y.pub=p
    ·rw[decide_eq_true he]
     unfold Bf
     rw[List.find?_cons_of_pos (by simpa using he)]
     rfl
    ·rw[decide_eq_false he]
     have:l.find? (fun k=>decide (k.pub=p))=none:=by
      rw[List.find?_eq_none]
      intro z hz hp
      have hz2:z.pub=p:=of_decide_eq_true hp
      have h3:=h1 z hz
      rw[hz2] at h3
      exact hy h3
     unfold Bf
     rw[List.find?_cons_of_neg (by simpa using he),this]
     rfl
end Own
end
end Go.Proofs.YtjlmglgmcekmhaaGreatDoor
