/- A range over a function whose iterator looks, between rounds, at objects of one kind. -/
import Derived.OwnWalkIn
import Derived.TacticsInMore
import Derived.LoopNIn
import Derived.LoopIn
import Derived.Lib.Builder
import Derived.Lib.FrozenHead
import Derived.Lib.AppendStr
import Derived.Lib.Split
import Derived.Lib.SplitLaws
import Derived.Laws.EntriesVeiled
import Derived.Maps.RangeWalk
import Derived.StringKeys
import Derived.Test.YtnijhlphcjjpbaaGreatDoorShkOn1
import Derived.Test.YtnijhlphcjjpbaaGreatDoorShkOn7
set_option linter.unusedVariables false
set_option linter.unusedSimpArgs false
set_option maxRecDepth 100000
set_option maxHeartbeats 8000000
namespace Go.Proofs.YtnijhlphcjjpbaaGreatDoor
section
open Go Go.RowKit
def Kept (KT:_root_.Go.Obj->Prop)(W W' : World):Prop:=∀ (k:Nat) (o:_root_.Go.Obj),W.heap[k]? = some o->KT o->W'.heap[k]? = some o
theorem Kept.refl (KT:_root_.Go.Obj->Prop)(W:World):Kept KT W W:=fun _ _ h _=>h
theorem Kept.trans {KT:_root_.Go.Obj->Prop}{A B C:World}(h:Kept KT A B)(k:Kept KT B C):Kept KT A C:=fun i o hi ho=>k i o (h i o hi ho) ho
def TQ (t:TypeId)(o:_root_.Go.Obj):Prop:=∃ cs fz,o=.cells cs t fz
def ZX {β : Type}(KT:_root_.Go.Obj->Prop)(d:Nat)(J : β -> World->Prop)(Jx:Code->World->Prop)(s' : β)(W:World):Exit->Act->World->Prop:=fun e _ W' =>
 (W'.heap[d]? = W.heap[d]? /\ W'.heap[d+1]? = W.heap[d+1]?)/\Kept KT W W' /\ (e=.normal/\J s' W' \/ ∃ c,(e=.ret/\c=.ret\/∃ i,e=.exit i/\c=.exit i)/\Jx c W')
def ZY {β : Type}(J' : β -> World->Prop)(Jx' : World->Prop)(Done : β -> Prop)(e:Ending)(W' : World):Prop:=(∃ v,e=.returned v)/\((∃ s,Done s/\J' s W')\/Jx' W')
def mg {α β : Type}(KT:_root_.Go.Obj->Prop)(F:Fence)(m:Nat)(P:Program)(gf:Nat)(args:Nat->Array Value)(encs : α -> Array Value)(J : β -> World->Prop)(Step : β -> α -> β -> Prop)(Done : β -> Prop)(s0 : β):Prop:=
 ∀ (l : Nat) (J' : β → World → Prop) (Jx' : World → Prop) (W : World),(∀ s W,J' s W → J s W) → (∀ s W W',J' s W → Below W.heap.size W W' → J' s W') →
   (∀ s x s' W,J' s W->Step s x s' -> YieldAt F (m-1) P l (encs x) W (fun e W' => e=.returned (.bool true)/\J' s' W' /\ Kept KT W W' \/ e=.returned (.bool false)/\Jx' W'))->J' s0 W->
   CallsIn F m P gf (args l) W (ZY J' Jx' Done)
theorem J3 {α β : Type}{P:Program}(KT:_root_.Go.Obj->Prop)(hKT:∀ L,¬ KT (.loop L)){n:Nat}{r:Option Nat}{g:Operand}{ps:Array Tmp}{assign body:Code}{Q:Exit->Act->World->Prop}{a:Act}{w:World}{gf:Nat}{pre lb:Array Value}
 (hro:r=none) (hg:a.eval g=.func (.func gf) pre lb) (eg:∀ args w,(callFunc gf args).run P w=.ok (.enter gf args) w) (encs : α -> Array Value) (hps:∀ x,(encs x).size=ps.size)
 (J : β -> World->Prop) (Jx:Code->World->Prop) (Step : β -> α -> β -> Prop) (Done : β -> Prop) (s0 : β)
 (hJb:∀ s W W',J s W->Below W.heap.size W W' -> J s W') (hJl:∀ s W W',J s W->Fr (fun k=>k=w.heap.size+1) W W' -> (∃ L,W.heap[w.heap.size+1]? = some (.loop L))->J s W') (jO:∀ c W W',Jx c W->Fr (fun k=>k=w.heap.size+1) W W' -> Jx c W')
 (h0:J s0 w)
 (hiter:mg KT (Lex.W r) (n-1) P gf (fun l=>pre++(#[.func (.yield l) #[] #[]]++lb)) encs J Step Done s0)
 (XL : ∀ s x s' W,w.heap.size + 1 < W.heap.size → (∃ L,W.heap[w.heap.size + 1]? = some (.loop L)) → W.heap[w.heap.size]? = some (.deferred (some [])) → J s W → Step s x s' →
   assign.wpIn (Lex.W (some (w.heap.size+1))) (n-1-1) P (Exit.then (fun a₁ W₁ => W₁ = W/\∀ W₂,Fr (fun k=>k=w.heap.size+1) W W₂ -> (∃ L,W₂.heap[w.heap.size+1]? = some (.loop L)) -> 
    body.wpIn (Lex.W (some (w.heap.size+1))) (n-1-1) P (ZX KT w.heap.size J Jx s' W₂) a₁ W₂) (fun _ _ _=>False)) { tmps:=(ps.zip (encs x)).foldl (fun t (p,v)=>t.setIfInBounds p v) a.tmps,defers:=[] } W)
 (hdone:∀ s W,Done s->J s W->W.heap[w.heap.size]? = some (.deferred (some []))->Q .normal { a with defers :={ target:=.collected w.heap.size,args:=#[] } :: a.defers } W)
 (hstop:∀ (c:Code) (W:World),Jx c W->W.heap[w.heap.size]? = some (.deferred (some []))->c.wpIn (Lex.W r) n P Q { a with defers :={ target:=.collected w.heap.size,args:=#[] } :: a.defers } W):
 (Code.rangeFunc g ps assign body).wpIn (Lex.W r) n P Q a w:=by
 refine wpIn_rangeFunc ?_
 intro fn hfn
 subst hro
 obtain⟨rec,hrec⟩:∃ rec:LoopState->Option Code->Loop,rec=fun st pe => { state:=st,pending:=pe,fn,tmps:=a.tmps,params:=ps,assign,body,defers:=w.heap.size } :=⟨_,rfl⟩
 obtain⟨W1,hW1⟩:∃ W1,(w.alloc (.deferred (some []))).alloc (.loop (rec .ready none))=W1:=⟨_,rfl⟩
 have hL1:W1.heap[w.heap.size+1]? = some (.loop (rec .ready none)):=by
  rw[<- hW1];have:=World.alloc_heap_new (w.alloc (.deferred (some []))) (.loop (rec .ready none));rwa [World.size_alloc] at this
 have hK1:W1.heap[w.heap.size]? = some (.deferred (some [])):=by
  rw[<- hW1];exact(Below.heap_alloc _ _ _ (by simp)).trans (World.alloc_heap_new w _)
 have hb1:Below w.heap.size w W1:=by
  rw[<- hW1];exact((Below.refl _ w).alloc (Nat.le_refl _) _).alloc (by simp) _
 have hb1' : Below w.heap.size w W1:=hb1
 refine⟨w.heap.size+1,[{ target:=.collected w.heap.size,args:=#[] }],W1,{ target:=.fn (.func gf) lb,args:=pre++#[.func (.yield (w.heap.size+1)) #[] #[]] },W1,gf,
  pre++(#[.func (.yield (w.heap.size+1)) #[] #[]]++lb),W1,?_,?_,fun _ _=>trivial,?_,fun h=>(by cases h),?_⟩
 ·rw[<- hW1,hrec];exact run_enterLoop_outer _ _ _ _ _
 ·simp only[resolve,hg]
  simp[go_sem]
 ·simp[invoke,go_sem,eg]
 ·refine (hiter (w.heap.size + 1) (fun s W' => J s W' ∧ W'.heap[w.heap.size + 1]? = some (.loop (rec .ready none)) ∧ W'.heap[w.heap.size]? = some (.deferred (some [])))
   (fun W' => ∃ c,Jx c W' /\ W'.heap[w.heap.size+1]? = some (.loop (rec .done (some c)))/\W'.heap[w.heap.size]? = some (.deferred (some []))) W1
   (fun s W h=>h.1)
   (fun s W W' h hb=>⟨hJb s W W' h.1 hb,(hb.block _ (Array.getElem?_eq_some_iff.1 h.2.1).1).trans h.2.1,(hb.block _ (Array.getElem?_eq_some_iff.1 h.2.2).1).trans h.2.2⟩) ?_ ⟨hJb s0 w W1 h0 (hb1'),hL1,hK1⟩).mono ?_
  ·rintro s x s' W ⟨hJ,hl,hd⟩ hst
   have hlt:w.heap.size+1<W.heap.size:=(Array.getElem?_eq_some_iff.1 hl).1
   have hy:=run_yield (P:=P) (args:=encs x) hl (by rw[hrec];exact hps x)
   rw[hrec] at hy
   refine⟨fn,_,assign,body,hy,roundIn_of_wpIn hfn (wpIn_mono (XL s x s' W hlt ⟨_,hl⟩ hd hJ hst) ?_)⟩
   rintro e a₁ W₁ he
   cases e with
   | normal =>
     obtain⟨rfl,hbody⟩:=he
     refine⟨_,run_beginRound hl (by rw[hrec]),?_⟩
     have hl2:(W₁.putObj (w.heap.size+1) (.loop { rec .ready none with state:=.busy })).heap[w.heap.size+1]? = some (.loop { rec .ready none with state:=.busy }):=World.putObj_heap_same hlt
     have hd2:(W₁.putObj (w.heap.size+1) (.loop { rec .ready none with state:=.busy })).heap[w.heap.size]? = some (.deferred (some [])):=(World.putObj_heap_other (by omega)).trans hd
     have hm2:Kept KT W₁ (W₁.putObj (w.heap.size+1) (.loop { rec .ready none with state:=.busy })):=fun k o hk ho=>(World.putObj_heap_other (fun e=>by
      rw[e,hl] at hk
      cases hk
      exact hKT _ ho)).trans hk
     refine wpIn_mono (hbody _ (Hu _ _ _) ⟨_,hl2⟩) ?_
     rintro e a3 W3 ⟨hk3,xC,hres⟩
     have hl3:=hk3.2.trans hl2
     have hd3:=hk3.1.trans hd2
     have hm4:∀ o',Kept KT W3 (W3.putObj (w.heap.size+1) o'):=fun o' k o hk ho=>(World.putObj_heap_other (fun e=>by
      rw[e,hl3] at hk
      cases hk
      exact hKT _ ho)).trans hk
     rcases hres with ⟨rfl,hJ3⟩|⟨c,hc,hx⟩
     ·have hr:=run_endRound (P:=P) none hl3
      have hl4:=World.putObj_heap_same (o:=.loop (rec .ready none)) (Array.getElem?_eq_some_iff.1 hl3).1
      have hk4:(W3.putObj (w.heap.size+1) (.loop (rec .ready none))).heap[w.heap.size]? = some (.deferred (some [])):=(World.putObj_heap_other (by omega)).trans hd3
      have hf:=hJl s' _ _ hJ3 (Hu W3 (w.heap.size+1) (.loop (rec .ready none))) ⟨_,hl3⟩
      have hmf:=hm2.trans (xC.trans (hm4 (.loop (rec .ready none))))
      rw[hrec] at hr hl4 hk4 hf hmf
      refine⟨_,_,hr,.inl ⟨rfl,⟨hf,by rw[hrec];exact hl4,hk4⟩,hmf⟩⟩
     ·have hr:=run_endRound (P:=P) (some c) hl3
      have hl4:=World.putObj_heap_same (o:=.loop (rec .done (some c))) (Array.getElem?_eq_some_iff.1 hl3).1
      have hk4:(W3.putObj (w.heap.size+1) (.loop (rec .done (some c)))).heap[w.heap.size]? = some (.deferred (some [])):=(World.putObj_heap_other (by omega)).trans hd3
      have hf:=jO c _ _ hx (Hu W3 (w.heap.size+1) (.loop (rec .done (some c))))
      rw[hrec] at hr hl4 hk4 hf
      rcases hc with ⟨rfl,rfl⟩|⟨i,rfl,rfl⟩
      ·exact⟨_,_,hr,.inr ⟨rfl,.ret,hf,by rw[hrec];exact hl4,hk4⟩⟩
      ·exact⟨_,_,hr,.inr ⟨rfl,.exit i,hf,by rw[hrec];exact hl4,hk4⟩⟩
   | ret=>exact he.elim
   | exit id=>exact he.elim
   | goto t=>exact he.elim
   | panic ch=>exact he.elim
   | outgrown=>exact he.elim
  ·rintro e W2 ⟨⟨v,rfl⟩,⟨s,hD,hJ,hl,hd⟩|⟨c,hi,hl,hd⟩⟩
   ·refine⟨none,_,by have:=run_endLoop (P:=P) hl (by rw[hrec];simp);rw[hrec] at this;exact this,hdone s _ hD (hJl s _ _ hJ (Hu _ _ _) ⟨_,hl⟩) ((World.putObj_heap_other (by omega)).trans hd)⟩
   ·refine⟨some c,_,by have:=run_endLoop (P:=P) hl (by rw[hrec];simp);rw[hrec] at this;exact this,hstop c _ (jO c _ _ hi (Hu _ _ _)) ((World.putObj_heap_other (by omega)).trans hd)⟩
end
section
open Go Go.RowKit Go.Maps
attribute [local go_sem] Oper.semAt_some
def YQ (m:ByteArray)(k:Nat)(x:Nat × Nat)(k' : Nat):Prop:=k<67/\x=(k,(Sig.digits m).getD k 0)/\k' = k+1
theorem dU (r:Option Nat):(Lex.W r).round=r:=rfl
theorem TR (mb n:Nat)(m:ByteArray)(hs:m.size<=9223372036854775000)(J:Nat->World->Prop)(hJ:∀ W,J 0 W->W.cell? ⟨mb,0,none⟩=some (.string m)):
 mg (TQ 3) (Lex.W none) n Tryz.prog 190 (fun l=>#[]++(#[.func (.yield l) #[] #[]]++#[.pointer (some ⟨mb,0,none⟩)])) (fun x:Nat × Nat=>#[.int .i64 x.1,.int .i64 x.2]) J (YQ m) (fun k=>k=67) 0:=by
 intro l J' Jx' W hJJ hJb hY h0
 have hrr:(Lex.W none).round=none:=rfl
 refine callsIn_of_wp Tryz.func190 rfl trivial ?_ rfl
 simp only[Tryz.ntmps190,List.size_toArray,List.length_cons,List.length_nil,Nat.reduceAdd,Nat.reduceSub,Array.replicate_succ,Array.replicate_zero,List.push_toArray,List.append_toArray,List.nil_append,List.cons_append]
 have hc:=hJ _ (hJJ _ _ h0)
 have H0:=zh h0;have HJb:=zh hJb;have HY:=zh hY
 clear hJJ hJ hJb hY h0
 have hcall:=Vq m W hs
 have HC:=zh hcall;clear hcall
 gi_wp2
 refine⟨trivial,fun h=>(by cases h),(Lex.dS HC.out).mono ?_⟩
 rintro e w1 ⟨v,rfl,ho,hb⟩
 obtain⟨g,cap,rfl,hcell⟩:=Dm ho (by omega)
 have hat:∃ cur,At w1 g 3 cur:=DX ho rfl
 obtain⟨cur,hat⟩:=hat
 have hcells:∀ k (hk:k<67),cur[k]? = some (.int .i64 (((Sig.digits m).getD k 0:Nat):Int)):=by
  intro k hk
  rw[<- hat.cell k]
  refine hcell k _ ?_
  unfold Ht
  have hl:=Sig.Io m
  rw[List.getElem?_map,List.getElem?_eq_getElem (by omega),List.getD_eq_getElem?_getD,List.getElem?_eq_getElem (by omega)]
  rfl
 have H1:=zh (HJb.out _ _ _ H0.out hb);have HCE:=zh hcells;have HAT:=zh hat
 clear ho hb hcell hat hcells hc H0 HC
 gi_wp2
 gi_loopw [8] (fun i wr=>∃ k:Nat,k<=67/\i=.int .i64 k/\J' k wr/\At wr g 3 cur) (fun i _=>67-(intOf i).toNat)
 case atStart=>exact⟨0,by omega,rfl,H1.out,HAT.out⟩
 case round=>
  obtain⟨k,hk,rfl,hj,ha⟩:=hrel
  have HJ1:=zh hj;have HA:=zh ha
  clear hj ha H1 HAT
  by_cases hlt:k<67
  ·have dk:decide ((k:Int)<67)=true:=by simp;omega
   have hck:=(HA.out.cell k).trans (HCE.out k hlt)
   obtain⟨d,hd⟩:∃ d,d=(Sig.digits m).getD k 0:=⟨_,rfl⟩
   rw[<- hd] at hck
   obtain⟨fn,tmps,assign,body,hy,hR⟩:=HY.out k (k,d) (k+1) wr HJ1.out ⟨hlt,by rw[hd],rfl⟩
   clear hd
   gi_wp2
   refine⟨fun h=>(by cases h),hR.mono ?_⟩
   rintro e W3 (⟨rfl,hJ3,hk3⟩|⟨rfl,hJx3⟩)
   ·have HJ3:=zh hJ3;have HA3:=zh (hk3 g _ HA.out ⟨cur,(0,0),rfl⟩:At W3 g 3 cur);clear hJ3 hk3 hck
    gi_wp2
    go_roundw
    case rel=>exact⟨k+1,by omega,by go_num,HJ3.out,HA3.out⟩
    case measure=>simp[intOf];omega
   ·gi_wp2
    refine bodyPost_ret (results_none rfl _ _ _) rfl ?_
    exact⟨⟨_,rfl⟩,.inr hJx3⟩
  ·have dk:decide ((k:Int)<67)=false:=by simp;omega
   have rH:k=67:=by omega
   have HK:=zh rH;clear rH
   gi_wp2
   refine bodyPost_end (results_none rfl _ _ _) rfl ⟨⟨_,rfl⟩,.inl ⟨k,HK.out,HJ1.out⟩⟩
end
section
open Go Go.RowKit
theorem Vu:(Tryz.prog.info? 145).map (·.size)=some 2:=by kernel_rfl
theorem dV:liesAt Tryz.prog Tryz.prog.depth 145 (2/Tryz.prog.cellsOf 145) 0 145 1=true:=by kernel_rfl
theorem Ro (b:Nat)(w:World)(h0:w.cell? ⟨b,0,none⟩=some (.pointer (some ⟨b,0,none⟩))):
 Calls Tryz.prog 139 #[.pointer (some ⟨b,0,none⟩)] w fun e w' => e=.returned (.tuple #[])/\w' = w:=by
 obtain⟨j,hj,_⟩:=Option.map_eq_some_iff.1 Vu
 go_enter Tryz.func139,Tryz.ntmps139
 go_wp2
 rw[Lib.run_neq_ptr_same w _ Tryz.underlying143 hj]
 go_wp2
 go_end0
 exact⟨rfl,rfl⟩
theorem PX (b:Nat)(w:World)(h0:w.cell? ⟨b,0,none⟩=some (.pointer none))(hsh:w.shape? b=some (145,2))(hfz:w.frozen? ⟨b,0,none⟩=false):
 Calls Tryz.prog 139 #[.pointer (some ⟨b,0,none⟩)] w fun e w' => e=.returned (.tuple #[])/\w' = w.setCell ⟨b,0,none⟩ (.pointer (some ⟨b,0,none⟩)):=by
 obtain⟨j,hj,hjs⟩:=Option.map_eq_some_iff.1 Vu
 go_enter Tryz.func139,Tryz.ntmps139
 go_wp2
 rw[Lib.run_to_unsafe w ⟨b,0,none⟩ Tryz.underlying143 Tryz.underlying182 hj (by rw[hjs];decide) hsh (Nat.zero_lt_succ 1)]
 simp only[Result.andThen]
 rw[Oper.upon_value]
 go_wp2
 rw[run_callFunc_extern Tryz.func158 (by kernel_rfl) (by kernel_rfl) (by kernel_rfl) (e:=Extern.AbiNoEscape.same) (by kernel_rfl)]
 rw[Lib.run_noEscape]
 simp only[Result.andThen]
 rw[Oper.upon_value]
 go_wp2
 rw[Lib.run_from_unsafe w ⟨b,0,none⟩ Tryz.underlying182 Tryz.underlying143 hj hsh dV]
 simp only[Result.andThen]
 rw[Oper.upon_value]
 go_wp2
 go_end0
 exact⟨rfl,rfl⟩
theorem nQ (w:World):Lib.IsBuilderF 145 5 w.heap.size w.heap.size [] (w.alloc (.cells #[.pointer none,.slice none 0 0] 145)):=
 .inl ⟨Nat.le_refl _,_,heap_alloc_new w _,⟨rfl,.inl ⟨rfl,rfl⟩⟩,by simp[Value.ownBlock]⟩
theorem PY {w w' : World}(h:Below w.heap.size w w'):w.grownBy w' none:=⟨h.os,h.tape,h.output,h.size,fun k hk _=>h.block k hk⟩
theorem Hw {T e:TypeId}{B b:Nat}{p:Value}{bs:List Value}{w w' : World}(h:Lib.BuilderAtF T e B b p bs w)(hb:Below w.heap.size w w'):Lib.BuilderAtF T e B b p bs w':=by
 have hlt:=h.lt
 obtain⟨hB,v,hbk,hown,hne⟩:=h
 exact⟨hB,v,(hb.block _ hlt).trans hbk,hown.kept (PY hb) (by cases hv:v.ownBlock<;>simp),hne⟩
theorem MX {T e:TypeId}{B b:Nat}{bs:List Value}{w w' : World}(h:Lib.IsBuilderF T e B b bs w)(hb:Below w.heap.size w w'):Lib.IsBuilderF T e B b bs w':=h.imp (fun h=>Hw h hb) (fun h=>Hw h hb)
end
section
open Go Go.RowKit Go.Maps
def E9 (w:World)(b:Nat)(X:ByteArray):Prop:=Lib.IsBuilderF 145 5 b b (Lib.strCells X) w
theorem TS (X s:ByteArray):Lib.strCells (X++s)=Lib.strCells X++Lib.strCells s:=by
 unfold Lib.strCells
 rw[Sha.Aw,List.map_append]
theorem E9.below {w w' : World}{b:Nat}{X:ByteArray}(h:E9 w b X)(hb:Below w.heap.size w w'):E9 w' b X:=MX h hb
theorem E9.new (w:World):E9 (w.alloc (.cells #[.pointer none,.slice none 0 0] 145)) w.heap.size ⟨#[]⟩:=nQ w
theorem E9.lt {w:World}{b:Nat}{X:ByteArray}(h:E9 w b X):b<w.heap.size:=by
 rcases h with h|h
 ·exact h.lt
 ·exact h.lt
theorem Rp (B b:Nat)(bs:List Value)(w:World)(h:Lib.IsBuilderF 145 5 B b bs w):
 Calls Tryz.prog 139 #[.pointer (some ⟨b,0,none⟩)] w fun e w' => e=.returned (.tuple #[])/\(Lib.BuilderAtF 145 5 B b (.pointer (some ⟨b,0,none⟩)) bs w' /\ Below B w w')/\Lib.OthersKept 5 (some b) w w':=by
 rcases h with h|h
 ·refine(PX b w h.cell0 h.shape h.frozen0).mono ?_
  rintro e w' ⟨rfl,rfl⟩
  exact⟨rfl,⟨h.used _,(Below.refl B w).setCell (p:=⟨b,0,none⟩) h.1 _⟩,(Lib.OthersKept.refl _ _ _).setCell ⟨b,0,none⟩ rfl _⟩
 ·refine(Ro b w h.cell0).mono ?_
  rintro e w' ⟨rfl,rfl⟩
  exact⟨rfl,⟨h,Below.refl B _⟩,Lib.OthersKept.refl _ _ _⟩
theorem Rq (B b:Nat)(bs:List Value)(s:ByteArray)(w:World)(h:Lib.IsBuilderF 145 5 B b bs w)(hlen:bs.length+s.size<=140737488355328)(hBw:B<=w.heap.size):
 Calls Tryz.prog 115 #[.pointer (some ⟨b,0,none⟩),.string s] w fun e w' => e=.returned (.tuple #[.int .i64 s.size,.nilIface])/\(Lib.IsBuilderF 145 5 B b (bs++Lib.strCells s) w' /\ Below B w w')/\Lib.OthersKept 5 (some b) w w':=by
 obtain⟨i0,hi,hz0,hz1,hz2⟩:=info_parts Im
 go_enter Tryz.func115,Tryz.ntmps115
 go_wp2_with (go_at_call 139;refine(Rp B b bs _ h).mono ?_)
 rintro e w1 ⟨rfl,⟨h1,hb1⟩,hk1⟩
 obtain⟨hB,v,hbk,hown,hne⟩:=h1
 have c0:w1.cell? ⟨b,0,none⟩=some (.pointer (some ⟨b,0,none⟩)):=by rw[Lib.cell_of_heap hbk];rfl
 have c1:w1.cell? ⟨b,1,none⟩=some v:=by rw[Lib.cell_of_heap hbk];rfl
 go_wp2_with (at_builtin;refine Lib.wpList_append_own_stringF _ rfl _ _ 60 9 rfl B 5 i0 Tryz.underlying60 Tryz.underlying9 hi hz0 hz1 hz2 _ _ _ rfl hown s rfl ?c3 ?c4 ?c5 ?_)
 case c3=>unfold maxLen;omega
 case c4=>omega
 case c5=>have:=hb1.size;omega
 intro v' w2 hown' hgrow _
 have hlt:b<w1.heap.size:=by
  rcases Nat.lt_or_ge b w1.heap.size with h' | h'
  ·exact h'
  ·simp[Array.getElem?_eq_none h'] at hbk
 have hb2:w2.heap[b]? = some (.cells #[.pointer (some ⟨b,0,none⟩),v] 145 (0,0)):=by
  rw[hgrow.block b hlt (fun e=>hne e.symm)]
  exact hbk
 have d0:w2.cell? ⟨b,0,none⟩=some (.pointer (some ⟨b,0,none⟩)):=by rw[Lib.cell_of_heap hb2];rfl
 have d1:w2.cell? ⟨b,1,none⟩=some v:=by rw[Lib.cell_of_heap hb2];rfl
 have f1:w2.frozen? ⟨b,1,none⟩=false:=Lib.frozen_of_heap hb2 1
 have hk2:=hk1.grown hgrow (Lib.ownsRowF_kind hown)
 obtain⟨ao,n',cap,rfl⟩:∃ ao n' cap,v' = .slice ao n' cap:=by
  rcases hown'.2 with ⟨hv,_⟩|⟨g,cap,cur,fz,hv,_⟩
  ·exact⟨_,_,_,hv⟩
  ·exact⟨_,_,_,hv⟩
 go_wp2
 go_ret2
 refine⟨rfl,⟨?_,?_⟩,hk2.setCell ⟨b,1,none⟩ rfl _⟩
 ·exact .inr (Lib.BuilderAtF.put (T:=145) (e:=5) hB hb2 (bs':=bs++Lib.strCells s) (by simpa [Lib.strCells_length] using hown') (by decide))
 ·exact(hb1.grown hgrow (by have:=hb1.size;omega) (fun k hk=>(hown.lt k hk).1)).setCell (p:=⟨b,1,none⟩) hB _
theorem xD (b:Nat)(X s:ByteArray)(w:World)(h:E9 w b X)(hl:X.size+s.size<=140737488355328):
 Calls Tryz.prog 115 #[.pointer (some ⟨b,0,none⟩),.string s] w fun e w' => e=.returned (.tuple #[.int .i64 s.size,.nilIface])/\E9 w' b (X++s)/\Below b w w' /\ Lib.OthersKept 5 (some b) w w' :=
 (Rq b b _ s w h (by rw[Lib.strCells_length];exact hl) (Nat.le_of_lt h.lt)).mono fun _ _ ⟨h1,⟨h2,h3⟩,h4⟩=>⟨h1,by unfold E9;rw[TS];exact h2,h3,h4⟩
attribute [local go_sem] Oper.semAt_some dU
theorem Vv (m:ByteArray)(w:World):Calls Tryz.prog 172 #[.string m] w fun e w' => e=.returned (.func (.func 190) #[] #[.pointer (some ⟨w.heap.size,0,none⟩)])/\w' = w.alloc (.cells #[.string m] 9):=by
 go_enter Tryz.func172,Tryz.ntmps172
 go_wp2_with fail
 go_ret
 exact⟨rfl,rfl⟩
theorem E9.loop {w w' : World}{b j:Nat}{X:ByteArray}(h:E9 w b X)(hf:Fr (fun k=>k=j) w w')(hl:∃ L,w.heap[j]? = some (.loop L)):E9 w' b X:=by
 obtain⟨L,hl⟩:=hl
 have hg:w.grownBy w' (some j):=⟨hf.os,hf.tape,hf.output,hf.size,fun k hk hne=>hf.keep k hk (fun e=>hne (by rw[e]))⟩
 have key:∀ p,Lib.BuilderAtF 145 5 b b p (Lib.strCells X) w->Lib.BuilderAtF 145 5 b b p (Lib.strCells X) w':=by
  intro p h
  have hlt:=h.lt
  obtain⟨hB,v,hbk,hown,hne⟩:=h
  refine⟨hB,v,(hg.block b hlt (fun e=>?_)).trans hbk,hown.kept hg (.inr fun e=>?_),hne⟩
  ·cases e
   rw[hl] at hbk
   cases hbk
  ·obtain⟨c,fz,hc⟩:=Lib.ownsRowF_kind hown j e
   rw[hl] at hc
   cases hc
 exact h.imp (key _) (key _)
theorem E9.obj {w:World}{b:Nat}{X:ByteArray}(h:E9 w b X):∃ cs,w.heap[b]? = some (.cells cs 145 (0,0)):=by
 rcases h with ⟨_,v,hbk,_⟩|⟨_,v,hbk,_⟩<;>exact⟨_,hbk⟩
theorem aj (key:Nat)(m:ByteArray)(l:List ByteArray)(k:Nat)(hk:k<67):(Sig.ends key m l).take (k+1)=(Sig.ends key m l).take k++[Sig.chain key k ((Sig.digits m).getD k 0) (15-(Sig.digits m).getD k 0) (l.getD k ⟨#[]⟩)]:=by
 have hl:k<(Sig.ends key m l).length:=by unfold Sig.ends;rw[List.length_map,List.length_range];exact hk
 rw[List.take_succ_eq_append_getElem hl]
 unfold Sig.ends
 simp
structure TT (w2:World) (m:ByteArray) (E:List ByteArray) (k:Nat) (W:World):Prop where
 bld:E9 W w2.heap.size (Cod.cat (E.take k))
 msg:At W (w2.heap.size+1) 9 #[.string m]
 bel:Below w2.heap.size w2 W
theorem TT.below {w2 W W' : World}{m:ByteArray}{E:List ByteArray}{k:Nat}(h:TT w2 m E k W)(hb:Below W.heap.size W W'):TT w2 m E k W':=⟨h.bld.below hb,h.msg.below hb h.msg.lt,h.bel.trans (hb.mono h.bel.size)⟩
theorem TT.loop {w2 W W' : World}{m:ByteArray}{E:List ByteArray}{k j:Nat}(h:TT w2 m E k W)(hj:w2.heap.size+1<j)(hf:Fr (fun i=>i=j) W W')(hl:∃ L,W.heap[j]? = some (.loop L)):TT w2 m E k W' :=
 ⟨h.bld.loop hf hl,h.msg.keep (hf.keep _ h.msg.lt (by omega)),h.bel.trans (hf.below h.bel.size (fun k hk=>by have e:k=j:=hk;omega))⟩
theorem PZ (l:List ByteArray)(h:∀ x∈l,x.size=32):(Cod.cat l).size=32*l.length:=by
 induction l with
 | nil=>rfl
 | cons x l ih =>
   show(x++Cod.cat l).size=_
   rw[ByteArray.size_append,ih (fun y hy=>h y (List.mem_cons_of_mem _ hy)),h x List.mem_cons_self,List.length_cons]
   omega
theorem FY {F:Fence}{n:Nat}{P:Program}{fn:Func}{R:Ending->World->Prop}{tmps:Array Value}{w:World}{v:Value}(h:(results fn tmps).run P w=.ok v w)(hq:R (.returned v) w):bodyPostM F n P fn R Exit.ret { tmps:=tmps,defers:=[] } w:=⟨v,h,hq⟩
theorem ak {F:Fence}{n:Nat}{P:Program}{fn:Func}{R:Ending->World->Prop}{tmps:Array Value}{w:World}{v:Value}{r:Nat}(hd:w.heap[r]? = some (.deferred (some [])))(h:(results fn tmps).run P (w.putObj r (.deferred none))=.ok v (w.putObj r (.deferred none)))(hq:R (.returned v) (w.putObj r (.deferred none))):
 bodyPostM F n P fn R Exit.ret { tmps:=tmps,defers:=[{ target:=.collected r,args:=#[] }] } w:=
 ⟨by simp,.inl ⟨r,_,rfl,run_takeDeferred hd,v,h,hq⟩⟩
theorem Vw (pub m:ByteArray)(s:Sig.T)(cv pv:Value)(w:World)(hc:AO w cv s.chains)(hp:AO w pv s.path)(hcap:EY pv)(hl:s.chains.length<=140737488355328)(hpl:s.path.length<=140737488355328)(hm:m.size<=9223372036854775000):
 Calls Tryz.prog 153 #[.string pub,.string m,.agg #[.int .i64 s.index,cv,pv]] w fun e w' => e=.returned (.bool (Sig.verify pub m s))/\Below w.heap.size w w':=by
 obtain⟨R,hR⟩:∃ R,R=Sig.verify pub m s:=⟨_,rfl⟩
 rw[<- hR]
 unfold Sig.verify at hR
 obtain⟨ca,cc,rfl⟩:=hc.len
 obtain⟨pa,pc,rfl⟩:=hp.len
 have HR:=zh hR;have HC:=zh hc;have HP:=zh hp;have HCAP:=zh hcap
 clear hR hc hp hcap
 refine(callsIn_wide (n:=9)).1 ?_
 refine callsIn_of_wp_marks Tryz.func153 rfl trivial ?_ rfl
 simp only[Tryz.ntmps153,List.size_toArray,List.length_cons,List.length_nil,Nat.reduceAdd,Nat.reduceSub,Array.replicate_succ,Array.replicate_zero,List.push_toArray,List.append_toArray,List.nil_append,List.cons_append]
 refine wpIn_wide.2 ?_
 have hb1:Below w.heap.size w (w.alloc (.cells #[.int .i64 s.index,.slice ca s.chains.length cc,.slice pa s.path.length pc] 41)):=zb
 have ha1:At (w.alloc (.cells #[.int .i64 s.index,.slice ca s.chains.length cc,.slice pa s.path.length pc] 41)) w.heap.size 41 #[.int .i64 s.index,.slice ca s.chains.length cc,.slice pa s.path.length pc]:=At.new w _ _
 have HB1:=zh hb1;have HA1:=zh ha1
 clear hb1 ha1
 obtain⟨c0,c1,c2⟩:=HA1.out.c3
 by_cases h33:pub.size=33
 case neg=>
  have d1:((pub.size:Int) != 33)=true:=by rw[bne_iff_ne];omega
  have hx:R=false:=by rw[HR.out];unfold Sig.BJ;rw[decide_eq_false h33];rfl
  have HX:=zh hx;clear hx
  go_wp2_with fail
  refine FY (results_tmp rfl _ _ _) ?_
  exact⟨by rw[HX.out];rfl,HB1.out⟩
 have d1:((pub.size:Int) != 33)=false:=by rw[bne_eq_false_iff_eq];omega
 have h32:32<pub.size:=by omega
 have hg:pub.get! 32=pub[32]:=getElem!_pos pub.data 32 h32
 have hxl:pub[32].toNat<256:=pub[32].toNat_lt
 rw[hg] at HR
 by_cases h6:pub[32].toNat<=6
 case neg=>
  have d2:decide ((6:Int)<(pub[32].toNat:Int))=true:=zt
  have hx:R=false:=by
   rw[HR.out]
   have:Sig.BJ pub=false:=by unfold Sig.BJ;rw[hg,decide_eq_false h6];simp
   rw[this];rfl
  have HX:=zh hx;clear hx
  go_wp2_with fail
  refine FY (results_tmp rfl _ _ _) ?_
  exact⟨by rw[HX.out];rfl,HB1.out⟩
 have d2:decide ((6:Int)<(pub[32].toNat:Int))=false:=zf
 have dW:Sig.BJ pub=true:=by unfold Sig.BJ;rw[hg,decide_eq_true h33,decide_eq_true h6];rfl
 obtain⟨N,hN⟩:∃ N:Nat,N=2^pub[32].toNat:=⟨_,rfl⟩
 have xE:N<=64:=by
  rw[hN]
  exact Nat.le_trans (Nat.pow_le_pow_right (by omega) h6) (by decide)
 have hN0:0<N:=by rw[hN];exact Nat.two_pow_pos _
 have hsh:wrap64 ((2:Int)^pub[32].toNat)=(N:Int):=by
  have:((2:Int)^pub[32].toNat)=((2^pub[32].toNat:Nat):Int):=(Int.natCast_pow 2 _).symm
  rw[this,<- hN]
  unfold wrap64
  omega
 have hR2:R=(decide (0<=s.index)&&decide (s.index<(N:Int))&&decide (s.chains.length=67)&&s.chains.all Sig.digest&&Sig.included (Sig.EH (Sig.ends s.index.toNat m s.chains)) s.index N s.path (pub.extract 0 32)):=by
  have:((2:Int)^pub[32].toNat)=(N:Int):=by rw[hN];exact(Int.natCast_pow 2 _).symm
  rw[HR.out,dW,this]
  simp
 have HR2:=zh hR2;have HSH:=zh hsh
 clear hR2 dW hN hsh
 go_upto_region 4 with fail
 rw[HSH.out]
 have hlw:w.heap.size<(w.alloc (.cells #[.int .i64 s.index,.slice ca s.chains.length cc,.slice pa s.path.length pc] 41)).heap.size:=by simp
 have HC1:=zh (HC.out.below HB1.out);have HP1:=zh (HP.out.below HB1.out)
 generalize w.alloc (.cells #[.int .i64 s.index,.slice ca s.chains.length cc,.slice pa s.path.length pc] 41)=w1 at*
 by_cases i1:s.index<0
 ·have e1:decide (s.index<0)=true:=decide_eq_true i1
  have hx:R=false:=by rw[HR2.out,zf];rfl
  have HX:=zh hx;clear hx
  go_wp2_with fail
  refine FY (results_tmp rfl _ _ _) ?_
  exact⟨by rw[HX.out];rfl,HB1.out⟩
 have e1:decide (s.index<0)=false:=decide_eq_false i1
 by_cases i2:(N:Int)<=s.index
 ·have e2:decide ((N:Int)<=s.index)=true:=decide_eq_true i2
  have hx:R=false:=by rw[HR2.out,decide_eq_false (p:=s.index<(N:Int)) (by omega)];simp
  have HX:=zh hx;clear hx
  go_wp2_with fail
  refine FY (results_tmp rfl _ _ _) ?_
  exact⟨by rw[HX.out];rfl,HB1.out⟩
 have e2:decide ((N:Int)<=s.index)=false:=decide_eq_false i2
 by_cases i3:s.chains.length=67
 case neg=>
  have e3:((s.chains.length:Int) != 67)=true:=by rw[bne_iff_ne];omega
  have hx:R=false:=by rw[HR2.out,decide_eq_false i3];simp
  have HX:=zh hx;clear hx
  go_wp2_with fail
  refine FY (results_tmp rfl _ _ _) ?_
  exact⟨by rw[HX.out];rfl,HB1.out⟩
 have e3:((s.chains.length:Int) != 67)=false:=by rw[bne_eq_false_iff_eq];omega
 have I3:=zh i3;clear i3
 go_wp2_with fail
 refine(NK 171 #[] Tryz.call171 (fun x => !Sig.digest x) _ s.chains _ (fun W x=>XE x W) HC1.out hl).mono ?_
 rintro e _ ⟨rfl,q,rfl⟩
 rw[NM]
 have hbq:Below w1.heap.size w1 (w1.drewN q):=below_drewN (Below.refl _ _) q
 have HB2:=zh (HB1.out.trans (hbq.mono HB1.out.size));have HA2:=zh (HA1.out.below hbq HA1.out.lt);have HC2:=zh (HC1.out.below hbq);have HP2:=zh (HP1.out.below hbq)
 clear hbq c0 c1 c2 HC1 HP1 HA1 HB1
 generalize w1.drewN q=w2 at*
 cases hall:s.chains.all Sig.digest with
 | false =>
   have hx:R=false:=by rw[HR2.out,hall];simp
   have HX:=zh hx;clear hx hall
   go_wp2_with fail
   refine FY (results_tmp rfl _ _ _) ?_
   exact⟨by rw[HX.out];rfl,HB2.out⟩
 | true=>
 have hR3:R=Sig.included (Sig.EH (Sig.ends s.index.toNat m s.chains)) s.index N s.path (pub.extract 0 32):=by
  rw[HR2.out,hall,decide_eq_true I3.out,decide_eq_true (p:=0<=s.index) (by omega),decide_eq_true (p:=s.index<(N:Int)) (by omega)]
  rfl
 have mh:∀ x∈s.chains,x.size=32:=fun x hx=>of_decide_eq_true (List.all_eq_true.1 hall x hx)
 have HR3:=zh hR3;have Vx:=zh mh
 clear hR3 hall mh HR HR2
 go_wp2_with fail
 refine(Vv m _).mono ?_
 rintro e w3 ⟨rfl,rfl⟩
 go_wp2_with fail
 have hpw:w.heap.size<w2.heap.size:=HA2.out.lt
 have hj0:TT w2 m (Sig.ends s.index.toNat m s.chains) 0 ((w2.alloc (.cells #[.pointer none,.slice none 0 0] 145)).alloc (.cells #[.string m] 9)):=
  ⟨E9.below (E9.new w2) zb,At.new1 w2 _ _ _,zb.alloc (by simp) _⟩
 have hs4:((w2.alloc (.cells #[.pointer none,.slice none 0 0] 145)).alloc (.cells #[.string m] 9)).heap.size=w2.heap.size+2:=by simp
 have hEl:(Sig.ends s.index.toNat m s.chains).length=67:=by unfold Sig.ends;rw[List.length_map,List.length_range]
 have hEz:∀ x∈Sig.ends s.index.toNat m s.chains,x.size=32:=by
  intro x hx
  unfold Sig.ends at hx
  obtain⟨c,hc,rfl⟩:=List.mem_map.1 hx
  have hc:=List.mem_range.1 hc
  refine Sig.Gi _ _ _ _ _ ?_
  rw[List.getD_eq_getElem?_getD,List.getElem?_eq_getElem (by have:=I3.out;omega)]
  exact Vx.out _ (List.getElem_mem _)
 have HJ0:=zh hj0;have HS4:=zh hs4;have HEL:=zh hEl;have HEZ:=zh hEz
 clear hj0 hs4 hEl hEz
 generalize (w2.alloc (.cells #[.pointer none,.slice none 0 0] 145)).alloc (.cells #[.string m] 9)=w4 at*
 have hs4:=HS4.out
 have hrr:Fence.wide.round=none:=rfl
 refine(wpIn_wide (n:=9)).1 ?_
 refine J3 (TQ 3) (fun L h=>by obtain⟨_,_,h⟩:=h;cases h) (r:=none) rfl rfl (enters_of Tryz.func190 (by kernel_rfl) rfl) (fun x:Nat × Nat=>#[.int .i64 x.1,.int .i64 x.2]) (fun _=>rfl)
  (TT w2 m (Sig.ends s.index.toNat m s.chains)) (fun _ _=>False) (YQ m) (fun k=>k=67) 0 ?hJb ?hJl ?jO ?h0 ?hiter ?XL ?hdone ?hstop
 case hJb=>exact fun k W W' h hb=>h.below hb
 case hJl=>exact fun k W W' h hf hl=>h.loop (by omega) hf hl
 case jO=>exact fun c W W' h _=>h
 case h0=>exact HJ0.out
 case hiter=>
  refine TR (w2.heap.size+1) _ m hm _ ?_
  rintro W h
  exact h.msg.cell 0
 case XL=>
  rintro k ⟨k',d⟩ k2 W hsz hl hd hj ⟨hk,hx,rfl⟩
  obtain⟨rfl,hdd⟩:=Prod.mk.inj hx
  have rJ:d<=15:=by rw[hdd];exact Sig.Jr m k'
  have HJ:=zh hj;have HL:=zh hl;have HDF:=zh hd;have HDD:=zh hdd
  clear hj hl hx hd hdd
  gi_wp2
  refine⟨trivial,?_⟩
  intro W2 hf hl2
  have hj2:=HJ.out.loop (by omega) hf HL.out
  have rM:W2.heap[w4.heap.size]? = some (.deferred (some [])):=(hf.keep _ (by omega) (by omega)).trans HDF.out
  have hfs:=hf.size
  have nR:At W2 w.heap.size 41 #[.int .i64 s.index,.slice ca s.chains.length cc,.slice pa s.path.length pc]:=HA2.out.below hj2.bel hpw
  have hcs2:=HC2.out.below hj2.bel
  have hkl:k' < s.chains.length:=by have:=I3.out;omega
  obtain⟨cb,co,hca⟩:=hcs2.addrOf hkl
  subst hca
  have hcell:=hcs2.cellAt hkl
  obtain⟨I,hI⟩:∃ I:Nat,s.index=I:=⟨s.index.toNat,by omega⟩
  obtain⟨x,hx⟩:∃ x,x=s.chains.getD k' ⟨#[]⟩:=⟨_,rfl⟩
  have hxz:x.size=32:=by
   rw[hx,List.getD_eq_getElem?_getD,List.getElem?_eq_getElem hkl]
   exact Vx.out _ (List.getElem_mem _)
  rw[<- hx] at hcell
  have q0:=nR.cell 0;have q1:=nR.cell 1
  simp only[zg] at q0 q1
  rw[hI] at q0
  have HJ2:=zh hj2;have rO:=zh rM;have HL2:=zh hl2;have HX:=zh hx;have HII:=zh hI
  have hIN:I<64:=by omega
  clear hj2 rM hl2 hx nR hcs2 hf hI
  gi_step
  refine wpIn_block ?_
  refine Lex.Oo (by kernel_rfl) (by kernel_rfl) (by kernel_rfl) ?_
  go_wp2_with fail
  refine(show Calls Tryz.prog 173 #[.string x,.int .i64 I,.int .i64 k',.int .i64 d,.int .i64 15] W2.drew _ from ZQ x I k' d (15-d) 15 W2.drew (by omega) (by omega) (by omega) (by omega) (by omega)).mono ?_
  rintro e w5 ⟨rfl,hb5⟩
  have au:Below W2.heap.size W2 w5:=((Below.refl W2.heap.size W2).drew).trans hb5
  have hyz:=Sig.Gi I k' d (15-d) x hxz
  have hE:(Sig.ends s.index.toNat m s.chains).take (k' + 1)=(Sig.ends s.index.toNat m s.chains).take k' ++ [Sig.chain I k' d (15-d) x]:=by
   rw[aj _ _ _ _ hk,<- HDD.out,<- HX.out]
   have:s.index.toNat=I:=by rw[HII.out];exact Int.toNat_natCast I
   rw[this]
  obtain⟨y,hy⟩:∃ y,y=Sig.chain I k' d (15-d) x:=⟨_,rfl⟩
  rw[<- hy] at hyz hE ⊢
  have hj5:=HJ2.out.below au
  have hcl:(Cod.cat ((Sig.ends s.index.toNat m s.chains).take k')).size<=3000:=by
   rw[PZ _ (fun z hz=>HEZ.out z (List.mem_of_mem_take hz)),List.length_take]
   omega
  have HJ5:=zh hj5;have XM:=zh au;have HE:=zh hE
  clear hy hE hb5 au hj5 q0 q1 hcell
  go_wp2_with fail
  refine(xD w2.heap.size _ y w5 HJ5.out.bld (by omega)).mono ?_
  rintro e w6 ⟨rfl,av,hb6,dX⟩
  obtain⟨cs,hob⟩:=HJ5.out.bld.obj
  obtain⟨L2,hl2⟩:=HL2.out
  have hsz2:w4.heap.size+1<W2.heap.size:=(Array.getElem?_eq_some_iff.1 hl2).1
  have hk0:w6.heap[w4.heap.size]? = W2.heap[w4.heap.size]? :=by
   have h1:=(XM.out.block w4.heap.size (by omega)).trans rO.out
   rw[rO.out]
   exact dX _ _ h1 (fun e=>by have:=Option.some.inj e;omega) (fun c fz e=>by cases e)
  have hk1:w6.heap[w4.heap.size+1]? = W2.heap[w4.heap.size+1]? :=by
   have h1:=(XM.out.block (w4.heap.size+1) hsz2).trans hl2
   rw[hl2]
   exact dX _ _ h1 (fun e=>by have:=Option.some.inj e;omega) (fun c fz e=>by cases e)
  have hkk:Kept (TQ 3) W2 w6:=by
   intro k o hk ho
   have h1:=(XM.out.block k (Array.getElem?_eq_some_iff.1 hk).1).trans hk
   obtain⟨c,fz,rfl⟩:=ho
   refine dX _ _ h1 (fun e=>?_) (fun c fz e=>by cases e)
   rw[Option.some.inj e] at h1
   rw[hob] at h1
   cases h1
  have Ma:At w6 (w2.heap.size+1) 9 #[.string m]:=dX _ _ HJ5.out.msg (fun e=>by have:=Option.some.inj e;omega) (fun c fz e=>by cases e)
  have hnew:TT w2 m (Sig.ends s.index.toNat m s.chains) (k' + 1) w6:=by
   refine⟨?_,Ma,HJ5.out.bel.trans hb6⟩
   rw[HE.out,LM]
   exact av
  have HK0:=zh hk0;have HK1:=zh hk1;have HKK:=zh hkk;have dR:=zh hnew
  clear av hb6 dX hob hl2 hk0 hk1 hkk Ma hnew
  go_wp2_with fail
  refine Lex.ze ?_
  gi_wp2
  exact⟨⟨HK0.out,HK1.out⟩,HKK.out,.inl ⟨rfl,dR.out⟩⟩
 case hdone=>
  intro k W hD hJ hdf
  subst hD
  have hE:(Sig.ends s.index.toNat m s.chains).take 67=Sig.ends s.index.toNat m s.chains:=List.take_of_length_le (by have:=HEL.out;omega)
  have hat:At W w.heap.size 41 #[.int .i64 s.index,.slice ca s.chains.length cc,.slice pa s.path.length pc]:=HA2.out.below hJ.bel hpw
  have av:=hJ.bld
  rw[hE] at av
  have hps:=HP2.out.below hJ.bel
  have hcl:(Cod.cat (Sig.ends s.index.toNat m s.chains)).size<=3000:=by
   rw[PZ _ HEZ.out,HEL.out]
   omega
  have hbel:Below w.heap.size w W:=HB2.out.trans (hJ.bel.mono HB2.out.size)
  have q0:=hat.cell 0;have q2:=hat.cell 2
  simp only[zg] at q0 q2
  have HAT:=zh hat;have HBL:=zh av;have HPS:=zh hps;have HBE:=zh hbel;have HDF:=zh hdf;have HJD:=zh hJ
  clear hat av hps hbel hdf hJ hE
  go_wp2_with fail
  refine Lex.zn (fun k=>k=w.heap.size) [3,6] 9 [1,1] ?_
  simp only[Lex.Bg,zd]
  go_wp2_with fail
  obtain⟨C,hC⟩:∃ C,C=Cod.cat (Sig.ends s.index.toNat m s.chains):=⟨_,rfl⟩
  rw[<- hC] at HBL hcl
  refine(Tryz.Builder_String_any_k w2.heap.size w2.heap.size C.data.toList W.drew HBL.out (Nat.le_of_lt HBL.out.lt)).mono ?_
  rintro e w5 ⟨rfl,hx5,hb5,rP⟩
  clear hx5
  have au:Below w2.heap.size w2 w5:=HJD.out.bel.trans ((Below.refl w2.heap.size W).drew.trans hb5)
  have rQ:w5.heap[w4.heap.size]? = some (.deferred (some [])):=rP _ _ HDF.out (fun e=>by have:=Option.some.inj e;omega) (fun c fz e=>by cases e)
  have hC2:(⟨C.data.toList.toArray⟩:ByteArray)=C:=rfl
  rw[hC2]
  have XM:=zh au;have HD5:=zh rQ;have HCC:=zh hC
  clear hb5 rP au rQ hC hC2
  go_wp2_with fail
  refine Lex.Mid.intro (fun k hk hl=>by subst hk;exact(XM.out.block _ hpw).trans (HJD.out.bel.block _ hpw).symm) ?_
  go_wp2_with fail
  refine(ZP C w5 (by omega)).mono ?_
  rintro e w6 ⟨rfl,hb6⟩
  have nS:Below w2.heap.size w2 w6:=XM.out.trans (hb6.mono XM.out.size)
  have rR:w6.heap[w4.heap.size]? = some (.deferred (some [])):=(hb6.block _ (Array.getElem?_eq_some_iff.1 HD5.out).1).trans HD5.out
  have FQ:=HA2.out.below nS hpw
  have hlf:Sha.sha (Sig.b1 0++C)=Sig.EH (Sig.ends s.index.toNat m s.chains):=by rw[HCC.out];rfl
  rw[hlf]
  have q0':=FQ.cell 0;have q2':=FQ.cell 2
  simp only[zg] at q0' q2'
  have jP:=zh nS;have HD6:=zh rR
  clear hb6 nS rR FQ hlf q0 q2
  go_wp2_with fail
  refine Lex.Mid.intro (fun k hk hl=>by subst hk;exact(jP.out.block _ hpw).trans (HJD.out.bel.block _ hpw).symm) ?_
  obtain⟨I,hI⟩:∃ I:Nat,s.index=I:=⟨s.index.toNat,by omega⟩
  have rT:=HP2.out.below jP.out
  have xG:=zh rT;clear rT
  have d33:decide ((33:Int)<32)=false:=by decide
  have hpz:(pub.size:Int)=33:=by omega
  have mq:R=Sig.included (Sig.EH (Sig.ends I m s.chains)) (I:Int) (N:Int) s.path (pub.extract 0 32):=by
   rw[HR3.out,hI,Int.toNat_natCast]
  have HFR:=zh mq;clear mq
  go_wp2_with fail
  refine(Rm (Sig.EH (Sig.ends I m s.chains)) I N (.slice pa s.path.length pc) s.path (pub.extract 0 32) w6 xG.out HCAP.out hpl).mono ?_
  rintro e w7 ⟨rfl,hb7⟩
  rw[<- HFR.out]
  have rU:w7.heap[w2.heap.size+2]? = some (.deferred (some [])):=by
   have:=(hb7.block _ (Array.getElem?_eq_some_iff.1 HD6.out).1).trans HD6.out
   rwa [HS4.out] at this
  have hbf:Below w.heap.size w w7:=HB2.out.trans ((jP.out.trans (hb7.mono jP.out.size)).mono HB2.out.size)
  have k0:=HAT.out.cell 0;have k2:=HAT.out.cell 2
  simp only[zg] at k0 k2
  have xH:=zh rU;have HBF:=zh hbf
  clear hb7 rU hbf q0' q2'
  go_wp2_with fail
  refine Lex.zk ⟨⟨rfl,zi k0⟩,⟨rfl,zi k2⟩,trivial⟩ ?_
  go_wp2_with fail
  refine ak xH.out (results_tmp rfl _ _ _) ?_
  refine⟨rfl,HBF.out.trans ⟨rfl,rfl,rfl,by simp[World.putObj],fun k hk=>World.putObj_heap_other (by omega)⟩⟩
 case hstop=>exact fun c W h=>h.elim
end
section
open Go Go.RowKit Go.Maps
theorem Gm {β : Type}(f:Nat -> β)(k:Nat):(List.range (k+1)).map f=(List.range k).map f++[f k]:=by rw[List.range_succ,List.map_append];rfl
theorem Oq (seed:ByteArray)(key:Nat)(g:Nat->Nat)(k:Nat):(Cod.cat ((List.range k).map fun c=>Sig.chain key c 0 (g c) (Sig.secret seed key c))).size=32*k:=by
 rw[PZ _ (fun x hx=>by obtain⟨c,_,rfl⟩:=List.mem_map.1 hx;exact Sig.Gi _ _ _ _ _ (Sig.Gz _ _ _)),List.length_map,List.length_range]
theorem Vy (seed:ByteArray)(key:Nat)(w:World)(hs:seed.size<=1000)(hk:key<9223372036854775808):
 Calls Tryz.prog 145 #[.string seed,.int .i64 key] w fun e w' => e=.returned (.string (Sig.leaf seed key))/\Below w.heap.size w w':=by
 obtain⟨R,hR⟩:∃ R,R=Sig.leaf seed key:=⟨_,rfl⟩
 rw[<- hR]
 obtain⟨F,hF⟩:∃ F:Nat->ByteArray,F=fun k=>Cod.cat ((List.range k).map fun c=>Sig.chain key c 0 15 (Sig.secret seed key c)):=⟨_,rfl⟩
 have hFz:∀ k,(F k).size=32*k:=fun k=>by rw[hF];exact Oq seed key (fun _=>15) k
 have hFs:∀ k,F (k+1)=F k++Sig.chain key k 0 15 (Sig.secret seed key k):=fun k=>by rw[hF];show Cod.cat _=Cod.cat _++_;rw[Gm,LM]
 have hF0:F 0=⟨#[]⟩:=by rw[hF];rfl
 have hR2:R=Sha.sha (Sig.b1 0++F 67):=by rw[hR,hF];rfl
 have HFZ:=zh hFz;have HFS:=zh hFs;have HR2:=zh hR2;have HF0:=zh hF0
 clear hR hF hFz hFs hF0 hR2
 go_enter Tryz.func145,Tryz.ntmps145
 go_wp2_with fail
 go_loopw [5,6] (fun s i wr=>∃ k:Nat,k<=67/\i=.int .i64 k/\s=.string (F k)/\Below w.heap.size w wr) (fun _ i _=>67-(intOf i).toNat)
 case atStart=>exact⟨0,by omega,rfl,by rw[HF0.out],Below.refl _ _⟩
 case round=>
  obtain⟨k,hk2,rfl,rfl,hb⟩:=hrel
  have HB:=zh hb;clear hb
  by_cases hlt:k<67
  ·have dk:decide ((k:Int)<67)=true:=by simp;omega
   go_wp2_with fail
   refine(KA seed key k wr hs hk (by omega)).mono ?_
   rintro e w2 ⟨rfl,hb2⟩
   have HB2:=zh (HB.out.trans (hb2.mono HB.out.size));clear hb2
   have hsz:=Sig.Gz seed key k
   have hst:=HFS.out k
   obtain⟨x,hx⟩:∃ x,x=Sig.secret seed key k:=⟨_,rfl⟩
   rw[<- hx] at hsz hst ⊢
   have HST:=zh hst;clear hx hst
   go_wp2_with fail
   refine(show Calls Tryz.prog 120 #[.int .i64 key,.int .i64 k,.int .i64 0,.int .i64 15,.string x] w2 _ from NP key k 0 15 15 x w2 (by omega) (by omega) hk (by omega) (by omega)).mono ?_
   rintro e w3 ⟨rfl,hb3⟩
   have HB3:=zh (HB2.out.trans (hb3.mono HB2.out.size));clear hb3
   have hyz:=Sig.Gi key k 0 15 x hsz
   obtain⟨y,hy⟩:∃ y,y=Sig.chain key k 0 15 x:=⟨_,rfl⟩
   rw[<- hy] at HST hyz ⊢
   have hkz:=HFZ.out k
   clear hy
   go_wp2_with fail
   exact⟨⟨k+1,by omega,by go_num,by rw[HST.out],HB3.out⟩,by simp[intOf];omega⟩
  ·obtain rfl:k=67:=by omega
   go_wp2_with fail
   refine(Vr (F 67) wr (by have:=HFZ.out 67;omega)).mono ?_
   rintro e w2 ⟨rfl,hb2⟩
   have HB2:=zh (HB.out.trans (hb2.mono HB.out.size));clear hb2
   rw[<- HR2.out]
   go_wp2_with fail
   go_ret
   exact⟨rfl,HB2.out⟩
theorem KC (seed:ByteArray)(nx:Int)(w:World)(hs:seed.size<=1000):
 Calls Tryz.prog 123 #[.agg #[.string seed,.int .i64 1,.int .i64 nx]] w fun e w' => ∃ v,e=.returned v/\w'.ownsRow w.heap.size 9 1 v 2 ((Sig.leaves seed 2).map Value.string)/\Below w.heap.size w w':=by
 have hL:Sig.leaves seed 2=Sig.leaves seed 2:=rfl
 obtain⟨R,hR⟩:∃ R,R=(Sig.leaves seed 2).map Value.string:=⟨_,rfl⟩
 rw[<- hR]
 have HR:=zh hR;clear hL hR
 go_enter Tryz.func123,Tryz.ntmps123
 go_wp2_with fail
 have hb1:Below w.heap.size w (w.alloc (.cells #[.string seed,.int .i64 1,.int .i64 nx] 113)):=zb
 have ha1:=At.new w 113 #[.string seed,.int .i64 1,.int .i64 nx]
 have hn1:(w.alloc (.cells #[.string seed,.int .i64 1,.int .i64 nx] 113)).heap.size=w.heap.size+1:=by simp
 have HB1:=zh hb1;have HA1:=zh ha1;clear hb1 ha1
 generalize w.alloc (.cells #[.string seed,.int .i64 1,.int .i64 nx] 113)=w1 at*
 go_loopw [3,4] (fun v i wr=>∃ k:Nat,k<=2/\i=.int .i64 k/\wr.ownsRow w1.heap.size 9 1 v k ((Sig.leaves seed k).map Value.string)/\Below w1.heap.size w1 wr) (fun _ i _=>2-(intOf i).toNat)
 case atStart=>exact⟨0,by omega,rfl,World.ownsRow_nil _ _ _ _,Below.refl _ _⟩
 case round=>
  obtain⟨k0,hk2,rfl,ho,hb⟩:=hrel
  have ha:=HA1.out.below hb (by omega)
  have HO:=zh ho;have HB:=zh hb;have HA:=zh ha
  obtain⟨ga,k,gc,rfl⟩:=Ae ho
  obtain rfl:=BU ho
  have c0:=ha.cell 0;have c1:=ha.cell 1
  simp only[zg] at c0 c1
  clear ho hb ha
  by_cases hlt:k<2
  ·have dk:decide ((k:Int)<2)=true:=by simp;omega
   go_wp2_with fail
   refine(Vy seed k wr hs (by omega)).mono ?_
   rintro e w2 ⟨rfl,hb2⟩
   have hlk:(Sig.leaves seed (k+1)).map Value.string=(Sig.leaves seed k).map Value.string++[.string (Sig.leaf seed k)]:=by
    unfold Sig.leaves
    rw[Gm,List.map_append]
    rfl
   obtain⟨x,hx⟩:∃ x,x=Sig.leaf seed k:=⟨_,rfl⟩
   rw[<- hx] at hlk ⊢
   have HO2:=zh (own_below HO.out hb2);have HB2:=zh (HB.out.trans (hb2.mono HB.out.size));have HLK:=zh hlk
   clear hb2 hlk hx c0 c1
   go_wp2_with (at_builtin;go_must (refine Am LU rfl _ _ rfl w1.heap.size k _ _ rfl (HO2.out.alloc _) (.slice (some ⟨w2.heap.size,0,none⟩) 1 1) 1 [.string x] rfl (CS w2 9 #[.string x] 1 1 1 rfl) (by intro u hu;simp at hu;subst hu;rfl) (by omega) (by omega) (by have:=HB2.out.size;simp;omega) ?_);intro v6 w6 ho6 hg6 _;have hb6:=Ba (HB2.out.alloc HB2.out.size _) (by have:=HB2.out.size;simp;omega) HO2.out hg6;have HO6:=zh ho6;have HB6:=zh hb6;clear ho6 hg6 hb6)
   exact⟨⟨k+1,by omega,by go_num,by rw[HLK.out];exact HO6.out,HB6.out⟩,by simp[intOf];omega⟩
  ·obtain rfl:k=2:=by omega
   go_wp2_with fail
   go_ret
   exact⟨_,rfl,Cm (by rw[HR.out];exact HO.out) (by omega),HB1.out.trans (HB.out.mono (by omega))⟩
theorem Mc (seed:ByteArray)(nx:Nat)(w:World)(hs:seed.size=32)(hn:nx<=2):
 Calls Tryz.prog 118 #[.agg #[.string seed,.int .i64 1,.int .i64 nx]] w fun e w' => e=.returned (.bool true)/\Below w.heap.size w w':=by
 have ha:=At.new w 113 #[.string seed,.int .i64 1,.int .i64 nx]
 have d1:((seed.size:Int)==32)=true:=by rw[hs];rfl
 have d2:decide ((nx:Int)<=2)=true:=by simp;omega
 have d3:decide ((0:Int)<=(nx:Int))=true:=by simp
 go_enter Tryz.func118,Tryz.ntmps118
 go_wp2_with fail
 have hb1:Below w.heap.size w (w.alloc (.cells #[.string seed,.int .i64 1,.int .i64 nx] 113)):=zb
 have HB1:=zh hb1;have HA:=zh ha
 have c0:=ha.cell 0;have c1:=ha.cell 1;have c2:=ha.cell 2
 simp only[zg] at c0 c1 c2
 clear hb1 ha
 generalize w.alloc (.cells #[.string seed,.int .i64 1,.int .i64 nx] 113)=w1 at*
 refine Lex.zl ?_
 go_wp2_with fail
 refine Lex.ze ?_
 go_wp2_with fail
 go_ret
 exact⟨rfl,HB1.out.drew⟩
theorem YR (W:World)(g:Nat)(h:At W g 5 #[.int .u8 1]):(convert 60 9 (.slice (some ⟨g,0,none⟩) 1 1)).run Tryz.prog W=.ok (.string (Sig.b1 1)) W:=by
 have:=run_convert_bytes_arg (P:=Tryz.prog) W 60 5 rfl rfl g 0 1 1 [1] rfl (fun i hi=>by
  have:i=0:=by simpa using hi
  subst this
  exact h.cell 0) 9 rfl
 exact this
theorem Qa (seed:ByteArray)(n:Nat):(Sig.leaves seed n).all Sig.digest=true:=by
 rw[List.all_eq_true]
 intro x hx
 obtain⟨k,_,rfl⟩:=List.mem_map.1 hx
 exact decide_eq_true (Sig.Db seed k)
theorem Rs (seed:ByteArray)(w:World)(hs:seed.size=32):
 Calls Tryz.prog 78 #[.agg #[.string seed,.int .i64 1,.int .i64 0]] w fun e w' => e=.returned (.tuple #[.string (Sig.Dq seed),.int .i64 0])/\Below w.heap.size w w':=by
 obtain⟨R,hR⟩:∃ R,R=Sig.Dq seed:=⟨_,rfl⟩
 rw[<- hR]
 have HR:=zh hR;clear hR
 have ha:=At.new w 113 #[.string seed,.int .i64 1,.int .i64 0]
 go_enter Tryz.func78,Tryz.ntmps78
 go_wp2_with fail
 have hb1:Below w.heap.size w (w.alloc (.cells #[.string seed,.int .i64 1,.int .i64 0] 113)):=zb
 have hn1:(w.alloc (.cells #[.string seed,.int .i64 1,.int .i64 0] 113)).heap.size=w.heap.size+1:=by simp
 have HB1:=zh hb1;have HA1:=zh ha;clear hb1 ha
 generalize w.alloc (.cells #[.string seed,.int .i64 1,.int .i64 0] 113)=w1 at*
 refine(show Calls Tryz.prog 118 #[.agg #[.string seed,.int .i64 1,.int .i64 0]] w1 _ from Mc seed 0 w1 hs (by omega)).mono ?_
 rintro e w2 ⟨rfl,hb⟩
 have HB2:=zh (HB1.out.trans (hb.mono HB1.out.size));have HA2:=zh (HA1.out.below hb (by omega))
 clear hb
 obtain⟨c0,c1,c2⟩:=HA2.out.c3
 go_wp2_with fail
 have hlw:=HA2.out.lt
 have hrt:R=Sig.root (Sig.leaves seed 2)++Sig.b1 1:=HR.out
 have hrz:=Sig.Ip seed
 have C0:=zh c0;have C1:=zh c1;have C2:=zh c2
 have hroot:=fun(v:Value) (W:World) (h:AO W v (Sig.leaves seed 2)) (hc:EY v)=>Vt v (Sig.leaves seed 2) W h hc (by show 2<=4096;omega) (Qa seed 2)
 have hown:∀ (b:Nat) (v:Value) (W:World),W.ownsRow b 9 1 v 2 ((Sig.leaves seed 2).map Value.string)->AO W v (Sig.leaves seed 2):=fun b v W h=>AO.own h
 have hlv:=fun W=>KC seed 0 W (by omega)
 generalize Sig.leaves seed 2=LV at*
 obtain⟨RT,hRT⟩:∃ RT,RT=Sig.root LV:=⟨_,rfl⟩
 rw[<- hRT] at hrt hrz hroot
 have HRT:=zh hrt;have rV:=zh hroot;have HLV:=zh hlv;have HOWN:=zh hown
 clear hrt hroot hlv HR hRT hown
 go_cut [2,3] (fun v2 v3 wx=>v2=.string (RT++Sig.b1 1)/\v3=.int .i64 0/\Below w2.heap.size w2 wx)
 case first=>
  refine Lex.Ja [0,1,2,4,6,7] [0,1,3,0,8,24,56,120,255,511,1023] [3] (.alt 0 [] (.alt 1 [] (.alt 2 [] (.alt 4 [5] (.alt 6 [] (.alt 7 [8,9,10] .nil .nil) .nil) .nil) (.alt 4 [5] (.alt 2 [] (.alt 6 [] (.alt 7 [8,9,10] .nil .nil) .nil) (.alt 6 [] (.alt 2 [] (.alt 7 [8,9,10] .nil .nil) (.alt 7 [] (.alt 2 [8,9,10] .nil .nil) .nil)) .nil)) .nil)) (.alt 4 [5] (.alt 1 [] (.alt 2 [] (.alt 6 [] (.alt 7 [8,9,10] .nil .nil) .nil) (.alt 6 [] (.alt 2 [] (.alt 7 [8,9,10] .nil .nil) (.alt 7 [] (.alt 2 [8,9,10] .nil .nil) .nil)) .nil)) (.alt 6 [] (.alt 1 [] (.alt 2 [] (.alt 7 [8,9,10] .nil .nil) (.alt 7 [] (.alt 2 [8,9,10] .nil .nil) .nil)) (.alt 7 [] (.alt 1 [] (.alt 2 [8,9,10] .nil .nil) .nil) .nil)) .nil)) .nil)) (.alt 4 [5] (.alt 0 [] (.alt 1 [] (.alt 2 [] (.alt 6 [] (.alt 7 [8,9,10] .nil .nil) .nil) (.alt 6 [] (.alt 2 [] (.alt 7 [8,9,10] .nil .nil) (.alt 7 [] (.alt 2 [8,9,10] .nil .nil) .nil)) .nil)) (.alt 6 [] (.alt 1 [] (.alt 2 [] (.alt 7 [8,9,10] .nil .nil) (.alt 7 [] (.alt 2 [8,9,10] .nil .nil) .nil)) (.alt 7 [] (.alt 1 [] (.alt 2 [8,9,10] .nil .nil) .nil) .nil)) .nil)) (.alt 6 [] (.alt 0 [] (.alt 1 [] (.alt 2 [] (.alt 7 [8,9,10] .nil .nil) (.alt 7 [] (.alt 2 [8,9,10] .nil .nil) .nil)) (.alt 7 [] (.alt 1 [] (.alt 2 [8,9,10] .nil .nil) .nil) .nil)) (.alt 7 [] (.alt 0 [] (.alt 1 [] (.alt 2 [8,9,10] .nil .nil) .nil) .nil) .nil)) .nil)) .nil)) (by kernel_rfl) (by kernel_rfl) (by kernel_rfl) ?_
  intro ops Ee hE
  have HE:=zh hE;clear hE
  simp only[Lex.pick,List.filterMap_cons,List.filterMap_nil,List.getElem?_cons_succ,List.getElem?_cons_zero]
  go_wp2_with fail
  iterate 40 (try any_goals (first
   | exact Lex.Kj
   | (refine Lex.Jw ?_ ?_)
   | (refine Lex.PG (HE.out _ _ (by kernel_rfl) ?_);go_wp2_with fail;go_meet;exact⟨rfl,rfl,by first|exact HB4.out|exact HB4.out.alloc HB4.out.size _⟩)
   | (refine Lex.Mid.intro trivial ?_)
   | (refine (HLV.out _).mono ?_
      rintro e w3 ⟨lv,rfl,hol,hbl⟩
      have hb3:Below w2.heap.size w2 w3:=Below.trans (b:=_) (by repeat' first|exact Below.refl _ _|refine Below.drew ?_|refine Below.alloc ?_ ?_ _|(simp;done)|(simp;omega)) (hbl.mono (by simp))
      have HOL:=zh hol;have HB3:=zh hb3
      have HBY:=zh (hbl.block w2.heap.size);have HSZ:=zh hbl.size
      have c0:=(hb3.cell (p:=⟨w.heap.size,0,none⟩) hlw).trans C0.out;have c1:=(hb3.cell (p:=⟨w.heap.size,1,none⟩) hlw).trans C1.out;have c2:=(hb3.cell (p:=⟨w.heap.size,2,none⟩) hlw).trans C2.out
      clear hol hbl hb3
      go_wp2_with fail)
   | (refine (rV.out lv _ (AO.below (HOWN.out _ _ _ HOL.out) (by repeat' first | exact Below.refl _ _ | refine Below.drew ?_ | refine Below.alloc ?_ ?_ _ | (simp;done) | (simp;omega))) (EY.own HOL.out)).mono ?_
      rintro e w4 ⟨rfl,hbr⟩
      have hb4:Below w2.heap.size w2 w4:=Below.trans (Below.trans HB3.out (Below.mono (by repeat' first|exact Below.refl _ _|refine Below.drew ?_|refine Below.alloc ?_ ?_ _|(simp;done)|(simp;omega)) HB3.out.size)) (hbr.mono (by have:=HB3.out.size;simp;omega))
      have HB4:=zh hb4
      have xI:=zh (hbr.block w2.heap.size);have xJ:=zh (hbr.block w3.heap.size)
      have c0:=(hb4.cell (p:=⟨w.heap.size,0,none⟩) hlw).trans C0.out;have c1:=(hb4.cell (p:=⟨w.heap.size,1,none⟩) hlw).trans C1.out;have c2:=(hb4.cell (p:=⟨w.heap.size,2,none⟩) hlw).trans C2.out
      clear hbr hb4
      go_wp2_with fail)
   | (rw[YR _ _ (by first|exact At.new _ _ _|exact(At.new _ _ _).drew)];go_wp2_with fail)
   | (rw[YR _ _ ((HBY.out (by simp)).trans (by first|exact At.new _ _ _|exact(At.new _ _ _).drew))];go_wp2_with fail)
   | (rw[YR _ _ ((xJ.out (by simp)).trans (by first|exact At.new _ _ _|exact(At.new _ _ _).drew))];go_wp2_with fail)
   | (rw[YR _ _ ((xI.out (by have:=HSZ.out;simp at this;omega)).trans ((HBY.out (by simp)).trans (by first|exact At.new _ _ _|exact(At.new _ _ _).drew)))];go_wp2_with fail)
   | (simp only [Lex.pick,List.filterMap_cons,List.filterMap_nil,List.getElem?_cons_succ,List.getElem?_cons_zero]
      go_wp2_with fail)))
 obtain⟨rfl,rfl,hb⟩:=hcut
 go_wp2_with fail
 go_ret2
 exact⟨by rw[HRT.out];rfl,HB2.out.trans (hb.mono HB2.out.size)⟩
section
variable {P:Program} {fn:Func} {tmps:Array Value} {w:World} {Q:Ending->World->Prop}
theorem Ad {g:Nat}{t ty:TypeId}{cs:Array Value}{d:TypeDesc}(hat:At w g t cs)(hu:P.underlying ty=some d)(hd:(match d with|.struct _|.array _ _=>true|_=>false)=true)(hi:(P.info? ty).map (·.size)=some cs.size):
 (loadVar ty ⟨g,0,none⟩).run P w=.ok (.agg cs) w:=run_loadVar_row w g t ty cs (0,0) d hat hu hd hi
theorem Gn {p:Tmp}{t1:TypeId}{b1:Nat}{v1:Value}(h:fn.results=#[.cell p t1])(hp:tmps.getD p undef=.pointer (some ⟨b1,0,none⟩))
 (l1:(loadVar t1 ⟨b1,0,none⟩).run P w=.ok v1 w) (hQ:Q (.returned v1) w):bodyPost P fn Q Exit.ret { tmps:=tmps,defers:=[] } w:=by
 refine bodyPost_ret (v:=v1) ?_ rfl hQ
 have hp' : tmps[p]?.getD undef=.pointer (some ⟨b1,0,none⟩):=by rw[<- hp];simp
 simp[results,h,hp',asAddr,l1,Sem.run_bind]
theorem BN {p u:Tmp}{t1:TypeId}{b1:Nat}{v1 x:Value}(h:fn.results=#[.cell p t1,.tmp u])(hp:tmps.getD p undef=.pointer (some ⟨b1,0,none⟩))(hu:tmps.getD u undef=x)
 (l1:(loadVar t1 ⟨b1,0,none⟩).run P w=.ok v1 w) (hQ:Q (.returned (.tuple #[v1,x])) w):bodyPost P fn Q Exit.ret { tmps:=tmps,defers:=[] } w:=by
 refine bodyPost_ret (v:=.tuple #[v1,x]) ?_ rfl hQ
 have e:(results fn tmps).run P w=((asAddr (tmps.getD p undef)).run P w).andThen fun a w₁ => ((loadVar t1 a).run P w₁).andThen fun x w₂ => .ok (.tuple #[x,tmps.getD u undef]) w₂ :=by
  simp only[results,h]
  simp[Sem.run_bind,Result.andThen]
 show(results fn tmps).run P w=_
 rw[e,hp,hu]
 simp[asAddr,l1]
theorem Cn {p u u' : Tmp}{t1:TypeId}{b1:Nat}{v1 x x' : Value}(h:fn.results=#[.cell p t1,.tmp u,.tmp u'])(hp:tmps.getD p undef=.pointer (some ⟨b1,0,none⟩))(hu:tmps.getD u undef=x)(hu' : tmps.getD u' undef=x')
 (l1:(loadVar t1 ⟨b1,0,none⟩).run P w=.ok v1 w) (hQ:Q (.returned (.tuple #[v1,x,x'])) w):bodyPost P fn Q Exit.ret { tmps:=tmps,defers:=[] } w:=by
 refine bodyPost_ret (v:=.tuple #[v1,x,x']) ?_ rfl hQ
 have e:(results fn tmps).run P w=((asAddr (tmps.getD p undef)).run P w).andThen fun a w₁ => ((loadVar t1 a).run P w₁).andThen fun x w₂ => .ok (.tuple #[x,tmps.getD u undef,tmps.getD u' undef]) w₂ :=by
  simp only[results,h]
  simp[Sem.run_bind,Result.andThen]
 show(results fn tmps).run P w=_
 rw[e,hp,hu,hu']
 simp[asAddr,l1]
theorem Co {p q u:Tmp}{t1 t2:TypeId}{b1 b2:Nat}{v1 v2 x:Value}(h:fn.results=#[.cell p t1,.cell q t2,.tmp u])(hp:tmps.getD p undef=.pointer (some ⟨b1,0,none⟩))(hq:tmps.getD q undef=.pointer (some ⟨b2,0,none⟩))(hu:tmps.getD u undef=x)
 (l1:(loadVar t1 ⟨b1,0,none⟩).run P w=.ok v1 w) (l2:(loadVar t2 ⟨b2,0,none⟩).run P w=.ok v2 w) (hQ:Q (.returned (.tuple #[v1,v2,x])) w):bodyPost P fn Q Exit.ret { tmps:=tmps,defers:=[] } w:=by
 refine bodyPost_ret (v:=.tuple #[v1,v2,x]) ?_ rfl hQ
 have e:(results fn tmps).run P w=((asAddr (tmps.getD p undef)).run P w).andThen fun a w₁ => ((loadVar t1 a).run P w₁).andThen fun x w₂ => ((asAddr (tmps.getD q undef)).run P w₂).andThen fun a w₁ => ((loadVar t2 a).run P w₁).andThen fun y w₂ => .ok (.tuple #[x,y,tmps.getD u undef]) w₂ :=by
  simp only[results,h]
  simp[Sem.run_bind,Result.andThen]
 show(results fn tmps).run P w=_
 rw[e,hp,hq,hu]
 simp[asAddr,l1,l2]
end
end
section
open Go Go.RowKit Go.Maps
theorem Sm:Sig.split 2=1:=by decide
theorem TU (seed:ByteArray)(k:Nat)(hk:k<2):E8 2 (Sig.leaves seed 2) k=[Sig.leaf seed (1-k)]:=by
 have hl:Sig.leaves seed 2=[Sig.leaf seed 0,Sig.leaf seed 1]:=rfl
 rw[hl]
 rcases(show k=0\/k=1 by omega) with rfl|rfl
 ·unfold E8
  simp[Sm,E8,Sig.FE]
 ·unfold E8
  simp[Sm,E8,Sig.FE]
def J4 (seed:ByteArray)(key:Nat)(m:ByteArray)(k:Nat):List ByteArray:=(List.range k).map fun c=>Sig.chain key c 0 ((Sig.digits m).getD c 0) (Sig.secret seed key c)
theorem Qb:(Tryz.prog.info? 41).map (·.size)=some 3:=by kernel_rfl
theorem Jc:(Tryz.prog.info? 113).map (·.size)=some 3:=by kernel_rfl
theorem Vz {w:World}{b c k:Nat}(hb:k≠b)(hc:k≠c)(v0 v1 v2 u0 u1 u2:Value):((((((w.setCell ⟨b,0,none⟩ v0).setCell ⟨b,1,none⟩ v1).setCell ⟨b,2,none⟩ v2).setCell ⟨c,0,none⟩ u0).setCell ⟨c,1,none⟩ u1).setCell ⟨c,2,none⟩ u2).drew.heap[k]? = w.heap[k]? :=by
 rw[Ar,zo hc,zo hc,zo hc,zo hb,zo hb,zo hb]
theorem V3 (seed m:ByteArray)(nx:Nat)(w:World)(hs:seed.size=32)(hn:nx<2)(hm:m.size<=140737488350000):
 Calls Tryz.prog 77 #[.agg #[.string seed,.int .i64 1,.int .i64 nx],.string m] w fun e w' => ∃ cv pv,e=.returned (.tuple #[.agg #[.int .i64 nx,cv,pv],.agg #[.string seed,.int .i64 1,.int .i64 ((nx+1:Nat):Int)],.int .i64 0])/\w'.ownsRow w.heap.size 9 1 cv 67 ((Sig.Bb seed nx m).chains.map Value.string)/\w'.ownsRow w.heap.size 9 1 pv 1 ((Sig.Bb seed nx m).path.map Value.string)/\Below w.heap.size w w':=by
 go_enter Tryz.func77,Tryz.ntmps77
 go_wp2_with fail
 have ha:=At.new w 113 #[.string seed,.int .i64 1,.int .i64 nx]
 have hb1:Below w.heap.size w (w.alloc (.cells #[.string seed,.int .i64 1,.int .i64 nx] 113)):=zb
 have hn1:(w.alloc (.cells #[.string seed,.int .i64 1,.int .i64 nx] 113)).heap.size=w.heap.size+1:=by simp
 have h2:=At.new (w.alloc (.cells #[.string seed,.int .i64 1,.int .i64 nx] 113)) 41 #[.int .i64 0,.slice none 0 0,.slice none 0 0]
 have h3:=At.new ((w.alloc (.cells #[.string seed,.int .i64 1,.int .i64 nx] 113)).alloc (.cells #[.int .i64 0,.slice none 0 0,.slice none 0 0] 41)) 113 #[.string ⟨#[]⟩,.int .i64 0,.int .i64 0]
 have hv:=fun W=>Mc seed nx W hs (by omega)
 have HV:=zh hv;clear hv
 refine(HV.out _).mono ?_
 rintro e w2 ⟨rfl,hb⟩
 have hs3:(((w.alloc (.cells #[.string seed,.int .i64 1,.int .i64 nx] 113)).alloc (.cells #[.int .i64 0,.slice none 0 0,.slice none 0 0] 41)).alloc (.cells #[.string ⟨#[]⟩,.int .i64 0,.int .i64 0] 113)).heap.size=w.heap.size+3:=by simp
 have hb2:Below w.heap.size w w2:=(((hb1.alloc hb1.size _).alloc (by simp;omega) _)).trans (hb.mono (by omega))
 have a0:At w2 w.heap.size 113 #[.string seed,.int .i64 1,.int .i64 nx]:=(((ha.below zb (by omega)).below zb (by simp;omega))).below hb (by omega)
 have a1:At w2 (w.heap.size+1) 41 #[.int .i64 0,.slice none 0 0,.slice none 0 0]:=by
  rw[hn1] at h2
  exact(h2.below zb (by simp)).below hb (by omega)
 have a2:At w2 (w.heap.size+1+1) 113 #[.string ⟨#[]⟩,.int .i64 0,.int .i64 0]:=by
  have:((w.alloc (.cells #[.string seed,.int .i64 1,.int .i64 nx] 113)).alloc (.cells #[.int .i64 0,.slice none 0 0,.slice none 0 0] 41)).heap.size=w.heap.size+1+1:=by simp
  rw[this] at h3
  exact h3.below hb (by omega)
 have hz2:w.heap.size+3<=w2.heap.size:=by rw[<- hs3];exact hb.size
 have HB2:=zh hb2;have A0:=zh a0;have A1:=zh a1;have A2:=zh a2
 clear hb hb1 hb2 ha h2 h3 hs3 hn1
 obtain⟨c0,c1,c2⟩:=a0.c3
 clear a0 a1 a2
 have d1:((nx:Int)==2)=false:=by rw[beq_eq_false_iff_ne];omega
 go_wp2_with fail
 refine Lex.zl ?_
 go_wp2_with fail
 refine Lex.ze ?_
 go_wp2_with fail
 have hS:=At.new w2 41 #[.int .i64 nx,.slice none 0 0,.slice none 0 0]
 have hbS:Below w2.heap.size w2 (w2.alloc (.cells #[.int .i64 nx,.slice none 0 0,.slice none 0 0] 41)).drew:=zb.drew
 have hzS:(w2.alloc (.cells #[.int .i64 nx,.slice none 0 0,.slice none 0 0] 41)).drew.heap.size=w2.heap.size+1:=by simp
 have hS' : At (w2.alloc (.cells #[.int .i64 nx,.slice none 0 0,.slice none 0 0] 41)).drew w2.heap.size 41 #[.int .i64 nx,.slice none 0 0,.slice none 0 0]:=hS
 have HS:=zh hS'
 have HBS:=zh hbS
 clear hS hS' hbS
 generalize (w2.alloc (.cells #[.int .i64 nx,.slice none 0 0,.slice none 0 0] 41)).drew=w3 at*
 refine(Rn m w3 hm).mono ?_
 rintro e w4 ⟨dv,rfl,hdo,hb4⟩
 have HS4:=zh (HS.out.below hb4 (by omega));have HB4:=zh (HBS.out.trans (hb4.mono (by omega)));have HD4:=zh hdo
 have hz4:=hb4.size
 clear hb4 hdo HS HBS
 go_wp2_with fail
 obtain⟨g,zO,hdv,hdc⟩:=Dm HD4.out (by omega)
 have hgu:=Bo HD4.out g (by rw[hdv];rfl)
 have hgl:g<w4.heap.size:=by
  obtain⟨cur,hc⟩:=DX HD4.out (g:=g) (by rw[hdv];rfl)
  exact At.lt hc
 subst hdv
 have HDC:=zh hdc
 have hA4:At w4 w.heap.size 113 #[.string seed,.int .i64 1,.int .i64 nx]:=A0.out.below HB4.out (by omega)
 have HA4:=zh hA4
 obtain⟨S,hSS⟩:∃ S,S=w2.heap.size:=⟨_,rfl⟩
 rw[<- hSS] at HS4 hz2 hzS ⊢
 have HSS:=zh hSS
 clear hdc hA4 c0 c1 c2 hSS
 go_loopw [9] (fun i wr=>∃ k:Nat,k<=67/\i=.int .i64 k/\∃ cv,At wr S 41 #[.int .i64 nx,cv,.slice none 0 0]/\wr.ownsRow w4.heap.size 9 1 cv k ((J4 seed nx m k).map Value.string)/\Fr (fun j=>j=S) w4 wr) (fun i _=>67-(intOf i).toNat)
 case atStart=>exact⟨0,by omega,rfl,_,HS4.out,World.ownsRow_nil _ _ _ _,Fr.refl _ _⟩
 case round=>
  obtain⟨k0,hk,rfl,cv,hat,ho,hfr⟩:=hrel
  have hfz:=hfr.size
  have ha0:At wr w.heap.size 113 #[.string seed,.int .i64 1,.int .i64 nx]:=hfr.at HA4.out (by omega)
  obtain⟨ca,k,cc,rfl⟩:=Ae ho
  obtain rfl:=BU ho
  have HAT:=zh hat;have HO:=zh ho;have HFR:=zh hfr;have HA0:=zh ha0
  have c0:=ha0.cell 0;have c1:=ha0.cell 1;have c2:=ha0.cell 2;have s1:=hat.cell 1
  simp only[zg] at c0 c1 c2 s1
  clear ho hat hfr ha0
  by_cases hlt:k<67
  ·have dk:decide ((k:Int)<67)=true:=by simp;omega
   have hdl:k<(Sig.digits m).length:=by rw[Sig.Io];omega
   have hd0:w4.cell? ⟨g,k,none⟩=some (.int .i64 (((Sig.digits m).getD k 0:Nat):Int)):=HDC.out k _ (by unfold Ht;rw[List.getElem?_map,List.getElem?_eq_getElem hdl,List.getD_eq_getElem?_getD,List.getElem?_eq_getElem hdl];rfl)
   have hd:wr.cell? ⟨g,k,none⟩=some (.int .i64 (((Sig.digits m).getD k 0:Nat):Int)):=by rw[Ke (a:=⟨g,k,none⟩) (HFR.out.keep g hgl (by omega))];exact hd0
   have rJ:=Sig.Jr m k
   have hch:J4 seed nx m (k+1)=J4 seed nx m k++[Sig.chain nx k 0 ((Sig.digits m).getD k 0) (Sig.secret seed nx k)]:=Gm _ _
   obtain⟨d,hdd⟩:∃ d,d=(Sig.digits m).getD k 0:=⟨_,rfl⟩
   rw[<- hdd] at hd rJ hch
   have HCH:=zh hch
   clear hdl hd0 hdd hch
   go_wp2_with fail
   refine Lex.zn (fun j=>j=S\/j=w.heap.size\/j=g) [1,3,8] 17 [15,1] ?_
   simp only[Lex.Bg,zd]
   go_wp2_with fail
   have hSl:S<wr.heap.size:=HAT.out.lt
   have hDl:w.heap.size<wr.heap.size:=HA0.out.lt
   refine(KA seed nx k wr.drew (by omega) (by omega) (by omega)).mono ?_
   rintro e w5 ⟨rfl,hb5⟩
   have TV:∀ j,(j=S\/j=w.heap.size\/j=g)->w5.heap[j]? = wr.drew.heap[j]? :=fun j hj=>hb5.block j (by show j<wr.heap.size;omega)
   have Gp : Below wr.heap.size wr w5:=((Below.refl wr.heap.size wr).drew).trans hb5
   have HB5:=zh Gp;clear hb5 Gp
   have hxz:=Sig.Gz seed nx k
   obtain⟨x,hx⟩:∃ x,x=Sig.secret seed nx k:=⟨_,rfl⟩
   rw[<- hx] at hxz HCH ⊢
   clear hx
   go_wp2_with fail
   refine Lex.Mid.intro (fun j hj _=>TV j hj) ?_
   go_wp2_with fail
   refine(show Calls Tryz.prog 120 #[.int .i64 nx,.int .i64 k,.int .i64 0,.int .i64 d,.string x] w5 _ from NP nx k 0 d d x w5 (by omega) (by omega) (by omega) (by omega) (by omega)).mono ?_
   rintro e w6 ⟨rfl,hb6⟩
   have hz5:=HB5.out.size
   have ay:∀ j,(j=S\/j=w.heap.size\/j=g)->w6.heap[j]? = wr.drew.heap[j]? :=fun j hj=>(hb6.block j (by omega)).trans (TV j hj)
   have HB6:=zh (HB5.out.trans (hb6.mono hz5));clear hb6
   obtain⟨y,hy⟩:∃ y,y=Sig.chain nx k 0 d x:=⟨_,rfl⟩
   rw[<- hy] at HCH ⊢
   clear hy
   have HO6:=zh (own_below HO.out HB6.out)
   have FQ:At w6 S 41 #[.int .i64 nx,.slice ca k cc,.slice none 0 0]:=HAT.out.below HB6.out hSl
   have s6:=FQ.cell 1
   simp only[zg] at s6
   have S6:=zh s6
   have Lb:=zh FQ;clear FQ s6
   go_wp2_with fail
   refine Lex.Mid.intro (fun j hj _=>ay j hj) ?_
   have jQ:=zh ay
   clear TV ay
   have zQ:S<w6.heap.size:=Lb.out.lt
   go_wp2_with (at_builtin;go_must (refine Am LU rfl _ _ rfl w4.heap.size k (.slice ca k cc) _ rfl (HO6.out.alloc _) (.slice (some ⟨w6.heap.size,0,none⟩) 1 1) 1 [.string y] rfl (CS w6 9 #[.string y] 1 1 1 rfl) (by intro u hu;simp at hu;subst hu;rfl) (by omega) (by omega) (by have:=HB6.out.size;simp;omega) ?_);intro v7 w7 ho7 hg7 hx7;obtain⟨va,vm,vc,rfl⟩:=Ae ho7;have xK:some S≠(Value.slice ca k cc).ownBlock:=(fun e=>by have:=Bo HO6.out S e.symm;omega);have Lc:=(Lb.out.alloc (.cells #[.string y] 9)).grown hg7 xK;have z7:=Lc.free 1;have y7:=Lc.cell 1;simp only[zg] at y7;have HO7:=zh ho7;have HG7:=zh hg7;have HX7:=zh hx7;have V5:=zh Lc;clear ho7 hg7 hx7 Lc)
   have hwS:(w7.setCell ⟨S,1,none⟩ (.slice va vm vc)).ownsRow w4.heap.size 9 1 (.slice va vm vc) (k+1) ((J4 seed nx m (k+1)).map Value.string):=by
    rw[HCH.out,List.map_append]
    exact AA HO7.out (fun j hj=>zo (by have:=Bo HO7.out j hj;show j≠S;omega))
   have rW:Fr (fun j=>j=S) w4 (w7.setCell ⟨S,1,none⟩ (.slice va vm vc)):=by
    have f1:Fr (fun j=>j=S) w4 w6:=HFR.out.trans (Fr.of_below HB6.out |>.mono (fun _ h=>h)) (fun _ h=>.inl h)
    exact((f1.alloc _).grown HG7.out (fun j hj=>.inr (Bo HO6.out j hj))).setCell (.inl rfl) _
   have aA:=V5.out.set 1 (.slice va vm vc)
   have HWS:=zh hwS;have xL:=zh rW;have xM:=zh aA
   clear hwS rW aA
   refine Lex.zk ⟨⟨.inl rfl,zi s1⟩,⟨.inr (.inl rfl),zi c2⟩,⟨.inr (.inr rfl),zi hd⟩,trivial⟩ ?_
   go_wp2_with fail
   exact⟨⟨k+1,by omega,by go_num,_,xM.out,HWS.out,xL.out⟩,by simp[intOf];omega⟩
  ·obtain rfl:k=67:=by omega
   have hinc:=fun(v:Value) (W:World) (h:AO W v (Sig.leaves seed 2)) (hc:EY v)=>MW v (Sig.leaves seed 2) nx W h hc (by show 2<=4096;omega) (Qa seed 2) (by show nx<2;omega)
   have hpl:E8 (Sig.leaves seed 2).length (Sig.leaves seed 2) nx=(Sig.Bb seed nx m).path:=TU seed nx hn
   rw[hpl] at hinc
   have hch:J4 seed nx m 67=(Sig.Bb seed nx m).chains:=rfl
   rw[hch] at HO
   have hlv:=fun W=>KC seed nx W (by omega)
   have hown:∀ (b:Nat) (v:Value) (W:World),W.ownsRow b 9 1 v 2 ((Sig.leaves seed 2).map Value.string)->AO W v (Sig.leaves seed 2):=fun b v W h=>AO.own h
   have hcl:(Sig.Bb seed nx m).chains.length=67:=by show((List.range 67).map _).length=67;simp
   have hp1:(Sig.Bb seed nx m).path.length=1:=rfl
   obtain⟨CH,nT⟩:∃ CH,CH=(Sig.Bb seed nx m).chains:=⟨_,rfl⟩
   obtain⟨PA,jR⟩:∃ PA,PA=(Sig.Bb seed nx m).path:=⟨_,rfl⟩
   rw[<- nT] at HO hcl
   rw[<- jR] at hp1
   simp only[<- jR] at hinc
   have xO:=zh nT;have xP:=zh jR
   clear nT jR
   generalize Sig.leaves seed 2=LV at*
   have rX:=zh hinc;have HLV:=zh hlv;have HOWN:=zh hown
   have hSl:S<wr.heap.size:=HAT.out.lt
   have hDl:w.heap.size<wr.heap.size:=HA0.out.lt
   clear hinc hlv hown hpl hch
   go_wp2_with fail
   refine Lex.zn (fun j=>j=w.heap.size) [3] 10 [2,3,5] ?_
   simp only[Lex.Bg,zd]
   go_wp2_with fail
   refine(HLV.out _).mono ?_
   rintro e w5 ⟨lv,rfl,hol,hbl⟩
   have hb5:Below wr.heap.size wr w5:=((Below.refl wr.heap.size wr).drew).trans hbl
   have TV:∀ j,(j=w.heap.size)->w5.heap[j]? = wr.drew.heap[j]? :=fun j hj=>hbl.block j (by show j<wr.heap.size;omega)
   have HB5:=zh hb5;have HOL:=zh hol
   clear hbl hb5 hol
   go_wp2_with fail
   refine Lex.Mid.intro (fun j hj _=>TV j hj) ?_
   have c2' : w5.cell? ⟨w.heap.size,2,none⟩=some (.int .i64 nx):=(HB5.out.cell (p:=⟨w.heap.size,2,none⟩) hDl).trans c2
   go_wp2_with fail
   refine(rX.out lv _ (HOWN.out _ _ _ HOL.out) (EY.own HOL.out)).mono ?_
   rintro e w6 ⟨pv,rfl,hop,hbp⟩
   obtain⟨pa,pm,pc,rfl⟩:=Ae hop
   obtain rfl:=BU hop
   have hb6:=HB5.out.trans (hbp.mono HB5.out.size)
   have ay:∀ j,(j=w.heap.size)->w6.heap[j]? = wr.drew.heap[j]? :=fun j hj=>(hbp.block j (by have:=HB5.out.size;omega)).trans (HB5.out.block j (by omega))
   have FQ:=HAT.out.below hb6 hSl
   have z6:=FQ.free 2;have y6:=FQ.cell 2
   simp only[zg] at y6
   have HOP:=zh hop;have HB6:=zh hb6;have Lb:=zh FQ;have jQ:=zh ay
   have hz5:=HB5.out.size
   clear hop hbp hb6 FQ ay TV
   go_wp2_with fail
   refine Lex.Mid.intro (fun j hj _=>jQ.out j hj) ?_
   go_wp2_with fail
   refine Lex.Mid.intro (fun j hj _=>(zo (by show j≠S;omega)).trans (jQ.out j hj)) ?_
   go_wp2_with fail
   refine Lex.zk ⟨⟨rfl,zi c2⟩,trivial⟩ ?_
   have Lc:At (w6.setCell ⟨S,2,none⟩ (.slice pa PA.length pc)) S 41 #[.int .i64 nx,.slice ca 67 cc,.slice pa PA.length pc]:=Lb.out.set 2 (.slice pa PA.length pc)
   have aB:Below S w2 (w6.setCell ⟨S,2,none⟩ (.slice pa PA.length pc)):=by
    have V6:Below S w2 w4:=by rw[HSS.out];exact HB4.out
    have hS4:S<w4.heap.size:=HS4.out.lt
    exact((V6.trans (HFR.out.below (B:=S) (by omega) (fun j hj=>Nat.le_of_eq hj.symm))).trans (HB6.out.mono (by omega))).setCell (p:=⟨S,2,none⟩) (Nat.le_refl _) _
   have hoc:(w6.setCell ⟨S,2,none⟩ (.slice pa PA.length pc)).ownsRow w.heap.size 9 1 (.slice ca 67 cc) 67 (CH.map Value.string):=
    Cm (AA (own_below HO.out HB6.out) (fun j hj=>zo (by have:=Bo HO.out j hj;show j≠S;have:S<w4.heap.size:=HS4.out.lt;omega))) (by have:S<w4.heap.size:=HS4.out.lt;omega)
   have hop:(w6.setCell ⟨S,2,none⟩ (.slice pa PA.length pc)).ownsRow w.heap.size 9 1 (.slice pa PA.length pc) PA.length (PA.map Value.string):=
    Cm (AA HOP.out (fun j hj=>zo (by have:=Bo HOP.out j hj;show j≠S;omega))) (by omega)
   rw[hp1] at Lc aB hoc hop
   have hS7:S<(w6.setCell ⟨S,2,none⟩ (.slice pa 1 pc)).heap.size:=Lc.lt
   generalize w6.setCell ⟨S,2,none⟩ (.slice pa 1 pc)=w7 at*
   have a0:=A0.out.below aB (by omega);have a1:=A1.out.below aB (by omega);have a2:=A2.out.below aB (by omega)
   have rY:Below w.heap.size w w7:=HB2.out.trans (aB.mono (by omega))
   have V5:=zh Lc;have HOC:=zh hoc;have rZ:=zh hop;have nU:=zh rY
   have B0:=zh a0;have B1:=zh a1;have B2:=zh a2
   obtain⟨p0,p1,p2⟩:=a0.c3
   clear Lc hoc hop rY a0 a1 a2 aB c0 c1 c2 s1 HAT HA0 HFR HB6 HB5 jQ Lb HOP HO HOL rX HLV HOWN HA4 HS4 HDC HD4 A0 A1 A2 HB4 HB2 c2' z6 y6
   have q2:=(B0.out.alloc (.cells #[.string seed,.int .i64 1,.int .i64 nx] 113)).cell 2
   simp only[zg] at q2
   go_wp2_with fail
   have hz8:(w7.alloc (.cells #[.string seed,.int .i64 1,.int .i64 ((nx:Int)+1)] 113)).heap.size=w7.heap.size+1:=World.size_alloc _ _
   have A8:=V5.out.alloc (.cells #[.string seed,.int .i64 1,.int .i64 ((nx:Int)+1)] 113)
   have B81:=B1.out.alloc (.cells #[.string seed,.int .i64 1,.int .i64 ((nx:Int)+1)] 113)
   have B82:=B2.out.alloc (.cells #[.string seed,.int .i64 1,.int .i64 ((nx:Int)+1)] 113)
   have N8:=At.new w7 113 #[.string seed,.int .i64 1,.int .i64 ((nx:Int)+1)]
   have hb8:Below w.heap.size w (w7.alloc (.cells #[.string seed,.int .i64 1,.int .i64 ((nx:Int)+1)] 113)):=nU.out.alloc nU.out.size _
   have sj:=own_below HOC.out ((Below.refl w7.heap.size w7).alloc (Nat.le_refl _) (.cells #[.string seed,.int .i64 1,.int .i64 ((nx:Int)+1)] 113))
   have su:=own_below rZ.out ((Below.refl w7.heap.size w7).alloc (Nat.le_refl _) (.cells #[.string seed,.int .i64 1,.int .i64 ((nx:Int)+1)] 113))
   generalize w7.alloc (.cells #[.string seed,.int .i64 1,.int .i64 ((nx:Int)+1)] 113)=w8 at*
   have e0:=A8.cell 0;have e1:=A8.cell 1;have e2:=A8.cell 2
   have f0:=N8.cell 0;have f1:=N8.cell 1;have f2:=N8.cell 2
   have g0:=B81.cell 0;have g1:=B81.cell 1;have g2:=B81.cell 2;have g3:=B81.free 0;have g4:=B81.free 1;have g5:=B81.free 2
   have i0:=B82.cell 0;have i1:=B82.cell 1;have i2:=B82.cell 2;have i3:=B82.free 0;have i4:=B82.free 1;have i5:=B82.free 2
   simp only[zg] at e0 e1 e2 f0 f1 f2 g0 g1 g2 i0 i1 i2
   have A8':=zh A8;have N8':=zh N8;have nV:=zh B81;have nW:=zh B82;have HB8:=zh hb8;have nX:=zh sj;have nY:=zh su
   clear A8 N8 B81 B82 hb8 sj su q2 V5 HOC rZ nU B0 B1 B2 p0 p1 p2
   refine Lex.zn (fun j=>j=w7.heap.size) [1] 3 [3] ?_
   simp only[Lex.Bg,zd]
   go_wp2_with fail
   have hz7:w.heap.size+3<=w7.heap.size:=by omega
   refine Lex.Mid.intro (fun j hj _=>by
    subst hj
    rw[Ar,zo (by show w7.heap.size≠w.heap.size+1;omega),zo (by show w7.heap.size≠w.heap.size+1;omega),zo (by show w7.heap.size≠w.heap.size+1;omega)]
    rfl) ?_
   go_wp2_with fail
   refine Lex.zk ⟨⟨rfl,zi f0⟩,trivial⟩ ?_
   go_wp2_with fail
   have F1:=((((((nV.out.set 0 (.int .i64 nx)).set 1 (.slice ca 67 cc)).set 2 (.slice pa 1 pc)).far (p:=⟨w.heap.size+1+1,0,none⟩) (by simp) (.string seed)).far (p:=⟨w.heap.size+1+1,1,none⟩) (by simp) (.int .i64 1)).far (p:=⟨w.heap.size+1+1,2,none⟩) (by simp) (.int .i64 ((nx:Int)+1))).drew
   have F2:=((((((nW.out.far (p:=⟨w.heap.size+1,0,none⟩) (by simp) (.int .i64 nx)).far (p:=⟨w.heap.size+1,1,none⟩) (by simp) (.slice ca 67 cc)).far (p:=⟨w.heap.size+1,2,none⟩) (by simp) (.slice pa 1 pc)).set 0 (.string seed)).set 1 (.int .i64 1)).set 2 (.int .i64 ((nx:Int)+1))).drew
   have hbE:Below w8.heap.size w8 w8:=Below.refl _ _
   refine Co rfl rfl rfl rfl (Ad F1 Tryz.underlying41 rfl Qb) (Ad F2 Tryz.underlying113 rfl Jc) ⟨.slice ca 67 cc,.slice pa 1 pc,rfl,?_,?_,?_⟩
   ·rw[<- xO.out]
    exact AA nX.out (fun j hj=>Vz (by rintro rfl;exact nV.out.own_ne nX.out (by decide) hj) (by rintro rfl;exact nW.out.own_ne nX.out (by decide) hj) _ _ _ _ _ _)
   ·rw[<- xP.out]
    exact AA nY.out (fun j hj=>Vz (by rintro rfl;exact nV.out.own_ne nY.out (by decide) hj) (by rintro rfl;exact nW.out.own_ne nY.out (by decide) hj) _ _ _ _ _ _)
   ·exact((((((HB8.out.setCell (p:=⟨w.heap.size+1,0,none⟩) (by simp) _).setCell (p:=⟨w.heap.size+1,1,none⟩) (by simp) _).setCell (p:=⟨w.heap.size+1,2,none⟩) (by simp) _).setCell (p:=⟨w.heap.size+1+1,0,none⟩) (by show w.heap.size<=w.heap.size+1+1;omega) _).setCell (p:=⟨w.heap.size+1+1,1,none⟩) (by show w.heap.size<=w.heap.size+1+1;omega) _).setCell (p:=⟨w.heap.size+1+1,2,none⟩) (by show w.heap.size<=w.heap.size+1+1;omega) _).drew
end
section
open Go
namespace Az
theorem J5 {x y:Nat}(hx:x<4294967296)(hy:y<4294967296):bits .xor .u32 (x:Int) (y:Int)=((x ^^^ y:Nat):Int):=by
 show IntKind.u32.wrap ((BitVec.ofInt 32 (x:Int) ^^^ BitVec.ofInt 32 (y:Int)).toNat:Int)=_
 rw[BitVec.ofInt_natCast,BitVec.ofInt_natCast,BitVec.toNat_xor,BitVec.toNat_ofNat,BitVec.toNat_ofNat,Nat.mod_eq_of_lt hx,Nat.mod_eq_of_lt hy,IntKind.wrap_u32]
 have:=Cu hx hy
 omega
theorem Qc {x y:Nat}(hx:x<4294967296)(hy:y<4294967296):bits .and .u32 (x:Int) (y:Int)=((x &&& y:Nat):Int):=by
 show IntKind.u32.wrap ((BitVec.ofInt 32 (x:Int) &&& BitVec.ofInt 32 (y:Int)).toNat:Int)=_
 rw[BitVec.ofInt_natCast,BitVec.ofInt_natCast,BitVec.toNat_and,BitVec.toNat_ofNat,BitVec.toNat_ofNat,Nat.mod_eq_of_lt hx,Nat.mod_eq_of_lt hy,IntKind.wrap_u32]
 have:=Cv y hx
 omega
theorem XO {x y:Nat}(hx:x<4294967296)(hy:y<4294967296):bits .or .u32 (x:Int) (y:Int)=((x ||| y:Nat):Int):=by
 show IntKind.u32.wrap ((BitVec.ofInt 32 (x:Int) ||| BitVec.ofInt 32 (y:Int)).toNat:Int)=_
 rw[BitVec.ofInt_natCast,BitVec.ofInt_natCast,BitVec.toNat_or,BitVec.toNat_ofNat,BitVec.toNat_ofNat,Nat.mod_eq_of_lt hx,Nat.mod_eq_of_lt hy,IntKind.wrap_u32]
 have:x ||| y<2^32:=Nat.or_lt_two_pow (n:=32) hx hy
 omega
theorem nZ {x:Nat}(hx:x<4294967296){A B:Nat}(k:Nat)(hA:(2:Nat)^k=A)(hB:A*B=4294967296):rot m1 x k=x/A+x%A*B:=by
 unfold rot
 rw[DJ,Nat.shiftRight_eq_div_pow,hA]
 have hp:0<A:=by rw[<- hA];exact Nat.two_pow_pos _
 have e:x+x*4294967296=x+A*(x*B):=by rw[<- hB,Nat.mul_left_comm]
 rw[e,Nat.add_mul_div_left _ _ hp]
 have hm:=Nat.mod_add_div x A
 have hr:x%A<A:=Nat.mod_lt _ hp
 have h1:x*B=x%A*B+4294967296*(x/A):=by
  rw[<- hB]
  conv=>lhs;rw[<- hm]
  rw[Nat.add_mul]
  congr 1
  rw[Nat.mul_assoc,Nat.mul_assoc,Nat.mul_comm (x/A) B]
 rw[h1,<- Nat.add_assoc,Nat.add_mul_mod_self_left]
 apply Nat.mod_eq_of_lt
 have hd:x/A<B:=by rw[Nat.div_lt_iff_lt_mul hp,Nat.mul_comm,hB];exact hx
 have h2:x%A*B+B<=A*B:=by
  have:=Nat.mul_le_mul_right B (show x%A+1<=A by omega)
  rwa [Nat.add_mul,Nat.one_mul] at this
 omega
theorem Qd {x:Nat}(hx:x<4294967296)(r k:Nat)(hrk:r+k=32):Sha.rotl (x:Int) (r:Int)=((rot m1 x k:Nat):Int):=by
 have hB:(2:Nat)^k*2^r=4294967296:=by rw[<- Nat.pow_add,show k+r=32 by omega]
 rw[nZ hx k rfl hB]
 unfold Sha.rotl
 have e1:(x:Int)*2^((r:Int)).toNat%4294967296=((x%2^k*2^r:Nat):Int):=by
  rw[Int.toNat_natCast,show((2:Int)^r)=((2^r:Nat):Int) from(Int.natCast_pow 2 r).symm,<- Int.natCast_mul,show(4294967296:Int)=((4294967296:Nat):Int) from rfl,<- Int.natCast_emod]
  congr 1
  rw[<- hB,Nat.mul_mod_mul_right]
 have e2:(x:Int)/2^(32-(r:Int)).toNat=((x/2^k:Nat):Int):=by
  rw[show(32-(r:Int)).toNat=k by omega,show((2:Int)^k)=((2^k:Nat):Int) from(Int.natCast_pow 2 k).symm,<- Int.natCast_ediv]
 have hd:x/2^k<2^r:=by rw[Nat.div_lt_iff_lt_mul (Nat.two_pow_pos _),Nat.mul_comm,hB];exact hx
 have hlt:x%2^k*2^r<4294967296:=by
  have h:=Nat.mod_lt x (Nat.two_pow_pos k)
  have:=(Nat.mul_lt_mul_right (Nat.two_pow_pos r)).2 h
  omega
 have hle:x/2^k<4294967296:=Nat.lt_of_le_of_lt (Nat.div_le_self _ _) hx
 rw[e1,e2,XO hlt hle,Nat.mul_comm,<- Nat.two_pow_add_eq_or_of_lt hd,Nat.add_comm]
theorem sw {x:Nat}(hx:x<4294967296)(s:Nat):(x:Int)/2^((s:Int)).toNat=((shr m1 x s:Nat):Int):=by
 unfold shr
 rw[DJ,Nat.shiftRight_eq_div_pow,Nat.mod_eq_of_lt (Nat.lt_of_le_of_lt (Nat.div_le_self _ _) hx),Int.toNat_natCast,show((2:Int)^s)=((2^s:Nat):Int) from(Int.natCast_pow 2 s).symm,<- Int.natCast_ediv]
theorem sD {x:Nat}(hx:x<4294967296)(a b c a' b' c' : Nat)(ha:a+a' = 32)(hb:b+b' = 32)(hc:c+c' = 32):Sha.sg (x:Int) (a:Int) (b:Int) (c:Int)=((s3 m1 x a' b' c' : Nat):Int):=by
 unfold Sha.sg s3 Sha.x32
 rw[Qd hx a a' ha,Qd hx b b' hb,Qd hx c c' hc,J5 (Ck _ _) (Ck _ _),J5 (Cu (Ck _ _) (Ck _ _)) (Ck _ _)]
theorem sF {x:Nat}(hx:x<4294967296)(a b a' b' s:Nat)(ha:a+a' = 32)(hb:b+b' = 32):Sha.ss (x:Int) (a:Int) (b:Int) (s:Int)=((s2 m1 x a' b' s:Nat):Int):=by
 unfold Sha.ss s2 Sha.x32
 rw[Qd hx a a' ha,Qd hx b b' hb,sw hx s,J5 (Ck _ _) (Ck _ _),J5 (Cu (Ck _ _) (Ck _ _)) (Xg _ _)]
structure Vok (v:V):Prop where
 a:v.a<4294967296
 b:v.b<4294967296
 c:v.c<4294967296
 d:v.d<4294967296
 e:v.e<4294967296
 f:v.f<4294967296
 g:v.g<4294967296
 h:v.h<4294967296
theorem VF.ok.at {v:VF}(h:v.ok)(i:Nat):Vok (v.at i):=⟨h.a i,h.b i,h.c i,h.d i,h.e i,h.f i,h.g i,h.h i⟩
def toL (v:V):List Int:=v.list.map fun n:Nat=>(n:Int)
theorem Km (v:V):toL v=[(v.a:Int),(v.b:Int),(v.c:Int),(v.d:Int),(v.e:Int),(v.f:Int),(v.g:Int),(v.h:Int)]:=rfl
theorem sG (v:V)(hv:Vok v)(k w:Nat):Sha.rnd (toL v) (k:Int) (w:Int)=toL (Zt m1 1 v k w):=by
 obtain⟨a,b,c,d,e,f,g,h⟩:=v
 obtain⟨ha,hb,hc,hd,he,hf,hg,hh⟩:=hv
 dsimp only at*
 rw[Km,Km]
 unfold Sha.rnd
 dsimp only
 have q1:Sha.sg (e:Int) 26 21 7=((s3 m1 e 6 11 25:Nat):Int):=sD he 26 21 7 6 11 25 rfl rfl rfl
 have q2:Sha.sg (a:Int) 30 19 10=((s3 m1 a 2 13 22:Nat):Int):=sD ha 30 19 10 2 13 22 rfl rfl rfl
 have q3:Sha.x32 (Sha.a32 (e:Int) (f:Int)) (Sha.a32 (Sha.n32 (e:Int)) (g:Int))=(((e &&& f) ^^^ ((m1 ^^^ e) &&& g):Nat):Int):=by
  unfold Sha.x32 Sha.a32 Sha.n32 Sha.x32
  rw[show(4294967295:Int)=((m1:Nat):Int) from rfl,J5 (show m1<4294967296 by decide) he,Qc he hf,Qc (Cu (show m1<4294967296 by decide) he) hg,J5 (Cv _ he) (Cv _ (Cu (show m1<4294967296 by decide) he))]
 have q4:Sha.x32 (Sha.x32 (Sha.a32 (a:Int) (b:Int)) (Sha.a32 (a:Int) (c:Int))) (Sha.a32 (b:Int) (c:Int))=((((a &&& b) ^^^ (a &&& c)) ^^^ (b &&& c):Nat):Int):=by
  unfold Sha.x32 Sha.a32
  rw[Qc ha hb,Qc ha hc,Qc hb hc,J5 (Cv _ ha) (Cv _ ha),J5 (Cu (Cv _ ha) (Cv _ ha)) (Cv _ hb)]
 rw[q1,q2,q3,q4]
 unfold Zt nA nE tA tB
 dsimp only
 rw[DJ,DJ]
 simp only[Nat.one_mul]
 congr 1
 ·omega
 ·simp only[List.cons.injEq,true_and,and_true]
  omega
/-! ### The words of a block -/
def AV (w:Nat):List UInt8:=[(w/16777216).toUInt8,(w/65536%256).toUInt8,(w/256%256).toUInt8,(w%256).toUInt8]
def wd (s:ByteArray)(j:Nat):Nat:=((Sha.sched s (j+1)).getD j 0).toNat
theorem Sn (s:ByteArray)(j:Nat):∀ n,j<n->(Sha.sched s n).getD j 0=(Sha.sched s (j+1)).getD j 0
 | 0,h=>by omega
 | n + 1,h => by
   by_cases hj:j=n
   ·subst hj;rfl
   ·rw[<- Sn s j n (by omega)]
    unfold Sha.sched Sha.step
    rw[List.getD_eq_getElem?_getD,List.getElem?_append_left (by rw[Sha.AJ];omega),<- List.getD_eq_getElem?_getD]
    cases n with
    | zero=>omega
    | succ n=>rfl
theorem EW (s:ByteArray)(j:Nat):(Sha.sched s (j+1)).getD j 0=if j<16 then Sha.acc s j 4 else Sha.nxt (Sha.sched s j):=by
 show(Sha.step s (Sha.sched s j)).getD j 0=_
 unfold Sha.step
 rw[Sha.AJ,List.getD_eq_getElem?_getD,List.getElem?_append_right (by rw[Sha.AJ];exact Nat.le_refl _),Sha.AJ,Nat.sub_self]
 rfl
theorem mD (s:ByteArray)(j:Nat):wd s j<4294967296:=by
 have:=Sha.CO s (j+1) j
 unfold wd
 omega
theorem MZ (s:ByteArray)(j n:Nat)(h:j<n):(Sha.sched s n).getD j 0=((wd s j:Nat):Int):=by
 rw[Sn s j n h]
 unfold wd
 have:=Sha.CO s (j+1) j
 omega
theorem jS (s:ByteArray)(t:Nat):GX m1 (wd s t) (wd s (t+1)) (wd s (t+9)) (wd s (t+14))=wd s (t+16):=by
 have h:=EW s (t+16)
 rw[if_neg (by omega)] at h
 have h2:((wd s (t+16):Nat):Int)=Sha.nxt (Sha.sched s (t+16)):=by rw[<- h,<- MZ s (t+16) (t+16+1) (by omega)]
 unfold Sha.nxt at h2
 rw[Sha.AJ,show t+16-2=t+14 by omega,show t+16-7=t+9 by omega,show t+16-15=t+1 by omega,show t+16-16=t by omega,MZ s (t+14) _ (by omega),MZ s (t+9) _ (by omega),MZ s (t+1) _ (by omega),MZ s t _ (by omega)] at h2
 have q1:Sha.ss ((wd s (t+14):Nat):Int) 15 13 10=((s2 m1 (wd s (t+14)) 17 19 10:Nat):Int):=sF (mD _ _) 15 13 17 19 10 rfl rfl
 have q2:Sha.ss ((wd s (t+1):Nat):Int) 25 14 3=((s2 m1 (wd s (t+1)) 7 18 3:Nat):Int):=sF (mD _ _) 25 14 7 18 3 rfl rfl
 rw[q1,q2] at h2
 unfold GX
 rw[DJ]
 omega
theorem xQ:∀ t,t<64->Sha.K.getD t 0=((KN.getD t 0:Nat):Int):=by decide
theorem jT:∀ t,t<64->KN.drop t=KN.getD t 0::KN.drop (t+1):=by decide
theorem Vok.rnd {v:V}(h:Vok v)(k w:Nat):Vok (Zt m1 1 v k w):=
 ⟨by show nA m1 1 _ _ _<_;unfold nA;rw[DJ];exact Nat.mod_lt _ (by decide),h.a,h.b,h.c,by show nE m1 1 _ _ _<_;unfold nE;rw[DJ];exact Nat.mod_lt _ (by decide),h.e,h.f,h.g⟩
theorem Qe (s:ByteArray)(v0:List Int):∀ (n t:Nat) (u:V),t+n=64->toL u=Sha.rounds (Sha.sched s 64) v0 t->Vok u->
 toL (goK m1 1 (KN.drop t) (wd s t) (wd s (t+1)) (wd s (t+2)) (wd s (t+3)) (wd s (t+4)) (wd s (t+5)) (wd s (t+6)) (wd s (t+7)) (wd s (t+8)) (wd s (t+9)) (wd s (t+10)) (wd s (t+11)) (wd s (t+12)) (wd s (t+13)) (wd s (t+14)) (wd s (t+15)) u.a u.b u.c u.d u.e u.f u.g u.h)=Sha.rounds (Sha.sched s 64) v0 64/\Vok (goK m1 1 (KN.drop t) (wd s t) (wd s (t+1)) (wd s (t+2)) (wd s (t+3)) (wd s (t+4)) (wd s (t+5)) (wd s (t+6)) (wd s (t+7)) (wd s (t+8)) (wd s (t+9)) (wd s (t+10)) (wd s (t+11)) (wd s (t+12)) (wd s (t+13)) (wd s (t+14)) (wd s (t+15)) u.a u.b u.c u.d u.e u.f u.g u.h)
 | 0,t,u,ht,hu,hk => by
   have:t=64:=by omega
   subst this
   rw[show KN.drop 64=[] by decide,j3]
   exact⟨hu,hk⟩
 | n + 1,t,u,ht,hu,hk => by
   rw[jT t (by omega),Lr,jS]
   refine Qe s v0 n (t+1) (Zt m1 1 u (KN.getD t 0) (wd s t)) (by omega) ?_ (hk.rnd _ _)
   show _=Sha.rnd (Sha.rounds (Sha.sched s 64) v0 t) (Sha.K.getD t 0) ((Sha.sched s 64).getD t 0)
   rw[<- hu,xQ t (by omega),MZ s t 64 (by omega),sG u hk]
theorem aC (v u:V):toL (U9 m1 v u)=List.zipWith (fun x y=>(x+y)%4294967296) (toL v) (toL u):=by
 obtain⟨a,b,c,d,e,f,g,h⟩:=v
 obtain⟨a',b',c',d',e',f',g',h'⟩:=u
 rw[Km,Km,Km]
 unfold U9
 dsimp only
 simp only[DJ,List.zipWith_cons_cons,List.zipWith_nil_left]
 simp only[Int.natCast_emod,Int.natCast_add]
 rfl
theorem jU (v u:V):Vok (U9 m1 v u):=by
 unfold U9
 constructor<;>(dsimp only;rw[DJ];exact Nat.mod_lt _ (by decide))
theorem jV (v:V)(hv:Vok v)(s:ByteArray):Sha.block (toL v) s=toL (IY m1 1 v (wd s 0) (wd s 1) (wd s 2) (wd s 3) (wd s 4) (wd s 5) (wd s 6) (wd s 7) (wd s 8) (wd s 9) (wd s 10) (wd s 11) (wd s 12) (wd s 13) (wd s 14) (wd s 15)):=by
 unfold IY Sha.block
 rw[aC]
 have h:=(Qe s (toL v) 64 0 v rfl rfl hv).1
 rw[List.drop_zero] at h
 rw[<- h]
theorem Ej (A b:Nat)(hA:A*256<4294967296)(hb:b<256):bits .or .u32 ((A:Int)*256%4294967296) (b:Int)=((A*256+b:Nat):Int):=by
 have e:(A:Int)*256%4294967296=((A*256:Nat):Int):=by omega
 rw[e,XO hA (by omega)]
 congr 1
 have:=Nat.two_pow_add_eq_or_of_lt (i:=8) (b:=b) (by omega) A
 rw[Nat.mul_comm A 256]
 exact this.symm
theorem dY (s:ByteArray)(i w:Nat)(hw:w<4294967296)(h:∀ k,k<4->s.data.toList.getD (4*i+k) 0=(AV w).getD k 0):Sha.acc s i 4=(w:Int):=by
 have n8:∀ n:Nat,n<256->(n.toUInt8).toNat=n:=fun n hn=>by simp[Nat.mod_eq_of_lt hn]
 have b0:(s.data.toList.getD (4*i+0) 0).toNat=w/16777216:=by rw[h 0 (by omega)];exact n8 _ (by omega)
 have b1:(s.data.toList.getD (4*i+1) 0).toNat=w/65536%256:=by rw[h 1 (by omega)];exact n8 _ (by omega)
 have b2:(s.data.toList.getD (4*i+2) 0).toNat=w/256%256:=by rw[h 2 (by omega)];exact n8 _ (by omega)
 have b3:(s.data.toList.getD (4*i+3) 0).toNat=w%256:=by rw[h 3 (by omega)];exact n8 _ (by omega)
 unfold Sha.acc Sha.acc Sha.acc Sha.acc Sha.acc
 rw[b0,b1,b2,b3]
 have h0:bits .or .u32 ((0:Nat):Int) ((w/16777216:Nat):Int)=((w/16777216:Nat):Int):=by rw[XO (by omega) (by omega),Nat.zero_or]
 rw[Int.zero_mul,Int.zero_emod]
 rw[show(0:Int)=((0:Nat):Int) from rfl,h0]
 rw[Ej (w/16777216) (w/65536%256) (by omega) (by omega)]
 rw[Ej _ (w/256%256) (by omega) (by omega)]
 rw[Ej _ (w%256) (by omega) (by omega)]
 congr 1
 omega
/-! ### Messages of whole words -/
def Cq:Nat->V->List Nat->V
 | 0,v,_=>v
 | n+1,v,ws=>Cq n (cmp v ws) (ws.drop 16)
theorem Qf:∀ (n:Nat) (v:V) (ws:List Nat),Cq (n+1) v ws=cmp (Cq n v ws) (ws.drop (16*n))
 | 0,_,_=>rfl
 | n + 1,v,ws => by
   show Cq (n+1) (cmp v ws) (ws.drop 16)=cmp (Cq n (cmp v ws) (ws.drop 16)) _
   rw[Qf n,List.drop_drop]
   congr 2
   omega
theorem Ld (v:V)(ws:List Nat):Vok (cmp v ws):=by
 unfold cmp IY
 exact jU _ _
theorem Em:∀ (n:Nat) (v:V) (ws:List Nat),Vok v->Vok (Cq n v ws)
 | 0,_,_,h=>h
 | n+1,v,ws,_=>Em n _ _ (Ld v ws)
theorem Dc (w:Nat):(AV w).length=4:=rfl
theorem flat_get:∀ (ws:List Nat) (j k:Nat),k<4->j<ws.length->(ws.flatMap AV).getD (4*j+k) 0=(AV (ws.getD j 0)).getD k 0
 | [],j,k,_,h=>by cases h
 | w :: ws,0,k,hk,_ => by
   rw[List.flatMap_cons,List.getD_eq_getElem?_getD,List.getElem?_append_left (by rw[Dc];omega),<- List.getD_eq_getElem?_getD]
   rw[Nat.mul_zero,Nat.zero_add]
   rfl
 | w :: ws,j + 1,k,hk,h => by
   rw[List.flatMap_cons,List.getD_eq_getElem?_getD,List.getElem?_append_right (by rw[Dc];omega),Dc,show 4*(j+1)+k-4=4*j+k by omega,<- List.getD_eq_getElem?_getD,flat_get ws j k hk (by simpa using h)]
   rfl
theorem Sq:∀ (n:Nat) (ws:List Nat),(ws.flatMap AV).drop (4*n)=(ws.drop n).flatMap AV
 | 0,_=>rfl
 | n+1,[]=>by simp
 | n + 1,w :: ws => by
   rw[List.flatMap_cons,List.drop_append,Dc,List.drop_of_length_le (by rw[Dc];omega),List.nil_append,show 4*(n+1)-4=4*n by omega,Sq n ws]
   rfl
theorem Gq (ws:List Nat):(ws.flatMap AV).length=4*ws.length:=by
 induction ws with
 | nil=>rfl
 | cons w ws ih=>rw[List.flatMap_cons,List.length_append,ih,Dc,List.length_cons];omega
theorem jW (s:ByteArray)(j w:Nat)(hj:j<16)(hw:w<4294967296)(h:∀ k,k<4->s.data.toList.getD (4*j+k) 0=(AV w).getD k 0):wd s j=w:=by
 unfold wd
 rw[EW,if_pos hj,dY s j w hw h]
 omega
theorem jX (v:V)(hv:Vok v)(s:ByteArray)(ws:List Nat)(hl:16<=ws.length)(hb:∀ w∈ws,w<4294967296)(hs:s.data.toList=(ws.flatMap AV).take 64):Sha.block (toL v) s=toL (cmp v ws):=by
 have h:∀ j,j<16->wd s j=ws.getD j 0:=fun j hj=>by
  refine jW s j _ hj ?_ (fun k hk=>?_)
  ·rw[List.getD_eq_getElem?_getD,List.getElem?_eq_getElem (by omega)]
   exact hb _ (List.getElem_mem _)
  ·rw[hs,List.getD_eq_getElem?_getD,List.getElem?_take,if_pos (by omega),<- List.getD_eq_getElem?_getD,flat_get ws j k hk (by omega)]
 rw[jV v hv s]
 unfold cmp
 rw[h 0 (by omega),h 1 (by omega),h 2 (by omega),h 3 (by omega),h 4 (by omega),h 5 (by omega),h 6 (by omega),h 7 (by omega),h 8 (by omega),h 9 (by omega),h 10 (by omega),h 11 (by omega),h 12 (by omega),h 13 (by omega),h 14 (by omega),h 15 (by omega)]
theorem J6:Vok IVN:=by constructor<;>decide
theorem mE (s:ByteArray)(ws:List Nat)(hb:∀ w∈ws,w<4294967296)(hs:s.data.toList=ws.flatMap AV):∀ n,16*n<=ws.length->Sha.run (toL IVN) s n=toL (Cq n IVN ws)
 | 0,_=>rfl
 | n + 1,h => by
   show Sha.block (Sha.run (toL IVN) s n) _=_
   rw[mE s ws hb hs n (by omega),Qf]
   refine jX _ (Em _ _ _ J6) _ _ (by rw[List.length_drop];omega) (fun w hw=>hb w (List.mem_of_mem_drop hw)) ?_
   rw[Sha.Dk,hs,show 64*n=4*(16*n) by omega,Sq]
   congr 1
   omega
theorem jY (v:V)(hv:Vok v):(strOfNums (Sha.bytes (toL v))).data.toList=v.list.flatMap AV:=by
 have e:∀ x:Nat,x<4294967296->(Sha.be4 (x:Int)).map (fun n=>UInt8.ofNat n.toNat)=AV x:=fun x hx=>by
  show[UInt8.ofNat ((x:Int)/16777216).toNat,UInt8.ofNat ((x:Int)/65536%256).toNat,UInt8.ofNat ((x:Int)/256%256).toNat,UInt8.ofNat ((x:Int)%256).toNat]=_
  rw[show((x:Int)/16777216).toNat=x/16777216 by omega,show((x:Int)/65536%256).toNat=x/65536%256 by omega,show((x:Int)/256%256).toNat=x/256%256 by omega,show((x:Int)%256).toNat=x%256 by omega]
  rfl
 rw[<- ByteArray.toList_eq,Lib.strOfNums_toList]
 unfold Lib.bytesOf Sha.bytes
 rw[Km]
 simp only[List.flatMap_cons,List.flatMap_nil,List.append_nil,List.map_append,V.list]
 rw[e _ hv.a,e _ hv.b,e _ hv.c,e _ hv.d,e _ hv.e,e _ hv.f,e _ hv.g,e _ hv.h]
theorem Qg (m:ByteArray)(ws:List Nat)(n:Nat)(h:(m++Sha.pad m).data.toList=ws.flatMap AV)(hl:ws.length=16*n)(hb:∀ w∈ws,w<4294967296):(Sha.sha m).data.toList=(Cq n IVN ws).list.flatMap AV:=by
 have hz:(m++Sha.pad m).size=64*n:=by
  rw[<- Sha.Bj,h,Gq,hl]
  omega
 have hst:Sha.state (m++Sha.pad m)=toL (Cq n IVN ws):=by
  unfold Sha.state
  rw[hz,Nat.mul_div_cancel_left _ (by omega)]
  exact mE _ ws hb h n (by omega)
 unfold Sha.sha
 rw[hst,jY _ (Em _ _ _ J6)]
end Az
namespace Az
theorem Iw {a b c d:Nat}(ha:a<256)(hb:b<256)(hc:c<256)(hd:d<256):AV (wd4 a b c d)=[a.toUInt8,b.toUInt8,c.toUInt8,d.toUInt8]:=by
 unfold AV wd4
 rw[show(a*16777216+b*65536+c*256+d)/16777216=a by omega,show(a*16777216+b*65536+c*256+d)/65536%256=b by omega,show(a*16777216+b*65536+c*256+d)/256%256=c by omega,show(a*16777216+b*65536+c*256+d)%256=d by omega]
theorem En {a b c d:Nat}(ha:a<256)(hb:b<256)(hc:c<256)(hd:d<256):wd4 a b c d<4294967296:=by unfold wd4;omega
theorem Gs (m:ByteArray)(n:Nat)(h:m.size=n):(Sha.pad m).data.toList=[128]++Lib.repeatL [0] ((119-n%64)%64)++((List.range 8).map fun j=>(8*n%18446744073709551616/2^(56-8*j)%256).toUInt8):=by
 subst h
 unfold Sha.pad
 rw[Sha.Aw,Sha.Aw]
 simp[be8]
theorem GI (n:Nat)(h:n<128):(Cod.uns n).data.toList=[n.toUInt8]:=by
 rw[Cod.UH]
 show(if n<128 then [n.toUInt8] else _)=_
 rw[if_pos h]
theorem Na (v:V)(ws:List Nat):Cq 1 v ws=cmp v ws:=rfl
theorem V7 {v:V} : v.list.length=8:=rfl
theorem Iy {v:V}(h:Vok v):∀ w∈v.list,w<4294967296:=by
 intro w hw
 simp only[V.list,List.mem_cons,List.not_mem_nil,or_false] at hw
 rcases hw with rfl|rfl|rfl|rfl|rfl|rfl|rfl|rfl
 all_goals first|exact h.a|exact h.b|exact h.c|exact h.d|exact h.e|exact h.f|exact h.g|exact h.h
def Ah (s:Nat):ByteArray:=⟨(List.replicate 32 s.toUInt8).toArray⟩
theorem Qh (s key c:Nat)(hs:s<256)(hk:key<128)(hc:c<128):(Sig.secret (Ah s) key c).data.toList=(cmp IVN (CX s key c)).list.flatMap AV:=by
 unfold Sig.secret
 have hm:(Sig.b1 2++Ah s++Cod.uns key++Cod.uns c).data.toList=[2]++List.replicate 32 s.toUInt8++[key.toUInt8]++[c.toUInt8]:=by
  rw[Sha.Aw,Sha.Aw,Sha.Aw,GI key hk,GI c hc]
  simp[Sig.b1,Ah]
 have hz:(Sig.b1 2++Ah s++Cod.uns key++Cod.uns c).size=35:=by rw[<- Sha.Bj,hm];simp
 rw[<- Na]
 refine Qg _ (CX s key c) 1 ?_ rfl ?_
 ·rw[Sha.Aw,hm,Gs _ 35 hz]
  unfold CX
  simp only[List.flatMap_cons,List.flatMap_nil,Iw (show 2<256 by omega) hs hs hs,Iw hs hs hs hs,Iw hs (show key<256 by omega) (show c<256 by omega) (show 128<256 by omega)]
  rfl
 ·intro w hw
  simp only[CX,List.mem_cons,List.not_mem_nil,or_false] at hw
  have h1:=En (show 2<256 by omega) hs hs hs
  have h2:=En hs hs hs hs
  have h3:=En hs (show key<256 by omega) (show c<256 by omega) (show 128<256 by omega)
  rcases hw with rfl|rfl|rfl|rfl|rfl|rfl|rfl|rfl|rfl|rfl|rfl|rfl|rfl|rfl|rfl|rfl
  ·exact h1
  ·exact h2
  ·exact h2
  ·exact h2
  ·exact h2
  ·exact h2
  ·exact h2
  ·exact h2
  ·exact h3
  all_goals simp
def Cr (b:Nat):Nat->Nat->V->V
 | 0,_,v=>v
 | n+1,p,v=>Cr b n (p+1) (cmp IVN (stepW (b+p) v))
theorem og (key c p:Nat)(x:ByteArray)(v:V)(hv:Vok v)(hx:x.data.toList=v.list.flatMap AV)(hk:key<128)(hc:c<128)(hp:p<128):(Sig.Jq key c p x).data.toList=(cmp IVN (stepW (wd4 3 key c 0+p) v)).list.flatMap AV:=by
 unfold Sig.Jq
 have hm:(Sig.b1 3++Cod.uns key++Cod.uns c++Cod.uns p++x).data.toList=[3]++[key.toUInt8]++[c.toUInt8]++[p.toUInt8]++v.list.flatMap AV:=by
  rw[Sha.Aw,Sha.Aw,Sha.Aw,Sha.Aw,GI key hk,GI c hc,GI p hp,hx]
  simp[Sig.b1]
 have hz:(Sig.b1 3++Cod.uns key++Cod.uns c++Cod.uns p++x).size=36:=by
  rw[<- Sha.Bj,hm,List.length_append,Gq,V7]
  rfl
 have he:wd4 3 key c 0+p=wd4 3 key c p:=rfl
 rw[he]
 rw[<- Na]
 refine Qg _ (stepW (wd4 3 key c p) v) 1 ?_ rfl ?_
 ·rw[Sha.Aw,hm,Gs _ 36 hz]
  unfold stepW V.list
  simp only[List.flatMap_cons,List.flatMap_nil,Iw (show 3<256 by omega) (show key<256 by omega) (show c<256 by omega) (show p<256 by omega)]
  simp only[List.append_assoc,List.cons_append,List.nil_append]
  rfl
 ·intro w hw
  have h0:=En (show 3<256 by omega) (show key<256 by omega) (show c<256 by omega) (show p<256 by omega)
  obtain⟨ha,hb,hc2,hd,he2,hf,hg,hh⟩:=hv
  simp only[stepW,List.mem_cons,List.not_mem_nil,or_false] at hw
  rcases hw with rfl|rfl|rfl|rfl|rfl|rfl|rfl|rfl|rfl|rfl|rfl|rfl|rfl|rfl|rfl|rfl
  ·exact h0
  ·exact ha
  ·exact hb
  ·exact hc2
  ·exact hd
  ·exact he2
  ·exact hf
  ·exact hg
  ·exact hh
  all_goals simp
theorem Md (key c:Nat)(hk:key<128)(hc:c<128):∀ (n p:Nat) (x:ByteArray) (v:V),Vok v->x.data.toList=v.list.flatMap AV->p+n<=128->(Sig.chain key c p n x).data.toList=(Cr (wd4 3 key c 0) n p v).list.flatMap AV/\Vok (Cr (wd4 3 key c 0) n p v)
 | 0,_,_,_,hv,hx,_=>⟨hx,hv⟩
 | n+1,p,x,v,hv,hx,hp=>Md key c hk hc n (p+1) _ _ (Ld _ _) (og key c p x v hv hx hk hc (by omega)) (by omega)
/-! ### All chains in lanes -/
def Nb (M O B n p:Nat)(v:V):V:=(List.range' p n).foldl (fun v q=>OQ M O B q v) v
theorem V8 (M O B n p:Nat)(v:V):Nb M O B (n+1) p v=Nb M O B n (p+1) (OQ M O B p v):=by
 unfold Nb
 rw[List.range'_succ,List.foldl_cons]
theorem V9 (M O B p:Nat)(v:V):Nb M O B 0 p v=v:=by
 unfold Nb
 rw[List.range'_zero,List.foldl_nil]
theorem J7 (b n p:Nat)(v:V):Cr b (n+1) p v=Cr b n (p+1) (cmp IVN (stepW (b+p) v)):=by rw[Cr]
theorem Df:∀ n,Aa n (fun _=>0)=0
 | 0=>rfl
 | n+1=>by show 0+18446744073709551616*Aa n (fun _=>0)=0;rw[Df n]
def VF.iv:VF:=⟨fun _=>IVN.a,fun _=>IVN.b,fun _=>IVN.c,fun _=>IVN.d,fun _=>IVN.e,fun _=>IVN.f,fun _=>IVN.g,fun _=>IVN.h⟩
theorem Kn (n:Nat):IVP (ones n)=VF.iv.pack n:=by
 unfold IVP VF.iv VF.pack
 simp only[AZ]
 rfl
theorem Sr:VF.iv.ok:=by constructor<;>(intro i;simp[VF.iv,IVN])
theorem Le (n:Nat)(v:VF)(hv:v.ok)(base:Nat->Nat)(p:Nat)(hb:∀ i,base i+p<4294967296):∃ u:VF,u.ok/\OQ (mask n) (ones n) (Aa n base) p (v.pack n)=u.pack n/\∀ i,u.at i=cmp IVN (stepW (base i+p) (v.at i)):=by
 obtain⟨u,h1,h2,h3⟩:=GY n VF.iv Sr (fun i=>base i+p) v.a v.b v.c v.d v.e v.f v.g v.h (fun _=>2147483648) (fun _=>0) (fun _=>0) (fun _=>0) (fun _=>0) (fun _=>0) (fun _=>288) hb hv.a hv.b hv.c hv.d hv.e hv.f hv.g hv.h (fun _=>by simp) (fun _=>by simp) (fun _=>by simp) (fun _=>by simp) (fun _=>by simp) (fun _=>by simp) (fun _=>by simp)
 refine⟨u,h1,?_,fun i=>(h3 i).trans (by unfold cmp stepW;rfl)⟩
 have e1:Aa n (fun i=>base i+p)=Aa n base+ones n*p:=by rw[AZ n p,BF n base (fun _=>p)]
 have e2:Aa n (fun _=>2147483648)=ones n*2147483648:=(AZ n 2147483648).symm
 have e3:Aa n (fun _=>288)=ones n*288:=(AZ n 288).symm
 rw[e1,e2,e3,Df,<- Kn] at h2
 exact h2
theorem XP (n:Nat)(base:Nat->Nat)(k:Nat):∀ (p:Nat) (v:VF),v.ok->(∀ i,base i+(p+k)<4294967296)->∃ u:VF,u.ok/\Nb (mask n) (ones n) (Aa n base) k p (v.pack n)=u.pack n/\∀ i,u.at i=Cr (base i) k p (v.at i):=by
 induction k with
 | zero=>exact fun p v hv _=>⟨v,hv,V9 _ _ _ _ _,fun _=>rfl⟩
 | succ k ih =>
   intro p v hv hb
   obtain⟨u,h1,h2,h3⟩:=Le n v hv base p (fun i=>Nat.lt_of_le_of_lt (Nat.add_le_add_left (Nat.le_add_right _ _) _) (hb i))
   obtain⟨z,g1,g2,g3⟩:=ih (p+1) u h1 (fun i=>by rw[show p+1+k=p+(k+1) by omega];exact hb i)
   refine⟨z,g1,?_,fun i=>?_⟩
   ·rw[V8,h2,g2]
   ·rw[g3,h3,J7]
end Az
end
section
open Go Go.RowKit Go.Maps
theorem dZ (W:World)(g b:Nat)(hb:b<256)(h:At W g 5 #[.int .u8 b]):(convert 60 9 (.slice (some ⟨g,0,none⟩) 1 1)).run Tryz.prog W=.ok (.string ⟨#[b.toUInt8]⟩) W:=by
 have:=run_convert_bytes_arg (P:=Tryz.prog) W 60 5 rfl rfl g 0 1 1 [(b:Int)] rfl (fun i hi=>by
  have:i=0:=by simpa using hi
  subst this
  exact h.cell 0) 9 rfl
 rw[this]
 have e:((b:Int)).toNat.toUInt8=b.toUInt8:=by rw[Int.toNat_natCast]
 first
  | rfl
  | (congr 1;simp[e])
theorem eu (b:Nat):(⟨(Lib.repeatL (⟨#[b.toUInt8]⟩:ByteArray).data.toList 32).toArray⟩:ByteArray)=Az.Ah b:=by
 unfold Az.Ah
 have:Lib.repeatL (⟨#[b.toUInt8]⟩:ByteArray).data.toList 32=List.replicate 32 b.toUInt8:=by
  first|rfl|(simp[Lib.repeatL])
 rw[this]
theorem Qi (b:Nat)(w:World):Calls Tryz.prog 75 #[.string ⟨#[b.toUInt8]⟩,.int .i64 32] w fun e w' => e=.returned (.string (Az.Ah b))/\Below w.heap.size w w' :=
 (Tryz.strings_Repeat_main ⟨#[b.toUInt8]⟩ 32 w (by omega) (by omega) (by show 1*32<=140737488355328;omega) (by show 0<1;omega)).mono fun e w' ⟨he,hb⟩=>⟨by rw[he,eu],hb⟩
theorem Jd (b:Nat)(w:World)(hb:b<256):Calls Tryz.prog 34 #[.int .u8 b] w fun e w' => e=.returned (.string (Az.Ah b))/\Below w.heap.size w w':=by
 have hrp:=fun W=>Qi b W
 have hcv:=fun W g=>dZ W g b hb
 have HRP:=zh hrp;have HCV:=zh hcv;clear hrp hcv
 go_enter Tryz.func34,Tryz.ntmps34
 go_wp2_with fail
 rw[HCV.out _ _ (by first|exact At.new _ _ _|exact(At.new _ _ _).drew)]
 go_wp2_with fail
 refine(HRP.out _).mono ?_
 rintro e w2 ⟨rfl,hb2⟩
 have hb3:Below w.heap.size w w2:=Below.trans (b:=_) (by repeat' first|exact Below.refl _ _|refine Below.drew ?_|refine Below.alloc ?_ ?_ _|(simp;done)|(simp;omega)) (hb2.mono (by simp))
 have HB3:=zh hb3;clear hb2 hb3
 go_wp2_with fail
 go_ret
 exact⟨rfl,HB3.out⟩
theorem Me (b:Nat)(w:World)(hb:b<256):Calls Tryz.prog 76 #[.int .u8 b] w fun e w' => e=.returned (.agg #[.string (Az.Ah b),.int .i64 1,.int .i64 0])/\Below w.heap.size w w':=by
 have hrp:=fun W=>Qi b W
 have hcv:=fun W g=>dZ W g b hb
 have HRP:=zh hrp;have HCV:=zh hcv;clear hrp hcv
 go_enter Tryz.func76,Tryz.ntmps76
 go_wp2_with fail
 have ha1:At (w.alloc (.cells #[.string ⟨#[]⟩,.int .i64 0,.int .i64 0] 113)) w.heap.size 113 #[.string ⟨#[]⟩,.int .i64 0,.int .i64 0]:=At.new w _ _
 have hb1:Below w.heap.size w (w.alloc (.cells #[.string ⟨#[]⟩,.int .i64 0,.int .i64 0] 113)):=zb
 have hn1:(w.alloc (.cells #[.string ⟨#[]⟩,.int .i64 0,.int .i64 0] 113)).heap.size=w.heap.size+1:=by simp
 rw[<- hn1]
 generalize w.alloc (.cells #[.string ⟨#[]⟩,.int .i64 0,.int .i64 0] 113)=w1 at*
 rw[HCV.out _ _ (At.new _ _ _)]
 go_wp2_with fail
 refine(HRP.out _).mono ?_
 rintro e w2 ⟨rfl,hb2⟩
 have hb3:Below w1.heap.size w1 w2:=Below.trans (b:=_) (by repeat' first|exact Below.refl _ _|refine Below.drew ?_|refine Below.alloc ?_ ?_ _|(simp;done)|(simp;omega)) (hb2.mono (by simp))
 have hlt:=ha1.lt
 have HA2:=zh (ha1.below hb3 hlt);have HB2:=zh (hb1.trans (hb3.mono hb1.size))
 clear ha1 hb1 hb2 hb3
 have z0:w2.frozen? ⟨w.heap.size,0,none⟩=false:=HA2.out.free 0
 have z1:w2.frozen? ⟨w.heap.size,1,none⟩=false:=HA2.out.free 1
 have z2:w2.frozen? ⟨w.heap.size,2,none⟩=false:=HA2.out.free 2
 obtain⟨c0,c1,c2⟩:=HA2.out.c3
 go_wp2_with fail
 have ha3:At (((w2.setCell ⟨w.heap.size,0,none⟩ (.string (Az.Ah b))).setCell ⟨w.heap.size,1,none⟩ (.int .i64 1)).setCell ⟨w.heap.size,2,none⟩ (.int .i64 0)) w.heap.size 113 #[.string (Az.Ah b),.int .i64 1,.int .i64 0]:=((HA2.out.set 0 _).set 1 _).set 2 _
 refine Gn rfl rfl (Ad ha3 Tryz.underlying113 rfl Jc) ⟨rfl,((HB2.out.setCell (p:=⟨w.heap.size,0,none⟩) (Nat.le_refl _) _).setCell (p:=⟨w.heap.size,1,none⟩) (Nat.le_refl _) _).setCell (p:=⟨w.heap.size,2,none⟩) (Nat.le_refl _) _⟩
namespace Nam
def cuts:List UInt8->List (List UInt8)
 | []=>[[]]
 | c::l=>if c=47 then []::cuts l else (c::(cuts l).headD [])::(cuts l).tail
theorem Sv:∀ l:List UInt8,(47:UInt8) ∉ l->cuts l=[l]
 | [],_=>rfl
 | c :: l,h => by
   have h1:c≠47:=fun e=>h (by rw[e];exact List.mem_cons_self)
   have h2:=Sv l (fun hm=>h (List.mem_cons_of_mem _ hm))
   unfold cuts
   rw[if_neg h1,h2]
   rfl
theorem VA (b:List UInt8):∀ a:List UInt8,(47:UInt8) ∉ a->cuts (a++47::b)=a::cuts b
 | [],_=>by simp[cuts]
 | c :: l,h => by
   have h1:c≠47:=fun e=>h (by rw[e];exact List.mem_cons_self)
   have h2:=VA b l (fun hm=>h (List.mem_cons_of_mem _ hm))
   have e:cuts (c::(l++47::b))=(c::(cuts (l++47::b)).headD [])::(cuts (l++47::b)).tail:=by rw[cuts,if_neg h1]
   rw[List.cons_append,e,h2]
   rfl
theorem occ_one (s:List UInt8)(i:Nat):Lib.occAt s [47] i=true↔s[i]? = some 47:=by
 unfold Lib.occAt
 rw[<- List.head?_drop]
 cases s.drop i with
 | nil=>simp
 | cons c l=>simp[List.isPrefixOf];exact⟨fun h=>h.symm,fun h=>h.symm⟩
theorem XQ:∀ (n:Nat) (l:List UInt8),l.length<=n->Lib.split l [47]=cuts l:=by
 intro n
 induction n with
 | zero =>
   intro l h
   have:l=[]:=List.eq_nil_of_length_eq_zero (by omega)
   subst this
   rfl
 | succ n ih =>
   intro l h
   rcases Lib.index_spec l [47] with ⟨h1,h2⟩|⟨i,h1,h2,h3,h4⟩
   ·have hm : (47 : UInt8) ∉ l :=by
     intro hm
     obtain⟨j,hj⟩:=List.mem_iff_getElem?.1 hm
     have hjl:j<l.length:=(List.getElem?_eq_some_iff.1 hj).1
     have:=h2 j (by omega)
     rw[(occ_one l j).2 hj] at this
     cases this
    rw[Sv l hm]
    unfold Lib.split
    rw[Lib.count_miss h1]
    rfl
   ·have hi:=(occ_one l i).1 h3
    have hil:i<l.length:=(List.getElem?_eq_some_iff.1 hi).1
    have e:l=l.take i++47::l.drop (i+1):=by
     conv=>lhs;rw[<- List.take_append_drop i l]
     rw[List.drop_eq_getElem_cons hil]
     have:=(List.getElem?_eq_some_iff.1 hi).2
     rw[this]
    have hm:(47:UInt8) ∉ l.take i:=by
     intro hm
     obtain⟨j,hj⟩:=List.mem_iff_getElem?.1 hm
     have hjl:j<(l.take i).length:=(List.getElem?_eq_some_iff.1 hj).1
     rw[List.length_take] at hjl
     have hji:j<i:=by omega
     rw[List.getElem?_take_of_lt hji] at hj
     have:=h4 j hji
     rw[(occ_one l j).2 hj] at this
     cases this
    have e2:cuts l=l.take i::cuts (l.drop (i+1)):=by
     conv=>lhs;rw[e]
     exact VA _ _ hm
    have hne:¬ ((Lib.index l [47] == -1)=true):=by rw[h1,beq_iff_eq];omega
    have ih2:=ih (l.drop (i+1)) (by rw[List.length_drop];omega)
    rw[e2,<- ih2]
    unfold Lib.split
    rw[Lib.count_hit (by simp) h1,Nat.add_comm 1]
    conv=>lhs;unfold Lib.splitK
    rw[if_neg hne,h1]
    simp
end Nam
def Fx (w:World):Prop:=∃ m:Int,w.cell? ⟨0,0,none⟩=some (.int .i64 m)
theorem Fx.below {w w' : World}(h:Fx w)(hb:Below w.heap.size w w'):Fx w':=by
 obtain⟨m,h⟩:=h
 exact⟨m,(hb.cell (p:=⟨0,0,none⟩) (block_lt h)).trans h⟩
end
section
open Go
namespace Own
def VB (l:List UInt8):Bool:=(Nam.cuts l).all fun p => !p.isEmpty
def Bt (s:ByteArray):Bool:=decide (1<=s.size)&&decide (s.size<=64)&&VB s.data.toList
def belongs (s p:ByteArray):Bool:=decide (s=p) || (p.data.toList++[47]).isPrefixOf s.data.toList
end Own
namespace Own
def Ak (a b:ByteArray):Bool:=Op.bytesLess a.toList b.toList
structure Member where
 name:ByteArray
 pub:ByteArray
deriving DecidableEq
structure Space where
 pre:ByteArray
 members:List Member
 threshold:Int
deriving DecidableEq
structure KeyUse where
 pub:ByteArray
 next:Int
deriving DecidableEq
structure Ap where
 count:Int
 spaces:List Space
 keys:List KeyUse
deriving DecidableEq
structure Ce where
 name:ByteArray
 sig:Sig.T
deriving DecidableEq
def Ap.none:Ap:=⟨0,[],[]⟩
def CG (s:ByteArray):Bool:=decide (1<=s.size)&&decide (s.size<=32)
def Bp (pre:List Member)(m:Member):Bool:=CG m.name&&Sig.BJ m.pub && !(pre.any fun x=>decide (x.pub=m.pub))&&(match pre.getLast? with|none=>true|some x=>Ak x.name m.name)
def Au:List Member->List Member->Bool
 | _,[]=>true
 | pre,m::l=>Bp pre m&&Au (pre++[m]) l
def D8 (l:List Member):Bool:=decide (1<=l.length)&&decide (l.length<=8)&&Au [] l
def Bu (s:Space):Bool:=Bt s.pre&&D8 s.members&&decide (1<=s.threshold)&&decide (s.threshold<=s.members.length)
def late:Int:=1099511627776
def Ai {α : Type}(ok : α -> Bool)(lt : α -> α -> Bool):Option α -> List α -> Bool
 | _,[]=>true
 | p,x::l=>ok x&&(match p with|none=>true|some y=>lt y x)&&Ai ok lt (some x) l
def EA (k:KeyUse):Bool:=Sig.BJ k.pub&&decide (0<=k.next)&&decide (k.next<=2^(k.pub.get! 32).toNat)
def Bf (o:Ap):Bool:=decide (0<=o.count)&&decide (o.count<=late)&&decide (o.spaces.length<=64)&&Ai Bu (fun x y=>Ak x.pre y.pre) none o.spaces&&Ai EA (fun x y=>Ak x.pub y.pub) none o.keys
def FJ (s:ByteArray):Option Space->List Space->Option Space
 | b,[]=>b
 | b,x::l=>FJ s (if belongs s x.pre&&(match b with|none=>true|some y=>decide (y.pre.size<x.pre.size)) then some x else b) l
def authority (o:Ap)(s:ByteArray):Option Space:=if Bf o&&Bt s then FJ s none o.spaces else none
def Bc (K:List KeyUse)(p:ByteArray):Int:=match K.find? fun k=>decide (k.pub=p) with|none=>0|some k=>k.next
def use:List KeyUse->KeyUse->List KeyUse
 | [],x=>[x]
 | k::l,x=>if Ak k.pub x.pub then k::use l x else if k.pub=x.pub then x::l else x::k::l
def find (l:List Member)(n:ByteArray):Option Member:=l.find? fun m=>decide (m.name=n)
def BS (s:Space)(msg:ByteArray):List ByteArray->List KeyUse->List Ce->Except Int (List KeyUse)
 | _,K,[]=>.ok K
 | seen,K,a :: l => match find s.members a.name with
   | none=>.error 6
   | some m=>if seen.any (fun x=>decide (x=a.name)) then .error 5 else if Sig.verify m.pub msg a.sig then (if a.sig.index<Bc K m.pub then .error 8 else BS s msg (a.name::seen) (use K ⟨m.pub,a.sig.index+1⟩) l) else .error 18
structure Vote where
 name:ByteArray
 pub:ByteArray
 agrees:Bool
deriving DecidableEq
structure Ab where
 id:Int
 path:ByteArray
 digest:ByteArray
 opened:Int
 expires:Int
 Aq:List Vote
deriving DecidableEq
structure Queue where
 next:Int
 props:List Ab
deriving DecidableEq
def Ab.none:Ab:=⟨0,⟨#[]⟩,⟨#[]⟩,0,0,[]⟩
def Queue.none:Queue:=⟨0,[]⟩
def Bh (p:Ab):Bool:=decide (0<=p.id)&&Bt p.path&&Sig.digest p.digest&&(decide (0<=p.opened)&&decide (p.opened<=late)&&decide (p.opened<p.expires)&&decide (p.expires<=p.opened+256))&&decide (p.Aq.length<=1024)&&Ai (fun v=>CG v.name) (fun x y=>Ak x.name y.name) none p.Aq
def A9 (q:Queue):Bool:=decide (0<=q.next)&&decide (q.next<=late)&&decide (q.props.length<=64)&&Ai (fun p=>Bh p&&decide (p.id<q.next)) (fun x y=>decide (x.id<y.id)) none q.props
def Eo (q:Queue)(size window:Int)(s d:ByteArray):Queue × Int × Int:=
 if A9 q=false then (.none,0,1)
 else if size<0\/late<size\/window<1\/256<window then (.none,0,2)
 else if Bt s=false then (.none,0,4)
 else if Sig.digest d=false then (.none,0,1)
 else if q.props.any (fun p=>decide (p.path=s)&&decide (p.digest=d)) then (.none,0,5)
 else if q.props.length=64\/q.next=late then (.none,0,7)
 else (⟨q.next+1,q.props++[⟨q.next,s,d,size,size+window,[]⟩]⟩,q.next,0)
def Ay (p:Ab)(agrees:Bool):ByteArray:=Sig.b1 (if agrees then 13 else 14)++Cod.uns p.id.toNat++Cod.text p.path++Cod.text p.digest
def CW (l:List Ab)(id:Int):Option Ab:=l.find? fun p=>decide (p.id=id)
def Bq:List Vote->Vote->List Vote
 | [],x=>[x]
 | v::l,x=>if Ak v.name x.name then v::Bq l x else if v.name=x.name then x::l else x::v::l
def Qj (l:List Ab)(p:Ab):List Ab:=l.map fun x=>if x.id=p.id then p else x
def EZ (q:Queue)(o:Ap)(id:Int)(agrees:Bool)(a:Ce):Queue × Ap × Int:=
 if (A9 q&&Bf o)=false then (.none,.none,1)
 else match CW q.props id with
  | none=>(.none,.none,6)
  | some p => match authority o p.path with
    | none=>(.none,.none,6)
    | some s => match find s.members a.name with
      | none=>(.none,.none,6)
      | some m =>
        if Sig.verify m.pub (Ay p agrees) a.sig=false then (.none,.none,18)
        else if a.sig.index<Bc o.keys m.pub then (.none,.none,8)
        else if 1024<(Bq p.Aq ⟨a.name,m.pub,agrees⟩).length then (.none,.none,7)
        else ({ q with props:=Qj q.props { p with Aq:=Bq p.Aq ⟨a.name,m.pub,agrees⟩ } },{ o with keys:=use o.keys ⟨m.pub,a.sig.index+1⟩ },0)
def counts (s:Space)(v:Vote):Bool:=s.members.any fun m=>decide (m.name=v.name)&&decide (m.pub=v.pub)
def D9 (p:Ab)(o:Ap):Bool:=match authority o p.path with
 | none=>false
 | some s=>(p.Aq.filter (counts s)).all (·.agrees)&&decide (s.threshold<=((p.Aq.filter (counts s)).length:Int))
def agreed (q:Queue)(o:Ap)(id:Int):Bool:=match CW q.props id with
 | none=>false
 | some p=>A9 q&&Bf o&&D9 p o
def without (q:Queue)(id:Int):Queue :={ q with props:=q.props.filter fun p => !decide (p.id=id) }
def merge (q:Queue)(o:Ap)(size id:Int):Queue × Ab × Int:=
 if (A9 q&&Bf o)=false then (.none,.none,1)
 else match CW q.props id with
  | none=>(.none,.none,6)
  | some p=>if p.expires<=size then (.none,.none,8) else if D9 p o=false then (.none,.none,20) else (without q id,p,0)
def Fa (q:Queue)(id:Int):Queue × Int:=
 if A9 q=false then (.none,1) else if (CW q.props id).isNone then (.none,6) else (without q id,0)
def expire (q:Queue)(size:Int):Queue:=if A9 q=false then .none else { q with props:=q.props.filter fun p=>decide (size<p.expires) }
end Own
end
section
open Go Go.RowKit Go.Maps
abbrev Elem (α : Type):=(Nat->Prop)->World->List Value -> α -> Prop
class Gt {α : Type} (R:Elem α):Prop where
 keep:∀ {F:Nat->Prop} {w w' : World} {cs:List Value} {x : α},R F w cs x->w.heap.size<=w'.heap.size->(∀ k,F k->k<w.heap.size->w'.heap[k]? = w.heap[k]?)->R F w' cs x
 mono:∀ {F G:Nat->Prop} {w:World} {cs:List Value} {x : α},R F w cs x->(∀ k,F k->k<w.heap.size->G k)->R G w cs x
def Af {α : Type}(size:Nat)(R:Elem α)(F:Nat->Prop)(w:World)(v:Value)(l:List α):Prop:=
 ∃ a c,v = .slice a l.length c ∧ (l.length = 0 ∨ ∃ b o,a = some ⟨b,o,none⟩ ∧ F b ∧ b < w.heap.size ∧
   ∀ (i:Nat) (h:i<l.length),∃ cs,cs.length=size/\(∀ (j:Nat) (u:Value),cs[j]? = some u->w.cell? ⟨b,o+i*size+j,none⟩=some u)/\R F w cs l[i])
section
variable {α : Type} {size:Nat} {R:Elem α} {F G:Nat->Prop} {w w' : World} {v:Value} {l:List α}
theorem Af.len (h:Af size R F w v l):∃ a c,v=.slice a l.length c:=by obtain⟨a,c,h,_⟩:=h;exact⟨a,c,h⟩
theorem Af.nil (a:Option Addr)(c:Nat):Af size R F w (.slice a 0 c) []:=⟨a,c,rfl,.inl rfl⟩
theorem Af.keep [Gt R](h:Af size R F w v l)(hs:w.heap.size<=w'.heap.size)(hk:∀ k,F k->k<w.heap.size->w'.heap[k]? = w.heap[k]?):Af size R F w' v l:=by
 obtain⟨a,c,e,h0|⟨b,o,ha,hF,hb,hc⟩⟩:=h
 ·exact⟨a,c,e,.inl h0⟩
 ·refine⟨a,c,e,.inr ⟨b,o,ha,hF,Nat.lt_of_lt_of_le hb hs,fun i hi=>?_⟩⟩
  obtain⟨cs,h1,h2,h3⟩:=hc i hi
  exact⟨cs,h1,fun j u hj=>(Ke (hk b hF hb)).trans (h2 j u hj),Gt.keep h3 hs hk⟩
theorem Af.below [Gt R](h:Af size R F w v l)(hb:Below w.heap.size w w'):Af size R F w' v l:=h.keep hb.size fun k _ hl=>hb.block k hl
theorem Af.fr [Gt R]{H:Nat->Prop}(h:Af size R F w v l)(hf:Fr H w w')(hd:∀ k,F k->¬ H k):Af size R F w' v l:=h.keep hf.size fun k hF hl=>hf.keep k hl (hd k hF)
theorem Af.mono [Gt R](h:Af size R F w v l)(hF:∀ k,F k->k<w.heap.size->G k):Af size R G w v l:=by
 obtain⟨a,c,e,h0|⟨b,o,ha,hb0,hb,hc⟩⟩:=h
 ·exact⟨a,c,e,.inl h0⟩
 ·refine⟨a,c,e,.inr ⟨b,o,ha,hF b hb0 hb,hb,fun i hi=>?_⟩⟩
  obtain⟨cs,h1,h2,h3⟩:=hc i hi
  exact⟨cs,h1,h2,Gt.mono h3 hF⟩
theorem Af.at_ {a:Option Addr}{n c:Nat}(h:Af size R F w (.slice a n c) l){i:Nat}(hi:i<l.length):∃ b o,a=some ⟨b,o,none⟩/\F b/\b<w.heap.size/\∃ cs,cs.length=size/\(∀ (j:Nat) (u:Value),cs[j]? = some u->w.cell? ⟨b,o+i*size+j,none⟩=some u)/\R F w cs l[i]:=by
 obtain⟨a',c',e,h0|⟨b,o,ha,hF,hb,hc⟩⟩:=h
 ·omega
 ·cases e
  exact⟨b,o,ha,hF,hb,hc i hi⟩
theorem Af.cells (h:Af size R F w v l):∃ css:List (List Value),css.length=l.length/\(∀ i (hi:i<l.length) (hi' : i<css.length),css[i].length=size/\R F w css[i] l[i])/\BA w v size l.length css.flatten:=by
 obtain⟨a,c,e,h0|⟨b,o,ha,hF,hb,hc⟩⟩:=h
 ·have:l=[]:=List.eq_nil_of_length_eq_zero h0
  subst this
  exact⟨[],rfl,(fun i hi=>by cases hi),by rw[e];exact BA.nil c a⟩
 ·have key : ∀ n,n ≤ l.length → ∃ css : List (List Value),css.length = n ∧ (∀ i (hi : i < l.length) (hi' : i < css.length),css[i].length = size ∧ R F w css[i] l[i]) ∧ css.flatten.length = n * size ∧ ∀ (j : Nat) (u : Value),css.flatten[j]? = some u → w.cell? ⟨b,o + j,none⟩ = some u :=by
   intro n
   induction n with
   | zero=>exact fun _=>⟨[],rfl,(fun i _ hi=>by cases hi),by simp,(fun j u hj=>by simp at hj)⟩
   | succ n ih =>
     intro hn
     obtain⟨css,h1,h2,h3,h4⟩:=ih (by omega)
     obtain⟨cs,q1,q2,q3⟩:=hc n (by omega)
     refine⟨css++[cs],by simp[h1],fun i hi hi' => ?_,by simp[h3,q1,Nat.succ_mul],fun j u hj=>?_⟩
     ·by_cases hin:i<css.length
      ·rw[List.getElem_append_left hin];exact h2 i hi hin
      ·have:i=n:=by simp at hi';omega
       subst this
       rw[List.getElem_append_right (by omega)]
       simp only[h1,Nat.sub_self,List.getElem_cons_zero]
       exact⟨q1,q3⟩
     ·rw[List.flatten_append,List.flatten_singleton] at hj
      by_cases hjl:j<css.flatten.length
      ·rw[List.getElem?_append_left hjl] at hj;exact h4 j u hj
      ·rw[List.getElem?_append_right (by omega),h3] at hj
       have:=q2 _ u hj
       rwa [show o+n*size+(j-n*size)=o+j by omega] at this
  obtain⟨css,h1,h2,h3,h4⟩:=key l.length (Nat.le_refl _)
  exact⟨css,h1,h2,h3,a,c,e,.inr ⟨b,o,ha,hb,h4⟩⟩
theorem Af.TY {n:Nat}{css:List (List Value)}(hr:BA w v size n css.flatten)(hn:n=l.length)(hl:css.length=l.length)(hF:∀ k,v.ownBlock=some k->F k)(he:∀ i (hi:i<l.length) (hi' : i<css.length),css[i].length=size/\R F w css[i] l[i]):Af size R F w v l:=by
 subst hn
 obtain⟨_,a,c,rfl,h0|⟨b,o,rfl,hb,hc⟩⟩:=hr
 ·exact⟨a,c,rfl,.inl h0⟩
 ·refine⟨_,c,rfl,.inr ⟨b,o,rfl,hF b rfl,hb,fun i hi=>⟨css[i],(he i hi (by omega)).1,fun j u hj=>?_,(he i hi (by omega)).2⟩⟩⟩
  rw[Nat.add_assoc]
  refine hc _ _ ?_
  have hlen:∀ m,m<=css.length->(css.take m).flatten.length=m*size:=by
   intro m
   induction m with
   | zero=>simp
   | succ m ih =>
     intro hm
     rw[List.take_succ_eq_append_getElem (by omega),List.flatten_append,List.length_append,ih (by omega),List.flatten_singleton,(he m (by omega) (by omega)).1,Nat.succ_mul]
  have hi2:i<css.length:=by omega
  have hsplit:css.flatten=(css.take i).flatten++(css[i]++(css.drop (i+1)).flatten):=by
   conv=>lhs;rw[<- List.take_append_drop i css]
   rw[List.flatten_append,List.drop_eq_getElem_cons hi2,List.flatten_cons]
  rw[hsplit,List.getElem?_append_right (by rw[hlen i (by omega)];omega),hlen i (by omega),Nat.add_sub_cancel_left]
  have:=(List.getElem?_eq_some_iff.1 hj).1
  rw[List.getElem?_append_left this]
  exact hj
end
end
section
open Go Go.RowKit Go.Maps
namespace Own
def VD:Nat->Prop:=fun _=>True
def BX:Elem Member:=fun _ _ cs m=>cs=[.string m.name,.string m.pub]
def Qk:Elem KeyUse:=fun _ _ cs k=>cs=[.string k.pub,.int .i64 k.next]
def NS:Elem Vote:=fun _ _ cs v=>cs=[.string v.name,.string v.pub,.bool v.agrees]
def CU:Elem Space:=fun F w cs s=>∃ v,cs=[.string s.pre,v,.int .i64 s.threshold]/\Af 2 BX F w v s.members
def Mf:Elem Ab:=fun F w cs p=>∃ v,cs=[.int .i64 p.id,.string p.path,.string p.digest,.int .i64 p.opened,.int .i64 p.expires,v]/\Af 3 NS F w v p.Aq
instance:Gt BX:=⟨fun h _ _=>h,fun h _=>h⟩
instance:Gt Qk:=⟨fun h _ _=>h,fun h _=>h⟩
instance:Gt NS:=⟨fun h _ _=>h,fun h _=>h⟩
instance:Gt CU:=⟨fun⟨v,h1,h2⟩ hs hk=>⟨v,h1,h2.keep hs hk⟩,fun⟨v,h1,h2⟩ hF=>⟨v,h1,h2.mono hF⟩⟩
instance:Gt Mf:=⟨fun⟨v,h1,h2⟩ hs hk=>⟨v,h1,h2.keep hs hk⟩,fun⟨v,h1,h2⟩ hF=>⟨v,h1,h2.mono hF⟩⟩
abbrev AY (w:World)(v:Value)(l:List Member):Prop:=Af 2 BX VD w v l
abbrev Ca (w:World)(v:Value)(l:List KeyUse):Prop:=Af 2 Qk VD w v l
abbrev Ct (w:World)(v:Value)(l:List Vote):Prop:=Af 3 NS VD w v l
abbrev Bw (w:World)(v:Value)(l:List Space):Prop:=Af 3 CU VD w v l
abbrev AX (w:World)(v:Value)(l:List Ab):Prop:=Af 6 Mf VD w v l
section
variable {w w' : World} {a:Option Addr} {n c:Nat}
theorem AY.cells {l:List Member}(h:AY w (.slice a n c) l){i:Nat}(hi:i<l.length):∃ b o,a=some ⟨b,o,none⟩/\b<w.heap.size/\w.cell? ⟨b,o+i*2,none⟩=some (.string l[i].name)/\w.cell? ⟨b,o+i*2+1,none⟩=some (.string l[i].pub):=by
 obtain⟨b,o,ha,_,hb,cs,h1,h2,h3⟩:=h.at_ hi
 have h3:cs=_:=h3
 subst h3
 exact⟨b,o,ha,hb,h2 0 _ rfl,h2 1 _ rfl⟩
theorem Ca.cells {l:List KeyUse}(h:Ca w (.slice a n c) l){i:Nat}(hi:i<l.length):∃ b o,a=some ⟨b,o,none⟩/\b<w.heap.size/\w.cell? ⟨b,o+i*2,none⟩=some (.string l[i].pub)/\w.cell? ⟨b,o+i*2+1,none⟩=some (.int .i64 l[i].next):=by
 obtain⟨b,o,ha,_,hb,cs,h1,h2,h3⟩:=h.at_ hi
 have h3:cs=_:=h3
 subst h3
 exact⟨b,o,ha,hb,h2 0 _ rfl,h2 1 _ rfl⟩
theorem Ct.cells {l:List Vote}(h:Ct w (.slice a n c) l){i:Nat}(hi:i<l.length):∃ b o,a=some ⟨b,o,none⟩/\b<w.heap.size/\w.cell? ⟨b,o+i*3,none⟩=some (.string l[i].name)/\w.cell? ⟨b,o+i*3+1,none⟩=some (.string l[i].pub)/\w.cell? ⟨b,o+i*3+2,none⟩=some (.bool l[i].agrees):=by
 obtain⟨b,o,ha,_,hb,cs,h1,h2,h3⟩:=h.at_ hi
 have h3:cs=_:=h3
 subst h3
 exact⟨b,o,ha,hb,h2 0 _ rfl,h2 1 _ rfl,h2 2 _ rfl⟩
theorem Bw.cells {l:List Space}(h:Bw w (.slice a n c) l){i:Nat}(hi:i<l.length):∃ b o v,a=some ⟨b,o,none⟩/\b<w.heap.size/\w.cell? ⟨b,o+i*3,none⟩=some (.string l[i].pre)/\w.cell? ⟨b,o+i*3+1,none⟩=some v/\w.cell? ⟨b,o+i*3+2,none⟩=some (.int .i64 l[i].threshold)/\AY w v l[i].members:=by
 obtain⟨b,o,ha,_,hb,cs,h1,h2,v,h3,h4⟩:=h.at_ hi
 subst h3
 exact⟨b,o,v,ha,hb,h2 0 _ rfl,h2 1 _ rfl,h2 2 _ rfl,h4⟩
theorem AX.cells {l:List Ab}(h:AX w (.slice a n c) l){i:Nat}(hi:i<l.length):∃ b o v,a=some ⟨b,o,none⟩/\b<w.heap.size/\w.cell? ⟨b,o+i*6,none⟩=some (.int .i64 l[i].id)/\w.cell? ⟨b,o+i*6+1,none⟩=some (.string l[i].path)/\w.cell? ⟨b,o+i*6+2,none⟩=some (.string l[i].digest)/\
 w.cell? ⟨b,o+i*6+3,none⟩=some (.int .i64 l[i].opened)/\w.cell? ⟨b,o+i*6+4,none⟩=some (.int .i64 l[i].expires)/\w.cell? ⟨b,o+i*6+5,none⟩=some v/\Ct w v l[i].Aq:=by
 obtain⟨b,o,ha,_,hb,cs,h1,h2,v,h3,h4⟩:=h.at_ hi
 subst h3
 exact⟨b,o,v,ha,hb,h2 0 _ rfl,h2 1 _ rfl,h2 2 _ rfl,h2 3 _ rfl,h2 4 _ rfl,h2 5 _ rfl,h4⟩
end
def eB (w:World)(v:Value)(q:Queue):Prop:=∃ pv,v=.agg #[.int .i64 q.next,pv]/\AX w pv q.props
end Own
end
section
open Go Go.RowKit Go.Maps
def RV (v:Value):Option (DataW Value × List MemPlace):=some (.held v,[])
def Lf (k:ByteArray):Lit:=.string k.data.toList
theorem VE (k:ByteArray):WideAt.IsKeyLit (Lf k):=by unfold Lf WideAt.IsKeyLit;trivial
theorem jZ {k j:ByteArray}(h:k≠j):Lf k≠Lf j:=by
 intro e
 apply h
 unfold Lf at e
 cases k;cases j
 simp at e
 simpa using e
theorem eD:Keyed Tryz.prog 9:=string_keyed Tryz.underlying9
theorem keyOf_str {k:ByteArray}(h:k.size<=maxLen):keyOf Tryz.prog 9 (.string k)=some (Lf k):=WideMaps.keyOf_string_mk Tryz.underlying9 h
def Reads (D:DataW Value)(f:ByteArray->Option Value):Prop:=IsMap D/\∀ k:ByteArray,match f k with
 | some v=>has D (Lf k)=true/\∀ z,D.atKey (Lf k) z=.held v
 | none=>has D (Lf k)=false
def Fy (w:World)(b n:Nat)(f:ByteArray->Option Value):Prop:=∃ D,w.ownsMap Tryz.prog 9 RV b n D/\Reads D f
def VG (f:ByteArray->Option Value)(k:ByteArray)(v:Value):ByteArray->Option Value:=fun j=>if k=j then some v else f j
theorem Reads.put {D:DataW Value}{f:ByteArray->Option Value}(h:Reads D f)(k:ByteArray)(v:Value):Reads (D.put (Lf k) (.held v)) (VG f k v):=by
 refine⟨h.1.put _ _,fun j=>?_⟩
 unfold VG
 by_cases e:k=j
 ·subst e
  rw[if_pos rfl]
  exact⟨has_put_same h.1 (VE k) _,fun z=>atKey_put_same h.1 (VE k) _ z⟩
 ·rw[if_neg e]
  have hn:Lf j≠Lf k:=jZ (Ne.symm e)
  have:=h.2 j
  cases hf:f j with
  | none=>rw[hf] at this;simp only at this ⊢;rw[has_put_other hn];exact this
  | some x=>rw[hf] at this;simp only at this ⊢;rw[has_put_other hn];exact⟨this.1,fun z=>by rw[atKey_put_other hn];exact this.2 z⟩
theorem Reads.at {D:DataW Value}{f:ByteArray->Option Value}(h:Reads D f)(k:ByteArray)(z:Value):D.atKey (Lf k) (.held z)=.held ((f k).getD z)/\has D (Lf k)=(f k).isSome:=by
 have:=h.2 k
 cases hf:f k with
 | none=>rw[hf] at this;exact⟨atKey_of_not_has this _,this⟩
 | some x=>rw[hf] at this;exact⟨this.2 _,this.1⟩
section
variable {w w' : World} {b n:Nat} {f:ByteArray->Option Value}
theorem Fy.made (w:World):Fy (w.alloc (.map #[] 0)) w.heap.size 0 (fun _=>none):=
 ⟨_,World.ownsMap_made w _ _ _,isMap_empty,fun k=>by show has (.map []) (Lf k)=false;rfl⟩
theorem Fy.lt (h:Fy w b n f):b<w.heap.size:=by obtain⟨D,h,_⟩:=h;exact h.lt
theorem Fy.keep (h:Fy w b n f)(hk:w'.heap[b]? = w.heap[b]?):Fy w' b n f:=by
 obtain⟨D,⟨es,clock,hb,F,hs,hD⟩,hr⟩:=h
 exact⟨D,⟨es,clock,by rw[hk];exact hb,F,hs,hD⟩,hr⟩
theorem Fy.below {B:Nat}(h:Fy w b n f)(hb:Below B w w')(hB:b<B):Fy w' b n f:=h.keep (hb.block b hB)
theorem Fy.YS {g:Nat}{t:TypeId}{cs:Array Value}(h:Fy w b n f)(ha:At w g t cs):g≠b:=by
 rintro rfl
 obtain⟨D,⟨es,clock,hb,_⟩,hr⟩:=h
 unfold At at ha
 rw[ha] at hb
 cases hb
variable {ops:Array Oper} {rest:List Oper} {o:Oper} {a:Act} {Q:Exit->Act->World->Prop}
theorem Fy.VH {t e:TypeId}(ht:Tryz.prog.underlying t=some (.map 9 e))(z:Value)(hz:(zeroValue e).run Tryz.prog w=.ok z w)(h:Fy w b n f)(k:ByteArray)(hk:k.size<=maxLen):
 (Instr.lookup t (.map (some b)) (.string k) false).run Tryz.prog w=.ok ((f k).getD z) w:=by
 obtain⟨D,hD,hr⟩:=h
 obtain⟨v,ps,hrun,hv⟩:=hD.lookup eD ht hz (R:=RV) (zd:=.held z) (zp:=[]) rfl (keyOf_str hk)
 have:=hr.at k z
 rw[this.1] at hv
 unfold RV at hv
 simp only[Option.some.injEq,Prod.mk.injEq,DataW.held.injEq] at hv
 rw[hv.1] at hrun
 exact hrun
theorem Ua (hg:o.guard=none)(m x y:Operand)(t e:TypeId)(hop:o.op=Op.mapUpdate t m x y)(ht:Tryz.prog.underlying t=some (.map 9 e))(h:Fy w b n f)(hn:n<maxLen)(hm:a.eval m=.map (some b))(k:ByteArray)(v:Value)(hx:a.eval x=.string k)(hy:a.eval y=v)(hk:k.size<=maxLen)
 (hK:∀ w',Fy w' b (n+1) (VG f k v)->w.grownBy w' (some b)->wpList Tryz.prog ops Q rest (a.put o.dst undef) w'):wpList Tryz.prog ops Q (o::rest) a w:=by
 obtain⟨D,hD,hr⟩:=h
 exact wpList_mapUpdate_own w hg m x y t hop 9 e eD ht RV b n D hm hD hn _ _ _ hx hy (keyOf_str hk) (.held v) [] rfl fun w' h1 h2=>hK w' ⟨_,h1,hr.put k v⟩ h2
end
section
variable {w w' : World} {b r n cnt:Nat} {f:ByteArray->Option Value} {done:List ByteArray}
variable {ops:Array Oper} {rest:List Oper} {o:Oper} {a:Act} {Q:Exit->Act->World->Prop}
end
end
section
open Go Go.RowKit Go.Maps
theorem Ql (s:ByteArray):(Lib.splitB ⟨#[47]⟩ 0 (Lib.countB s ⟨#[47]⟩) s).any (fun x=>decide (x=⟨#[]⟩)) = !Own.VB s.data.toList:=by
 have h:=Lib.splitB_data ⟨#[47]⟩ 0 (Lib.countB s ⟨#[47]⟩) s
 have h2:Lib.splitK [47] 0 (Lib.countB s ⟨#[47]⟩) s.data.toList=Nam.cuts s.data.toList:=Nam.XQ _ _ (Nat.le_refl _)
 unfold Own.VB
 rw[<- h2,List.not_all_eq_any_not]
 have h3:Lib.splitK [47] 0 (Lib.countB s ⟨#[47]⟩) s.data.toList=(Lib.splitB ⟨#[47]⟩ 0 (Lib.countB s ⟨#[47]⟩) s).map (·.data.toList):=h.symm
 rw[h3,List.any_map]
 congr 1
 funext x
 show decide (x=⟨#[]⟩) = !!x.data.toList.isEmpty
 rw[Bool.not_not,Bool.eq_iff_iff,decide_eq_true_eq,List.isEmpty_iff]
 constructor
 ·rintro rfl;rfl
 ·intro h;apply Sha.CP;rw[h]
theorem Qm (v:Value)(xs:List ByteArray)(x:ByteArray)(w:World)(h:AO w v xs)(hl:xs.length<=140737488355328):
 Calls Tryz.prog 79 #[v,.string x] w fun e w' => e=.returned (.bool (xs.any fun y=>decide (y=x)))/\w' = w:=by
 obtain⟨a,c,rfl,h0|⟨b,o,rfl,hc⟩⟩:=h
 ·have:xs=[]:=List.eq_nil_of_length_eq_zero h0
  subst this
  exact Tryz.slices_Contains_string_empty a c x w
 ·refine(Tryz.slices_Contains_string b o xs.length c xs x w (Nat.le_refl _) (by omega) hc).mono ?_
  rintro e w' ⟨rfl,rfl⟩
  refine⟨?_,rfl⟩
  congr 2
  rw[List.take_of_length_le (Nat.le_refl _),Bool.eq_iff_iff,Lib.containsS_iff,List.any_eq_true]
  constructor
  ·exact fun h=>⟨x,h,decide_eq_true rfl⟩
  ·rintro⟨y,hy,he⟩
   rw[<- of_decide_eq_true he]
   exact hy
theorem Qo (s:ByteArray)(w:World)(hM:Fx w):Calls Tryz.prog 92 #[.string s] w fun e w' => e=.returned (.bool (Own.Bt s))/\Below w.heap.size w w':=by
 obtain⟨R,hR⟩:∃ R,R=Own.Bt s:=⟨_,rfl⟩
 rw[<- hR]
 have HR:=zh hR;clear hR
 obtain⟨m,hm⟩:=hM
 have HM:=zh hm;clear hm
 go_enter Tryz.func92,Tryz.ntmps92
 by_cases h0:1<=s.size
 case neg=>
  have d0:decide (1<=(s.size:Int))=false:=zf
  have d0' : decide (1<=s.size)=false:=zf
  have e:R=false:=by rw[HR.out,Own.Bt,d0'];rfl
  have HE:=zh e;clear e
  go_wp2_with fail
  go_ret
  exact⟨by rw[HE.out];rfl,Below.refl _ _⟩
 have d0:decide (1<=(s.size:Int))=true:=zt
 have d0' : decide (1<=s.size)=true:=zt
 by_cases h1:s.size<=64
 case neg=>
  have d1:decide ((s.size:Int)<=64)=false:=zf
  have d1' : decide (s.size<=64)=false:=zf
  have e:R=false:=by rw[HR.out,Own.Bt,d0',d1'];rfl
  have HE:=zh e;clear e
  go_wp2_with fail
  go_ret
  exact⟨by rw[HE.out];rfl,Below.refl _ _⟩
 have d1:decide ((s.size:Int)<=64)=true:=zt
 have d1' : decide (s.size<=64)=true:=zt
 have e:R=Own.VB s.data.toList:=by rw[HR.out,Own.Bt,d0',d1'];simp
 have HE:=zh e;clear e
 go_wp2_with fail
 refine(Tryz.strings_Split s ⟨#[47]⟩ m _ (by omega) HM.out (by decide)).mono ?_
 rintro e2 w2 ⟨rfl,rfl⟩
 have hsa:=Ql s
 have hlen:=Lib.splitB_all ⟨#[47]⟩ (by decide) 0 _ s rfl
 have hcl:=Lib.count_le s.data.toList [47]
 have XR:Lib.countB s ⟨#[47]⟩<=s.data.toList.length+1:=hcl
 rw[Array.length_toList] at XR
 have oh:Lib.countB s ⟨#[47]⟩<=s.size+1:=XR
 obtain⟨xs,hxs⟩:∃ xs,xs=Lib.splitB ⟨#[47]⟩ 0 (Lib.countB s ⟨#[47]⟩) s:=⟨_,rfl⟩
 rw[<- hxs] at hsa hlen ⊢
 rw[<- hlen]
 have hst:AO (w.alloc (.cells (xs.map Value.string).toArray 9)) (.slice (some ⟨w.heap.size,0,none⟩) xs.length xs.length) xs:=AO.block (At.new _ _ _) rfl _
 have hb1:Below w.heap.size w (w.alloc (.cells (xs.map Value.string).toArray 9)):=zb
 have HST:=zh hst;have HB1:=zh hb1;have HSA:=zh hsa
 have hl2:xs.length<=140737488355328:=by omega
 clear hst hb1 hsa hxs hlen hcl XR oh
 generalize w.alloc (.cells (xs.map Value.string).toArray 9)=w1 at*
 go_wp2_with fail
 refine(Qm _ xs ⟨#[]⟩ w1 HST.out hl2).mono ?_
 rintro e3 w3 ⟨rfl,rfl⟩
 rw[HSA.out,<- HE.out]
 go_wp2_with fail
 go_ret
 exact⟨by simp,HB1.out⟩
theorem Qp (s:ByteArray)(w:World)(hM:Fx w):Calls Tryz.prog 39 #[.string s] w fun e w' => e=.returned (.bool (Own.Bt s))/\Below w.heap.size w w':=by
 obtain⟨R,hR⟩:∃ R,R=Own.Bt s:=⟨_,rfl⟩
 rw[<- hR]
 have HR:=zh hR;clear hR
 obtain⟨m,hm⟩:=hM
 have HM:=zh hm;clear hm
 go_enter Tryz.func39,Tryz.ntmps39
 by_cases h0:1<=s.size
 case neg=>
  have d0:decide (1<=(s.size:Int))=false:=zf
  have d0' : decide (1<=s.size)=false:=zf
  have e:R=false:=by rw[HR.out,Own.Bt,d0'];rfl
  have HE:=zh e;clear e
  go_wp2_with fail
  go_ret
  exact⟨by rw[HE.out];rfl,Below.refl _ _⟩
 have d0:decide (1<=(s.size:Int))=true:=zt
 have d0' : decide (1<=s.size)=true:=zt
 by_cases h1:s.size<=64
 case neg=>
  have d1:decide ((s.size:Int)<=64)=false:=zf
  have d1' : decide (s.size<=64)=false:=zf
  have e:R=false:=by rw[HR.out,Own.Bt,d0',d1'];rfl
  have HE:=zh e;clear e
  go_wp2_with fail
  go_ret
  exact⟨by rw[HE.out];rfl,Below.refl _ _⟩
 have d1:decide ((s.size:Int)<=64)=true:=zt
 have d1' : decide (s.size<=64)=true:=zt
 have e:R=Own.VB s.data.toList:=by rw[HR.out,Own.Bt,d0',d1'];simp
 have HE:=zh e;clear e
 go_wp2_with fail
 refine(Tryz.strings_Split s ⟨#[47]⟩ m _ (by omega) HM.out (by decide)).mono ?_
 rintro e2 w2 ⟨rfl,rfl⟩
 have hsa:=Ql s
 have hlen:=Lib.splitB_all ⟨#[47]⟩ (by decide) 0 _ s rfl
 have hcl:=Lib.count_le s.data.toList [47]
 have XR:Lib.countB s ⟨#[47]⟩<=s.data.toList.length+1:=hcl
 rw[Array.length_toList] at XR
 have oh:Lib.countB s ⟨#[47]⟩<=s.size+1:=XR
 obtain⟨xs,hxs⟩:∃ xs,xs=Lib.splitB ⟨#[47]⟩ 0 (Lib.countB s ⟨#[47]⟩) s:=⟨_,rfl⟩
 rw[<- hxs] at hsa hlen ⊢
 rw[<- hlen]
 have hst:AO (w.alloc (.cells (xs.map Value.string).toArray 9)) (.slice (some ⟨w.heap.size,0,none⟩) xs.length xs.length) xs:=AO.block (At.new _ _ _) rfl _
 have hb1:Below w.heap.size w (w.alloc (.cells (xs.map Value.string).toArray 9)):=zb
 have HST:=zh hst;have HB1:=zh hb1;have HSA:=zh hsa
 have hl2:xs.length<=140737488355328:=by omega
 clear hst hb1 hsa hxs hlen hcl XR oh
 generalize w.alloc (.cells (xs.map Value.string).toArray 9)=w1 at*
 go_wp2_with fail
 refine(Qm _ xs ⟨#[]⟩ w1 HST.out hl2).mono ?_
 rintro e3 w3 ⟨rfl,rfl⟩
 rw[HSA.out,<- HE.out]
 go_wp2_with fail
 go_ret
 exact⟨by simp,HB1.out⟩
theorem Rt (s p:ByteArray)(w:World)(hp:p.size<=1000):Calls Tryz.prog 128 #[.string s,.string p] w fun e w' => e=.returned (.bool (Own.belongs s p))/\w' = w:=by
 obtain⟨R,hR⟩:∃ R,R=Own.belongs s p:=⟨_,rfl⟩
 rw[<- hR]
 unfold Own.belongs at hR
 have HR:=zh hR;clear hR
 go_enter Tryz.func128,Tryz.ntmps128
 by_cases h:s=p
 ·have d:(s.toList==p.toList)=true:=by rw[bytes_beq];exact decide_eq_true h
  have e:R=true:=by rw[HR.out,decide_eq_true h];rfl
  have HE:=zh e;clear e
  go_wp2_with fail
  go_ret
  exact⟨by rw[HE.out];rfl,rfl⟩
 ·have d:(s.toList==p.toList)=false:=by rw[bytes_beq];exact decide_eq_false h
  have e:R=Lib.hasPrefix s.data.toList (p++⟨#[47]⟩).data.toList:=by
   rw[HR.out,decide_eq_false h,Sha.Aw]
   rfl
  have HE:=zh e;clear e
  go_wp2_with fail
  refine(Tryz.strings_HasPrefix s _ w).mono ?_
  rintro e w2 ⟨rfl,rfl⟩
  rw[<- HE.out]
  go_wp2_with fail
  go_ret
  exact⟨rfl,rfl⟩
theorem BH (p:ByteArray)(w:World):Calls Tryz.prog 91 #[.string p] w fun e w' => e=.returned (.bool (Sig.BJ p))/\w' = w:=by
 obtain⟨R,hR⟩:∃ R,R=Sig.BJ p:=⟨_,rfl⟩
 rw[<- hR]
 unfold Sig.BJ at hR
 have HR:=zh hR;clear hR
 go_enter Tryz.func91,Tryz.ntmps91
 by_cases h33:p.size=33
 case neg=>
  have d1:((p.size:Int)==33)=false:=by rw[beq_eq_false_iff_ne];omega
  have hx:R=false:=by rw[HR.out,decide_eq_false h33];rfl
  have HX:=zh hx;clear hx
  go_wp2_with fail
  go_ret
  exact⟨by rw[HX.out];rfl,rfl⟩
 have d1:((p.size:Int)==33)=true:=by rw[beq_iff_eq];omega
 have h32:32<p.size:=by omega
 have hg:p.get! 32=p[32]:=getElem!_pos p.data 32 h32
 have hxl:p[32].toNat<256:=p[32].toNat_lt
 have hx:R=decide ((p[32].toNat:Int)<=6):=by
  rw[HR.out,decide_eq_true h33,hg,Bool.true_and,decide_eq_decide]
  omega
 have HX:=zh hx;clear hx
 go_wp2_with fail
 go_ret
 exact⟨by rw[HX.out];rfl,rfl⟩
theorem Eb (s:ByteArray)(w:World):Calls Tryz.prog 150 #[.string s] w fun e w' => e=.returned (.bool (Own.CG s))/\w' = w:=by
 obtain⟨R,hR⟩:∃ R,R=Own.CG s:=⟨_,rfl⟩
 rw[<- hR]
 unfold Own.CG at hR
 have HR:=zh hR;clear hR
 go_enter Tryz.func150,Tryz.ntmps150
 by_cases h0:1<=s.size
 case neg=>
  have d0:decide (1<=(s.size:Int))=false:=zf
  have e:R=false:=by rw[HR.out,decide_eq_false h0];rfl
  have HE:=zh e;clear e
  go_wp2_with fail
  go_ret
  exact⟨by rw[HE.out];rfl,rfl⟩
 have d0:decide (1<=(s.size:Int))=true:=zt
 have e:R=decide ((s.size:Int)<=32):=by
  rw[HR.out,decide_eq_true h0,Bool.true_and,decide_eq_decide]
  omega
 have HE:=zh e;clear e
 go_wp2_with fail
 go_ret
 exact⟨by rw[HE.out];rfl,rfl⟩
namespace Own
def Ep (l:List Member):ByteArray->Option Value:=fun p=>if l.any (fun x=>decide (x.pub=p)) then some (.bool true) else none
theorem Ub (l:List Member)(m:Member):Ep (l++[m])=VG (Ep l) m.pub (.bool true):=by
 funext p
 unfold Ep VG
 rw[List.any_append]
 by_cases h:m.pub=p
 ·simp[h]
 ·simp[h]
theorem Fz:∀ (pre a b:List Member),Au pre (a++b)=(Au pre a&&Au (pre++a) b)
 | pre,[],b=>by simp[Au]
 | pre,m :: a,b => by
   show(Bp pre m&&Au (pre++[m]) (a++b))=((Bp pre m&&Au (pre++[m]) a)&&_)
   rw[Fz (pre++[m]) a b,List.append_assoc,Bool.and_assoc]
   rfl
theorem Qq (l:List Member)(k:Nat)(hk:k<l.length):Au [] l=(Au [] (l.take k)&&(Bp (l.take k) l[k]&&Au (l.take (k+1)) (l.drop (k+1)))):=by
 have e:l=l.take k++l[k]::l.drop (k+1):=by rw[<- List.drop_eq_getElem_cons hk,List.take_append_drop]
 conv=>lhs;rw[e]
 rw[Fz,List.nil_append]
 show(_&&(Bp _ _&&Au (l.take k++[l[k]]) _))=_
 rw[<- List.take_succ_eq_append_getElem hk]
theorem Nc (l:List Member)(k:Nat)(hk:k<l.length):Au [] (l.take (k+1))=(Au [] (l.take k)&&Bp (l.take k) l[k]):=by
 rw[List.take_succ_eq_append_getElem hk,Fz,List.nil_append]
 show(_&&(Bp _ _&&true))=_
 rw[Bool.and_true]
theorem getLast_take {α : Type}(l:List α)(k:Nat)(hk:k<l.length):(l.take (k+1)).getLast? = some l[k]:=by
 rw[List.take_succ_eq_append_getElem hk,List.getLast?_append]
 rfl
end Own
theorem Sw (w:World):(zeroValue 4).run Tryz.prog w=.ok (.bool false) w:=by
 have h:(Tryz.prog.info? 4).map (·.zero)=some (some (.bool false)):=by kernel_rfl
 cases hq:Tryz.prog.info? 4 with
 | none=>rw[hq] at h;simp at h
 | some i => rw [hq] at h;have h : i.zero = some (.bool false) :=by simpa using h
             simp[zeroValue,typeInfo,hq,h]
theorem Ru (v:Value)(l:List Own.Member)(w:World)(h:Own.AY w v l)(hl:l.length<=140737488355328):
 Calls Tryz.prog 127 #[v] w fun e w' => e=.returned (.bool (Own.D8 l))/\Below w.heap.size w w':=by
 obtain⟨R,hR⟩:∃ R,R=Own.D8 l:=⟨_,rfl⟩
 rw[<- hR]
 unfold Own.D8 at hR
 obtain⟨a,c,rfl⟩:=h.len
 have HR:=zh hR;have HL:=zh h;clear hR h
 go_enter Tryz.func127,Tryz.ntmps127
 by_cases h1:1<=l.length
 case neg=>
  have d1:decide ((l.length:Int)<1)=true:=zt
  have e:R=false:=by rw[HR.out,decide_eq_false h1];rfl
  have HE:=zh e;clear e
  go_wp2_with fail
  go_ret
  exact⟨by rw[HE.out];rfl,Below.refl _ _⟩
 have d1:decide ((l.length:Int)<1)=false:=zf
 by_cases h2:l.length<=8
 case neg=>
  have d2:decide ((8:Int)<l.length)=true:=zt
  have e:R=false:=by rw[HR.out,decide_eq_false h2];simp
  have HE:=zh e;clear e
  go_wp2_with fail
  go_ret
  exact⟨by rw[HE.out];rfl,Below.refl _ _⟩
 have d2:decide ((8:Int)<l.length)=false:=zf
 have hr:R=Own.Au [] l:=by rw[HR.out,decide_eq_true h1,decide_eq_true h2];simp
 have HR2:=zh hr;clear hr HR
 have hm0:=Fy.made w
 have hb0:Below w.heap.size w (w.alloc (.map #[] 0)):=zb
 have HM0:=zh hm0;have HB0:=zh hb0;clear hm0 hb0
 have hmm :=@run_makeMap Tryz.prog
 go_wp2_with fail
 clear hmm
 go_loopw [17] (fun i wr=>∃ k:Nat,k<=l.length/\i=.int .i64 k/\Own.Au [] (l.take k)=true/\Fy wr w.heap.size k (Own.Ep (l.take k))/\Below w.heap.size w wr) (fun i _=>l.length-(intOf i).toNat)
 case atStart=>exact⟨0,by omega,rfl,rfl,HM0.out,HB0.out⟩
 case round=>
  obtain⟨k,hk,rfl,hok,hsm,hb⟩:=hrel
  have HOK:=zh hok;have HSM:=zh hsm;have HB:=zh hb
  by_cases hlt:k<l.length
  case neg=>
   have hke:k=l.length:=by omega
   have dk:decide ((k:Int)<l.length)=false:=zf
   have e:R=true:=by rw[HR2.out,<- hok,hke,List.take_length]
   have HE:=zh e;clear e hok hsm hb
   go_wp2_with fail
   go_ret
   exact⟨by rw[HE.out];rfl,HB.out⟩
  have dk:decide ((k:Int)<l.length)=true:=zt
  have hra:R=(Own.Bp (l.take k) l[k]&&Own.Au (l.take (k+1)) (l.drop (k+1))):=by rw[HR2.out,Own.Qq l k hlt,hok,Bool.true_and]
  have htk:Own.Au [] (l.take (k+1))=Own.Bp (l.take k) l[k]:=by rw[Own.Nc l k hlt,hok,Bool.true_and]
  have hmap:Own.Ep (l.take (k+1))=VG (Own.Ep (l.take k)) l[k].pub (.bool true):=by rw[List.take_succ_eq_append_getElem hlt,Own.Ub]
  have hlk:=HL.out.below hb
  obtain⟨b,o,ha,hbl,c0,c1⟩:=Own.AY.cells hlk hlt
  have Fb:∀ j,k=j+1->∃ x:Own.Member,wr.cell? ⟨b,o+j*2,none⟩=some (.string x.name)/\(l.take k).getLast? = some x:=by
   intro j hj
   obtain⟨b',o',ha',_,e0,_⟩:=Own.AY.cells hlk (i:=j) (by omega)
   rw[ha] at ha'
   cases ha'
   have hg:=Own.getLast_take l j (by omega)
   rw[<- hj] at hg
   exact⟨_,e0,hg⟩
  subst ha
  have hmo:Own.Bp (l.take k) l[k]=(Own.CG l[k].name&&Sig.BJ l[k].pub && !((l.take k).any fun x=>decide (x.pub=l[k].pub))&&(match (l.take k).getLast? with|none=>true|some x=>Own.Ak x.name l[k].name)):=rfl
  rw[hmo] at hra htk
  clear hmo
  obtain⟨nm,hnm⟩:∃ x,x=l[k].name:=⟨_,rfl⟩
  obtain⟨pb,hpb⟩:∃ x,x=l[k].pub:=⟨_,rfl⟩
  rw[<- hnm,<- hpb] at hra htk
  rw[<- hpb] at hmap
  rw[<- hnm] at c0
  rw[<- hpb] at c1
  obtain⟨rest,hrest⟩:∃ x,x=Own.Au (l.take (k+1)) (l.drop (k+1)):=⟨_,rfl⟩
  rw[<- hrest] at hra
  have HRA:=zh hra;have HTK:=zh htk;have sH:=zh hmap;have J8:=zh Fb
  have hb5:Below w.heap.size w (wr.alloc (.cells #[.string nm,.string pb] 73)).drew:=(hb.alloc hb.size _).drew
  have TV:Fy (wr.alloc (.cells #[.string nm,.string pb] 73)).drew w.heap.size k (Own.Ep (l.take k)):=hsm.below ((Below.refl wr.heap.size wr).alloc (Nat.le_refl _) _).drew hsm.lt
  have HB5:=zh hb5;have kg:=zh TV
  have hbs:=hb.size
  clear hok hsm hb hlk hra htk hmap Fb hb5 TV hrest hnm hpb
  cases hn:Own.CG nm with
  | false =>
    have e:R=false:=by rw[HRA.out,hn];rfl
    have HE:=zh e;clear e
    go_wp2_with fail
    refine Lex.zl ?_
    go_wp2_with fail
    refine(Eb nm _).mono ?_
    rintro e2 w2 ⟨rfl,rfl⟩
    rw[hn]
    go_wp2_with fail
    refine Lex.ze ?_
    go_wp2_with fail
    go_ret
    exact⟨by rw[HE.out];rfl,HB5.out⟩
  | true=>
  have Nf:=HRA.out
  have Kv:=HTK.out
  rw[hn,Bool.true_and] at Nf Kv
  clear HRA HTK
  cases hp:Sig.BJ pb with
  | false =>
    have e:R=false:=by rw[Nf,hp];rfl
    have HE:=zh e;clear e Nf Kv
    go_wp2_with fail
    refine Lex.zl ?_
    go_wp2_with fail
    refine(Eb nm _).mono ?_
    rintro e2 w2 ⟨rfl,rfl⟩
    rw[hn]
    go_wp2_with fail
    refine(BH pb _).mono ?_
    rintro e2 w2 ⟨rfl,rfl⟩
    rw[hp]
    go_wp2_with fail
    refine Lex.ze ?_
    go_wp2_with fail
    go_ret
    exact⟨by rw[HE.out];rfl,HB5.out⟩
  | true=>
  rw[hp,Bool.true_and] at Nf Kv
  have hps:pb.size<=maxLen:=by
   have:pb.size=33:=of_decide_eq_true (Bool.and_eq_true_iff.1 hp).1
   unfold maxLen;omega
  have Mg:=kg.out.VH (t:=174) (e:=4) Tryz.underlying174 (.bool false) (Sw _) pb hps
  cases hin:(l.take k).any fun x=>decide (x.pub=pb) with
  | true =>
    have e:R=false:=by rw[Nf,hin];rfl
    have hv:(Own.Ep (l.take k) pb).getD (.bool false)=.bool true:=by unfold Own.Ep;rw[hin];rfl
    rw[hv] at Mg
    have HE:=zh e;clear e Nf Kv hv hin
    go_wp2_with fail
    refine Lex.zl ?_
    go_wp2_with fail
    refine(Eb nm _).mono ?_
    rintro e2 w2 ⟨rfl,rfl⟩
    rw[hn]
    go_wp2_with fail
    refine(BH pb _).mono ?_
    rintro e2 w2 ⟨rfl,rfl⟩
    rw[hp]
    go_wp2_with fail
    refine Lex.ze ?_
    go_wp2_with fail
    go_ret
    exact⟨by rw[HE.out];rfl,HB5.out⟩
  | false=>
  rw[hin,Bool.not_false,Bool.true_and] at Nf Kv
  have hv:(Own.Ep (l.take k) pb).getD (.bool false)=.bool false:=by unfold Own.Ep;rw[hin];rfl
  rw[hv] at Mg
  clear hv hin
  rcases Nat.eq_zero_or_pos k with hk0|hkp
  ·have hl0:(l.take k).getLast? = none:=by rw[hk0];rfl
   rw[hl0] at Nf Kv
   have HT:=zh Kv
   have dz:decide ((0:Int)<(k:Int))=false:=zf
   have dz' : decide (0<k)=false:=zf
   have HK0:=zh hk0
   clear hl0 Nf Kv hk0
   go_wp2_with fail
   refine Lex.zl ?_
   go_wp2_with fail
   refine(Eb nm _).mono ?_
   rintro e2 w2 ⟨rfl,rfl⟩
   rw[hn]
   go_wp2_with fail
   refine(BH pb _).mono ?_
   rintro e2 w2 ⟨rfl,rfl⟩
   rw[hp]
   go_wp2_with fail
   refine Lex.ze ?_
   clear Mg
   go_wp2_with (at_mapUpdate;go_must (refine Ua rfl _ _ _ 174 4 rfl Tryz.underlying174 kg.out (by unfold maxLen;omega) rfl pb (.bool true) rfl rfl hps ?_);intro w7 hm7 hg7;have HM7:=zh hm7;have HB7:=zh (HB5.out.grown hg7 HB5.out.size (fun k hk=>by cases hk;exact Nat.le_refl _));clear hm7 hg7)
   go_round
   case measure=>simp[intOf];omega
   case rel=>exact⟨k+1,by omega,by go_num,HT.out,by rw[sH.out];exact HM7.out,HB7.out⟩
  ·obtain⟨j,hj⟩:∃ j,k=j+1:=⟨k-1,by omega⟩
   obtain⟨x,e0,hx⟩:=J8.out j hj
   rw[hx] at Nf Kv
   have FR:R=(Own.Ak x.name nm&&rest):=Nf
   have EI:Own.Au [] (l.take (k+1))=Own.Ak x.name nm:=Kv
   unfold Own.Ak at FR EI
   have dz:decide ((0:Int)<(k:Int))=true:=zt
   have dz' : decide (0<k)=true:=zt
   have ek:(k:Int)-1=(j:Int):=by omega
   have hjl:j<l.length:=by omega
   have e1:(wr.alloc (.cells #[.string nm,.string pb] 73)).cell? ⟨b,o+j*2,none⟩=some (.string x.name):=(((Below.refl wr.heap.size wr).alloc (Nat.le_refl _) _).cell (p:=⟨b,o+j*2,none⟩) hbl).trans e0
   cases hlb:Op.bytesLess x.name.toList nm.toList with
   | false =>
     have e:R=false:=by rw[FR,hlb];rfl
     have HE:=zh e;clear e Nf Kv FR EI hx e0 hj
     go_wp2_with fail
     refine Lex.zl ?_
     go_wp2_with fail
     refine(Eb nm _).mono ?_
     rintro e2 w2 ⟨rfl,rfl⟩
     rw[hn]
     go_wp2_with fail
     refine(BH pb _).mono ?_
     rintro e2 w2 ⟨rfl,rfl⟩
     rw[hp]
     go_wp2_with fail
     refine Lex.ze ?_
     clear Mg
     go_wp2_with (at_mapUpdate;go_must (refine Ua rfl _ _ _ 174 4 rfl Tryz.underlying174 kg.out (by unfold maxLen;omega) rfl pb (.bool true) rfl rfl hps ?_);intro w7 hm7 hg7;have HM7:=zh hm7;have HB7:=zh (HB5.out.grown hg7 HB5.out.size (fun k hk=>by cases hk;exact Nat.le_refl _));clear hm7 hg7)
     go_ret
     exact⟨by rw[HE.out];rfl,HB5.out⟩
   | true =>
     rw[hlb] at EI
     have HT:=zh EI
     clear Nf Kv FR EI hx e0 hj
     go_wp2_with fail
     refine Lex.zl ?_
     go_wp2_with fail
     refine(Eb nm _).mono ?_
     rintro e2 w2 ⟨rfl,rfl⟩
     rw[hn]
     go_wp2_with fail
     refine(BH pb _).mono ?_
     rintro e2 w2 ⟨rfl,rfl⟩
     rw[hp]
     go_wp2_with fail
     refine Lex.ze ?_
     clear Mg
     go_wp2_with (at_mapUpdate;go_must (refine Ua rfl _ _ _ 174 4 rfl Tryz.underlying174 kg.out (by unfold maxLen;omega) rfl pb (.bool true) rfl rfl hps ?_);intro w7 hm7 hg7;have HM7:=zh hm7;have HB7:=zh (HB5.out.grown hg7 HB5.out.size (fun k hk=>by cases hk;exact Nat.le_refl _));clear hm7 hg7)
     go_round
     case measure=>simp[intOf];omega
     case rel=>exact⟨k+1,by omega,by go_num,HT.out,by rw[sH.out];exact HM7.out,HB7.out⟩
theorem Uc (v:Value)(s:Own.Space)(w:World)(hM:Fx w)(h:Own.AY w v s.members)(hl:s.members.length<=140737488355328):
 Calls Tryz.prog 90 #[.agg #[.string s.pre,v,.int .i64 s.threshold]] w fun e w' => e=.returned (.bool (Own.Bu s))/\Below w.heap.size w w':=by
 obtain⟨R,hR⟩:∃ R,R=Own.Bu s:=⟨_,rfl⟩
 rw[<- hR]
 unfold Own.Bu at hR
 obtain⟨a,c,rfl⟩:=h.len
 have ha:=At.new w 70 #[.string s.pre,.slice a s.members.length c,.int .i64 s.threshold]
 have hb1:Below w.heap.size w (w.alloc (.cells #[.string s.pre,.slice a s.members.length c,.int .i64 s.threshold] 70)):=zb
 have HR:=zh hR;have HL:=zh (h.below hb1);have HM:=zh (hM.below hb1);have HB:=zh hb1;have HA:=zh ha
 have c0:=ha.cell 0;have c1:=ha.cell 1;have c2:=ha.cell 2
 simp only[zg] at c0 c1 c2
 clear hR h hM ha hb1
 go_enter Tryz.func90,Tryz.ntmps90
 go_wp2_with fail
 generalize w.alloc (.cells #[.string s.pre,.slice a s.members.length c,.int .i64 s.threshold] 70)=w1 at*
 refine(Qo s.pre w1 HM.out).mono ?_
 rintro e w2 ⟨rfl,hb2⟩
 have HB2:=zh (HB.out.trans (hb2.mono HB.out.size));have HL2:=zh (HL.out.below hb2)
 have ha2:=HA.out.below hb2 HA.out.lt
 obtain⟨q0,q1,q2⟩:=ha2.c3
 have HA2:=zh ha2
 clear hb2 ha2 c0 c1 c2
 cases hp:Own.Bt s.pre with
 | false =>
   have e:R=false:=by rw[HR.out,hp];rfl
   have HE:=zh e;clear e
   go_wp2_with fail
   go_ret
   exact⟨by rw[HE.out];rfl,HB2.out⟩
 | true=>
 go_wp2_with fail
 refine(Ru _ s.members w2 HL2.out hl).mono ?_
 rintro e w3 ⟨rfl,hb3⟩
 have HB3:=zh (HB2.out.trans (hb3.mono HB2.out.size))
 have ha3:=HA2.out.below hb3 HA2.out.lt
 obtain⟨p0,p1,p2⟩:=ha3.c3
 clear hb3 ha3 q0 q1 q2
 cases hm:Own.D8 s.members with
 | false =>
   have e:R=false:=by rw[HR.out,hm];simp
   have HE:=zh e;clear e
   go_wp2_with fail
   go_ret
   exact⟨by rw[HE.out];rfl,HB3.out⟩
 | true=>
 have e:R=(decide (1<=s.threshold)&&decide (s.threshold<=s.members.length)):=by rw[HR.out,hp,hm];simp
 have HE:=zh e;clear e
 by_cases h1:1<=s.threshold
 ·have d1:decide (1<=s.threshold)=true:=decide_eq_true h1
  have e:R=decide (s.threshold<=s.members.length):=by rw[HE.out,d1];rfl
  have HE2:=zh e;clear e
  go_wp2_with fail
  go_ret
  exact⟨by rw[HE2.out];rfl,HB3.out⟩
 ·have d1:decide (1<=s.threshold)=false:=decide_eq_false h1
  have e:R=false:=by rw[HE.out,d1];rfl
  have HE2:=zh e;clear e
  go_wp2_with fail
  go_ret
  exact⟨by rw[HE2.out];rfl,HB3.out⟩
namespace Own
theorem J9 {α : Type}(ok : α -> Bool)(lt : α -> α -> Bool):∀ (p:Option α) (a b:List α),Ai ok lt p (a++b)=(Ai ok lt p a&&Ai ok lt (match a.getLast? with|none=>p|some x=>some x) b)
 | p,[],b=>by simp[Ai]
 | p,x :: a,b => by
   have ih:=J9 ok lt (some x) a b
   show(ok x&&(match p with|none=>true|some y=>lt y x)&&Ai ok lt (some x) (a++b))=((ok x&&(match p with|none=>true|some y=>lt y x)&&Ai ok lt (some x) a)&&_)
   rw[ih,Bool.and_assoc,Bool.and_assoc,Bool.and_assoc]
   congr 3
   cases a with
   | nil=>rfl
   | cons y a => rw [List.getLast?_cons_cons];cases h : (y :: a).getLast? with
     | none=>simp at h
     | some z=>rfl
def ahead {α : Type}(lt : α -> α -> Bool)(p:Option α)(x : α):Bool:=match p with
 | none=>true
 | some y=>lt y x
theorem Iz {α : Type}(ok : α -> Bool)(lt : α -> α -> Bool)(l:List α)(k:Nat)(hk:k<l.length):
 Ai ok lt none l=(Ai ok lt none (l.take k)&&((ok l[k]&&ahead lt (l.take k).getLast? l[k])&&Ai ok lt (some l[k]) (l.drop (k+1)))):=by
 have e:l=l.take k++l[k]::l.drop (k+1):=by rw[<- List.drop_eq_getElem_cons hk,List.take_append_drop]
 conv=>lhs;rw[e]
 rw[J9]
 congr 1
 cases (l.take k).getLast? <;> rfl
theorem FT {α : Type}(ok : α -> Bool)(lt : α -> α -> Bool)(l:List α)(k:Nat)(hk:k<l.length):
 Ai ok lt none (l.take (k+1))=(Ai ok lt none (l.take k)&&(ok l[k]&&ahead lt (l.take k).getLast? l[k])):=by
 rw[List.take_succ_eq_append_getElem hk,J9]
 congr 1
 cases (l.take k).getLast? <;> simp[Ai,ahead]
end Own
theorem Fe (o:Own.Ap)(sv kv:Value)(w:World)(hM:Fx w)(hS:Own.Bw w sv o.spaces)(hK:Own.Ca w kv o.keys)(hls:o.spaces.length<=140737488355328)(hlk:o.keys.length<=140737488355328)(hlm:∀ s∈o.spaces,s.members.length<=140737488355328):
 Calls Tryz.prog 60 #[.agg #[.int .i64 o.count,sv,kv]] w fun e w' => e=.returned (.bool (Own.Bf o))/\Below w.heap.size w w':=by
 obtain⟨R,hR⟩:∃ R,R=Own.Bf o:=⟨_,rfl⟩
 rw[<- hR]
 unfold Own.Bf Own.late at hR
 obtain⟨sa,sc,rfl⟩:=hS.len
 obtain⟨ka,kc,rfl⟩:=hK.len
 obtain⟨cnt,S,K⟩:=o
 dsimp only at*
 have ha:=At.new w 38 #[.int .i64 cnt,.slice sa S.length sc,.slice ka K.length kc]
 have hb1:Below w.heap.size w (w.alloc (.cells #[.int .i64 cnt,.slice sa S.length sc,.slice ka K.length kc] 38)):=zb
 have HR:=zh hR;have HS:=zh (hS.below hb1);have HK:=zh (hK.below hb1);have HM:=zh (hM.below hb1);have HB:=zh hb1;have HA:=zh ha;have HLM:=zh hlm
 have c0:=ha.cell 0;have c1:=ha.cell 1;have c2:=ha.cell 2
 simp only[zg] at c0 c1 c2
 clear hR hS hK hM ha hb1 hlm
 go_enter Tryz.func60,Tryz.ntmps60
 by_cases h1:0<=cnt
 case neg=>
  have d1:decide (cnt<0)=true:=zt
  have e:R=false:=by rw[HR.out,decide_eq_false h1];rfl
  have HE:=zh e;clear e
  go_wp2_with fail
  go_ret
  exact⟨by rw[HE.out];rfl,HB.out⟩
 have d1:decide (cnt<0)=false:=zf
 by_cases h2:cnt<=1099511627776
 case neg=>
  have d2:decide (1099511627776<cnt)=true:=zt
  have e:R=false:=by rw[HR.out,decide_eq_false h2];simp
  have HE:=zh e;clear e
  go_wp2_with fail
  go_ret
  exact⟨by rw[HE.out];rfl,HB.out⟩
 have d2:decide (1099511627776<cnt)=false:=zf
 by_cases h3:S.length<=64
 case neg=>
  have d3:decide ((64:Int)<S.length)=true:=zt
  have e:R=false:=by rw[HR.out,decide_eq_false h3];simp
  have HE:=zh e;clear e
  go_wp2_with fail
  go_ret
  exact⟨by rw[HE.out];rfl,HB.out⟩
 have d3:decide ((64:Int)<S.length)=false:=zf
 have e:R=(Own.Ai Own.Bu (fun x y=>Own.Ak x.pre y.pre) none S&&Own.Ai Own.EA (fun x y=>Own.Ak x.pub y.pub) none K):=by
  rw[HR.out,decide_eq_true h1,decide_eq_true h2,decide_eq_true h3];simp
 have HR2:=zh e;clear e HR
 go_wp2_with fail
 generalize w.alloc (.cells #[.int .i64 cnt,.slice sa S.length sc,.slice ka K.length kc] 38)=w1 at*
 clear d1 d2 d3 h1 h2
 go_loopw [24] (fun i wr=>∃ k:Nat,k<=S.length/\i=.int .i64 k/\Own.Ai Own.Bu (fun x y=>Own.Ak x.pre y.pre) none (S.take k)=true/\Below w1.heap.size w1 wr) (fun i _=>S.length-(intOf i).toNat)
 case atStart=>exact⟨0,by omega,rfl,rfl,Below.refl _ _⟩
 case round=>
  obtain⟨k,hk,rfl,hok,hb⟩:=hrel
  have HOK:=zh hok;have HBW:=zh hb
  have hz1:=HA.out.lt
  have hbs:=hb.size
  have ha2:=HA.out.below hb hz1
  obtain⟨c0,c1,c2⟩:=ha2.c3
  clear ha2
  by_cases hlt:k<S.length
  case neg=>
   have hke:k=S.length:=by omega
   have dk:decide ((k:Int)<S.length)=false:=zf
   have e:R=Own.Ai Own.EA (fun x y=>Own.Ak x.pub y.pub) none K:=by
    rw[HR2.out]
    rw[hke,List.take_length] at hok
    rw[hok,Bool.true_and]
   have HR3:=zh e
   have HKW:=zh (HK.out.below hb)
   have HB2:=zh (HB.out.trans (hb.mono HB.out.size))
   have HA2:=zh (HA.out.below hb hz1)
   clear e hok hke hb HR2 HK HB HA HOK HBW HS HM
   go_wp2_with fail
   have hzw:w.heap.size<wr.heap.size:=by omega
   clear dk
   obtain⟨w5,hw5⟩:∃ w5,w5=wr:=⟨_,rfl⟩
   subst hw5
   go_loopw [52] (fun i wr=>∃ j:Nat,j<=K.length/\i=.int .i64 j/\Own.Ai Own.EA (fun x y=>Own.Ak x.pub y.pub) none (K.take j)=true/\Below w5.heap.size w5 wr) (fun i _=>K.length-(intOf i).toNat)
   case atStart=>exact⟨0,by omega,rfl,rfl,Below.refl _ _⟩
   case round=>
    obtain⟨j,hj,rfl,hok,hb⟩:=hrel
    have HBX:=zh hb
    have ha2:=HA2.out.below hb hzw
    obtain⟨c0,c1,c2⟩:=ha2.c3
    clear ha2
    by_cases hlt:j<K.length
    case neg=>
     have hje:j=K.length:=by omega
     have dk:decide ((j:Int)<K.length)=false:=zf
     have e:R=true:=by rw[HR3.out,<- hok,hje,List.take_length]
     have HE:=zh e;clear e hok hb hje
     go_wp2_with fail
     go_ret
     exact⟨by rw[HE.out];rfl,HB2.out.trans (HBX.out.mono HB2.out.size)⟩
    have dk:decide ((j:Int)<K.length)=true:=zt
    have hra:R=((Own.EA K[j]&&Own.ahead (fun x y=>Own.Ak x.pub y.pub) (K.take j).getLast? K[j])&&Own.Ai Own.EA (fun x y=>Own.Ak x.pub y.pub) (some K[j]) (K.drop (j+1))):=by rw[HR3.out,Own.Iz _ _ K j hlt,hok,Bool.true_and]
    have htk:Own.Ai Own.EA (fun x y=>Own.Ak x.pub y.pub) none (K.take (j+1))=(Own.EA K[j]&&Own.ahead (fun x y=>Own.Ak x.pub y.pub) (K.take j).getLast? K[j]):=by rw[Own.FT _ _ K j hlt,hok,Bool.true_and]
    have hlk:=HKW.out.below hb
    obtain⟨b,o,ha,hbl,e0,e1⟩:=Own.Ca.cells hlk hlt
    have Fb:∀ i,j=i+1->∃ x:Own.KeyUse,wr.cell? ⟨b,o+i*2,none⟩=some (.string x.pub)/\(K.take j).getLast? = some x:=by
     intro i hi
     obtain⟨b',o',ha',_,e0,_⟩:=Own.Ca.cells hlk (i:=i) (by omega)
     rw[ha] at ha'
     cases ha'
     have hg:=Own.getLast_take K i (by omega)
     rw[<- hi] at hg
     exact⟨_,e0,hg⟩
    subst ha
    obtain⟨ku,hku⟩:∃ x,x=K[j]:=⟨_,rfl⟩
    rw[<- hku] at hra htk e0 e1
    obtain⟨rest,hrest⟩:∃ x,x=Own.Ai Own.EA (fun x y=>Own.Ak x.pub y.pub) (some ku) (K.drop (j+1)):=⟨_,rfl⟩
    rw[<- hrest] at hra
    obtain⟨pb,nx⟩:=ku
    have hkk:Own.EA ⟨pb,nx⟩=(Sig.BJ pb&&decide (0<=nx)&&decide (nx<=2^(pb.get! 32).toNat)):=rfl
    rw[hkk] at hra htk
    dsimp only at hra htk e0 e1
    have hb5:Below w5.heap.size w5 (wr.alloc (.cells #[.string pb,.int .i64 nx] 91)).drew:=(hb.alloc hb.size _).drew
    have ha5:=((HA2.out.below hb hzw).alloc (.cells #[.string pb,.int .i64 nx] 91)).drew
    have b2:=ha5.cell 2
    simp only[zg] at b2
    have J8:=zh Fb;have HB5:=zh hb5
    clear hok hb hlk Fb hb5 ha5 hrest hku hkk HKW
    cases hp:Sig.BJ pb with
    | false =>
      have e:R=false:=by rw[hra,hp];rfl
      have HE:=zh e;clear e hra htk
      go_wp2_with fail
      refine Lex.zl ?_
      go_wp2_with fail
      refine(BH pb _).mono ?_
      rintro e2 w2 ⟨rfl,rfl⟩
      rw[hp]
      go_wp2_with fail
      refine Lex.ze ?_
      go_wp2_with fail
      go_ret
      exact⟨by rw[HE.out];rfl,HB2.out.trans (HB5.out.mono HB2.out.size)⟩
    | true=>
    rw[hp,Bool.true_and] at hra htk
    have h33:pb.size=33:=of_decide_eq_true (Bool.and_eq_true_iff.1 hp).1
    have h6:(pb.get! 32).toNat<=6:=of_decide_eq_true (Bool.and_eq_true_iff.1 hp).2
    have h32:32<pb.size:=by omega
    have hg:pb.get! 32=pb[32]:=getElem!_pos pb.data 32 h32
    rw[hg] at h6 hra htk
    obtain⟨N,hN⟩:∃ N:Nat,N=2^pb[32].toNat:=⟨_,rfl⟩
    have xE:N<=64:=by
     rw[hN]
     exact Nat.le_trans (Nat.pow_le_pow_right (by omega) h6) (by decide)
    have hNN:((2:Int)^pb[32].toNat)=(N:Int):=by rw[hN];exact(Int.natCast_pow 2 _).symm
    have hsh:wrap64 ((2:Int)^pb[32].toNat)=(N:Int):=by
     rw[hNN]
     unfold wrap64
     omega
    rw[hNN] at hra htk
    have H33:=zh h33;have HHP:=zh hp;have HSH:=zh hsh
    clear hN hNN hg h33 hp hsh
    have dsz:((pb.size:Int)==33)=true:=by rw[beq_iff_eq];have:=H33.out;omega
    by_cases n1:0<=nx
    case neg=>
     have dn1:decide (nx<0)=true:=zt
     have e:R=false:=by rw[hra,decide_eq_false n1];rfl
     have HE:=zh e;clear e hra htk
     go_wp2_with fail
     refine Lex.zl ?_
     go_wp2_with fail
     refine(BH pb _).mono ?_
     rintro e2 w2 ⟨rfl,rfl⟩
     rw[HHP.out]
     go_wp2_with (rw[HSH.out])
     refine Lex.ze ?_
     go_wp2_with fail
     go_ret
     exact⟨by rw[HE.out];rfl,HB2.out.trans (HB5.out.mono HB2.out.size)⟩
    have dn1:decide (nx<0)=false:=zf
    rw[decide_eq_true n1,Bool.true_and] at hra htk
    by_cases n2:nx<=(N:Int)
    case neg=>
     have dn2:decide ((N:Int)<nx)=true:=zt
     have e:R=false:=by rw[hra,decide_eq_false n2];rfl
     have HE:=zh e;clear e hra htk n1 n2
     go_wp2_with fail
     refine Lex.zl ?_
     go_wp2_with fail
     refine(BH pb _).mono ?_
     rintro e2 w2 ⟨rfl,rfl⟩
     rw[HHP.out]
     go_wp2_with (rw[HSH.out])
     refine Lex.ze ?_
     go_wp2_with fail
     go_ret
     exact⟨by rw[HE.out];rfl,HB2.out.trans (HB5.out.mono HB2.out.size)⟩
    have dn2:decide ((N:Int)<nx)=false:=zf
    rw[decide_eq_true n2,Bool.true_and] at hra htk
    rcases Nat.eq_zero_or_pos j with hj0|hjp
    ·have hl0:(K.take j).getLast? = none:=by rw[hj0];rfl
     rw[hl0] at htk
     have HT:=zh htk
     have HJ0:=zh hj0
     have dz:decide ((0:Int)<(j:Int))=false:=zf
     have dz' : decide (0<j)=false:=zf
     clear hl0 hra htk hj0
     go_wp2_with fail
     refine Lex.zl ?_
     go_wp2_with fail
     refine(BH pb _).mono ?_
     rintro e2 w2 ⟨rfl,rfl⟩
     rw[HHP.out]
     go_wp2_with (rw[HSH.out])
     refine Lex.ze ?_
     go_wp2_with fail
     go_round
     case measure=>simp[intOf];omega
     case rel=>exact⟨j+1,by omega,by go_num,HT.out,HB5.out⟩
    ·obtain⟨i,hi⟩:∃ i,j=i+1:=⟨j-1,by omega⟩
     obtain⟨x,f0,hx⟩:=J8.out i hi
     rw[hx] at hra htk
     have FR:R=(Own.Ak x.pub pb&&rest):=hra
     have EI:Own.Ai Own.EA (fun x y=>Own.Ak x.pub y.pub) none (K.take (j+1))=Own.Ak x.pub pb:=htk
     unfold Own.Ak at FR
     have dz:decide ((0:Int)<(j:Int))=true:=zt
     have dz' : decide (0<j)=true:=zt
     have ek:(j:Int)-1=(i:Int):=by omega
     have hjl:i<K.length:=by omega
     have f1:(wr.alloc (.cells #[.string pb,.int .i64 nx] 91)).cell? ⟨b,o+i*2,none⟩=some (.string x.pub):=(((Below.refl wr.heap.size wr).alloc (Nat.le_refl _) _).cell (p:=⟨b,o+i*2,none⟩) hbl).trans f0
     cases hlb:Op.bytesLess x.pub.toList pb.toList with
     | false =>
       have e:R=false:=by rw[FR,hlb];rfl
       have HE:=zh e;clear e hra htk FR EI hx f0 hi
       go_wp2_with fail
       refine Lex.zl ?_
       go_wp2_with fail
       refine(BH pb _).mono ?_
       rintro e2 w2 ⟨rfl,rfl⟩
       rw[HHP.out]
       go_wp2_with (rw[HSH.out])
       refine Lex.ze ?_
       go_wp2_with fail
       go_ret
       exact⟨by rw[HE.out];rfl,HB2.out.trans (HB5.out.mono HB2.out.size)⟩
     | true =>
       have sI:Own.Ai Own.EA (fun x y=>Own.Ak x.pub y.pub) none (K.take (j+1))=true:=by rw[EI];exact hlb
       have HT:=zh sI
       clear hra htk FR EI sI hx f0 hi
       go_wp2_with fail
       refine Lex.zl ?_
       go_wp2_with fail
       refine(BH pb _).mono ?_
       rintro e2 w2 ⟨rfl,rfl⟩
       rw[HHP.out]
       go_wp2_with (rw[HSH.out])
       refine Lex.ze ?_
       go_wp2_with fail
       go_round
       case measure=>simp[intOf];omega
       case rel=>exact⟨j+1,by omega,by go_num,HT.out,HB5.out⟩
  have dk:decide ((k:Int)<S.length)=true:=zt
  have hra:R=(((Own.Bu S[k]&&Own.ahead (fun x y=>Own.Ak x.pre y.pre) (S.take k).getLast? S[k])&&Own.Ai Own.Bu (fun x y=>Own.Ak x.pre y.pre) (some S[k]) (S.drop (k+1)))&&Own.Ai Own.EA (fun x y=>Own.Ak x.pub y.pub) none K):=by rw[HR2.out,Own.Iz _ _ S k hlt,hok,Bool.true_and]
  have htk:Own.Ai Own.Bu (fun x y=>Own.Ak x.pre y.pre) none (S.take (k+1))=(Own.Bu S[k]&&Own.ahead (fun x y=>Own.Ak x.pre y.pre) (S.take k).getLast? S[k]):=by rw[Own.FT _ _ S k hlt,hok,Bool.true_and]
  have hlk:=HS.out.below hb
  obtain⟨b,o,mv,ha,hbl,e0,e1,e2,hmv⟩:=Own.Bw.cells hlk hlt
  have Fb:∀ i,k=i+1->∃ x:Own.Space,wr.cell? ⟨b,o+i*3,none⟩=some (.string x.pre)/\(S.take k).getLast? = some x:=by
   intro i hi
   obtain⟨b',o',_,ha',_,e0,_⟩:=Own.Bw.cells hlk (i:=i) (by omega)
   rw[ha] at ha'
   cases ha'
   have hg:=Own.getLast_take S i (by omega)
   rw[<- hi] at hg
   exact⟨_,e0,hg⟩
  subst ha
  have hml:=HLM.out S[k] (List.getElem_mem hlt)
  obtain⟨sp,hsp⟩:∃ x,x=S[k]:=⟨_,rfl⟩
  rw[<- hsp] at hra htk e0 e2 hmv hml
  obtain⟨rest,hrest⟩:∃ x,x=(Own.Ai Own.Bu (fun x y=>Own.Ak x.pre y.pre) (some sp) (S.drop (k+1))&&Own.Ai Own.EA (fun x y=>Own.Ak x.pub y.pub) none K):=⟨_,rfl⟩
  rw[Bool.and_assoc,<- hrest] at hra
  obtain⟨ma,mc,rfl⟩:=hmv.len
  have hb5:Below w1.heap.size w1 (wr.alloc (.cells #[.string sp.pre,.slice ma sp.members.length mc,.int .i64 sp.threshold] 70)).drew:=(hb.alloc hb.size _).drew
  have Er:Below wr.heap.size wr (wr.alloc (.cells #[.string sp.pre,.slice ma sp.members.length mc,.int .i64 sp.threshold] 70)).drew:=zb.drew
  have hn5:=(At.new wr 70 #[.string sp.pre,.slice ma sp.members.length mc,.int .i64 sp.threshold]).drew
  have hz5:(wr.alloc (.cells #[.string sp.pre,.slice ma sp.members.length mc,.int .i64 sp.threshold] 70)).drew.heap.size=wr.heap.size+1:=World.size_alloc _ _
  have VI:=Uc (.slice ma sp.members.length mc) sp _ ((HM.out.below hb).below Er) (hmv.below Er) hml
  have Rv:=zh VI;have J8:=zh Fb;have HB5:=zh hb5;have JA:=zh Er;have HN5:=zh hn5;have HZ5:=zh hz5
  clear hok hb hlk Fb hb5 Er hn5 VI hrest hsp hmv hz5
  cases hs:Own.Bu sp with
  | false =>
    have e:R=false:=by rw[hra,hs];rfl
    have HE:=zh e;clear e hra htk
    go_wp2_with fail
    refine Lex.zl ?_
    go_wp2_with fail
    refine Rv.out.mono ?_
    rintro e2 w7 ⟨rfl,hb7⟩
    rw[hs]
    have HB7:=zh (HB.out.trans ((HB5.out.trans (hb7.mono HB5.out.size)).mono HB.out.size));clear hb7
    go_wp2_with fail
    refine Lex.ze ?_
    go_wp2_with fail
    go_ret
    exact⟨by rw[HE.out];rfl,HB7.out⟩
  | true=>
  rw[hs,Bool.true_and] at hra htk
  have HHS:=zh hs;clear hs
  rcases Nat.eq_zero_or_pos k with hk0|hkp
  ·have hl0:(S.take k).getLast? = none:=by rw[hk0];rfl
   rw[hl0] at htk
   have eF : Own.Ai Own.Bu (fun x y=>Own.Ak x.pre y.pre) none (S.take (k+1))=true:=htk
   have HT:=zh eF
   have HK0:=zh hk0
   have dz:decide ((0:Int)<(k:Int))=false:=zf
   have dz' : decide (0<k)=false:=zf
   clear hl0 hra htk eF hk0
   go_wp2_with fail
   refine Lex.zl ?_
   go_wp2_with fail
   refine Rv.out.mono ?_
   rintro e3 w7 ⟨rfl,hb7⟩
   rw[HHS.out]
   have Dl:=HB5.out.trans (hb7.mono HB5.out.size)
   have g1:=((HA.out.below Dl hz1)).cell 1
   have g0:=(HN5.out.below hb7 HN5.out.lt).cell 0
   simp only[zg] at g0 g1
   try have f1:=((JA.out.trans (hb7.mono JA.out.size)).cell (p:=⟨b,o+i*3,none⟩) hbl).trans F0.out
   have HB7:=zh Dl;clear hb7 Dl
   go_wp2_with fail
   refine Lex.ze ?_
   go_wp2_with fail
   go_round
   case measure=>simp[intOf];omega
   case rel=>exact⟨k+1,by omega,by go_num,HT.out,HB7.out⟩
  ·obtain⟨i,hi⟩:∃ i,k=i+1:=⟨k-1,by omega⟩
   obtain⟨x,f0,hx⟩:=J8.out i hi
   rw[hx] at hra htk
   have FR:R=(Own.Ak x.pre sp.pre&&rest):=hra
   have EI:Own.Ai Own.Bu (fun x y=>Own.Ak x.pre y.pre) none (S.take (k+1))=Own.Ak x.pre sp.pre:=htk
   have dz:decide ((0:Int)<(k:Int))=true:=zt
   have dz' : decide (0<k)=true:=zt
   have ek:(k:Int)-1=(i:Int):=by omega
   have hjl:i<S.length:=by omega
   have F0:=zh f0
   cases hlb:Own.Ak x.pre sp.pre with
   | false =>
     have e:R=false:=by rw[FR,hlb];rfl
     have HE:=zh e
     have om : Op.bytesLess x.pre.toList sp.pre.toList=false:=hlb
     clear e hra htk FR EI hx f0 hi hlb
     go_wp2_with fail
     refine Lex.zl ?_
     go_wp2_with fail
     refine Rv.out.mono ?_
     rintro e3 w7 ⟨rfl,hb7⟩
     rw[HHS.out]
     have Dl:=HB5.out.trans (hb7.mono HB5.out.size)
     have g1:=((HA.out.below Dl hz1)).cell 1
     have g0:=(HN5.out.below hb7 HN5.out.lt).cell 0
     simp only[zg] at g0 g1
     try have f1:=((JA.out.trans (hb7.mono JA.out.size)).cell (p:=⟨b,o+i*3,none⟩) hbl).trans F0.out
     have HB7:=zh Dl;clear hb7 Dl
     go_wp2_with fail
     refine Lex.ze ?_
     go_wp2_with fail
     go_ret
     exact⟨by rw[HE.out];rfl,HB.out.trans (HB7.out.mono HB.out.size)⟩
   | true =>
     rw[hlb] at EI
     have HT:=zh EI
     have om : Op.bytesLess x.pre.toList sp.pre.toList=true:=hlb
     clear hra htk FR EI hx f0 hi hlb
     go_wp2_with fail
     refine Lex.zl ?_
     go_wp2_with fail
     refine Rv.out.mono ?_
     rintro e3 w7 ⟨rfl,hb7⟩
     rw[HHS.out]
     have Dl:=HB5.out.trans (hb7.mono HB5.out.size)
     have g1:=((HA.out.below Dl hz1)).cell 1
     have g0:=(HN5.out.below hb7 HN5.out.lt).cell 0
     simp only[zg] at g0 g1
     try have f1:=((JA.out.trans (hb7.mono JA.out.size)).cell (p:=⟨b,o+i*3,none⟩) hbl).trans F0.out
     have HB7:=zh Dl;clear hb7 Dl
     go_wp2_with fail
     refine Lex.ze ?_
     go_wp2_with fail
     go_round
     case measure=>simp[intOf];omega
     case rel=>exact⟨k+1,by omega,by go_num,HT.out,HB7.out⟩
namespace Own
def Lg (m:Member):List Value:=[.string m.name,.string m.pub]
def E5 (k:KeyUse):List Value:=[.string k.pub,.int .i64 k.next]
def DC (v:Vote):List Value:=[.string v.name,.string v.pub,.bool v.agrees]
end Own
theorem Mh {α : Type}{enc : α -> List Value} : ∀ {css:List (List Value)} {l:List α},css.length=l.length->(∀ i (hi:i<l.length) (hi' : i<css.length),css[i]=enc l[i])->css.flatten=l.flatMap enc
 | [],[],_,_=>rfl
 | c :: css,x :: l,hl,h => by
   have h0:c=enc x:=h 0 (by simp) (by simp)
   rw[List.flatten_cons,List.flatMap_cons,h0,Mh (by simpa using hl) (fun i hi hi' => h (i+1) (by simp;omega) (by simp;omega))]
 | [],_::_,hl,_=>by simp at hl
 | _::_,[],hl,_=>by simp at hl
section
variable {w w' : World} {v:Value} {F:Nat->Prop}
theorem Ng {α : Type}{size:Nat}{R:Elem α}{enc : α -> List Value}(hR:∀ cs x,R F w cs x->cs=enc x){l:List α}(h:Af size R F w v l):BA w v size l.length (l.flatMap enc):=by
 obtain⟨css,h1,h2,h3⟩:=h.cells
 have:css.flatten=l.flatMap enc:=Mh h1 (fun i hi hi' => hR _ _ (h2 i hi hi').2)
 rw[<- this]
 exact h3
theorem DF {α : Type}{size n:Nat}{R:Elem α}{enc : α -> List Value}(hR:∀ x,R F w (enc x) x)(hs:∀ x,(enc x).length=size){l:List α}(h:BA w v size n (l.flatMap enc))(hn:n=l.length)(hF:∀ k,v.ownBlock=some k->F k):Af size R F w v l:=by
 refine Af.TY (css:=l.map enc) (by rw[<- List.flatMap_def];exact h) hn (by simp) hF (fun i hi hi' => ?_)
 rw[List.getElem_map]
 exact⟨hs _,hR _⟩
end
namespace Own
theorem AY.rows {w:World}{v:Value}{l:List Member}(h:AY w v l):BA w v 2 l.length (l.flatMap Lg):=Ng (fun _ _ h=>h) h
theorem Ca.rows {w:World}{v:Value}{l:List KeyUse}(h:Ca w v l):BA w v 2 l.length (l.flatMap E5):=Ng (fun _ _ h=>h) h
theorem Ct.rows {w:World}{v:Value}{l:List Vote}(h:Ct w v l):BA w v 3 l.length (l.flatMap DC):=Ng (fun _ _ h=>h) h
theorem AY.of {w:World}{v:Value}{n:Nat}{l:List Member}(h:BA w v 2 n (l.flatMap Lg))(hn:n=l.length):AY w v l:=DF (enc:=Lg) (fun _=>rfl) (fun _=>rfl) h hn (fun _ _=>trivial)
theorem Ca.of {w:World}{v:Value}{n:Nat}{l:List KeyUse}(h:BA w v 2 n (l.flatMap E5))(hn:n=l.length):Ca w v l:=DF (enc:=E5) (fun _=>rfl) (fun _=>rfl) h hn (fun _ _=>trivial)
theorem Ct.of {w:World}{v:Value}{n:Nat}{l:List Vote}(h:BA w v 3 n (l.flatMap DC))(hn:n=l.length):Ct w v l:=DF (enc:=DC) (fun _=>rfl) (fun _=>rfl) h hn (fun _ _=>trivial)
theorem mF (l:List Member):∀ u∈l.flatMap Lg,u.oneCell' = true:=by
 intro u hu
 obtain⟨x,_,hx⟩:=List.mem_flatMap.1 hu
 unfold Lg at hx
 simp at hx
 rcases hx with rfl|rfl<;>rfl
theorem mG (l:List KeyUse):∀ u∈l.flatMap E5,u.oneCell' = true:=by
 intro u hu
 obtain⟨x,_,hx⟩:=List.mem_flatMap.1 hu
 unfold E5 at hx
 simp at hx
 rcases hx with rfl|rfl<;>rfl
theorem mH (l:List Vote):∀ u∈l.flatMap DC,u.oneCell' = true:=by
 intro u hu
 obtain⟨x,_,hx⟩:=List.mem_flatMap.1 hu
 unfold DC at hx
 simp at hx
 rcases hx with rfl|rfl|rfl<;>rfl
end Own
theorem NT:Nonempty (Gl Tryz.prog 68 73 2 32):=Ea (z:=.agg #[.string ⟨#[]⟩,.string ⟨#[]⟩]) Tryz.underlying68 (by kernel_rfl) rfl (by omega)
theorem JB:Nonempty (Gl Tryz.prog 36 91 2 24):=Ea (z:=.agg #[.string ⟨#[]⟩,.int .i64 0]) Tryz.underlying36 (by kernel_rfl) rfl (by omega)
theorem Hy:Nonempty (Gl Tryz.prog 44 82 3 40):=Ea (z:=.agg #[.string ⟨#[]⟩,.string ⟨#[]⟩,.bool false]) Tryz.underlying44 (by kernel_rfl) rfl (by omega)
theorem XT:Nonempty (Gl Tryz.prog 35 70 3 48):=Ea (z:=.agg #[.string ⟨#[]⟩,.slice none 0 0,.int .i64 0]) Tryz.underlying35 (by kernel_rfl) rfl (by omega)
theorem Nh:Nonempty (Gl Tryz.prog 22 46 6 80):=Ea (z:=.agg #[.int .i64 0,.string ⟨#[]⟩,.string ⟨#[]⟩,.int .i64 0,.int .i64 0,.slice none 0 0]) Tryz.underlying22 (by kernel_rfl) rfl (by omega)
theorem KD (v:Value)(n:Nat)(xs:List Value)(w:World)(h:BA w v 2 n xs)(h1:∀ u∈xs,u.oneCell' = true)(hn:n<=3000000):
 Calls Tryz.prog 36 #[v] w fun e w' => ∃ v',e=.returned v' /\ w'.ownsRow w.heap.size 73 2 v' n xs/\Below w.heap.size w w':=by
 obtain⟨a,c,rfl⟩:=h.len
 have H:=zh h;have H1:=zh h1;clear h h1
 have q22:∀ (w:World) (a:Option Addr) (n c n' c' : Nat),(binOp .eql 68 (.slice a n c) (.slice none n' c')).run Tryz.prog w=.ok (.bool a.isNone) w:=fun w a n c n' c' => Lib.run_eql_slice_nil w _ _ a n c n' c' Tryz.underlying68
 go_enter Tryz.func36,Tryz.ntmps36
 cases a with
 | none =>
   have h0:n=0/\xs=[]:=by
    obtain⟨hl,a',c',he,h0|⟨b,o,hb,_⟩⟩:=H.out
    ·subst h0
     exact⟨rfl,List.eq_nil_of_length_eq_zero (by simpa using hl)⟩
    ·cases he;cases hb
   obtain⟨rfl,rfl⟩:=h0
   go_wp2_with fail
   go_ret
   exact⟨_,rfl,⟨rfl,.inl ⟨rfl,rfl⟩⟩,Below.refl _ _⟩
 | some p =>
   have hb1:Below w.heap.size w (w.alloc (.cells #[] 73)):=zb
   have HO:=zh (Jy w 73 2 w.heap.size (Nat.le_refl _));have H2:=zh (H.out.below hb1);have HB1:=zh hb1
   clear hb1
   go_wp2_with (at_builtin;go_must (refine Am NT rfl _ _ rfl w.heap.size 0 _ [] rfl HO.out (.slice (some p) n c) n xs rfl H2.out H1.out (by omega) (by omega) HB1.out.size ?_);intro v5 w5 ho5 hg5 _;obtain⟨va,vm,vc,rfl⟩:=Ae ho5;have HB5:=zh (Ba HB1.out HB1.out.size HO.out hg5);rw[Nat.zero_add,List.nil_append] at ho5;have HO5:=zh ho5;clear ho5 hg5)
   go_ret
   exact⟨_,rfl,HO5.out,HB5.out⟩
theorem XU (v:Value)(n:Nat)(xs:List Value)(w:World)(h:BA w v 2 n xs)(h1:∀ u∈xs,u.oneCell' = true)(hn:n<=3000000):
 Calls Tryz.prog 168 #[v] w fun e w' => ∃ v',e=.returned v' /\ w'.ownsRow w.heap.size 91 2 v' n xs/\Below w.heap.size w w':=by
 obtain⟨a,c,rfl⟩:=h.len
 have H:=zh h;have H1:=zh h1;clear h h1
 have q22:∀ (w:World) (a:Option Addr) (n c n' c' : Nat),(binOp .eql 36 (.slice a n c) (.slice none n' c')).run Tryz.prog w=.ok (.bool a.isNone) w:=fun w a n c n' c' => Lib.run_eql_slice_nil w _ _ a n c n' c' Tryz.underlying36
 go_enter Tryz.func168,Tryz.ntmps168
 cases a with
 | none =>
   have h0:n=0/\xs=[]:=by
    obtain⟨hl,a',c',he,h0|⟨b,o,hb,_⟩⟩:=H.out
    ·subst h0
     exact⟨rfl,List.eq_nil_of_length_eq_zero (by simpa using hl)⟩
    ·cases he;cases hb
   obtain⟨rfl,rfl⟩:=h0
   go_wp2_with fail
   go_ret
   exact⟨_,rfl,⟨rfl,.inl ⟨rfl,rfl⟩⟩,Below.refl _ _⟩
 | some p =>
   have hb1:Below w.heap.size w (w.alloc (.cells #[] 91)):=zb
   have HO:=zh (Jy w 91 2 w.heap.size (Nat.le_refl _));have H2:=zh (H.out.below hb1);have HB1:=zh hb1
   clear hb1
   go_wp2_with (at_builtin;go_must (refine Am JB rfl _ _ rfl w.heap.size 0 _ [] rfl HO.out (.slice (some p) n c) n xs rfl H2.out H1.out (by omega) (by omega) HB1.out.size ?_);intro v5 w5 ho5 hg5 _;obtain⟨va,vm,vc,rfl⟩:=Ae ho5;have HB5:=zh (Ba HB1.out HB1.out.size HO.out hg5);rw[Nat.zero_add,List.nil_append] at ho5;have HO5:=zh ho5;clear ho5 hg5)
   go_ret
   exact⟨_,rfl,HO5.out,HB5.out⟩
theorem VJ (v:Value)(n:Nat)(xs:List Value)(w:World)(h:BA w v 3 n xs)(h1:∀ u∈xs,u.oneCell' = true)(hn:n<=3000000):
 Calls Tryz.prog 111 #[v] w fun e w' => ∃ v',e=.returned v' /\ w'.ownsRow w.heap.size 82 3 v' n xs/\Below w.heap.size w w':=by
 obtain⟨a,c,rfl⟩:=h.len
 have H:=zh h;have H1:=zh h1;clear h h1
 have q22:∀ (w:World) (a:Option Addr) (n c n' c' : Nat),(binOp .eql 44 (.slice a n c) (.slice none n' c')).run Tryz.prog w=.ok (.bool a.isNone) w:=fun w a n c n' c' => Lib.run_eql_slice_nil w _ _ a n c n' c' Tryz.underlying44
 go_enter Tryz.func111,Tryz.ntmps111
 cases a with
 | none =>
   have h0:n=0/\xs=[]:=by
    obtain⟨hl,a',c',he,h0|⟨b,o,hb,_⟩⟩:=H.out
    ·subst h0
     exact⟨rfl,List.eq_nil_of_length_eq_zero (by simpa using hl)⟩
    ·cases he;cases hb
   obtain⟨rfl,rfl⟩:=h0
   go_wp2_with fail
   go_ret
   exact⟨_,rfl,⟨rfl,.inl ⟨rfl,rfl⟩⟩,Below.refl _ _⟩
 | some p =>
   have hb1:Below w.heap.size w (w.alloc (.cells #[] 82)):=zb
   have HO:=zh (Jy w 82 3 w.heap.size (Nat.le_refl _));have H2:=zh (H.out.below hb1);have HB1:=zh hb1
   clear hb1
   go_wp2_with (at_builtin;go_must (refine Am Hy rfl _ _ rfl w.heap.size 0 _ [] rfl HO.out (.slice (some p) n c) n xs rfl H2.out H1.out (by omega) (by omega) HB1.out.size ?_);intro v5 w5 ho5 hg5 _;obtain⟨va,vm,vc,rfl⟩:=Ae ho5;have HB5:=zh (Ba HB1.out HB1.out.size HO.out hg5);rw[Nat.zero_add,List.nil_append] at ho5;have HO5:=zh ho5;clear ho5 hg5)
   go_ret
   exact⟨_,rfl,HO5.out,HB5.out⟩
theorem Ud (v:Value)(n:Nat)(xs:List Value)(w:World)(h:BA w v 3 n xs)(h1:∀ u∈xs,u.oneCell' = true)(hn:n<=3000000):
 Calls Tryz.prog 98 #[v] w fun e w' => ∃ v',e=.returned v' /\ w'.ownsRow w.heap.size 70 3 v' n xs/\Below w.heap.size w w':=by
 obtain⟨a,c,rfl⟩:=h.len
 have H:=zh h;have H1:=zh h1;clear h h1
 have q22:∀ (w:World) (a:Option Addr) (n c n' c' : Nat),(binOp .eql 35 (.slice a n c) (.slice none n' c')).run Tryz.prog w=.ok (.bool a.isNone) w:=fun w a n c n' c' => Lib.run_eql_slice_nil w _ _ a n c n' c' Tryz.underlying35
 go_enter Tryz.func98,Tryz.ntmps98
 cases a with
 | none =>
   have h0:n=0/\xs=[]:=by
    obtain⟨hl,a',c',he,h0|⟨b,o,hb,_⟩⟩:=H.out
    ·subst h0
     exact⟨rfl,List.eq_nil_of_length_eq_zero (by simpa using hl)⟩
    ·cases he;cases hb
   obtain⟨rfl,rfl⟩:=h0
   go_wp2_with fail
   go_ret
   exact⟨_,rfl,⟨rfl,.inl ⟨rfl,rfl⟩⟩,Below.refl _ _⟩
 | some p =>
   have hb1:Below w.heap.size w (w.alloc (.cells #[] 70)):=zb
   have HO:=zh (Jy w 70 3 w.heap.size (Nat.le_refl _));have H2:=zh (H.out.below hb1);have HB1:=zh hb1
   clear hb1
   go_wp2_with (at_builtin;go_must (refine Am XT rfl _ _ rfl w.heap.size 0 _ [] rfl HO.out (.slice (some p) n c) n xs rfl H2.out H1.out (by omega) (by omega) HB1.out.size ?_);intro v5 w5 ho5 hg5 _;obtain⟨va,vm,vc,rfl⟩:=Ae ho5;have HB5:=zh (Ba HB1.out HB1.out.size HO.out hg5);rw[Nat.zero_add,List.nil_append] at ho5;have HO5:=zh ho5;clear ho5 hg5)
   go_ret
   exact⟨_,rfl,HO5.out,HB5.out⟩
end
section
open Go Go.RowKit Go.Maps
namespace Own
def longer (b:Option Space)(x:Space):Bool:=match b with
 | none=>true
 | some y=>decide (y.pre.size<x.pre.size)
def KE (s:ByteArray)(b:Option Space)(x:Space):Option Space:=if belongs s x.pre&&longer b x then some x else b
theorem EJ (s:ByteArray)(b:Option Space)(x:Space)(l:List Space):FJ s b (x::l)=FJ s (KE s b x) l:=by
 cases b<;>rfl
theorem Qr (s:ByteArray)(x:Space):∀ (l:List Space) (b:Option Space),FJ s b (l++[x])=KE s (FJ s b l) x
 | [],b=>by rw[List.nil_append,EJ];rfl
 | y::l,b=>by rw[List.cons_append,EJ,Qr s x l,EJ]
theorem XV (s:ByteArray)(l:List Space)(k:Nat)(hk:k<l.length):FJ s none (l.take (k+1))=KE s (FJ s none (l.take k)) l[k]:=by
 rw[List.take_succ_eq_append_getElem hk,Qr]
def eG (l:List Space)(b:Option Space)(i:Int):Prop:=(i = -1/\b=none)\/∃ j:Nat,i=(j:Int)/\∃ h:j<l.length,b=some l[j]
end Own
theorem Ot (o:Own.Ap)(s:ByteArray)(sv kv:Value)(w:World)(hS:Own.Bw w sv o.spaces)(hls:o.spaces.length<=64)(hp:∀ x∈o.spaces,x.pre.size<=64):
 Calls Tryz.prog 93 #[.agg #[.int .i64 o.count,sv,kv],.string s] w fun e w' => (∃ i,e=.returned (.int .i64 i)/\Own.eG o.spaces (Own.FJ s none o.spaces) i)/\Below w.heap.size w w':=by
 obtain⟨sa,sc,rfl⟩:=hS.len
 obtain⟨cnt,S,K⟩:=o
 dsimp only at*
 have ha:=At.new w 38 #[.int .i64 cnt,.slice sa S.length sc,kv]
 have hb1:Below w.heap.size w (w.alloc (.cells #[.int .i64 cnt,.slice sa S.length sc,kv] 38)):=zb
 have HS:=zh (hS.below hb1);have HB:=zh hb1;have HA:=zh ha;have HP:=zh hp
 have c0:=ha.cell 0;have c1:=ha.cell 1;have c2:=ha.cell 2
 simp only[zg] at c0 c1 c2
 obtain⟨B,hB⟩:∃ B:List Own.Space->Option Own.Space,B=Own.FJ s none:=⟨_,rfl⟩
 have hB0:B []=none:=by rw[hB];rfl
 have hBs:∀ k (hk:k<S.length),B (S.take (k+1))=Own.KE s (B (S.take k)) S[k]:=fun k hk=>by rw[hB];exact Own.XV s S k hk
 rw[<- hB]
 have HBS:=zh hBs
 clear hS ha hb1 hp hB hBs
 go_enter Tryz.func93,Tryz.ntmps93
 go_wp2_with fail
 generalize w.alloc (.cells #[.int .i64 cnt,.slice sa S.length sc,kv] 38)=w1 at*
 go_loopw [5,11] (fun r i wr=>∃ k:Nat,k<=S.length/\i=.int .i64 k/\(∃ b,r=.int .i64 b/\Own.eG S (B (S.take k)) b)/\Below w1.heap.size w1 wr) (fun _ i _=>S.length-(intOf i).toNat)
 case atStart=>exact⟨0,by omega,rfl,⟨-1,rfl,.inl ⟨rfl,hB0⟩⟩,Below.refl _ _⟩
 case round=>
  obtain⟨k,hk,rfl,⟨bi,rfl,hbi⟩,hb⟩:=hrel
  have HBW:=zh hb
  have hz1:=HA.out.lt
  have hbs:=hb.size
  have ha2:=HA.out.below hb hz1
  have d1:=ha2.cell 1
  simp only[zg] at d1
  clear ha2
  by_cases hlt:k<S.length
  case neg=>
   have hke:k=S.length:=by omega
   have dk:decide ((k:Int)<S.length)=false:=zf
   rw[hke,List.take_length] at hbi
   have HBI:=zh hbi
   clear hbi hb hke
   go_wp2_with fail
   go_ret
   exact⟨⟨_,rfl,HBI.out⟩,HB.out.trans (HBW.out.mono HB.out.size)⟩
  have dk:decide ((k:Int)<S.length)=true:=zt
  have hlk:=HS.out.below hb
  obtain⟨b,o,mv,ha,hbl,e0,e1,e2,hmv⟩:=Own.Bw.cells hlk hlt
  have hpk:=HP.out S[k] (List.getElem_mem hlt)
  have hst:=HBS.out k hlt
  have Fb:∀ j (hj:j<S.length),wr.cell? ⟨b,o+j*3,none⟩=some (.string S[j].pre):=by
   intro j hj
   obtain⟨b',o',_,ha',_,e0,_⟩:=Own.Bw.cells hlk hj
   rw[ha] at ha'
   cases ha'
   exact e0
  subst ha
  obtain⟨ma,mc,rfl⟩:=hmv.len
  obtain⟨pre,hpre⟩:∃ x,x=S[k].pre:=⟨_,rfl⟩
  obtain⟨mm,hmm⟩:∃ x,x=S[k].members:=⟨_,rfl⟩
  obtain⟨th,hth⟩:∃ x,x=S[k].threshold:=⟨_,rfl⟩
  rw[<- hpre] at e0 hpk
  rw[<- hmm] at e1
  rw[<- hth] at e2
  have hb5:Below w1.heap.size w1 (wr.alloc (.cells #[.string pre,.slice ma mm.length mc,.int .i64 th] 70)).drew:=(hb.alloc hb.size _).drew
  have Er:Below wr.heap.size wr (wr.alloc (.cells #[.string pre,.slice ma mm.length mc,.int .i64 th] 70)):=zb
  have f1:=(HA.out.below (hb5) hz1).cell 1
  simp only[zg] at f1
  have Ue:=zh hpre;have HST:=zh hst;have HBI:=zh hbi;have HB5:=zh hb5;have J8:=zh Fb
  have hbel:=fun W=>Rt s pre W (by omega)
  have aD:=zh hbel
  clear hb hlk Fb hmv hb5 hbel hpre hmm hth hst hbi
  cases hbg:Own.belongs s pre with
  | false =>
    have hn:B (S.take (k+1))=B (S.take k):=by rw[HST.out];unfold Own.KE;rw[<- Ue.out,hbg];rfl
    have HN:=zh hn
    clear hn
    go_wp2_with fail
    refine Lex.zl ?_
    go_wp2_with fail
    refine(aD.out _).mono ?_
    rintro e3 w7 ⟨rfl,rfl⟩
    rw[hbg]
    go_wp2_with fail
    refine Lex.ze ?_
    go_wp2_with fail
    go_round
    case measure=>simp[intOf];omega
    case rel=>exact⟨k+1,by omega,by go_num,⟨bi,rfl,by rw[HN.out];exact HBI.out⟩,HB5.out⟩
  | true=>
  rcases HBI.out with ⟨h1,h2⟩|⟨j,h1,hj,h2⟩
  ·have hn:B (S.take (k+1))=some S[k]:=by rw[HST.out,h2];unfold Own.KE;rw[<- Ue.out,hbg];rfl
   have HN:=zh hn
   subst h1
   clear hn h2
   go_wp2_with fail
   refine Lex.zl ?_
   go_wp2_with fail
   refine(aD.out _).mono ?_
   rintro e3 w7 ⟨rfl,rfl⟩
   rw[hbg]
   go_wp2_with fail
   refine Lex.ze ?_
   go_wp2_with fail
   go_round
   case measure=>simp[intOf];omega
   case rel=>exact⟨k+1,by omega,by go_num,⟨k,rfl,.inr ⟨k,rfl,hlt,HN.out⟩⟩,HB5.out⟩
  ·have g0:=J8.out j hj
   obtain⟨pn,hpn⟩:∃ x,x=S[j].pre:=⟨_,rfl⟩
   rw[<- hpn] at g0
   have g1:(wr.alloc (.cells #[.string pre,.slice ma mm.length mc,.int .i64 th] 70)).cell? ⟨b,o+j*3,none⟩=some (.string pn):=(Er.cell (p:=⟨b,o+j*3,none⟩) hbl).trans g0
   have hn:B (S.take (k+1))=if decide (pn.size<pre.size) then some S[k] else some S[j]:=by
    rw[HST.out,h2,hpn,Ue.out];unfold Own.KE;rw[<- Ue.out,hbg,Ue.out];rfl
   have HN:=zh hn
   subst h1
   have dj:decide ((j:Int)<0)=false:=zf
   clear hn h2 g0 hpn
   by_cases hlg:pn.size<pre.size
   ·have dl:decide ((pn.size:Int)<(pre.size:Int))=true:=zt
    have dl' : decide (pn.size<pre.size)=true:=decide_eq_true hlg
    go_wp2_with fail
    refine Lex.zl ?_
    go_wp2_with fail
    refine(aD.out _).mono ?_
    rintro e3 w7 ⟨rfl,rfl⟩
    rw[hbg]
    go_wp2_with fail
    refine Lex.ze ?_
    go_wp2_with fail
    go_round
    case measure=>simp[intOf];omega
    case rel=>exact⟨k+1,by omega,by go_num,⟨k,rfl,.inr ⟨k,rfl,hlt,by rw[HN.out,dl'];rfl⟩⟩,HB5.out⟩
   ·have dl:decide ((pn.size:Int)<(pre.size:Int))=false:=zf
    have dl' : decide (pn.size<pre.size)=false:=decide_eq_false hlg
    go_wp2_with fail
    refine Lex.zl ?_
    go_wp2_with fail
    refine(aD.out _).mono ?_
    rintro e3 w7 ⟨rfl,rfl⟩
    rw[hbg]
    go_wp2_with fail
    refine Lex.ze ?_
    go_wp2_with fail
    go_round
    case measure=>simp[intOf];omega
    case rel=>exact⟨k+1,by omega,by go_num,⟨j,rfl,.inr ⟨j,rfl,hj,by rw[HN.out,dl'];rfl⟩⟩,HB5.out⟩
theorem Gu:(Tryz.prog.info? 70).map (·.size)=some 3:=by kernel_rfl
theorem Av:(Tryz.prog.info? 38).map (·.size)=some 3:=by kernel_rfl
theorem JC:(Tryz.prog.info? 73).map (·.size)=some 2:=by kernel_rfl
theorem GJ (pre:ByteArray)(th:Int)(v:Value)(l:List Own.Member)(w:World)(h:Own.AY w v l)(hl:l.length<=3000000):
 Calls Tryz.prog 94 #[.agg #[.string pre,v,.int .i64 th]] w fun e w' => ∃ v',e=.returned (.agg #[.string pre,v',.int .i64 th])/\w'.ownsRow w.heap.size 73 2 v' l.length (l.flatMap Own.Lg)/\Below w.heap.size w w':=by
 have ha1:=(At.new w 70 #[.string pre,v,.int .i64 th]).alloc (.cells #[.string ⟨#[]⟩,.slice none 0 0,.int .i64 0] 70)
 have ha2:=At.new1 w (.cells #[.string pre,v,.int .i64 th] 70) 70 #[.string ⟨#[]⟩,.slice none 0 0,.int .i64 0]
 have hb1:Below w.heap.size w ((w.alloc (.cells #[.string pre,v,.int .i64 th] 70)).alloc (.cells #[.string ⟨#[]⟩,.slice none 0 0,.int .i64 0] 70)):=zb.alloc (by simp) _
 obtain⟨a,c,rfl⟩:=h.len
 have H:=zh (h.below hb1);have HA1:=zh ha1;have HA2:=zh ha2;have HB1:=zh hb1
 have c1:=ha1.cell 1
 simp only[zg] at c1
 clear h ha1 ha2 hb1
 go_enter Tryz.func94,Tryz.ntmps94
 go_wp2_with fail
 have hz:((w.alloc (.cells #[.string pre,.slice a l.length c,.int .i64 th] 70)).alloc (.cells #[.string ⟨#[]⟩,.slice none 0 0,.int .i64 0] 70)).heap.size=w.heap.size+2:=by simp
 generalize (w.alloc (.cells #[.string pre,.slice a l.length c,.int .i64 th] 70)).alloc (.cells #[.string ⟨#[]⟩,.slice none 0 0,.int .i64 0] 70)=w1 at*
 refine(KD _ l.length _ w1 (Own.AY.rows H.out) (Own.mF l) hl).mono ?_
 rintro e w2 ⟨v',rfl,ho,hb⟩
 have ha1:=HA1.out.below hb (by omega)
 have ha2:=HA2.out.below hb (by omega)
 have hne1:=ha1.own_ne ho (by decide)
 have hne2:=ha2.own_ne ho (by decide)
 have hb2:=HB1.out.trans (hb.mono HB1.out.size)
 have z1:=ha1.free 1;have y0:=ha1.cell 0;have y1:=ha1.cell 1;have y2:=ha1.cell 2
 have x0:=ha2.cell 0;have x1:=ha2.cell 1;have x2:=ha2.cell 2;have x3:=ha2.free 0;have x4:=ha2.free 1;have x5:=ha2.free 2
 simp only[zg] at y0 y1 y2 x0 x1 x2
 obtain⟨va,vm,vc,rfl⟩:=Ae ho
 have HO:=zh ho;have G1:=zh ha1;have G2:=zh ha2;have HB2:=zh hb2
 clear ho hb ha1 ha2 hb2 c1
 go_wp2_with fail
 have F2:=(((G2.out.far (p:=⟨w.heap.size,1,none⟩) (by simp) (.slice va vm vc)).set 0 (.string pre)).set 1 (.slice va vm vc)).set 2 (.int .i64 th)
 refine Gn rfl rfl (Ad F2 Tryz.underlying70 rfl Gu) ⟨_,rfl,?_,?_⟩
 ·refine Cm (AA HO.out (fun k hk=>?_)) (by omega)
  have k1:k≠w.heap.size:=by rintro rfl;exact hne1 hk
  have k2:k≠w.heap.size+1:=by rintro rfl;exact hne2 hk
  rw[zo k2,zo k2,zo k2,zo k1]
 ·exact(((HB2.out.setCell (p:=⟨w.heap.size,1,none⟩) (Nat.le_refl _) _).setCell (p:=⟨w.heap.size+1,0,none⟩) (by simp) _).setCell (p:=⟨w.heap.size+1,1,none⟩) (by simp) _).setCell (p:=⟨w.heap.size+1,2,none⟩) (by simp) _
end
end Go.Proofs.YtnijhlphcjjpbaaGreatDoor
