/- The reference's hash trees: roots and inclusion proofs. -/
import Derived.OrdersIn
import Derived.RangeFuncCalls
import Derived.TacticsIn
import Derived.RangeFuncNested
import Derived.RangeFuncBound
import Derived.RangeFuncLeaves
import Derived.OwnWalkIn
import Derived.TacticsInMore
import Derived.LoopNIn
import Derived.LoopIn
import Derived.Lib.Builder
import Derived.Lib.FrozenHead
import Derived.Lib.AppendStr
import Derived.Lib.Split
import Derived.Lib.SplitLaws
import Derived.Laws.EntriesVeiled
import Derived.Test.YtjlmglgmcekmhaaGreatDoorShkB2
import Derived.Test.YtjlmglgmcekmhaaGreatDoorShkB3
import Derived.Test.YtjlmglgmcekmhaaGreatDoorShkB4
import Derived.Test.YtjlmglgmcekmhaaGreatDoorShkB5
import Derived.Test.YtjlmglgmcekmhaaGreatDoorShkB7
set_option linter.unusedVariables false
set_option linter.unusedSimpArgs false
set_option maxRecDepth 100000
set_option maxHeartbeats 8000000
namespace Go.Proofs.YtjlmglgmcekmhaaGreatDoor
section
open Go Go.RowKit Go.Maps
theorem mD (f:Nat)(l:List ByteArray)(h:2<=l.length):Sig.Gw (f+1) l=Sig.node (Sig.Gw f (l.take (Sig.split l.length))) (Sig.Gw f (l.drop (Sig.split l.length))):=by
 match l,h with
 | x::y::l,_=>rfl
theorem Am.yD {w:World}{a:Option Addr}{n c c' k:Nat}{xs:List ByteArray}(h:Am w (.slice a n c) xs)(hk:k<=xs.length):Am w (.slice a k c') (xs.take k):=by
 obtain⟨a',c2,he,h0|⟨b,o,ha,hc⟩⟩:=h
 ·cases he
  obtain rfl:k=0:=by omega
  exact⟨a,c',by simp,.inl (by simp)⟩
 ·cases he
  refine⟨a,c',by simp[Nat.min_eq_left hk],.inr ⟨b,o,ha,fun j hj=>?_⟩⟩
  rw[List.length_take,Nat.min_eq_left hk] at hj
  rw[hc j (by omega),List.getD_eq_getElem?_getD,List.getD_eq_getElem?_getD,List.getElem?_take_of_lt hj]
theorem Am.yE {w:World}{b o n c c' k m:Nat}{xs:List ByteArray}(h:Am w (.slice (some ⟨b,o,none⟩) n c) xs)(hm:m=xs.length-k):Am w (.slice (some ⟨b,o+k,none⟩) m c') (xs.drop k):=by
 refine⟨some ⟨b,o+k,none⟩,c',by rw[hm,List.length_drop],.inr ⟨b,o+k,rfl,fun j hj=>?_⟩⟩
 rw[List.length_drop] at hj
 have:=h.cellAt (k:=k+j) (by omega)
 rw[show o+k+j=o+(k+j) by omega,this,List.getD_eq_getElem?_getD,List.getD_eq_getElem?_getD,List.getElem?_drop]
theorem QE (v:Value)(w:World)(h:Am w v []):
 Calls Tryz.prog 194 #[v] w fun e w' => e=.returned (.string (Sha.sha ⟨#[]⟩))/\Below w.heap.size w w':=by
 obtain⟨a,c,rfl⟩:=h.len
 go_enter Tryz.func194,Tryz.ntmps194
 go_wp2_with fail
 refine(IL _ w (by decide)).mono ?_
 rintro e w1 ⟨rfl,hb⟩
 go_wp2_with fail
 go_ret
 exact⟨rfl,hb⟩
theorem QF (v:Value)(x:ByteArray)(w:World)(h:Am w v [x]):
 Calls Tryz.prog 194 #[v] w fun e w' => e=.returned (.string x)/\Below w.heap.size w w':=by
 obtain⟨a,c,rfl⟩:=h.len
 obtain⟨b,o,rfl⟩:=h.addrOf (k:=0) (by simp)
 have hc:w.cell? ⟨b,o,none⟩=some (.string x):=h.cellAt (k:=0) (by simp)
 go_enter Tryz.func194,Tryz.ntmps194
 go_wp2_with fail
 go_ret
 exact⟨rfl,Below.refl _ _⟩
theorem Ko:∀ (f:Nat) (v:Value) (p:List ByteArray) (w:World),p.length<=f+1->p.length<=4096->Am w v p->Er v->
 Calls Tryz.prog 194 #[v] w fun e w' => e=.returned (.string (Sig.Gw f p))/\Below w.heap.size w w':=by
 intro f
 induction f with
 | zero =>
   intro v p w hf hp h hcap
   match p,hf,h with
   | [],_,h=>exact QE v w h
   | [x],_,h=>exact QF v x w h
   | _::_::_,hf,_=>simp at hf
 | succ f ih =>
   intro v p w hf hp h hcap
   by_cases h0:p=[]
   ·subst h0
    exact QE v w h
   by_cases h1:p.length=1
   ·obtain⟨x,rfl⟩:=List.length_eq_one_iff.1 h1
    exact QF v x w h
   obtain⟨a,c,rfl⟩:=h.len
   obtain⟨_,_,_,he,hcl⟩:=hcap
   cases he
   have h00:p.length≠0:=fun e=>h0 (List.eq_nil_of_length_eq_zero e)
   have h2:2<=p.length:=by omega
   have hrr:=mD f p h2
   obtain⟨b,o,ha⟩:=h.addrOf (k:=0) (by omega)
   subst ha
   have d0:((p.length:Int)==0)=false:=by rw[beq_eq_false_iff_ne];omega
   have d1:((p.length:Int)==1)=false:=by rw[beq_eq_false_iff_ne];omega
   have hsp:=Sig.Sv h2
   have hs0:=Sig.Po p.length
   have hk1:=h.yD (k:=Sig.split p.length) (c':=c) (by omega)
   have hk2:=h.yE (k:=Sig.split p.length) (m:=p.length-Sig.split p.length) (c':=c-Sig.split p.length) rfl
   have hl1:(p.take (Sig.split p.length)).length=Sig.split p.length:=by rw[List.length_take];omega
   have hl2:(p.drop (Sig.split p.length)).length=p.length-Sig.split p.length:=by rw[List.length_drop]
   obtain⟨P1,hP1⟩:∃ P1,P1=p.take (Sig.split p.length):=⟨_,rfl⟩
   obtain⟨P2,hP2⟩:∃ P2,P2=p.drop (Sig.split p.length):=⟨_,rfl⟩
   rw[<- hP1] at hrr hk1 hl1
   rw[<- hP2] at hrr hk2 hl2
   obtain⟨R,hR⟩:∃ R,R=Sig.Gw (f+1) p:=⟨_,rfl⟩
   rw[<- hR] at hrr ⊢
   have hsplit:=fun w=>NM p.length w h2 (by omega)
   obtain⟨K,hK⟩:∃ K,K=Sig.split p.length:=⟨_,rfl⟩
   rw[<- hK] at hsp hs0 hk1 hk2 hl1 hl2 hsplit
   obtain⟨N,hN⟩:∃ N,N=p.length:=⟨_,rfl⟩
   rw[<- hN] at hsp hcl hf hp hk2 hl2 d0 d1 h2 hsplit ⊢
   have HR:=zh hrr;have IH:=zh ih;have H1:=zh hk1;have H2:=zh hk2;have HL1:=zh hl1;have HL2:=zh hl2;have HS:=zh hsplit
   clear hrr ih hk1 hk2 hl1 hl2 hR hP1 hP2 h h0 h1 h00 hK hN hsplit
   go_enter Tryz.func194,Tryz.ntmps194
   go_wp2_with fail
   refine(HS.out w).mono ?_
   rintro e w1 ⟨rfl,rfl⟩
   go_wp2_with fail
   refine Lex.zl ?_
   go_wp2_with fail
   refine(IH.out _ P1 _ (by rw[HL1.out];omega) (by rw[HL1.out];omega) (show Am w1.drew _ _ from H1.out) ⟨_,_,_,rfl,by omega⟩).mono ?_
   rintro e w2 ⟨rfl,hb⟩
   have hb2:Below w1.heap.size w1 w2:=((Below.refl w1.heap.size w1).drew).trans hb
   have HB:=zh hb2;have H2':=zh (H2.out.below hb2);clear hb hb2
   go_wp2_with fail
   refine(IH.out _ P2 _ (by rw[HL2.out];omega) (by rw[HL2.out];omega) H2'.out ⟨_,_,_,rfl,by omega⟩).mono ?_
   rintro e w3 ⟨rfl,hb⟩
   have HB3:=zh (HB.out.trans (hb.mono HB.out.size));clear hb
   go_wp2_with fail
   refine(ZI _ _ w3).mono ?_
   rintro e w4 ⟨rfl,hb⟩
   have HB4:=zh (HB3.out.trans (hb.mono HB3.out.size));clear hb
   go_wp2_with fail
   refine Lex.ze ?_
   go_wp2_with fail
   go_ret
   rw[HR.out]
   exact⟨rfl,HB4.out⟩
theorem NP:Nonempty (Gg Tryz.prog 68 9 1 16):=Es (z:=.string ⟨#[]⟩) Tryz.underlying68 (by kernel_rfl) rfl (by omega)
def EX:Nat->List ByteArray->Nat->List ByteArray
 | 0,_,_=>[]
 | f + 1,l,i => if l.length = 1 then [] else if i < Sig.split l.length then EX f (l.take (Sig.split l.length)) i ++ [Sig.Gw f (l.drop (Sig.split l.length))]
     else EX f (l.drop (Sig.split l.length)) (i-Sig.split l.length)++[Sig.Gw f (l.take (Sig.split l.length))]
theorem Pv:∀ (f:Nat) (l:List ByteArray) (i:Nat),(EX f l i).length<=f
 | 0,_,_=>Nat.le_refl _
 | f + 1,l,i => by
   unfold EX
   split
   ·exact Nat.zero_le _
   ·split<;>rw[List.length_append,List.length_singleton]<;>exact Nat.succ_le_succ (Pv f _ _)
theorem Pw:∀ (f:Nat) (v:Value) (p:List ByteArray) (i:Nat) (w:World),1<=p.length->p.length<=f->f<=4096->i<p.length->Am w v p->Er v->
 Calls Tryz.prog 192 #[v,.int .i64 i] w fun e w' => ∃ u,e=.returned u/\w'.ownsRow w.heap.size 9 1 u (EX f p i).length ((EX f p i).map Value.string)/\Below w.heap.size w w':=by
 intro f
 induction f with
 | zero=>intro v p i w h1 h2;omega
 | succ f ih =>
   intro v p i w h1 hf hff hi h hcap
   obtain⟨a,c,rfl⟩:=h.len
   obtain⟨_,_,_,he,hcl⟩:=hcap
   cases he
   by_cases hp1:p.length=1
   ·obtain⟨x,rfl⟩:=List.length_eq_one_iff.1 hp1
    clear ih h
    go_enter Tryz.func192,Tryz.ntmps192
    go_wp2_with fail
    go_ret
    exact⟨_,rfl,World.ownsRow_nil _ _ _ _,Below.refl _ _⟩
   have h2:2<=p.length:=by omega
   obtain⟨R,hR⟩:∃ R,R=EX (f+1) p i:=⟨_,rfl⟩
   rw[<- hR]
   obtain⟨b,o,ha⟩:=h.addrOf (k:=0) (by omega)
   subst ha
   have d1:((p.length:Int)==1)=false:=by rw[beq_eq_false_iff_ne];omega
   have hsp:=Sig.Sv h2
   have hs0:=Sig.Po p.length
   have hk1:=h.yD (k:=Sig.split p.length) (c':=c) (by omega)
   have hk2:=h.yE (k:=Sig.split p.length) (m:=p.length-Sig.split p.length) (c':=c-Sig.split p.length) rfl
   have hl1:(p.take (Sig.split p.length)).length=Sig.split p.length:=by rw[List.length_take];omega
   have hl2:(p.drop (Sig.split p.length)).length=p.length-Sig.split p.length:=by rw[List.length_drop]
   unfold EX at hR
   rw[if_neg hp1] at hR
   obtain⟨P1,hP1⟩:∃ P1,P1=p.take (Sig.split p.length):=⟨_,rfl⟩
   obtain⟨P2,hP2⟩:∃ P2,P2=p.drop (Sig.split p.length):=⟨_,rfl⟩
   rw[<- hP1] at hR hk1 hl1
   rw[<- hP2] at hR hk2 hl2
   have hsplit:=fun w=>NM p.length w h2 (by omega)
   obtain⟨K,hK⟩:∃ K,K=Sig.split p.length:=⟨_,rfl⟩
   rw[<- hK] at hsp hs0 hk1 hk2 hl1 hl2 hsplit hR
   obtain⟨N,hN⟩:∃ N,N=p.length:=⟨_,rfl⟩
   rw[<- hN] at hsp hcl hf hi hk2 hl2 d1 h1 h2 hsplit ⊢
   have HR:=zh hR;have IH:=zh ih;have H1:=zh hk1;have H2:=zh hk2;have HL1:=zh hl1;have HL2:=zh hl2;have HS:=zh hsplit
   clear hR ih hk1 hk2 hl1 hl2 hP1 hP2 h hp1 hK hN hsplit
   go_enter Tryz.func192,Tryz.ntmps192
   go_wp2_with fail
   refine(HS.out w).mono ?_
   rintro e w1 ⟨rfl,rfl⟩
   by_cases hik:i<K
   ·have dk:decide ((i:Int)<K)=true:=by simp;omega
    rw[if_pos hik] at HR
    go_wp2_with fail
    refine Lex.zl ?_
    go_wp2_with fail
    refine(IH.out _ P1 i _ (by rw[HL1.out];omega) (by rw[HL1.out];omega) (by omega) (by rw[HL1.out];omega) (show Am w1.drew _ _ from H1.out) ⟨_,_,_,rfl,by omega⟩).mono ?_
    rintro e w2 ⟨u,rfl,ho,hb⟩
    have hb2:Below w1.heap.size w1 w2:=((Below.refl w1.heap.size w1).drew).trans hb
    have HB:=zh hb2;have H2':=zh (H2.out.below hb2);have HO:=zh ho;clear hb hb2 ho
    go_wp2_with fail
    refine(Ko f _ P2 _ (by rw[HL2.out];omega) (by rw[HL2.out];omega) H2'.out ⟨_,_,_,rfl,by omega⟩).mono ?_
    rintro e w3 ⟨rfl,hb⟩
    have HO3:=zh (own_below HO.out hb);have HB3:=zh (HB.out.trans (hb.mono HB.out.size));clear hb
    obtain⟨rt,hrt⟩:∃ rt,rt=Sig.Gw f P2:=⟨_,rfl⟩
    rw[<- hrt] at HR ⊢
    have hil:=Pv f P1 i
    obtain⟨L,hL⟩:∃ L,L=EX f P1 i:=⟨_,rfl⟩
    rw[<- hL] at HR HO3 hil
    clear hrt hL
    obtain⟨ga,gm,gc,rfl⟩:=Ad HO3.out
    go_wp2_with (at_builtin;go_must (refine Ai NP rfl _ _ rfl w1.heap.size L.length _ _ rfl (HO3.out.alloc _) (.slice (some ⟨w3.heap.size,0,none⟩) 1 1) 1 [.string rt] rfl (CS w3 9 #[.string rt] 1 1 1 rfl) (by intro u hu;simp at hu;subst hu;rfl) (by omega) (by omega) (by have:=HB3.out.size;simp;omega) ?_);intro v6 w6 ho6 hg6 _;have hb6:=Bn (HB3.out.alloc HB3.out.size _) (by have:=HB3.out.size;simp;omega) HO3.out hg6;have HO6:=zh ho6;have HB6:=zh hb6;clear ho6 hg6 hb6)
    refine Lex.ze ?_
    go_wp2_with fail
    go_ret
    refine⟨v6,rfl,?_,HB6.out⟩
    rw[HR.out,List.length_append,List.map_append]
    exact HO6.out
   ·have dk:decide ((i:Int)<K)=false:=by simp;omega
    rw[if_neg hik] at HR
    have e1:(i:Int)-K=((i-K:Nat):Int):=by omega
    go_wp2_with fail
    refine Lex.zl ?_
    go_wp2_with fail
    clear e1
    refine(IH.out _ P2 (i-K) _ (by rw[HL2.out];omega) (by rw[HL2.out];omega) (by omega) (by rw[HL2.out];omega) (show Am w1.drew _ _ from H2.out) ⟨_,_,_,rfl,by omega⟩).mono ?_
    rintro e w2 ⟨u,rfl,ho,hb⟩
    have hb2:Below w1.heap.size w1 w2:=((Below.refl w1.heap.size w1).drew).trans hb
    have HB:=zh hb2;have H1':=zh (H1.out.below hb2);have HO:=zh ho;clear hb hb2 ho
    go_wp2_with fail
    refine(Ko f _ P1 _ (by rw[HL1.out];omega) (by rw[HL1.out];omega) H1'.out ⟨_,_,_,rfl,by omega⟩).mono ?_
    rintro e w3 ⟨rfl,hb⟩
    have HO3:=zh (own_below HO.out hb);have HB3:=zh (HB.out.trans (hb.mono HB.out.size));clear hb
    obtain⟨rt,hrt⟩:∃ rt,rt=Sig.Gw f P1:=⟨_,rfl⟩
    rw[<- hrt] at HR ⊢
    have hil:=Pv f P2 (i-K)
    obtain⟨L,hL⟩:∃ L,L=EX f P2 (i-K):=⟨_,rfl⟩
    rw[<- hL] at HR HO3 hil
    clear hrt hL
    obtain⟨ga,gm,gc,rfl⟩:=Ad HO3.out
    go_wp2_with (at_builtin;go_must (refine Ai NP rfl _ _ rfl w1.heap.size L.length _ _ rfl (HO3.out.alloc _) (.slice (some ⟨w3.heap.size,0,none⟩) 1 1) 1 [.string rt] rfl (CS w3 9 #[.string rt] 1 1 1 rfl) (by intro u hu;simp at hu;subst hu;rfl) (by omega) (by omega) (by have:=HB3.out.size;simp;omega) ?_);intro v6 w6 ho6 hg6 _;have hb6:=Bn (HB3.out.alloc HB3.out.size _) (by have:=HB3.out.size;simp;omega) HO3.out hg6;have HO6:=zh ho6;have HB6:=zh hb6;clear ho6 hg6 hb6)
    refine Lex.ze ?_
    go_wp2_with fail
    go_ret
    refine⟨v6,rfl,?_,HB6.out⟩
    rw[HR.out,List.length_append,List.map_append]
    exact HO6.out
theorem NR (v:Value)(xs:List ByteArray)(w:World)(h:Am w v xs)(hl:xs.length<=140737488355328):
 Calls Tryz.prog 191 #[v] w fun e w' => e=.returned (.bool (decide (xs.length<=4096)&&xs.all Sig.digest))/\w' = w:=by
 obtain⟨R,hR⟩:∃ R,R=(decide (xs.length<=4096)&&xs.all Sig.digest):=⟨_,rfl⟩
 rw[<- hR]
 have H:=zh h
 obtain⟨a,c,rfl⟩:=h.len
 clear h
 go_enter Tryz.func191,Tryz.ntmps191
 by_cases h1:xs.length<=4096
 ·have d1:decide ((xs.length:Int)<=4096)=true:=by simp;omega
  rw[decide_eq_true h1,Bool.true_and] at hR
  have HR:=zh hR;clear hR
  go_wp2_with fail
  refine(Tc _ xs w H.out hl).mono ?_
  rintro e w1 ⟨rfl,rfl⟩
  rw[fK,<- HR.out]
  go_wp2_with fail
  go_ret
  exact⟨rfl,rfl⟩
 ·have d1:decide ((xs.length:Int)<=4096)=false:=by simp;omega
  rw[decide_eq_false h1,Bool.false_and] at hR
  have HR:=zh hR;clear hR
  go_wp2_with fail
  go_ret
  exact⟨by rw[HR.out];rfl,rfl⟩
theorem ZJ (v:Value)(p:List ByteArray)(w:World)(h:Am w v p)(hcap:Er v)(hl:p.length<=4096)(hd:p.all Sig.digest=true):
 Calls Tryz.prog 158 #[v] w fun e w' => e=.returned (.string (Sig.root p))/\Below w.heap.size w w':=by
 have hv:=NR v p w h (by omega)
 rw[decide_eq_true hl,hd] at hv
 have hr:=Ko p.length v p w (by omega) hl h hcap
 have HV:=zh hv;have HR:=zh hr;clear hv hr
 obtain⟨a,c,rfl⟩:=h.len
 go_enter Tryz.func158,Tryz.ntmps158
 go_wp2_with fail
 refine HV.out.mono ?_
 rintro e w1 ⟨rfl,rfl⟩
 go_wp2_with fail
 refine HR.out.mono ?_
 rintro e w2 ⟨rfl,hb⟩
 go_wp2_with fail
 go_ret
 exact⟨rfl,hb⟩
theorem Px (v:Value)(p:List ByteArray)(i:Nat)(w:World)(h:Am w v p)(hcap:Er v)(hl:p.length<=4096)(hd:p.all Sig.digest=true)(hi:i<p.length):
 Calls Tryz.prog 156 #[v,.int .i64 i] w fun e w' => ∃ u,e=.returned (.tuple #[u,.int .i64 0])/\w'.ownsRow w.heap.size 9 1 u (EX p.length p i).length ((EX p.length p i).map Value.string)/\Below w.heap.size w w':=by
 have hv:=NR v p w h (by omega)
 rw[decide_eq_true hl,hd] at hv
 have hr:=Pw p.length v p i w (by omega) (by omega) hl hi h hcap
 have d1:decide (p.length<=i)=false:=by simp;omega
 have d2:decide ((p.length:Int)<=(i:Int))=false:=by simp;omega
 have HV:=zh hv;have HR:=zh hr;clear hv hr
 obtain⟨a,c,rfl⟩:=h.len
 go_enter Tryz.func156,Tryz.ntmps156
 go_wp2_with fail
 refine HV.out.mono ?_
 rintro e w1 ⟨rfl,rfl⟩
 go_wp2_with fail
 refine HR.out.mono ?_
 rintro e w2 ⟨u,rfl,ho,hb⟩
 go_wp2_with fail
 go_ret2
 exact⟨u,rfl,ho,hb⟩
end
section
namespace Lex
open Go
section
variable {P:Program} {ops:Array Oper} {Q:Exit->Act->World->Prop} {n:Nat}
def W (r:Option Nat):Fence :={ Fence.wide with round:=r }
theorem qW {r:Option Nat}{f:FuncId}{args:Array Value}{w:World}{R:Ending->World->Prop}(h:Calls P f args w R):CallsIn (W r) n P f args w R:=by
 have h1:CallsIn Fence.wide n P f args w R:=callsIn_wide.2 h
 exact h1
theorem zbx {r:Option Nat}{f:String}{args:Array Value}{w:World}{R:Value->World->Prop}(h:Rows P f args w R):RowsIn (W r) n P f args w R:=by
 have h1:RowsIn Fence.wide n P f args w R:=fun c cs _=>let ⟨v,w',x,s⟩:=h c cs;⟨v,w',x,stepsIn_wide.2 s⟩
 exact h1
theorem Ti {r:Option Nat}{o:Oper}{a:Act}{K:Act->World->Prop}{x:Result Next}(h:o.upon P a K Q x):o.uponIn (W r) n P a K Q x:=by
 match x,h with
 | .ok (.value v) w',h=>exact h
 | .ok .skip w',h=>exact h
 | .ok (.defer d) w',h=>exact h
 | .ok (.enter f args) w',h=>exact⟨fun hd=>(by cases hd),qW h⟩
 | .ok (.row row args) w',h=>exact⟨fun hd=>(by cases hd),zbx h⟩
 | .halt (.panic v) w',h=>exact h
def Lv (ops:Array Oper):Bool:=ops.all fun o=>match o.op with
 | .defer _=>false
 | _=>true
theorem fM (h:Lv ops=true){i:Nat}{o:Oper}(ho:ops[i]? = some o):∀ c,o.op≠.defer c:=by
 intro c hc
 obtain⟨hi,rfl⟩:=Array.getElem?_eq_some_iff.1 ho
 have:=(Array.all_eq_true.1 h) i hi
 rw[hc] at this
 cases this
theorem Kq {r:Option Nat}{i:Nat}{K K' : Act->World->Prop}{a:Act}{w:World}(hd:Lv ops=true)(hQ:¬ LetsOut Q)(hK:∀ a w,K a w->K' a w)(h:wpOp P ops Q i K a w):wpOpIn (W r) n P ops Q i K' a w:=by
 unfold wpOp at h
 unfold wpOpIn
 split
 ·rename_i ho
  rw[ho] at h
  exact hK _ _ h
 ·rename_i o ho
  rw[ho] at h
  simp only at h
  split
  ·rename_i hw
   rw[if_pos hw] at h
   rcases h with h|⟨_,h⟩
   ·refine⟨fun _ _=>trivial,?_⟩
    rw[Oper.semAt_eq _ _ _ (fM hd ho)]
    exact Ti (Oper.wp_mono hK h)
   ·exact absurd h hQ
  ·rename_i hw
   rw[if_neg hw] at h
   exact⟨fun _ _=>trivial,hK _ _ h⟩
theorem NU {r:Option Nat}{md:Region.Mode}(hd:Lv ops=true)(hQ:¬ LetsOut Q):∀ (fuel:Nat) (listed:Array Bool) (a:Act) (w:World),wpAny P md ops Q fuel listed a w->wpAnyIn (W r) n P md ops Q fuel listed a w
 | 0,_,_,_,h=>h
 | fuel+1,listed,a,w,h=>⟨h.1,fun i hi=>Kq hd hQ (fun a w h=>NU hd hQ fuel _ a w h) (h.2 i hi)⟩
theorem IW {r:Option Nat}(hd:Lv ops=true)(hQ:¬ LetsOut Q):∀ (l:List Nat) (a:Act) (w:World),wpOps P ops Q l a w->wpOpsIn (W r) n P ops Q l a w
 | [],_,_,h=>h
 | i :: l,a,w,h => by
   rw[wpOps_cons] at h
   rw[wpOpsIn_cons]
   exact Kq hd hQ (fun a w h=>IW hd hQ l a w h) h
def Only (Q:Exit->Act->World->Prop):Exit->Act->World->Prop:=fun e a w=>e=.normal/\Q .normal a w
theorem Only.intro {a:Act}{w:World}(h:Q .normal a w):Only Q .normal a w:=⟨rfl,h⟩
theorem Only.Bg:Dh (Only Q):=fun _ _ _ he h=>he h.1
theorem NY {r:Option Nat}{id:Nat}{l:List Oper}{a:Act}{w:World}(hd:Lv l.toArray=true)(h:wpList P l.toArray (Only Q) l a w):(Code.region id l.toArray false).wpIn (W r) n P Q a w:=by
 refine wpIn_mono (Q:=Only Q) (wpIn_region (IW hd Only.Bg.out _ _ _ ?_)) (fun e a' w' he=>by obtain⟨rfl,h⟩:=he;exact h)
 rw[List.range_eq_range',show l.toArray.size=l.length from by simp,wpOps_eq_wpList l 0 (by simp)]
 exact h
theorem Ri {r:Option Nat}{id:Nat}{l:List Oper}{a:Act}{w:World}(hm:P.follows .mixedOrders=true)(hA:Sg P l.toArray=true)(hd:Lv l.toArray=true)
 (h:wpList P l.toArray (Ends P l.toArray Q) l a w.drew):(Code.region id l.toArray true).wpIn (W r) n P Q a w:=by
 refine wpIn_mono (Q:=Ends P l.toArray Q) (wpIn_region_any hm (NU hd (Ends.Bg _ _ _).out _ _ _ _ ?_)) (fun e a' w' he=>by obtain⟨rfl,_,h⟩:=he;exact h)
 refine MF hA l.toArray.size (List.range l.toArray.size) _ a _ (by simp) (by simp) ?_ List.pairwise_lt_range (fun x=>by
  constructor
  ·intro hx
   have:=List.mem_range.1 hx
   exact⟨this,by simp only[Array.getD_eq_getD_getElem?];simp at this ⊢;simp[this]⟩
  ·exact fun hx=>List.mem_range.2 hx.1) ?_
 ·intro j o ho hl
  rw[getD_replicate_false] at hl
  cases hl
 ·rw[List.range_eq_range',show l.toArray.size=l.length from by simp,wpOps_eq_wpList l 0 (by simp)]
  exact h
end
end Lex
end
section
open Go Go.RowKit
structure ZK (d b:Nat) (W W' : World):Prop where
 size:W.heap.size<=W'.heap.size
 two:W'.heap[d]? = W.heap[d]? /\ W'.heap[d+1]? = W.heap[d+1]?
 bet:∀ k,b<=k->k<W.heap.size->W'.heap[k]? = W.heap[k]?
theorem ZK.refl (d b:Nat)(W:World):ZK d b W W:=⟨Nat.le_refl _,⟨rfl,rfl⟩,fun _ _ _=>rfl⟩
def roundEnd {β : Type}(d b:Nat)(J : β -> World->Prop)(Jx:Code->World->Prop)(s' : β)(W:World):Exit->Act->World->Prop:=fun e _ W' =>
 ZK d b W W' /\ (e=.normal/\J s' W' \/ ∃ c,(e=.ret/\c=.ret\/∃ i,e=.exit i/\c=.exit i)/\Jx c W')
def qX {β : Type}(J' : β -> World->Prop)(Jx' : World->Prop)(Done : β -> Prop)(e:Ending)(W' : World):Prop:=(∃ v,e=.returned v)/\((∃ s,Done s/\J' s W')\/Jx' W')
def Iter {α β : Type}(F:Fence)(m:Nat)(P:Program)(gf:Nat)(args:Nat->Array Value)(encs : α -> Array Value)(J : β -> World->Prop)(Step : β -> α -> β -> Prop)(Done : β -> Prop)(s0 : β):Prop:=
 ∀ (l : Nat) (J' : β → World → Prop) (Jx' : World → Prop) (W : World),(∀ s W,J' s W → J s W) → (∀ s W W',J' s W → Below W.heap.size W W' → J' s W') →
   (∀ s x s' W0 W,J' s W0->Below W0.heap.size W0 W->Step s x s' -> YieldAt F (m-1) P l (encs x) W (fun e W' => e=.returned (.bool true)/\J' s' W' /\ (∀ k,W0.heap.size<=k->k<W.heap.size->W'.heap[k]? = W.heap[k]?)\/e=.returned (.bool false)/\Jx' W'))->J' s0 W->
   CallsIn F m P gf (args l) W (qX J' Jx' Done)
theorem Dn (W:World)(l:Nat)(o:Obj):Fr (fun k=>k=l) W (W.putObj l o):=⟨rfl,rfl,rfl,by simp[World.putObj],fun _ _ hn=>World.putObj_heap_other hn⟩
theorem LP {α β : Type}{P:Program}{n:Nat}{r:Option Nat}{g:Operand}{ps:Array Tmp}{assign body:Code}{Q:Exit->Act->World->Prop}{a:Act}{w:World}{gf:Nat}{pre lb:Array Value}
 (hro:r=none) (hg:a.eval g=.func (.func gf) pre lb) (eg:∀ args w,(callFunc gf args).run P w=.ok (.enter gf args) w) (encs : α -> Array Value) (hps:∀ x,(encs x).size=ps.size)
 (J : β -> World->Prop) (Jx:Code->World->Prop) (Step : β -> α -> β -> Prop) (Done : β -> Prop) (s0 : β)
 (hJb:∀ s W W',J s W->Below W.heap.size W W' -> J s W') (hJl:∀ s W W',J s W->Fr (fun k=>k=w.heap.size+1) W W' -> J s W') (XL:∀ c W W',Jx c W->Fr (fun k=>k=w.heap.size+1) W W' -> Jx c W')
 (h0:J s0 w)
 (hiter:Iter (Lex.W r) (n-1) P gf (fun l=>pre++(#[.func (.yield l) #[] #[]]++lb)) encs J Step Done s0)
 (Na : ∀ s x s' W0 W,w.heap.size + 1 < W0.heap.size → J s W0 → Below W0.heap.size W0 W → Step s x s' →
   assign.wpIn (Lex.W (some (w.heap.size+1))) (n-1-1) P (Exit.then (fun a₁ W₁ => ZK w.heap.size W0.heap.size W W₁ /\ ∀ W₂,Fr (fun k=>k=w.heap.size+1) W₁ W₂ -> 
    body.wpIn (Lex.W (some (w.heap.size+1))) (n-1-1) P (roundEnd w.heap.size W0.heap.size J Jx s' W₂) a₁ W₂) (fun _ _ _=>False)) { tmps:=(ps.zip (encs x)).foldl (fun t (p,v)=>t.setIfInBounds p v) a.tmps,defers:=[] } W)
 (hdone:∀ s W,Done s->J s W->W.heap[w.heap.size]? = some (.deferred (some []))->Q .normal { a with defers :={ target:=.collected w.heap.size,args:=#[] } :: a.defers } W)
 (hstop:∀ (c:Code) (W:World),Jx c W->W.heap[w.heap.size]? = some (.deferred (some []))->c.wpIn (Lex.W r) n P Q { a with defers :={ target:=.collected w.heap.size,args:=#[] } :: a.defers } W):
 (Code.rangeFunc g ps assign body).wpIn (Lex.W r) n P Q a w:=by
 refine wpIn_rangeFunc ?_
 intro fn hfn
 subst hro
 obtain⟨rec,hrec⟩:∃ rec:LoopState->Option Code->Loop,rec=fun st pe => { state:=st,pending:=pe,fn,tmps:=a.tmps,params:=ps,assign,body,defers:=w.heap.size } :=⟨_,rfl⟩
 obtain⟨W1,hW1⟩:∃ W1,(w.alloc (.deferred (some []))).alloc (.loop (rec .ready none))=W1:=⟨_,rfl⟩
 have hL1:W1.heap[w.heap.size+1]? = some (.loop (rec .ready none)):=by
  rw[<- hW1];have:=World.alloc_heap_new (w.alloc (.deferred (some []))) (.loop (rec .ready none));rwa [World.size_alloc] at this
 have hK1:W1.heap[w.heap.size]? = some (.deferred (some [])):=by
  rw[<- hW1];exact(Below.heap_alloc _ _ _ (by simp)).trans (World.alloc_heap_new w _)
 have hb1:Below w.heap.size w W1:=by
  rw[<- hW1];exact((Below.refl _ w).alloc (Nat.le_refl _) _).alloc (by simp) _
 refine⟨w.heap.size+1,[{ target:=.collected w.heap.size,args:=#[] }],W1,{ target:=.fn (.func gf) lb,args:=pre++#[.func (.yield (w.heap.size+1)) #[] #[]] },W1,gf,
  pre++(#[.func (.yield (w.heap.size+1)) #[] #[]]++lb),W1,?_,?_,fun _ _=>trivial,?_,fun h=>(by cases h),?_⟩
 ·rw[<- hW1,hrec];exact run_enterLoop_outer _ _ _ _ _
 ·simp only[resolve,hg]
  simp[go_sem]
 ·simp[invoke,go_sem,eg]
 ·refine (hiter (w.heap.size + 1) (fun s W' => J s W' ∧ W'.heap[w.heap.size + 1]? = some (.loop (rec .ready none)) ∧ W'.heap[w.heap.size]? = some (.deferred (some [])))
   (fun W' => ∃ c,Jx c W' /\ W'.heap[w.heap.size+1]? = some (.loop (rec .done (some c)))/\W'.heap[w.heap.size]? = some (.deferred (some []))) W1
   (fun s W h=>h.1)
   (fun s W W' h hb => by
     have hl:=(Array.getElem?_eq_some_iff.1 h.2.1).1
     exact⟨hJb s W W' h.1 hb,(hb.block _ hl).trans h.2.1,(hb.block _ (by omega)).trans h.2.2⟩) ?_ ⟨hJb s0 w W1 h0 hb1,hL1,hK1⟩).mono ?_
  ·rintro s x s' W0 W ⟨hJ,hl0,hd0⟩ hbW hst
   have zby:w.heap.size+1<W0.heap.size:=(Array.getElem?_eq_some_iff.1 hl0).1
   have hl:=(hbW.block _ zby).trans hl0
   have hd:=(hbW.block w.heap.size (by omega)).trans hd0
   have hlt:w.heap.size+1<W.heap.size:=(Array.getElem?_eq_some_iff.1 hl).1
   have hy:=run_yield (P:=P) (args:=encs x) hl (by rw[hrec];exact hps x)
   rw[hrec] at hy
   refine⟨fn,_,assign,body,hy,roundIn_of_wpIn hfn (wpIn_mono (Na s x s' W0 W zby hJ hbW hst) ?_)⟩
   rintro e a₁ W₁ he
   cases e with
   | normal =>
     obtain⟨hk,hbody⟩:=he
     have hl1:W₁.heap[w.heap.size+1]? = some (.loop (rec .ready none)):=hk.two.2.trans hl
     have hd1:W₁.heap[w.heap.size]? = some (.deferred (some [])):=hk.two.1.trans hd
     refine⟨_,run_beginRound hl1 (by rw[hrec]),?_⟩
     have hlt1:w.heap.size+1<W₁.heap.size:=(Array.getElem?_eq_some_iff.1 hl1).1
     have hl2:(W₁.putObj (w.heap.size+1) (.loop { rec .ready none with state:=.busy })).heap[w.heap.size+1]? = some (.loop { rec .ready none with state:=.busy }):=World.putObj_heap_same hlt1
     have hd2:(W₁.putObj (w.heap.size+1) (.loop { rec .ready none with state:=.busy })).heap[w.heap.size]? = some (.deferred (some [])):=(World.putObj_heap_other (by omega)).trans hd1
     refine wpIn_mono (hbody _ (Dn _ _ _)) ?_
     rintro e a3 W3 ⟨hk3,hres⟩
     have hl3:=hk3.two.2.trans hl2
     have hd3:=hk3.two.1.trans hd2
     rcases hres with ⟨rfl,hJ3⟩|⟨c,hc,hx⟩
     ·have hr:=run_endRound (P:=P) none hl3
      have hl4:=World.putObj_heap_same (o:=.loop (rec .ready none)) (Array.getElem?_eq_some_iff.1 hl3).1
      have hk4:(W3.putObj (w.heap.size+1) (.loop (rec .ready none))).heap[w.heap.size]? = some (.deferred (some [])):=(World.putObj_heap_other (by omega)).trans hd3
      have hf:=hJl s' _ _ hJ3 (Dn W3 (w.heap.size+1) (.loop (rec .ready none)))
      rw[hrec] at hr hl4 hk4 hf
      refine⟨_,_,hr,.inl ⟨rfl,⟨hf,by rw[hrec];exact hl4,hk4⟩,fun k hk0 hkl=>?_⟩⟩
      have hsz2:W₁.heap.size=(W₁.putObj (w.heap.size+1) (.loop { rec .ready none with state:=.busy })).heap.size:=by simp[World.putObj]
      exact(World.putObj_heap_other (by omega)).trans ((hk3.bet k hk0 (by rw[<- hsz2];exact Nat.lt_of_lt_of_le hkl hk.size)).trans ((World.putObj_heap_other (by omega)).trans (hk.bet k hk0 hkl)))
     ·have hr:=run_endRound (P:=P) (some c) hl3
      have hl4:=World.putObj_heap_same (o:=.loop (rec .done (some c))) (Array.getElem?_eq_some_iff.1 hl3).1
      have hk4:(W3.putObj (w.heap.size+1) (.loop (rec .done (some c)))).heap[w.heap.size]? = some (.deferred (some [])):=(World.putObj_heap_other (by omega)).trans hd3
      have hf:=XL c _ _ hx (Dn W3 (w.heap.size+1) (.loop (rec .done (some c))))
      rw[hrec] at hr hl4 hk4 hf
      rcases hc with ⟨rfl,rfl⟩|⟨i,rfl,rfl⟩
      ·exact⟨_,_,hr,.inr ⟨rfl,.ret,hf,by rw[hrec];exact hl4,hk4⟩⟩
      ·exact⟨_,_,hr,.inr ⟨rfl,.exit i,hf,by rw[hrec];exact hl4,hk4⟩⟩
   | ret=>exact he.elim
   | exit id=>exact he.elim
   | goto t=>exact he.elim
   | panic ch=>exact he.elim
   | outgrown=>exact he.elim
  ·rintro e W2 ⟨⟨v,rfl⟩,⟨s,hD,hJ,hl,hd⟩|⟨c,hi,hl,hd⟩⟩
   ·refine⟨none,_,by have:=run_endLoop (P:=P) hl (by rw[hrec];simp);rw[hrec] at this;exact this,hdone s _ hD (hJl s _ _ hJ (Dn _ _ _)) ((World.putObj_heap_other (by omega)).trans hd)⟩
   ·refine⟨some c,_,by have:=run_endLoop (P:=P) hl (by rw[hrec];simp);rw[hrec] at this;exact this,hstop c _ (XL c _ _ hi (Dn _ _ _)) ((World.putObj_heap_other (by omega)).trans hd)⟩
def Kept (KT:_root_.Go.Obj->Prop)(W W' : World):Prop:=∀ (k:Nat) (o:_root_.Go.Obj),W.heap[k]? = some o->KT o->W'.heap[k]? = some o
theorem Kept.refl (KT:_root_.Go.Obj->Prop)(W:World):Kept KT W W:=fun _ _ h _=>h
theorem Kept.trans {KT:_root_.Go.Obj->Prop}{A B C:World}(h:Kept KT A B)(k:Kept KT B C):Kept KT A C:=fun i o hi ho=>k i o (h i o hi ho) ho
def XM (t:TypeId)(o:_root_.Go.Obj):Prop:=∃ cs fz,o=.cells cs t fz
def mE {β : Type}(KT:_root_.Go.Obj->Prop)(d:Nat)(J : β -> World->Prop)(Jx:Code->World->Prop)(s' : β)(W:World):Exit->Act->World->Prop:=fun e _ W' =>
 (W'.heap[d]? = W.heap[d]? /\ W'.heap[d+1]? = W.heap[d+1]?)/\Kept KT W W' /\ (e=.normal/\J s' W' \/ ∃ c,(e=.ret/\c=.ret\/∃ i,e=.exit i/\c=.exit i)/\Jx c W')
def mF {β : Type}(J' : β -> World->Prop)(Jx' : World->Prop)(Done : β -> Prop)(e:Ending)(W' : World):Prop:=(∃ v,e=.returned v)/\((∃ s,Done s/\J' s W')\/Jx' W')
def yF {α β : Type}(KT:_root_.Go.Obj->Prop)(F:Fence)(m:Nat)(P:Program)(gf:Nat)(args:Nat->Array Value)(encs : α -> Array Value)(J : β -> World->Prop)(Step : β -> α -> β -> Prop)(Done : β -> Prop)(s0 : β):Prop:=
 ∀ (l : Nat) (J' : β → World → Prop) (Jx' : World → Prop) (W : World),(∀ s W,J' s W → J s W) → (∀ s W W',J' s W → Below W.heap.size W W' → J' s W') →
   (∀ s x s' W,J' s W->Step s x s' -> YieldAt F (m-1) P l (encs x) W (fun e W' => e=.returned (.bool true)/\J' s' W' /\ Kept KT W W' \/ e=.returned (.bool false)/\Jx' W'))->J' s0 W->
   CallsIn F m P gf (args l) W (mF J' Jx' Done)
theorem Kr {α β : Type}{P:Program}(KT:_root_.Go.Obj->Prop)(hKT:∀ L,¬ KT (.loop L)){n:Nat}{r:Option Nat}{g:Operand}{ps:Array Tmp}{assign body:Code}{Q:Exit->Act->World->Prop}{a:Act}{w:World}{gf:Nat}{pre lb:Array Value}
 (hro:r=none) (hg:a.eval g=.func (.func gf) pre lb) (eg:∀ args w,(callFunc gf args).run P w=.ok (.enter gf args) w) (encs : α -> Array Value) (hps:∀ x,(encs x).size=ps.size)
 (J : β -> World->Prop) (Jx:Code->World->Prop) (Step : β -> α -> β -> Prop) (Done : β -> Prop) (s0 : β)
 (hJb:∀ s W W',J s W->Below W.heap.size W W' -> J s W') (hJl:∀ s W W',J s W->Fr (fun k=>k=w.heap.size+1) W W' -> (∃ L,W.heap[w.heap.size+1]? = some (.loop L))->J s W') (XL:∀ c W W',Jx c W->Fr (fun k=>k=w.heap.size+1) W W' -> Jx c W')
 (h0:J s0 w)
 (hiter:yF KT (Lex.W r) (n-1) P gf (fun l=>pre++(#[.func (.yield l) #[] #[]]++lb)) encs J Step Done s0)
 (Na : ∀ s x s' W,w.heap.size + 1 < W.heap.size → (∃ L,W.heap[w.heap.size + 1]? = some (.loop L)) → W.heap[w.heap.size]? = some (.deferred (some [])) → J s W → Step s x s' →
   assign.wpIn (Lex.W (some (w.heap.size+1))) (n-1-1) P (Exit.then (fun a₁ W₁ => W₁ = W/\∀ W₂,Fr (fun k=>k=w.heap.size+1) W W₂ -> (∃ L,W₂.heap[w.heap.size+1]? = some (.loop L)) -> 
    body.wpIn (Lex.W (some (w.heap.size+1))) (n-1-1) P (mE KT w.heap.size J Jx s' W₂) a₁ W₂) (fun _ _ _=>False)) { tmps:=(ps.zip (encs x)).foldl (fun t (p,v)=>t.setIfInBounds p v) a.tmps,defers:=[] } W)
 (hdone:∀ s W,Done s->J s W->W.heap[w.heap.size]? = some (.deferred (some []))->Q .normal { a with defers :={ target:=.collected w.heap.size,args:=#[] } :: a.defers } W)
 (hstop:∀ (c:Code) (W:World),Jx c W->W.heap[w.heap.size]? = some (.deferred (some []))->c.wpIn (Lex.W r) n P Q { a with defers :={ target:=.collected w.heap.size,args:=#[] } :: a.defers } W):
 (Code.rangeFunc g ps assign body).wpIn (Lex.W r) n P Q a w:=by
 refine wpIn_rangeFunc ?_
 intro fn hfn
 subst hro
 obtain⟨rec,hrec⟩:∃ rec:LoopState->Option Code->Loop,rec=fun st pe => { state:=st,pending:=pe,fn,tmps:=a.tmps,params:=ps,assign,body,defers:=w.heap.size } :=⟨_,rfl⟩
 obtain⟨W1,hW1⟩:∃ W1,(w.alloc (.deferred (some []))).alloc (.loop (rec .ready none))=W1:=⟨_,rfl⟩
 have hL1:W1.heap[w.heap.size+1]? = some (.loop (rec .ready none)):=by
  rw[<- hW1];have:=World.alloc_heap_new (w.alloc (.deferred (some []))) (.loop (rec .ready none));rwa [World.size_alloc] at this
 have hK1:W1.heap[w.heap.size]? = some (.deferred (some [])):=by
  rw[<- hW1];exact(Below.heap_alloc _ _ _ (by simp)).trans (World.alloc_heap_new w _)
 have hb1:Below w.heap.size w W1:=by
  rw[<- hW1];exact((Below.refl _ w).alloc (Nat.le_refl _) _).alloc (by simp) _
 have hb1' : Below w.heap.size w W1:=hb1
 refine⟨w.heap.size+1,[{ target:=.collected w.heap.size,args:=#[] }],W1,{ target:=.fn (.func gf) lb,args:=pre++#[.func (.yield (w.heap.size+1)) #[] #[]] },W1,gf,
  pre++(#[.func (.yield (w.heap.size+1)) #[] #[]]++lb),W1,?_,?_,fun _ _=>trivial,?_,fun h=>(by cases h),?_⟩
 ·rw[<- hW1,hrec];exact run_enterLoop_outer _ _ _ _ _
 ·simp only[resolve,hg]
  simp[go_sem]
 ·simp[invoke,go_sem,eg]
 ·refine (hiter (w.heap.size + 1) (fun s W' => J s W' ∧ W'.heap[w.heap.size + 1]? = some (.loop (rec .ready none)) ∧ W'.heap[w.heap.size]? = some (.deferred (some [])))
   (fun W' => ∃ c,Jx c W' /\ W'.heap[w.heap.size+1]? = some (.loop (rec .done (some c)))/\W'.heap[w.heap.size]? = some (.deferred (some []))) W1
   (fun s W h=>h.1)
   (fun s W W' h hb=>⟨hJb s W W' h.1 hb,(hb.block _ (Array.getElem?_eq_some_iff.1 h.2.1).1).trans h.2.1,(hb.block _ (Array.getElem?_eq_some_iff.1 h.2.2).1).trans h.2.2⟩) ?_ ⟨hJb s0 w W1 h0 (hb1'),hL1,hK1⟩).mono ?_
  ·rintro s x s' W ⟨hJ,hl,hd⟩ hst
   have hlt:w.heap.size+1<W.heap.size:=(Array.getElem?_eq_some_iff.1 hl).1
   have hy:=run_yield (P:=P) (args:=encs x) hl (by rw[hrec];exact hps x)
   rw[hrec] at hy
   refine⟨fn,_,assign,body,hy,roundIn_of_wpIn hfn (wpIn_mono (Na s x s' W hlt ⟨_,hl⟩ hd hJ hst) ?_)⟩
   rintro e a₁ W₁ he
   cases e with
   | normal =>
     obtain⟨rfl,hbody⟩:=he
     refine⟨_,run_beginRound hl (by rw[hrec]),?_⟩
     have hl2:(W₁.putObj (w.heap.size+1) (.loop { rec .ready none with state:=.busy })).heap[w.heap.size+1]? = some (.loop { rec .ready none with state:=.busy }):=World.putObj_heap_same hlt
     have hd2:(W₁.putObj (w.heap.size+1) (.loop { rec .ready none with state:=.busy })).heap[w.heap.size]? = some (.deferred (some [])):=(World.putObj_heap_other (by omega)).trans hd
     have hm2:Kept KT W₁ (W₁.putObj (w.heap.size+1) (.loop { rec .ready none with state:=.busy })):=fun k o hk ho=>(World.putObj_heap_other (fun e=>by
      rw[e,hl] at hk
      cases hk
      exact hKT _ ho)).trans hk
     refine wpIn_mono (hbody _ (Dn _ _ _) ⟨_,hl2⟩) ?_
     rintro e a3 W3 ⟨hk3,zd0,hres⟩
     have hl3:=hk3.2.trans hl2
     have hd3:=hk3.1.trans hd2
     have hm4:∀ o',Kept KT W3 (W3.putObj (w.heap.size+1) o'):=fun o' k o hk ho=>(World.putObj_heap_other (fun e=>by
      rw[e,hl3] at hk
      cases hk
      exact hKT _ ho)).trans hk
     rcases hres with ⟨rfl,hJ3⟩|⟨c,hc,hx⟩
     ·have hr:=run_endRound (P:=P) none hl3
      have hl4:=World.putObj_heap_same (o:=.loop (rec .ready none)) (Array.getElem?_eq_some_iff.1 hl3).1
      have hk4:(W3.putObj (w.heap.size+1) (.loop (rec .ready none))).heap[w.heap.size]? = some (.deferred (some [])):=(World.putObj_heap_other (by omega)).trans hd3
      have hf:=hJl s' _ _ hJ3 (Dn W3 (w.heap.size+1) (.loop (rec .ready none))) ⟨_,hl3⟩
      have hmf:=hm2.trans (zd0.trans (hm4 (.loop (rec .ready none))))
      rw[hrec] at hr hl4 hk4 hf hmf
      refine⟨_,_,hr,.inl ⟨rfl,⟨hf,by rw[hrec];exact hl4,hk4⟩,hmf⟩⟩
     ·have hr:=run_endRound (P:=P) (some c) hl3
      have hl4:=World.putObj_heap_same (o:=.loop (rec .done (some c))) (Array.getElem?_eq_some_iff.1 hl3).1
      have hk4:(W3.putObj (w.heap.size+1) (.loop (rec .done (some c)))).heap[w.heap.size]? = some (.deferred (some [])):=(World.putObj_heap_other (by omega)).trans hd3
      have hf:=XL c _ _ hx (Dn W3 (w.heap.size+1) (.loop (rec .done (some c))))
      rw[hrec] at hr hl4 hk4 hf
      rcases hc with ⟨rfl,rfl⟩|⟨i,rfl,rfl⟩
      ·exact⟨_,_,hr,.inr ⟨rfl,.ret,hf,by rw[hrec];exact hl4,hk4⟩⟩
      ·exact⟨_,_,hr,.inr ⟨rfl,.exit i,hf,by rw[hrec];exact hl4,hk4⟩⟩
   | ret=>exact he.elim
   | exit id=>exact he.elim
   | goto t=>exact he.elim
   | panic ch=>exact he.elim
   | outgrown=>exact he.elim
  ·rintro e W2 ⟨⟨v,rfl⟩,⟨s,hD,hJ,hl,hd⟩|⟨c,hi,hl,hd⟩⟩
   ·refine⟨none,_,by have:=run_endLoop (P:=P) hl (by rw[hrec];simp);rw[hrec] at this;exact this,hdone s _ hD (hJl s _ _ hJ (Dn _ _ _) ⟨_,hl⟩) ((World.putObj_heap_other (by omega)).trans hd)⟩
   ·refine⟨some c,_,by have:=run_endLoop (P:=P) hl (by rw[hrec];simp);rw[hrec] at this;exact this,hstop c _ (XL c _ _ hi (Dn _ _ _)) ((World.putObj_heap_other (by omega)).trans hd)⟩
end
section
open Go Go.RowKit Go.Maps
attribute [local go_sem] Oper.semAt_some
def jM (m:ByteArray)(k:Nat)(x:Nat × Nat)(k' : Nat):Prop:=k<67/\x=(k,(Sig.digits m).getD k 0)/\k' = k+1
theorem qY (r:Option Nat):(Lex.W r).round=r:=rfl
theorem XO (mb n:Nat)(m:ByteArray)(hs:m.size<=9223372036854775000)(J:Nat->World->Prop)(hJ:∀ W,J 0 W->W.cell? ⟨mb,0,none⟩=some (.string m)):
 yF (XM 3) (Lex.W none) n Tryz.prog 215 (fun l=>#[]++(#[.func (.yield l) #[] #[]]++#[.pointer (some ⟨mb,0,none⟩)])) (fun x:Nat × Nat=>#[.int .i64 x.1,.int .i64 x.2]) J (jM m) (fun k=>k=67) 0:=by
 intro l J' Jx' W hJJ hJb hY h0
 have hrr:(Lex.W none).round=none:=rfl
 refine callsIn_of_wp Tryz.func215 rfl trivial ?_ rfl
 simp only[Tryz.ntmps215,List.size_toArray,List.length_cons,List.length_nil,Nat.reduceAdd,Nat.reduceSub,Array.replicate_succ,Array.replicate_zero,List.push_toArray,List.append_toArray,List.nil_append,List.cons_append]
 have hc:=hJ _ (hJJ _ _ h0)
 have H0:=zh h0;have HJb:=zh hJb;have HY:=zh hY
 clear hJJ hJ hJb hY h0
 have hcall:=ZG m W hs
 have HC:=zh hcall;clear hcall
 gi_wp2
 refine⟨trivial,fun h=>(by cases h),(Lex.qW HC.out).mono ?_⟩
 rintro e w1 ⟨v,rfl,ho,hb⟩
 obtain⟨g,cap,rfl,hcell⟩:=CB ho (by omega)
 have hat:∃ cur,At w1 g 3 cur:=Dq ho rfl
 obtain⟨cur,hat⟩:=hat
 have hcells:∀ k (hk:k<67),cur[k]? = some (.int .i64 (((Sig.digits m).getD k 0:Nat):Int)):=by
  intro k hk
  rw[<- hat.cell k]
  refine hcell k _ ?_
  unfold IU
  have hl:=Sig.Sy m
  rw[List.getElem?_map,List.getElem?_eq_getElem (by omega),List.getD_eq_getElem?_getD,List.getElem?_eq_getElem (by omega)]
  rfl
 have H1:=zh (HJb.out _ _ _ H0.out hb);have HCE:=zh hcells;have HAT:=zh hat
 clear ho hb hcell hat hcells hc H0 HC
 gi_wp2
 gi_loopw [8] (fun i wr=>∃ k:Nat,k<=67/\i=.int .i64 k/\J' k wr/\At wr g 3 cur) (fun i _=>67-(intOf i).toNat)
 case atStart=>exact⟨0,by omega,rfl,H1.out,HAT.out⟩
 case round=>
  obtain⟨k,hk,rfl,hj,ha⟩:=hrel
  have HJ1:=zh hj;have HA:=zh ha
  clear hj ha H1 HAT
  by_cases hlt:k<67
  ·have dk:decide ((k:Int)<67)=true:=by simp;omega
   have hck:=(HA.out.cell k).trans (HCE.out k hlt)
   obtain⟨d,hd⟩:∃ d,d=(Sig.digits m).getD k 0:=⟨_,rfl⟩
   rw[<- hd] at hck
   obtain⟨fn,tmps,assign,body,hy,hR⟩:=HY.out k (k,d) (k+1) wr HJ1.out ⟨hlt,by rw[hd],rfl⟩
   clear hd
   gi_wp2
   refine⟨fun h=>(by cases h),hR.mono ?_⟩
   rintro e W3 (⟨rfl,hJ3,hk3⟩|⟨rfl,hJx3⟩)
   ·have HJ3:=zh hJ3;have HA3:=zh (hk3 g _ HA.out ⟨cur,(0,0),rfl⟩:At W3 g 3 cur);clear hJ3 hk3 hck
    gi_wp2
    go_roundw
    case rel=>exact⟨k+1,by omega,by go_num,HJ3.out,HA3.out⟩
    case measure=>simp[intOf];omega
   ·gi_wp2
    refine bodyPost_ret (results_none rfl _ _ _) rfl ?_
    exact⟨⟨_,rfl⟩,.inr hJx3⟩
  ·have dk:decide ((k:Int)<67)=false:=by simp;omega
   have zbz:k=67:=by omega
   have HK:=zh zbz;clear zbz
   gi_wp2
   refine bodyPost_end (results_none rfl _ _ _) rfl ⟨⟨_,rfl⟩,.inl ⟨k,HK.out,HJ1.out⟩⟩
end
section
open Go Go.RowKit
theorem ZL:(Tryz.prog.info? 142).map (·.size)=some 2:=by kernel_rfl
theorem qZ:liesAt Tryz.prog Tryz.prog.depth 142 (2/Tryz.prog.cellsOf 142) 0 142 1=true:=by kernel_rfl
theorem Me (b:Nat)(w:World)(h0:w.cell? ⟨b,0,none⟩=some (.pointer (some ⟨b,0,none⟩))):
 Calls Tryz.prog 167 #[.pointer (some ⟨b,0,none⟩)] w fun e w' => e=.returned (.tuple #[])/\w' = w:=by
 obtain⟨j,hj,_⟩:=Option.map_eq_some_iff.1 ZL
 go_enter Tryz.func167,Tryz.ntmps167
 go_wp2
 rw[Lib.run_neq_ptr_same w _ Tryz.underlying140 hj]
 go_wp2
 go_end0
 exact⟨rfl,rfl⟩
theorem Kt (b:Nat)(w:World)(h0:w.cell? ⟨b,0,none⟩=some (.pointer none))(hsh:w.shape? b=some (142,2))(hfz:w.frozen? ⟨b,0,none⟩=false):
 Calls Tryz.prog 167 #[.pointer (some ⟨b,0,none⟩)] w fun e w' => e=.returned (.tuple #[])/\w' = w.setCell ⟨b,0,none⟩ (.pointer (some ⟨b,0,none⟩)):=by
 obtain⟨j,hj,hjs⟩:=Option.map_eq_some_iff.1 ZL
 go_enter Tryz.func167,Tryz.ntmps167
 go_wp2
 rw[Lib.run_to_unsafe w ⟨b,0,none⟩ Tryz.underlying140 Tryz.underlying218 hj (by rw[hjs];decide) hsh (Nat.zero_lt_succ 1)]
 simp only[Result.andThen]
 rw[Oper.upon_value]
 go_wp2
 rw[run_callFunc_extern Tryz.func200 (by kernel_rfl) (by kernel_rfl) (by kernel_rfl) (e:=Extern.AbiNoEscape.same) (by kernel_rfl)]
 rw[Lib.run_noEscape]
 simp only[Result.andThen]
 rw[Oper.upon_value]
 go_wp2
 rw[Lib.run_from_unsafe w ⟨b,0,none⟩ Tryz.underlying218 Tryz.underlying140 hj hsh qZ]
 simp only[Result.andThen]
 rw[Oper.upon_value]
 go_wp2
 go_end0
 exact⟨rfl,rfl⟩
theorem XP (B b:Nat)(bs:List Value)(w:World)(h:Lib.IsBuilderF 142 5 B b bs w):
 Calls Tryz.prog 167 #[.pointer (some ⟨b,0,none⟩)] w fun e w' => e=.returned (.tuple #[])/\(Lib.BuilderAtF 142 5 B b (.pointer (some ⟨b,0,none⟩)) bs w' /\ Below B w w'):=by
 rcases h with h|h
 ·refine(Kt b w h.cell0 h.shape h.frozen0).mono ?_
  rintro e w' ⟨rfl,rfl⟩
  exact⟨rfl,h.used _,(Below.refl B w).setCell (p:=⟨b,0,none⟩) h.1 _⟩
 ·refine(Me b w h.cell0).mono ?_
  rintro e w' ⟨rfl,rfl⟩
  exact⟨rfl,h,Below.refl B _⟩
theorem XQ (B b:Nat)(bs:List Value)(s:ByteArray)(w:World)(h:Lib.IsBuilderF 142 5 B b bs w)(hlen:bs.length+s.size<=140737488355328)(hBw:B<=w.heap.size):
 Calls Tryz.prog 118 #[.pointer (some ⟨b,0,none⟩),.string s] w fun e w' => e=.returned (.tuple #[.int .i64 s.size,.nilIface])/\(Lib.IsBuilderF 142 5 B b (bs++Lib.strCells s) w' /\ Below B w w'):=by
 obtain⟨i0,hi,hz0,hz1,hz2⟩:=info_parts Io
 go_enter Tryz.func118,Tryz.ntmps118
 go_wp2_with (go_at_call 167;refine(XP B b bs _ h).mono ?_)
 rintro e w1 ⟨rfl,h1,hb1⟩
 obtain⟨hB,v,hbk,hown,hne⟩:=h1
 have c0:w1.cell? ⟨b,0,none⟩=some (.pointer (some ⟨b,0,none⟩)):=by rw[Lib.cell_of_heap hbk];rfl
 have c1:w1.cell? ⟨b,1,none⟩=some v:=by rw[Lib.cell_of_heap hbk];rfl
 go_wp2_with (at_builtin;refine Lib.wpList_append_own_stringF _ rfl _ _ 66 9 rfl B 5 i0 Tryz.underlying66 Tryz.underlying9 hi hz0 hz1 hz2 _ _ _ rfl hown s rfl ?c3 ?c4 ?c5 ?_)
 case c3=>unfold maxLen;omega
 case c4=>omega
 case c5=>have:=hb1.size;omega
 intro v' w2 hown' hgrow _
 have hlt:b<w1.heap.size:=by
  rcases Nat.lt_or_ge b w1.heap.size with h' | h'
  ·exact h'
  ·simp[Array.getElem?_eq_none h'] at hbk
 have hb2:w2.heap[b]? = some (.cells #[.pointer (some ⟨b,0,none⟩),v] 142 (0,0)):=by
  rw[hgrow.block b hlt (fun e=>hne e.symm)]
  exact hbk
 have d0:w2.cell? ⟨b,0,none⟩=some (.pointer (some ⟨b,0,none⟩)):=by rw[Lib.cell_of_heap hb2];rfl
 have d1:w2.cell? ⟨b,1,none⟩=some v:=by rw[Lib.cell_of_heap hb2];rfl
 have f1:w2.frozen? ⟨b,1,none⟩=false:=Lib.frozen_of_heap hb2 1
 obtain⟨ao,n',cap,rfl⟩:∃ ao n' cap,v' = .slice ao n' cap:=by
  rcases hown'.2 with ⟨hv,_⟩|⟨g,cap,cur,fz,hv,_⟩
  ·exact⟨_,_,_,hv⟩
  ·exact⟨_,_,_,hv⟩
 go_wp2
 go_ret2
 refine⟨rfl,?_,?_⟩
 ·exact .inr (Lib.BuilderAtF.put (T:=142) (e:=5) hB hb2 (bs':=bs++Lib.strCells s) (by simpa [Lib.strCells_length] using hown') (by decide))
 ·exact(hb1.grown hgrow (by have:=hb1.size;omega) (fun k hk=>(hown.lt k hk).1)).setCell (p:=⟨b,1,none⟩) hB _
theorem zK (w:World):Lib.IsBuilderF 142 5 w.heap.size w.heap.size [] (w.alloc (.cells #[.pointer none,.slice none 0 0] 142)):=
 .inl ⟨Nat.le_refl _,_,heap_alloc_new w _,⟨rfl,.inl ⟨rfl,rfl⟩⟩,by simp[Value.ownBlock]⟩
theorem Tj {w w' : World}(h:Below w.heap.size w w'):w.grownBy w' none:=⟨h.os,h.tape,h.output,h.size,fun k hk _=>h.block k hk⟩
theorem IX {T e:TypeId}{B b:Nat}{p:Value}{bs:List Value}{w w' : World}(h:Lib.BuilderAtF T e B b p bs w)(hb:Below w.heap.size w w'):Lib.BuilderAtF T e B b p bs w':=by
 have hlt:=h.lt
 obtain⟨hB,v,hbk,hown,hne⟩:=h
 exact⟨hB,v,(hb.block _ hlt).trans hbk,hown.kept (Tj hb) (by cases hv:v.ownBlock<;>simp),hne⟩
theorem Py {T e:TypeId}{B b:Nat}{bs:List Value}{w w' : World}(h:Lib.IsBuilderF T e B b bs w)(hb:Below w.heap.size w w'):Lib.IsBuilderF T e B b bs w':=h.imp (fun h=>IX h hb) (fun h=>IX h hb)
end
section
open Go Go.RowKit Go.Maps
def BN (w:World)(b:Nat)(X:ByteArray):Prop:=Lib.IsBuilderF 142 5 b b (Lib.strCells X) w
theorem NZ (X s:ByteArray):Lib.strCells (X++s)=Lib.strCells X++Lib.strCells s:=by
 unfold Lib.strCells
 rw[Sha.Ao,List.map_append]
theorem BN.below {w w' : World}{b:Nat}{X:ByteArray}(h:BN w b X)(hb:Below w.heap.size w w'):BN w' b X:=Py h hb
theorem BN.new (w:World):BN (w.alloc (.cells #[.pointer none,.slice none 0 0] 142)) w.heap.size ⟨#[]⟩:=zK w
theorem BN.lt {w:World}{b:Nat}{X:ByteArray}(h:BN w b X):b<w.heap.size:=by
 rcases h with h|h
 ·exact h.lt
 ·exact h.lt
theorem ru (b:Nat)(X s:ByteArray)(w:World)(h:BN w b X)(hl:X.size+s.size<=140737488355328):
 Calls Tryz.prog 118 #[.pointer (some ⟨b,0,none⟩),.string s] w fun e w' => e=.returned (.tuple #[.int .i64 s.size,.nilIface])/\BN w' b (X++s)/\Below b w w' :=
 (XQ b b _ s w h (by rw[Lib.strCells_length];exact hl) (Nat.le_of_lt h.lt)).mono fun _ _ ⟨h1,h2,h3⟩=>⟨h1,by unfold BN;rw[NZ];exact h2,h3⟩
theorem zb0 (b:Nat)(X:ByteArray)(w:World)(h:BN w b X):
 Calls Tryz.prog 119 #[.pointer (some ⟨b,0,none⟩)] w fun e w' => e=.returned (.string X)/\BN w' b X/\Below b w w' :=
 (Tryz.Builder_String_any_f b b X.data.toList w h (Nat.le_of_lt h.lt)).mono fun _ _ ⟨h1,h2,h3⟩=>⟨by rw[h1],h2,h3⟩
theorem Vb (B b:Nat)(bs:List Value)(w:World)(h:Lib.IsBuilderF 142 5 B b bs w):
 Calls Tryz.prog 167 #[.pointer (some ⟨b,0,none⟩)] w fun e w' => e=.returned (.tuple #[])/\(Lib.BuilderAtF 142 5 B b (.pointer (some ⟨b,0,none⟩)) bs w' /\ Below B w w')/\Lib.OthersKept 5 (some b) w w':=by
 rcases h with h|h
 ·refine(Kt b w h.cell0 h.shape h.frozen0).mono ?_
  rintro e w' ⟨rfl,rfl⟩
  exact⟨rfl,⟨h.used _,(Below.refl B w).setCell (p:=⟨b,0,none⟩) h.1 _⟩,(Lib.OthersKept.refl _ _ _).setCell ⟨b,0,none⟩ rfl _⟩
 ·refine(Me b w h.cell0).mono ?_
  rintro e w' ⟨rfl,rfl⟩
  exact⟨rfl,⟨h,Below.refl B _⟩,Lib.OthersKept.refl _ _ _⟩
theorem Vd (B b:Nat)(bs:List Value)(s:ByteArray)(w:World)(h:Lib.IsBuilderF 142 5 B b bs w)(hlen:bs.length+s.size<=140737488355328)(hBw:B<=w.heap.size):
 Calls Tryz.prog 118 #[.pointer (some ⟨b,0,none⟩),.string s] w fun e w' => e=.returned (.tuple #[.int .i64 s.size,.nilIface])/\(Lib.IsBuilderF 142 5 B b (bs++Lib.strCells s) w' /\ Below B w w')/\Lib.OthersKept 5 (some b) w w':=by
 obtain⟨i0,hi,hz0,hz1,hz2⟩:=info_parts Io
 go_enter Tryz.func118,Tryz.ntmps118
 go_wp2_with (go_at_call 167;refine(Vb B b bs _ h).mono ?_)
 rintro e w1 ⟨rfl,⟨h1,hb1⟩,hk1⟩
 obtain⟨hB,v,hbk,hown,hne⟩:=h1
 have c0:w1.cell? ⟨b,0,none⟩=some (.pointer (some ⟨b,0,none⟩)):=by rw[Lib.cell_of_heap hbk];rfl
 have c1:w1.cell? ⟨b,1,none⟩=some v:=by rw[Lib.cell_of_heap hbk];rfl
 go_wp2_with (at_builtin;refine Lib.wpList_append_own_stringF _ rfl _ _ 66 9 rfl B 5 i0 Tryz.underlying66 Tryz.underlying9 hi hz0 hz1 hz2 _ _ _ rfl hown s rfl ?c3 ?c4 ?c5 ?_)
 case c3=>unfold maxLen;omega
 case c4=>omega
 case c5=>have:=hb1.size;omega
 intro v' w2 hown' hgrow _
 have hlt:b<w1.heap.size:=by
  rcases Nat.lt_or_ge b w1.heap.size with h' | h'
  ·exact h'
  ·simp[Array.getElem?_eq_none h'] at hbk
 have hb2:w2.heap[b]? = some (.cells #[.pointer (some ⟨b,0,none⟩),v] 142 (0,0)):=by
  rw[hgrow.block b hlt (fun e=>hne e.symm)]
  exact hbk
 have d0:w2.cell? ⟨b,0,none⟩=some (.pointer (some ⟨b,0,none⟩)):=by rw[Lib.cell_of_heap hb2];rfl
 have d1:w2.cell? ⟨b,1,none⟩=some v:=by rw[Lib.cell_of_heap hb2];rfl
 have f1:w2.frozen? ⟨b,1,none⟩=false:=Lib.frozen_of_heap hb2 1
 have hk2:=hk1.grown hgrow (Lib.ownsRowF_kind hown)
 obtain⟨ao,n',cap,rfl⟩:∃ ao n' cap,v' = .slice ao n' cap:=by
  rcases hown'.2 with ⟨hv,_⟩|⟨g,cap,cur,fz,hv,_⟩
  ·exact⟨_,_,_,hv⟩
  ·exact⟨_,_,_,hv⟩
 go_wp2
 go_ret2
 refine⟨rfl,⟨?_,?_⟩,hk2.setCell ⟨b,1,none⟩ rfl _⟩
 ·exact .inr (Lib.BuilderAtF.put (T:=142) (e:=5) hB hb2 (bs':=bs++Lib.strCells s) (by simpa [Lib.strCells_length] using hown') (by decide))
 ·exact(hb1.grown hgrow (by have:=hb1.size;omega) (fun k hk=>(hown.lt k hk).1)).setCell (p:=⟨b,1,none⟩) hB _
theorem zd1 (b:Nat)(X s:ByteArray)(w:World)(h:BN w b X)(hl:X.size+s.size<=140737488355328):
 Calls Tryz.prog 118 #[.pointer (some ⟨b,0,none⟩),.string s] w fun e w' => e=.returned (.tuple #[.int .i64 s.size,.nilIface])/\BN w' b (X++s)/\Below b w w' /\ Lib.OthersKept 5 (some b) w w' :=
 (Vd b b _ s w h (by rw[Lib.strCells_length];exact hl) (Nat.le_of_lt h.lt)).mono fun _ _ ⟨h1,⟨h2,h3⟩,h4⟩=>⟨h1,by unfold BN;rw[NZ];exact h2,h3,h4⟩
attribute [local go_sem] Oper.semAt_some qY
theorem ZN (m:ByteArray)(w:World):Calls Tryz.prog 179 #[.string m] w fun e w' => e=.returned (.func (.func 215) #[] #[.pointer (some ⟨w.heap.size,0,none⟩)])/\w' = w.alloc (.cells #[.string m] 9):=by
 go_enter Tryz.func179,Tryz.ntmps179
 go_wp2_with fail
 go_ret
 exact⟨rfl,rfl⟩
theorem BN.loop {w w' : World}{b j:Nat}{X:ByteArray}(h:BN w b X)(hf:Fr (fun k=>k=j) w w')(hl:∃ L,w.heap[j]? = some (.loop L)):BN w' b X:=by
 obtain⟨L,hl⟩:=hl
 have hg:w.grownBy w' (some j):=⟨hf.os,hf.tape,hf.output,hf.size,fun k hk hne=>hf.keep k hk (fun e=>hne (by rw[e]))⟩
 have key:∀ p,Lib.BuilderAtF 142 5 b b p (Lib.strCells X) w->Lib.BuilderAtF 142 5 b b p (Lib.strCells X) w':=by
  intro p h
  have hlt:=h.lt
  obtain⟨hB,v,hbk,hown,hne⟩:=h
  refine⟨hB,v,(hg.block b hlt (fun e=>?_)).trans hbk,hown.kept hg (.inr fun e=>?_),hne⟩
  ·cases e
   rw[hl] at hbk
   cases hbk
  ·obtain⟨c,fz,hc⟩:=Lib.ownsRowF_kind hown j e
   rw[hl] at hc
   cases hc
 exact h.imp (key _) (key _)
theorem BN.obj {w:World}{b:Nat}{X:ByteArray}(h:BN w b X):∃ cs,w.heap[b]? = some (.cells cs 142 (0,0)):=by
 rcases h with ⟨_,v,hbk,_⟩|⟨_,v,hbk,_⟩<;>exact⟨_,hbk⟩
theorem mG (key:Nat)(m:ByteArray)(l:List ByteArray)(k:Nat)(hk:k<67):(Sig.ends key m l).take (k+1)=(Sig.ends key m l).take k++[Sig.chain key k ((Sig.digits m).getD k 0) (15-(Sig.digits m).getD k 0) (l.getD k ⟨#[]⟩)]:=by
 have hl:k<(Sig.ends key m l).length:=by unfold Sig.ends;rw[List.length_map,List.length_range];exact hk
 rw[List.take_succ_eq_append_getElem hl]
 unfold Sig.ends
 simp
structure XT (w2:World) (m:ByteArray) (E:List ByteArray) (k:Nat) (W:World):Prop where
 bld:BN W w2.heap.size (Cod.cat (E.take k))
 msg:At W (w2.heap.size+1) 9 #[.string m]
 bel:Below w2.heap.size w2 W
theorem XT.below {w2 W W' : World}{m:ByteArray}{E:List ByteArray}{k:Nat}(h:XT w2 m E k W)(hb:Below W.heap.size W W'):XT w2 m E k W':=⟨h.bld.below hb,h.msg.below hb h.msg.lt,h.bel.trans (hb.mono h.bel.size)⟩
theorem XT.loop {w2 W W' : World}{m:ByteArray}{E:List ByteArray}{k j:Nat}(h:XT w2 m E k W)(hj:w2.heap.size+1<j)(hf:Fr (fun i=>i=j) W W')(hl:∃ L,W.heap[j]? = some (.loop L)):XT w2 m E k W' :=
 ⟨h.bld.loop hf hl,h.msg.keep (hf.keep _ h.msg.lt (by omega)),h.bel.trans (hf.below h.bel.size (fun k hk=>by have e:k=j:=hk;omega))⟩
theorem Tk (l:List ByteArray)(h:∀ x∈l,x.size=32):(Cod.cat l).size=32*l.length:=by
 induction l with
 | nil=>rfl
 | cons x l ih =>
   show(x++Cod.cat l).size=_
   rw[ByteArray.size_append,ih (fun y hy=>h y (List.mem_cons_of_mem _ hy)),h x List.mem_cons_self,List.length_cons]
   omega
theorem GV {F:Fence}{n:Nat}{P:Program}{fn:Func}{R:Ending->World->Prop}{tmps:Array Value}{w:World}{v:Value}(h:(results fn tmps).run P w=.ok v w)(hq:R (.returned v) w):bodyPostM F n P fn R Exit.ret { tmps:=tmps,defers:=[] } w:=⟨v,h,hq⟩
theorem mH {F:Fence}{n:Nat}{P:Program}{fn:Func}{R:Ending->World->Prop}{tmps:Array Value}{w:World}{v:Value}{r:Nat}(hd:w.heap[r]? = some (.deferred (some [])))(h:(results fn tmps).run P (w.putObj r (.deferred none))=.ok v (w.putObj r (.deferred none)))(hq:R (.returned v) (w.putObj r (.deferred none))):
 bodyPostM F n P fn R Exit.ret { tmps:=tmps,defers:=[{ target:=.collected r,args:=#[] }] } w:=
 ⟨by simp,.inl ⟨r,_,rfl,run_takeDeferred hd,v,h,hq⟩⟩
theorem ZO (pub m:ByteArray)(s:Sig.T)(cv pv:Value)(w:World)(hc:Am w cv s.chains)(hp:Am w pv s.path)(hcap:Er pv)(hl:s.chains.length<=140737488355328)(hpl:s.path.length<=140737488355328)(hm:m.size<=9223372036854775000):
 Calls Tryz.prog 148 #[.string pub,.string m,.agg #[.int .i64 s.index,cv,pv]] w fun e w' => e=.returned (.bool (Sig.verify pub m s))/\Below w.heap.size w w':=by
 obtain⟨R,hR⟩:∃ R,R=Sig.verify pub m s:=⟨_,rfl⟩
 rw[<- hR]
 unfold Sig.verify at hR
 obtain⟨ca,cc,rfl⟩:=hc.len
 obtain⟨pa,pc,rfl⟩:=hp.len
 have HR:=zh hR;have HC:=zh hc;have HP:=zh hp;have HCAP:=zh hcap
 clear hR hc hp hcap
 refine(callsIn_wide (n:=9)).1 ?_
 refine callsIn_of_wp_marks Tryz.func148 rfl trivial ?_ rfl
 simp only[Tryz.ntmps148,List.size_toArray,List.length_cons,List.length_nil,Nat.reduceAdd,Nat.reduceSub,Array.replicate_succ,Array.replicate_zero,List.push_toArray,List.append_toArray,List.nil_append,List.cons_append]
 refine wpIn_wide.2 ?_
 have hb1:Below w.heap.size w (w.alloc (.cells #[.int .i64 s.index,.slice ca s.chains.length cc,.slice pa s.path.length pc] 70)):=zb
 have ha1:At (w.alloc (.cells #[.int .i64 s.index,.slice ca s.chains.length cc,.slice pa s.path.length pc] 70)) w.heap.size 70 #[.int .i64 s.index,.slice ca s.chains.length cc,.slice pa s.path.length pc]:=At.new w _ _
 have HB1:=zh hb1;have HA1:=zh ha1
 clear hb1 ha1
 obtain⟨c0,c1,c2⟩:=HA1.out.c3
 by_cases h33:pub.size=33
 case neg=>
  have d1:((pub.size:Int) != 33)=true:=by rw[bne_iff_ne];omega
  have hx:R=false:=by rw[HR.out];unfold Sig.Bq;rw[decide_eq_false h33];rfl
  have HX:=zh hx;clear hx
  go_wp2_with fail
  refine GV (results_tmp rfl _ _ _) ?_
  exact⟨by rw[HX.out];rfl,HB1.out⟩
 have d1:((pub.size:Int) != 33)=false:=by rw[bne_eq_false_iff_eq];omega
 have h32:32<pub.size:=by omega
 have hg:pub.get! 32=pub[32]:=getElem!_pos pub.data 32 h32
 have hxl:pub[32].toNat<256:=pub[32].toNat_lt
 rw[hg] at HR
 by_cases h6:pub[32].toNat<=6
 case neg=>
  have d2:decide ((6:Int)<(pub[32].toNat:Int))=true:=zt
  have hx:R=false:=by
   rw[HR.out]
   have:Sig.Bq pub=false:=by unfold Sig.Bq;rw[hg,decide_eq_false h6];simp
   rw[this];rfl
  have HX:=zh hx;clear hx
  go_wp2_with fail
  refine GV (results_tmp rfl _ _ _) ?_
  exact⟨by rw[HX.out];rfl,HB1.out⟩
 have d2:decide ((6:Int)<(pub[32].toNat:Int))=false:=zf
 have zb1:Sig.Bq pub=true:=by unfold Sig.Bq;rw[hg,decide_eq_true h33,decide_eq_true h6];rfl
 obtain⟨N,hN⟩:∃ N:Nat,N=2^pub[32].toNat:=⟨_,rfl⟩
 have zd2:N<=64:=by
  rw[hN]
  exact Nat.le_trans (Nat.pow_le_pow_right (by omega) h6) (by decide)
 have hN0:0<N:=by rw[hN];exact Nat.two_pow_pos _
 have hsh:wrap64 ((2:Int)^pub[32].toNat)=(N:Int):=by
  have:((2:Int)^pub[32].toNat)=((2^pub[32].toNat:Nat):Int):=(Int.natCast_pow 2 _).symm
  rw[this,<- hN]
  unfold wrap64
  omega
 have hR2:R=(decide (0<=s.index)&&decide (s.index<(N:Int))&&decide (s.chains.length=67)&&s.chains.all Sig.digest&&Sig.included (Sig.I7 (Sig.ends s.index.toNat m s.chains)) s.index N s.path (pub.extract 0 32)):=by
  have:((2:Int)^pub[32].toNat)=(N:Int):=by rw[hN];exact(Int.natCast_pow 2 _).symm
  rw[HR.out,zb1,this]
  simp
 have HR2:=zh hR2;have HSH:=zh hsh
 clear hR2 zb1 hN hsh
 go_upto_region 4 with fail
 rw[HSH.out]
 have hlw:w.heap.size<(w.alloc (.cells #[.int .i64 s.index,.slice ca s.chains.length cc,.slice pa s.path.length pc] 70)).heap.size:=by simp
 have HC1:=zh (HC.out.below HB1.out);have HP1:=zh (HP.out.below HB1.out)
 generalize w.alloc (.cells #[.int .i64 s.index,.slice ca s.chains.length cc,.slice pa s.path.length pc] 70)=w1 at*
 by_cases i1:s.index<0
 ·have e1:decide (s.index<0)=true:=decide_eq_true i1
  have hx:R=false:=by rw[HR2.out,zf];rfl
  have HX:=zh hx;clear hx
  go_wp2_with fail
  refine GV (results_tmp rfl _ _ _) ?_
  exact⟨by rw[HX.out];rfl,HB1.out⟩
 have e1:decide (s.index<0)=false:=decide_eq_false i1
 by_cases i2:(N:Int)<=s.index
 ·have e2:decide ((N:Int)<=s.index)=true:=decide_eq_true i2
  have hx:R=false:=by rw[HR2.out,decide_eq_false (p:=s.index<(N:Int)) (by omega)];simp
  have HX:=zh hx;clear hx
  go_wp2_with fail
  refine GV (results_tmp rfl _ _ _) ?_
  exact⟨by rw[HX.out];rfl,HB1.out⟩
 have e2:decide ((N:Int)<=s.index)=false:=decide_eq_false i2
 by_cases i3:s.chains.length=67
 case neg=>
  have e3:((s.chains.length:Int) != 67)=true:=by rw[bne_iff_ne];omega
  have hx:R=false:=by rw[HR2.out,decide_eq_false i3];simp
  have HX:=zh hx;clear hx
  go_wp2_with fail
  refine GV (results_tmp rfl _ _ _) ?_
  exact⟨by rw[HX.out];rfl,HB1.out⟩
 have e3:((s.chains.length:Int) != 67)=false:=by rw[bne_eq_false_iff_eq];omega
 have I3:=zh i3;clear i3
 go_wp2_with fail
 refine(Iw 126 #[] Tryz.call126 (fun x => !Sig.digest x) _ s.chains _ (fun W x=>MW x W) HC1.out hl).mono ?_
 rintro e _ ⟨rfl,q,rfl⟩
 rw[Iy]
 have hbq:Below w1.heap.size w1 (w1.drewN q):=below_drewN (Below.refl _ _) q
 have HB2:=zh (HB1.out.trans (hbq.mono HB1.out.size));have HA2:=zh (HA1.out.below hbq HA1.out.lt);have HC2:=zh (HC1.out.below hbq);have HP2:=zh (HP1.out.below hbq)
 clear hbq c0 c1 c2 HC1 HP1 HA1 HB1
 generalize w1.drewN q=w2 at*
 cases hall:s.chains.all Sig.digest with
 | false =>
   have hx:R=false:=by rw[HR2.out,hall];simp
   have HX:=zh hx;clear hx hall
   go_wp2_with fail
   refine GV (results_tmp rfl _ _ _) ?_
   exact⟨by rw[HX.out];rfl,HB2.out⟩
 | true=>
 have hR3:R=Sig.included (Sig.I7 (Sig.ends s.index.toNat m s.chains)) s.index N s.path (pub.extract 0 32):=by
  rw[HR2.out,hall,decide_eq_true I3.out,decide_eq_true (p:=0<=s.index) (by omega),decide_eq_true (p:=s.index<(N:Int)) (by omega)]
  rfl
 have QG:∀ x∈s.chains,x.size=32:=fun x hx=>of_decide_eq_true (List.all_eq_true.1 hall x hx)
 have HR3:=zh hR3;have vM:=zh QG
 clear hR3 hall QG HR HR2
 go_wp2_with fail
 refine(ZN m _).mono ?_
 rintro e w3 ⟨rfl,rfl⟩
 go_wp2_with fail
 have hpw:w.heap.size<w2.heap.size:=HA2.out.lt
 have hj0:XT w2 m (Sig.ends s.index.toNat m s.chains) 0 ((w2.alloc (.cells #[.pointer none,.slice none 0 0] 142)).alloc (.cells #[.string m] 9)):=
  ⟨BN.below (BN.new w2) zb,At.new1 w2 _ _ _,zb.alloc (by simp) _⟩
 have hs4:((w2.alloc (.cells #[.pointer none,.slice none 0 0] 142)).alloc (.cells #[.string m] 9)).heap.size=w2.heap.size+2:=by simp
 have hEl:(Sig.ends s.index.toNat m s.chains).length=67:=by unfold Sig.ends;rw[List.length_map,List.length_range]
 have hEz:∀ x∈Sig.ends s.index.toNat m s.chains,x.size=32:=by
  intro x hx
  unfold Sig.ends at hx
  obtain⟨c,hc,rfl⟩:=List.mem_map.1 hx
  have hc:=List.mem_range.1 hc
  refine Sig.Hz _ _ _ _ _ ?_
  rw[List.getD_eq_getElem?_getD,List.getElem?_eq_getElem (by have:=I3.out;omega)]
  exact vM.out _ (List.getElem_mem _)
 have HJ0:=zh hj0;have HS4:=zh hs4;have HEL:=zh hEl;have HEZ:=zh hEz
 clear hj0 hs4 hEl hEz
 generalize (w2.alloc (.cells #[.pointer none,.slice none 0 0] 142)).alloc (.cells #[.string m] 9)=w4 at*
 have hs4:=HS4.out
 have hrr:Fence.wide.round=none:=rfl
 refine(wpIn_wide (n:=9)).1 ?_
 refine Kr (XM 3) (fun L h=>by obtain⟨_,_,h⟩:=h;cases h) (r:=none) rfl rfl (enters_of Tryz.func215 (by kernel_rfl) rfl) (fun x:Nat × Nat=>#[.int .i64 x.1,.int .i64 x.2]) (fun _=>rfl)
  (XT w2 m (Sig.ends s.index.toNat m s.chains)) (fun _ _=>False) (jM m) (fun k=>k=67) 0 ?hJb ?hJl ?XL ?h0 ?hiter ?Na ?hdone ?hstop
 case hJb=>exact fun k W W' h hb=>h.below hb
 case hJl=>exact fun k W W' h hf hl=>h.loop (by omega) hf hl
 case XL=>exact fun c W W' h _=>h
 case h0=>exact HJ0.out
 case hiter=>
  refine XO (w2.heap.size+1) _ m hm _ ?_
  rintro W h
  exact h.msg.cell 0
 case Na=>
  rintro k ⟨k',d⟩ k2 W hsz hl hd hj ⟨hk,hx,rfl⟩
  obtain⟨rfl,hdd⟩:=Prod.mk.inj hx
  have zb2:d<=15:=by rw[hdd];exact Sig.Sz m k'
  have HJ:=zh hj;have HL:=zh hl;have HDF:=zh hd;have HDD:=zh hdd
  clear hj hl hx hd hdd
  gi_wp2
  refine⟨trivial,?_⟩
  intro W2 hf hl2
  have hj2:=HJ.out.loop (by omega) hf HL.out
  have zb3:W2.heap[w4.heap.size]? = some (.deferred (some [])):=(hf.keep _ (by omega) (by omega)).trans HDF.out
  have hfs:=hf.size
  have zL:At W2 w.heap.size 70 #[.int .i64 s.index,.slice ca s.chains.length cc,.slice pa s.path.length pc]:=HA2.out.below hj2.bel hpw
  have hcs2:=HC2.out.below hj2.bel
  have hkl:k' < s.chains.length:=by have:=I3.out;omega
  obtain⟨cb,co,hca⟩:=hcs2.addrOf hkl
  subst hca
  have hcell:=hcs2.cellAt hkl
  obtain⟨I,hI⟩:∃ I:Nat,s.index=I:=⟨s.index.toNat,by omega⟩
  obtain⟨x,hx⟩:∃ x,x=s.chains.getD k' ⟨#[]⟩:=⟨_,rfl⟩
  have hxz:x.size=32:=by
   rw[hx,List.getD_eq_getElem?_getD,List.getElem?_eq_getElem hkl]
   exact vM.out _ (List.getElem_mem _)
  rw[<- hx] at hcell
  have q0:=zL.cell 0;have q1:=zL.cell 1
  simp only[zg] at q0 q1
  rw[hI] at q0
  have HJ2:=zh hj2;have zb4:=zh zb3;have HL2:=zh hl2;have HX:=zh hx;have HII:=zh hI
  have hIN:I<64:=by omega
  clear hj2 zb3 hl2 hx zL hcs2 hf hI
  gi_step
  refine wpIn_block ?_
  refine Lex.Ri (by kernel_rfl) (by kernel_rfl) (by kernel_rfl) ?_
  go_wp2_with fail
  refine(show Calls Tryz.prog 180 #[.string x,.int .i64 I,.int .i64 k',.int .i64 d,.int .i64 15] W2.drew _ from lX x I k' d (15-d) 15 W2.drew (by omega) (by omega) (by omega) (by omega) (by omega)).mono ?_
  rintro e w5 ⟨rfl,hb5⟩
  have mJ:Below W2.heap.size W2 w5:=((Below.refl W2.heap.size W2).drew).trans hb5
  have hyz:=Sig.Hz I k' d (15-d) x hxz
  have hE:(Sig.ends s.index.toNat m s.chains).take (k' + 1)=(Sig.ends s.index.toNat m s.chains).take k' ++ [Sig.chain I k' d (15-d) x]:=by
   rw[mG _ _ _ _ hk,<- HDD.out,<- HX.out]
   have:s.index.toNat=I:=by rw[HII.out];exact Int.toNat_natCast I
   rw[this]
  obtain⟨y,hy⟩:∃ y,y=Sig.chain I k' d (15-d) x:=⟨_,rfl⟩
  rw[<- hy] at hyz hE ⊢
  have hj5:=HJ2.out.below mJ
  have hcl:(Cod.cat ((Sig.ends s.index.toNat m s.chains).take k')).size<=3000:=by
   rw[Tk _ (fun z hz=>HEZ.out z (List.mem_of_mem_take hz)),List.length_take]
   omega
  have HJ5:=zh hj5;have fO:=zh mJ;have HE:=zh hE
  clear hy hE hb5 mJ hj5 q0 q1 hcell
  go_wp2_with fail
  refine(zd1 w2.heap.size _ y w5 HJ5.out.bld (by omega)).mono ?_
  rintro e w6 ⟨rfl,mK,hb6,rz⟩
  obtain⟨cs,hob⟩:=HJ5.out.bld.obj
  obtain⟨L2,hl2⟩:=HL2.out
  have hsz2:w4.heap.size+1<W2.heap.size:=(Array.getElem?_eq_some_iff.1 hl2).1
  have hk0:w6.heap[w4.heap.size]? = W2.heap[w4.heap.size]? :=by
   have h1:=(fO.out.block w4.heap.size (by omega)).trans zb4.out
   rw[zb4.out]
   exact rz _ _ h1 (fun e=>by have:=Option.some.inj e;omega) (fun c fz e=>by cases e)
  have hk1:w6.heap[w4.heap.size+1]? = W2.heap[w4.heap.size+1]? :=by
   have h1:=(fO.out.block (w4.heap.size+1) hsz2).trans hl2
   rw[hl2]
   exact rz _ _ h1 (fun e=>by have:=Option.some.inj e;omega) (fun c fz e=>by cases e)
  have hkk:Kept (XM 3) W2 w6:=by
   intro k o hk ho
   have h1:=(fO.out.block k (Array.getElem?_eq_some_iff.1 hk).1).trans hk
   obtain⟨c,fz,rfl⟩:=ho
   refine rz _ _ h1 (fun e=>?_) (fun c fz e=>by cases e)
   rw[Option.some.inj e] at h1
   rw[hob] at h1
   cases h1
  have Ku:At w6 (w2.heap.size+1) 9 #[.string m]:=rz _ _ HJ5.out.msg (fun e=>by have:=Option.some.inj e;omega) (fun c fz e=>by cases e)
  have hnew:XT w2 m (Sig.ends s.index.toNat m s.chains) (k' + 1) w6:=by
   refine⟨?_,Ku,HJ5.out.bel.trans hb6⟩
   rw[HE.out,Ia]
   exact mK
  have HK0:=zh hk0;have HK1:=zh hk1;have HKK:=zh hkk;have qV:=zh hnew
  clear mK hb6 rz hob hl2 hk0 hk1 hkk Ku hnew
  go_wp2_with fail
  refine Lex.ze ?_
  gi_wp2
  exact⟨⟨HK0.out,HK1.out⟩,HKK.out,.inl ⟨rfl,qV.out⟩⟩
 case hdone=>
  intro k W hD hJ hdf
  subst hD
  have hE:(Sig.ends s.index.toNat m s.chains).take 67=Sig.ends s.index.toNat m s.chains:=List.take_of_length_le (by have:=HEL.out;omega)
  have hat:At W w.heap.size 70 #[.int .i64 s.index,.slice ca s.chains.length cc,.slice pa s.path.length pc]:=HA2.out.below hJ.bel hpw
  have mK:=hJ.bld
  rw[hE] at mK
  have hps:=HP2.out.below hJ.bel
  have hcl:(Cod.cat (Sig.ends s.index.toNat m s.chains)).size<=3000:=by
   rw[Tk _ HEZ.out,HEL.out]
   omega
  have hbel:Below w.heap.size w W:=HB2.out.trans (hJ.bel.mono HB2.out.size)
  have q0:=hat.cell 0;have q2:=hat.cell 2
  simp only[zg] at q0 q2
  have HAT:=zh hat;have HBL:=zh mK;have HPS:=zh hps;have HBE:=zh hbel;have HDF:=zh hdf;have HJD:=zh hJ
  clear hat mK hps hbel hdf hJ hE
  go_wp2_with fail
  refine Lex.zn (fun k=>k=w.heap.size) [3,6] 9 [1,1] ?_
  simp only[Lex.Br,zd]
  go_wp2_with fail
  obtain⟨C,hC⟩:∃ C,C=Cod.cat (Sig.ends s.index.toNat m s.chains):=⟨_,rfl⟩
  rw[<- hC] at HBL hcl
  refine(Tryz.Builder_String_any_k w2.heap.size w2.heap.size C.data.toList W.drew HBL.out (Nat.le_of_lt HBL.out.lt)).mono ?_
  rintro e w5 ⟨rfl,hx5,hb5,zb5⟩
  clear hx5
  have mJ:Below w2.heap.size w2 w5:=HJD.out.bel.trans ((Below.refl w2.heap.size W).drew.trans hb5)
  have zb6:w5.heap[w4.heap.size]? = some (.deferred (some [])):=zb5 _ _ HDF.out (fun e=>by have:=Option.some.inj e;omega) (fun c fz e=>by cases e)
  have hC2:(⟨C.data.toList.toArray⟩:ByteArray)=C:=rfl
  rw[hC2]
  have fO:=zh mJ;have HD5:=zh zb6;have HCC:=zh hC
  clear hb5 zb5 mJ zb6 hC hC2
  go_wp2_with fail
  refine Lex.Mid.intro (fun k hk hl=>by subst hk;exact(fO.out.block _ hpw).trans (HJD.out.bel.block _ hpw).symm) ?_
  go_wp2_with fail
  refine(lW C w5 (by omega)).mono ?_
  rintro e w6 ⟨rfl,hb6⟩
  have zM:Below w2.heap.size w2 w6:=fO.out.trans (hb6.mono fO.out.size)
  have zb7:w6.heap[w4.heap.size]? = some (.deferred (some [])):=(hb6.block _ (Array.getElem?_eq_some_iff.1 HD5.out).1).trans HD5.out
  have Dv:=HA2.out.below zM hpw
  have hlf:Sha.sha (Sig.b1 0++C)=Sig.I7 (Sig.ends s.index.toNat m s.chains):=by rw[HCC.out];rfl
  rw[hlf]
  have q0':=Dv.cell 0;have q2':=Dv.cell 2
  simp only[zg] at q0' q2'
  have vN:=zh zM;have HD6:=zh zb7
  clear hb6 zM zb7 Dv hlf q0 q2
  go_wp2_with fail
  refine Lex.Mid.intro (fun k hk hl=>by subst hk;exact(vN.out.block _ hpw).trans (HJD.out.bel.block _ hpw).symm) ?_
  obtain⟨I,hI⟩:∃ I:Nat,s.index=I:=⟨s.index.toNat,by omega⟩
  have zb8:=HP2.out.below vN.out
  have zd3:=zh zb8;clear zb8
  have d33:decide ((33:Int)<32)=false:=by decide
  have hpz:(pub.size:Int)=33:=by omega
  have yG:R=Sig.included (Sig.I7 (Sig.ends I m s.chains)) (I:Int) (N:Int) s.path (pub.extract 0 32):=by
   rw[HR3.out,hI,Int.toNat_natCast]
  have HFR:=zh yG;clear yG
  go_wp2_with fail
  refine(UZ (Sig.I7 (Sig.ends I m s.chains)) I N (.slice pa s.path.length pc) s.path (pub.extract 0 32) w6 zd3.out HCAP.out hpl).mono ?_
  rintro e w7 ⟨rfl,hb7⟩
  rw[<- HFR.out]
  have zb9:w7.heap[w2.heap.size+2]? = some (.deferred (some [])):=by
   have:=(hb7.block _ (Array.getElem?_eq_some_iff.1 HD6.out).1).trans HD6.out
   rwa [HS4.out] at this
  have hbf:Below w.heap.size w w7:=HB2.out.trans ((vN.out.trans (hb7.mono vN.out.size)).mono HB2.out.size)
  have k0:=HAT.out.cell 0;have k2:=HAT.out.cell 2
  simp only[zg] at k0 k2
  have zd4:=zh zb9;have HBF:=zh hbf
  clear hb7 zb9 hbf q0' q2'
  go_wp2_with fail
  refine Lex.zk ⟨⟨rfl,zi k0⟩,⟨rfl,zi k2⟩,trivial⟩ ?_
  go_wp2_with fail
  refine mH zd4.out (results_tmp rfl _ _ _) ?_
  refine⟨rfl,HBF.out.trans ⟨rfl,rfl,rfl,by simp[World.putObj],fun k hk=>World.putObj_heap_other (by omega)⟩⟩
 case hstop=>exact fun c W h=>h.elim
end
section
open Go Go.RowKit Go.Maps
theorem Ib {β : Type}(f:Nat -> β)(k:Nat):(List.range (k+1)).map f=(List.range k).map f++[f k]:=by rw[List.range_succ,List.map_append];rfl
theorem Rj (seed:ByteArray)(key:Nat)(g:Nat->Nat)(k:Nat):(Cod.cat ((List.range k).map fun c=>Sig.chain key c 0 (g c) (Sig.secret seed key c))).size=32*k:=by
 rw[Tk _ (fun x hx=>by obtain⟨c,_,rfl⟩:=List.mem_map.1 hx;exact Sig.Hz _ _ _ _ _ (Sig.Ip _ _ _)),List.length_map,List.length_range]
theorem ZQ (seed:ByteArray)(key:Nat)(w:World)(hs:seed.size<=1000)(hk:key<9223372036854775808):
 Calls Tryz.prog 193 #[.string seed,.int .i64 key] w fun e w' => e=.returned (.string (Sig.leaf seed key))/\Below w.heap.size w w':=by
 obtain⟨R,hR⟩:∃ R,R=Sig.leaf seed key:=⟨_,rfl⟩
 rw[<- hR]
 obtain⟨F,hF⟩:∃ F:Nat->ByteArray,F=fun k=>Cod.cat ((List.range k).map fun c=>Sig.chain key c 0 15 (Sig.secret seed key c)):=⟨_,rfl⟩
 have hFz:∀ k,(F k).size=32*k:=fun k=>by rw[hF];exact Rj seed key (fun _=>15) k
 have hFs:∀ k,F (k+1)=F k++Sig.chain key k 0 15 (Sig.secret seed key k):=fun k=>by rw[hF];show Cod.cat _=Cod.cat _++_;rw[Ib,Ia]
 have hF0:F 0=⟨#[]⟩:=by rw[hF];rfl
 have hR2:R=Sha.sha (Sig.b1 0++F 67):=by rw[hR,hF];rfl
 have HFZ:=zh hFz;have HFS:=zh hFs;have HR2:=zh hR2;have HF0:=zh hF0
 clear hR hF hFz hFs hF0 hR2
 go_enter Tryz.func193,Tryz.ntmps193
 go_wp2_with fail
 go_loopw [5,6] (fun s i wr=>∃ k:Nat,k<=67/\i=.int .i64 k/\s=.string (F k)/\Below w.heap.size w wr) (fun _ i _=>67-(intOf i).toNat)
 case atStart=>exact⟨0,by omega,rfl,by rw[HF0.out],Below.refl _ _⟩
 case round=>
  obtain⟨k,hk2,rfl,rfl,hb⟩:=hrel
  have HB:=zh hb;clear hb
  by_cases hlt:k<67
  ·have dk:decide ((k:Int)<67)=true:=by simp;omega
   go_wp2_with fail
   refine(Md seed key k wr hs hk (by omega)).mono ?_
   rintro e w2 ⟨rfl,hb2⟩
   have HB2:=zh (HB.out.trans (hb2.mono HB.out.size));clear hb2
   have hsz:=Sig.Ip seed key k
   have hst:=HFS.out k
   obtain⟨x,hx⟩:∃ x,x=Sig.secret seed key k:=⟨_,rfl⟩
   rw[<- hx] at hsz hst ⊢
   have HST:=zh hst;clear hx hst
   go_wp2_with fail
   refine(show Calls Tryz.prog 154 #[.int .i64 key,.int .i64 k,.int .i64 0,.int .i64 15,.string x] w2 _ from QD key k 0 15 15 x w2 (by omega) (by omega) hk (by omega) (by omega)).mono ?_
   rintro e w3 ⟨rfl,hb3⟩
   have HB3:=zh (HB2.out.trans (hb3.mono HB2.out.size));clear hb3
   have hyz:=Sig.Hz key k 0 15 x hsz
   obtain⟨y,hy⟩:∃ y,y=Sig.chain key k 0 15 x:=⟨_,rfl⟩
   rw[<- hy] at HST hyz ⊢
   have hkz:=HFZ.out k
   clear hy
   go_wp2_with fail
   exact⟨⟨k+1,by omega,by go_num,by rw[HST.out],HB3.out⟩,by simp[intOf];omega⟩
  ·obtain rfl:k=67:=by omega
   go_wp2_with fail
   refine(ZH (F 67) wr (by have:=HFZ.out 67;omega)).mono ?_
   rintro e w2 ⟨rfl,hb2⟩
   have HB2:=zh (HB.out.trans (hb2.mono HB.out.size));clear hb2
   rw[<- HR2.out]
   go_wp2_with fail
   go_ret
   exact⟨rfl,HB2.out⟩
theorem Mf (seed:ByteArray)(nx:Int)(w:World)(hs:seed.size<=1000):
 Calls Tryz.prog 157 #[.agg #[.string seed,.int .i64 1,.int .i64 nx]] w fun e w' => ∃ v,e=.returned v/\w'.ownsRow w.heap.size 9 1 v 2 ((Sig.leaves seed 2).map Value.string)/\Below w.heap.size w w':=by
 have hL:Sig.leaves seed 2=Sig.leaves seed 2:=rfl
 obtain⟨R,hR⟩:∃ R,R=(Sig.leaves seed 2).map Value.string:=⟨_,rfl⟩
 rw[<- hR]
 have HR:=zh hR;clear hL hR
 go_enter Tryz.func157,Tryz.ntmps157
 go_wp2_with fail
 have hb1:Below w.heap.size w (w.alloc (.cells #[.string seed,.int .i64 1,.int .i64 nx] 123)):=zb
 have ha1:=At.new w 123 #[.string seed,.int .i64 1,.int .i64 nx]
 have hn1:(w.alloc (.cells #[.string seed,.int .i64 1,.int .i64 nx] 123)).heap.size=w.heap.size+1:=by simp
 have HB1:=zh hb1;have HA1:=zh ha1;clear hb1 ha1
 generalize w.alloc (.cells #[.string seed,.int .i64 1,.int .i64 nx] 123)=w1 at*
 go_loopw [3,4] (fun v i wr=>∃ k:Nat,k<=2/\i=.int .i64 k/\wr.ownsRow w1.heap.size 9 1 v k ((Sig.leaves seed k).map Value.string)/\Below w1.heap.size w1 wr) (fun _ i _=>2-(intOf i).toNat)
 case atStart=>exact⟨0,by omega,rfl,World.ownsRow_nil _ _ _ _,Below.refl _ _⟩
 case round=>
  obtain⟨k0,hk2,rfl,ho,hb⟩:=hrel
  have ha:=HA1.out.below hb (by omega)
  have HO:=zh ho;have HB:=zh hb;have HA:=zh ha
  obtain⟨ga,k,gc,rfl⟩:=Ad ho
  obtain rfl:=Bf ho
  have c0:=ha.cell 0;have c1:=ha.cell 1
  simp only[zg] at c0 c1
  clear ho hb ha
  by_cases hlt:k<2
  ·have dk:decide ((k:Int)<2)=true:=by simp;omega
   go_wp2_with fail
   refine(ZQ seed k wr hs (by omega)).mono ?_
   rintro e w2 ⟨rfl,hb2⟩
   have hlk:(Sig.leaves seed (k+1)).map Value.string=(Sig.leaves seed k).map Value.string++[.string (Sig.leaf seed k)]:=by
    unfold Sig.leaves
    rw[Ib,List.map_append]
    rfl
   obtain⟨x,hx⟩:∃ x,x=Sig.leaf seed k:=⟨_,rfl⟩
   rw[<- hx] at hlk ⊢
   have HO2:=zh (own_below HO.out hb2);have HB2:=zh (HB.out.trans (hb2.mono HB.out.size));have HLK:=zh hlk
   clear hb2 hlk hx c0 c1
   go_wp2_with (at_builtin;go_must (refine Ai NP rfl _ _ rfl w1.heap.size k _ _ rfl (HO2.out.alloc _) (.slice (some ⟨w2.heap.size,0,none⟩) 1 1) 1 [.string x] rfl (CS w2 9 #[.string x] 1 1 1 rfl) (by intro u hu;simp at hu;subst hu;rfl) (by omega) (by omega) (by have:=HB2.out.size;simp;omega) ?_);intro v6 w6 ho6 hg6 _;have hb6:=Bn (HB2.out.alloc HB2.out.size _) (by have:=HB2.out.size;simp;omega) HO2.out hg6;have HO6:=zh ho6;have HB6:=zh hb6;clear ho6 hg6 hb6)
   exact⟨⟨k+1,by omega,by go_num,by rw[HLK.out];exact HO6.out,HB6.out⟩,by simp[intOf];omega⟩
  ·obtain rfl:k=2:=by omega
   go_wp2_with fail
   go_ret
   exact⟨_,rfl,CO (by rw[HR.out];exact HO.out) (by omega),HB1.out.trans (HB.out.mono (by omega))⟩
theorem Oa (seed:ByteArray)(nx:Nat)(w:World)(hs:seed.size=32)(hn:nx<=2):
 Calls Tryz.prog 152 #[.agg #[.string seed,.int .i64 1,.int .i64 nx]] w fun e w' => e=.returned (.bool true)/\Below w.heap.size w w':=by
 have ha:=At.new w 123 #[.string seed,.int .i64 1,.int .i64 nx]
 have d1:((seed.size:Int)==32)=true:=by rw[hs];rfl
 have d2:decide ((nx:Int)<=2)=true:=by simp;omega
 have d3:decide ((0:Int)<=(nx:Int))=true:=by simp
 go_enter Tryz.func152,Tryz.ntmps152
 go_wp2_with fail
 have hb1:Below w.heap.size w (w.alloc (.cells #[.string seed,.int .i64 1,.int .i64 nx] 123)):=zb
 have HB1:=zh hb1;have HA:=zh ha
 have c0:=ha.cell 0;have c1:=ha.cell 1;have c2:=ha.cell 2
 simp only[zg] at c0 c1 c2
 clear hb1 ha
 generalize w.alloc (.cells #[.string seed,.int .i64 1,.int .i64 nx] 123)=w1 at*
 refine Lex.zl ?_
 go_wp2_with fail
 refine Lex.ze ?_
 go_wp2_with fail
 go_ret
 exact⟨rfl,HB1.out.drew⟩
theorem jN (W:World)(g:Nat)(h:At W g 5 #[.int .u8 1]):(convert 66 9 (.slice (some ⟨g,0,none⟩) 1 1)).run Tryz.prog W=.ok (.string (Sig.b1 1)) W:=by
 have:=run_convert_bytes_arg (P:=Tryz.prog) W 66 5 rfl rfl g 0 1 1 [1] rfl (fun i hi=>by
  have:i=0:=by simpa using hi
  subst this
  exact h.cell 0) 9 rfl
 exact this
theorem Tn (seed:ByteArray)(n:Nat):(Sig.leaves seed n).all Sig.digest=true:=by
 rw[List.all_eq_true]
 intro x hx
 obtain⟨k,_,rfl⟩:=List.mem_map.1 hx
 exact decide_eq_true (Sig.Fh seed k)
theorem Ve (seed:ByteArray)(w:World)(hs:seed.size=32):
 Calls Tryz.prog 102 #[.agg #[.string seed,.int .i64 1,.int .i64 0]] w fun e w' => e=.returned (.tuple #[.string (Sig.IK seed),.int .i64 0])/\Below w.heap.size w w':=by
 obtain⟨R,hR⟩:∃ R,R=Sig.IK seed:=⟨_,rfl⟩
 rw[<- hR]
 have HR:=zh hR;clear hR
 have ha:=At.new w 123 #[.string seed,.int .i64 1,.int .i64 0]
 go_enter Tryz.func102,Tryz.ntmps102
 go_wp2_with fail
 have hb1:Below w.heap.size w (w.alloc (.cells #[.string seed,.int .i64 1,.int .i64 0] 123)):=zb
 have hn1:(w.alloc (.cells #[.string seed,.int .i64 1,.int .i64 0] 123)).heap.size=w.heap.size+1:=by simp
 have HB1:=zh hb1;have HA1:=zh ha;clear hb1 ha
 generalize w.alloc (.cells #[.string seed,.int .i64 1,.int .i64 0] 123)=w1 at*
 refine(show Calls Tryz.prog 152 #[.agg #[.string seed,.int .i64 1,.int .i64 0]] w1 _ from Oa seed 0 w1 hs (by omega)).mono ?_
 rintro e w2 ⟨rfl,hb⟩
 have HB2:=zh (HB1.out.trans (hb.mono HB1.out.size));have HA2:=zh (HA1.out.below hb (by omega))
 clear hb
 obtain⟨c0,c1,c2⟩:=HA2.out.c3
 go_wp2_with fail
 have hlw:=HA2.out.lt
 have hrt:R=Sig.root (Sig.leaves seed 2)++Sig.b1 1:=HR.out
 have hrz:=Sig.Jv seed
 have C0:=zh c0;have C1:=zh c1;have C2:=zh c2
 have hroot:=fun(v:Value) (W:World) (h:Am W v (Sig.leaves seed 2)) (hc:Er v)=>ZJ v (Sig.leaves seed 2) W h hc (by show 2<=4096;omega) (Tn seed 2)
 have hown:∀ (b:Nat) (v:Value) (W:World),W.ownsRow b 9 1 v 2 ((Sig.leaves seed 2).map Value.string)->Am W v (Sig.leaves seed 2):=fun b v W h=>Am.own h
 have hlv:=fun W=>Mf seed 0 W (by omega)
 generalize Sig.leaves seed 2=LV at*
 obtain⟨RT,hRT⟩:∃ RT,RT=Sig.root LV:=⟨_,rfl⟩
 rw[<- hRT] at hrt hrz hroot
 have HRT:=zh hrt;have zbA:=zh hroot;have HLV:=zh hlv;have HOWN:=zh hown
 clear hrt hroot hlv HR hRT hown
 go_cut [2,3] (fun v2 v3 wx=>v2=.string (RT++Sig.b1 1)/\v3=.int .i64 0/\Below w2.heap.size w2 wx)
 case first=>
  refine Lex.JI [0,1,2,4,6,7] [0,1,3,0,8,24,56,120,255,511,1023] [3] (.alt 0 [] (.alt 1 [] (.alt 2 [] (.alt 4 [5] (.alt 6 [] (.alt 7 [8,9,10] .nil .nil) .nil) .nil) (.alt 4 [5] (.alt 2 [] (.alt 6 [] (.alt 7 [8,9,10] .nil .nil) .nil) (.alt 6 [] (.alt 2 [] (.alt 7 [8,9,10] .nil .nil) (.alt 7 [] (.alt 2 [8,9,10] .nil .nil) .nil)) .nil)) .nil)) (.alt 4 [5] (.alt 1 [] (.alt 2 [] (.alt 6 [] (.alt 7 [8,9,10] .nil .nil) .nil) (.alt 6 [] (.alt 2 [] (.alt 7 [8,9,10] .nil .nil) (.alt 7 [] (.alt 2 [8,9,10] .nil .nil) .nil)) .nil)) (.alt 6 [] (.alt 1 [] (.alt 2 [] (.alt 7 [8,9,10] .nil .nil) (.alt 7 [] (.alt 2 [8,9,10] .nil .nil) .nil)) (.alt 7 [] (.alt 1 [] (.alt 2 [8,9,10] .nil .nil) .nil) .nil)) .nil)) .nil)) (.alt 4 [5] (.alt 0 [] (.alt 1 [] (.alt 2 [] (.alt 6 [] (.alt 7 [8,9,10] .nil .nil) .nil) (.alt 6 [] (.alt 2 [] (.alt 7 [8,9,10] .nil .nil) (.alt 7 [] (.alt 2 [8,9,10] .nil .nil) .nil)) .nil)) (.alt 6 [] (.alt 1 [] (.alt 2 [] (.alt 7 [8,9,10] .nil .nil) (.alt 7 [] (.alt 2 [8,9,10] .nil .nil) .nil)) (.alt 7 [] (.alt 1 [] (.alt 2 [8,9,10] .nil .nil) .nil) .nil)) .nil)) (.alt 6 [] (.alt 0 [] (.alt 1 [] (.alt 2 [] (.alt 7 [8,9,10] .nil .nil) (.alt 7 [] (.alt 2 [8,9,10] .nil .nil) .nil)) (.alt 7 [] (.alt 1 [] (.alt 2 [8,9,10] .nil .nil) .nil) .nil)) (.alt 7 [] (.alt 0 [] (.alt 1 [] (.alt 2 [8,9,10] .nil .nil) .nil) .nil) .nil)) .nil)) .nil)) (by kernel_rfl) (by kernel_rfl) (by kernel_rfl) ?_
  intro ops Ee hE
  have HE:=zh hE;clear hE
  simp only[Lex.pick,List.filterMap_cons,List.filterMap_nil,List.getElem?_cons_succ,List.getElem?_cons_zero]
  go_wp2_with fail
  iterate 40 (try any_goals (first
   | exact Lex.Lp
   | (refine Lex.Km ?_ ?_)
   | (refine Lex.SY (HE.out _ _ (by kernel_rfl) ?_);go_wp2_with fail;go_meet;exact⟨rfl,rfl,by first|exact HB4.out|exact HB4.out.alloc HB4.out.size _⟩)
   | (refine Lex.Mid.intro trivial ?_)
   | (refine (HLV.out _).mono ?_
      rintro e w3 ⟨lv,rfl,hol,hbl⟩
      have hb3:Below w2.heap.size w2 w3:=Below.trans (b:=_) (by repeat' first|exact Below.refl _ _|refine Below.drew ?_|refine Below.alloc ?_ ?_ _|(simp;done)|(simp;omega)) (hbl.mono (by simp))
      have HOL:=zh hol;have HB3:=zh hb3
      have HBY:=zh (hbl.block w2.heap.size);have HSZ:=zh hbl.size
      have c0:=(hb3.cell (p:=⟨w.heap.size,0,none⟩) hlw).trans C0.out;have c1:=(hb3.cell (p:=⟨w.heap.size,1,none⟩) hlw).trans C1.out;have c2:=(hb3.cell (p:=⟨w.heap.size,2,none⟩) hlw).trans C2.out
      clear hol hbl hb3
      go_wp2_with fail)
   | (refine (zbA.out lv _ (Am.below (HOWN.out _ _ _ HOL.out) (by repeat' first | exact Below.refl _ _ | refine Below.drew ?_ | refine Below.alloc ?_ ?_ _ | (simp;done) | (simp;omega))) (Er.own HOL.out)).mono ?_
      rintro e w4 ⟨rfl,hbr⟩
      have hb4:Below w2.heap.size w2 w4:=Below.trans (Below.trans HB3.out (Below.mono (by repeat' first|exact Below.refl _ _|refine Below.drew ?_|refine Below.alloc ?_ ?_ _|(simp;done)|(simp;omega)) HB3.out.size)) (hbr.mono (by have:=HB3.out.size;simp;omega))
      have HB4:=zh hb4
      have zd5:=zh (hbr.block w2.heap.size);have zd6:=zh (hbr.block w3.heap.size)
      have c0:=(hb4.cell (p:=⟨w.heap.size,0,none⟩) hlw).trans C0.out;have c1:=(hb4.cell (p:=⟨w.heap.size,1,none⟩) hlw).trans C1.out;have c2:=(hb4.cell (p:=⟨w.heap.size,2,none⟩) hlw).trans C2.out
      clear hbr hb4
      go_wp2_with fail)
   | (rw[jN _ _ (by first|exact At.new _ _ _|exact(At.new _ _ _).drew)];go_wp2_with fail)
   | (rw[jN _ _ ((HBY.out (by simp)).trans (by first|exact At.new _ _ _|exact(At.new _ _ _).drew))];go_wp2_with fail)
   | (rw[jN _ _ ((zd6.out (by simp)).trans (by first|exact At.new _ _ _|exact(At.new _ _ _).drew))];go_wp2_with fail)
   | (rw[jN _ _ ((zd5.out (by have:=HSZ.out;simp at this;omega)).trans ((HBY.out (by simp)).trans (by first|exact At.new _ _ _|exact(At.new _ _ _).drew)))];go_wp2_with fail)
   | (simp only [Lex.pick,List.filterMap_cons,List.filterMap_nil,List.getElem?_cons_succ,List.getElem?_cons_zero]
      go_wp2_with fail)))
 obtain⟨rfl,rfl,hb⟩:=hcut
 go_wp2_with fail
 go_ret2
 exact⟨by rw[HRT.out];rfl,HB2.out.trans (hb.mono HB2.out.size)⟩
section
variable {P:Program} {fn:Func} {tmps:Array Value} {w:World} {Q:Ending->World->Prop}
theorem AQ {g:Nat}{t ty:TypeId}{cs:Array Value}{d:TypeDesc}(hat:At w g t cs)(hu:P.underlying ty=some d)(hd:(match d with|.struct _|.array _ _=>true|_=>false)=true)(hi:(P.info? ty).map (·.size)=some cs.size):
 (loadVar ty ⟨g,0,none⟩).run P w=.ok (.agg cs) w:=run_loadVar_row w g t ty cs (0,0) d hat hu hd hi
theorem Pz {p:Tmp}{t1:TypeId}{b1:Nat}{v1:Value}(h:fn.results=#[.cell p t1])(hp:tmps.getD p undef=.pointer (some ⟨b1,0,none⟩))
 (l1:(loadVar t1 ⟨b1,0,none⟩).run P w=.ok v1 w) (hQ:Q (.returned v1) w):bodyPost P fn Q Exit.ret { tmps:=tmps,defers:=[] } w:=by
 refine bodyPost_ret (v:=v1) ?_ rfl hQ
 have hp' : tmps[p]?.getD undef=.pointer (some ⟨b1,0,none⟩):=by rw[<- hp];simp
 simp[results,h,hp',asAddr,l1,Sem.run_bind]
theorem BM {p u:Tmp}{t1:TypeId}{b1:Nat}{v1 x:Value}(h:fn.results=#[.cell p t1,.tmp u])(hp:tmps.getD p undef=.pointer (some ⟨b1,0,none⟩))(hu:tmps.getD u undef=x)
 (l1:(loadVar t1 ⟨b1,0,none⟩).run P w=.ok v1 w) (hQ:Q (.returned (.tuple #[v1,x])) w):bodyPost P fn Q Exit.ret { tmps:=tmps,defers:=[] } w:=by
 refine bodyPost_ret (v:=.tuple #[v1,x]) ?_ rfl hQ
 have e:(results fn tmps).run P w=((asAddr (tmps.getD p undef)).run P w).andThen fun a w₁ => ((loadVar t1 a).run P w₁).andThen fun x w₂ => .ok (.tuple #[x,tmps.getD u undef]) w₂ :=by
  simp only[results,h]
  simp[Sem.run_bind,Result.andThen]
 show(results fn tmps).run P w=_
 rw[e,hp,hu]
 simp[asAddr,l1]
theorem rA {p q u:Tmp}{t1 t2:TypeId}{b1 b2:Nat}{v1 v2 x:Value}(h:fn.results=#[.cell p t1,.cell q t2,.tmp u])(hp:tmps.getD p undef=.pointer (some ⟨b1,0,none⟩))(hq:tmps.getD q undef=.pointer (some ⟨b2,0,none⟩))(hu:tmps.getD u undef=x)
 (l1:(loadVar t1 ⟨b1,0,none⟩).run P w=.ok v1 w) (l2:(loadVar t2 ⟨b2,0,none⟩).run P w=.ok v2 w) (hQ:Q (.returned (.tuple #[v1,v2,x])) w):bodyPost P fn Q Exit.ret { tmps:=tmps,defers:=[] } w:=by
 refine bodyPost_ret (v:=.tuple #[v1,v2,x]) ?_ rfl hQ
 have e:(results fn tmps).run P w=((asAddr (tmps.getD p undef)).run P w).andThen fun a w₁ => ((loadVar t1 a).run P w₁).andThen fun x w₂ => ((asAddr (tmps.getD q undef)).run P w₂).andThen fun a w₁ => ((loadVar t2 a).run P w₁).andThen fun y w₂ => .ok (.tuple #[x,y,tmps.getD u undef]) w₂ :=by
  simp only[results,h]
  simp[Sem.run_bind,Result.andThen]
 show(results fn tmps).run P w=_
 rw[e,hp,hq,hu]
 simp[asAddr,l1,l2]
end
end
section
open Go Go.RowKit Go.Maps
theorem Wd:Sig.split 2=1:=by decide
theorem XU (seed:ByteArray)(k:Nat)(hk:k<2):EX 2 (Sig.leaves seed 2) k=[Sig.leaf seed (1-k)]:=by
 have hl:Sig.leaves seed 2=[Sig.leaf seed 0,Sig.leaf seed 1]:=rfl
 rw[hl]
 rcases(show k=0\/k=1 by omega) with rfl|rfl
 ·unfold EX
  simp[Wd,EX,Sig.Gw]
 ·unfold EX
  simp[Wd,EX,Sig.Gw]
def Kv (seed:ByteArray)(key:Nat)(m:ByteArray)(k:Nat):List ByteArray:=(List.range k).map fun c=>Sig.chain key c 0 ((Sig.digits m).getD c 0) (Sig.secret seed key c)
theorem Tp:(Tryz.prog.info? 70).map (·.size)=some 3:=by kernel_rfl
theorem JK:(Tryz.prog.info? 123).map (·.size)=some 3:=by kernel_rfl
theorem ZR {w:World}{b c k:Nat}(hb:k≠b)(hc:k≠c)(v0 v1 v2 u0 u1 u2:Value):((((((w.setCell ⟨b,0,none⟩ v0).setCell ⟨b,1,none⟩ v1).setCell ⟨b,2,none⟩ v2).setCell ⟨c,0,none⟩ u0).setCell ⟨c,1,none⟩ u1).setCell ⟨c,2,none⟩ u2).drew.heap[k]? = w.heap[k]? :=by
 rw[Fb,zo hc,zo hc,zo hc,zo hb,zo hb,zo hb]
theorem ZT (seed m:ByteArray)(nx:Nat)(w:World)(hs:seed.size=32)(hn:nx<2)(hm:m.size<=140737488350000):
 Calls Tryz.prog 99 #[.agg #[.string seed,.int .i64 1,.int .i64 nx],.string m] w fun e w' => ∃ cv pv,e=.returned (.tuple #[.agg #[.int .i64 nx,cv,pv],.agg #[.string seed,.int .i64 1,.int .i64 ((nx+1:Nat):Int)],.int .i64 0])/\w'.ownsRow w.heap.size 9 1 cv 67 ((Sig.BJ seed nx m).chains.map Value.string)/\w'.ownsRow w.heap.size 9 1 pv 1 ((Sig.BJ seed nx m).path.map Value.string)/\Below w.heap.size w w':=by
 go_enter Tryz.func99,Tryz.ntmps99
 go_wp2_with fail
 have ha:=At.new w 123 #[.string seed,.int .i64 1,.int .i64 nx]
 have hb1:Below w.heap.size w (w.alloc (.cells #[.string seed,.int .i64 1,.int .i64 nx] 123)):=zb
 have hn1:(w.alloc (.cells #[.string seed,.int .i64 1,.int .i64 nx] 123)).heap.size=w.heap.size+1:=by simp
 have h2:=At.new (w.alloc (.cells #[.string seed,.int .i64 1,.int .i64 nx] 123)) 70 #[.int .i64 0,.slice none 0 0,.slice none 0 0]
 have h3:=At.new ((w.alloc (.cells #[.string seed,.int .i64 1,.int .i64 nx] 123)).alloc (.cells #[.int .i64 0,.slice none 0 0,.slice none 0 0] 70)) 123 #[.string ⟨#[]⟩,.int .i64 0,.int .i64 0]
 have hv:=fun W=>Oa seed nx W hs (by omega)
 have HV:=zh hv;clear hv
 refine(HV.out _).mono ?_
 rintro e w2 ⟨rfl,hb⟩
 have hs3:(((w.alloc (.cells #[.string seed,.int .i64 1,.int .i64 nx] 123)).alloc (.cells #[.int .i64 0,.slice none 0 0,.slice none 0 0] 70)).alloc (.cells #[.string ⟨#[]⟩,.int .i64 0,.int .i64 0] 123)).heap.size=w.heap.size+3:=by simp
 have hb2:Below w.heap.size w w2:=(((hb1.alloc hb1.size _).alloc (by simp;omega) _)).trans (hb.mono (by omega))
 have a0:At w2 w.heap.size 123 #[.string seed,.int .i64 1,.int .i64 nx]:=(((ha.below zb (by omega)).below zb (by simp;omega))).below hb (by omega)
 have a1:At w2 (w.heap.size+1) 70 #[.int .i64 0,.slice none 0 0,.slice none 0 0]:=by
  rw[hn1] at h2
  exact(h2.below zb (by simp)).below hb (by omega)
 have a2:At w2 (w.heap.size+1+1) 123 #[.string ⟨#[]⟩,.int .i64 0,.int .i64 0]:=by
  have:((w.alloc (.cells #[.string seed,.int .i64 1,.int .i64 nx] 123)).alloc (.cells #[.int .i64 0,.slice none 0 0,.slice none 0 0] 70)).heap.size=w.heap.size+1+1:=by simp
  rw[this] at h3
  exact h3.below hb (by omega)
 have hz2:w.heap.size+3<=w2.heap.size:=by rw[<- hs3];exact hb.size
 have HB2:=zh hb2;have A0:=zh a0;have A1:=zh a1;have A2:=zh a2
 clear hb hb1 hb2 ha h2 h3 hs3 hn1
 obtain⟨c0,c1,c2⟩:=a0.c3
 clear a0 a1 a2
 have d1:((nx:Int)==2)=false:=by rw[beq_eq_false_iff_ne];omega
 go_wp2_with fail
 refine Lex.zl ?_
 go_wp2_with fail
 refine Lex.ze ?_
 go_wp2_with fail
 have hS:=At.new w2 70 #[.int .i64 nx,.slice none 0 0,.slice none 0 0]
 have hbS:Below w2.heap.size w2 (w2.alloc (.cells #[.int .i64 nx,.slice none 0 0,.slice none 0 0] 70)).drew:=zb.drew
 have hzS:(w2.alloc (.cells #[.int .i64 nx,.slice none 0 0,.slice none 0 0] 70)).drew.heap.size=w2.heap.size+1:=by simp
 have hS' : At (w2.alloc (.cells #[.int .i64 nx,.slice none 0 0,.slice none 0 0] 70)).drew w2.heap.size 70 #[.int .i64 nx,.slice none 0 0,.slice none 0 0]:=hS
 have HS:=zh hS'
 have HBS:=zh hbS
 clear hS hS' hbS
 generalize (w2.alloc (.cells #[.int .i64 nx,.slice none 0 0,.slice none 0 0] 70)).drew=w3 at*
 refine(Va m w3 hm).mono ?_
 rintro e w4 ⟨dv,rfl,hdo,hb4⟩
 have HS4:=zh (HS.out.below hb4 (by omega));have HB4:=zh (HBS.out.trans (hb4.mono (by omega)));have HD4:=zh hdo
 have hz4:=hb4.size
 clear hb4 hdo HS HBS
 go_wp2_with fail
 obtain⟨g,ze5,hdv,hdc⟩:=CB HD4.out (by omega)
 have hgu:=Al HD4.out g (by rw[hdv];rfl)
 have hgl:g<w4.heap.size:=by
  obtain⟨cur,hc⟩:=Dq HD4.out (g:=g) (by rw[hdv];rfl)
  exact At.lt hc
 subst hdv
 have HDC:=zh hdc
 have hA4:At w4 w.heap.size 123 #[.string seed,.int .i64 1,.int .i64 nx]:=A0.out.below HB4.out (by omega)
 have HA4:=zh hA4
 obtain⟨S,hSS⟩:∃ S,S=w2.heap.size:=⟨_,rfl⟩
 rw[<- hSS] at HS4 hz2 hzS ⊢
 have HSS:=zh hSS
 clear hdc hA4 c0 c1 c2 hSS
 go_loopw [9] (fun i wr=>∃ k:Nat,k<=67/\i=.int .i64 k/\∃ cv,At wr S 70 #[.int .i64 nx,cv,.slice none 0 0]/\wr.ownsRow w4.heap.size 9 1 cv k ((Kv seed nx m k).map Value.string)/\Fr (fun j=>j=S) w4 wr) (fun i _=>67-(intOf i).toNat)
 case atStart=>exact⟨0,by omega,rfl,_,HS4.out,World.ownsRow_nil _ _ _ _,Fr.refl _ _⟩
 case round=>
  obtain⟨k0,hk,rfl,cv,hat,ho,hfr⟩:=hrel
  have hfz:=hfr.size
  have ha0:At wr w.heap.size 123 #[.string seed,.int .i64 1,.int .i64 nx]:=hfr.at HA4.out (by omega)
  obtain⟨ca,k,cc,rfl⟩:=Ad ho
  obtain rfl:=Bf ho
  have HAT:=zh hat;have HO:=zh ho;have HFR:=zh hfr;have HA0:=zh ha0
  have c0:=ha0.cell 0;have c1:=ha0.cell 1;have c2:=ha0.cell 2;have s1:=hat.cell 1
  simp only[zg] at c0 c1 c2 s1
  clear ho hat hfr ha0
  by_cases hlt:k<67
  ·have dk:decide ((k:Int)<67)=true:=by simp;omega
   have hdl:k<(Sig.digits m).length:=by rw[Sig.Sy];omega
   have hd0:w4.cell? ⟨g,k,none⟩=some (.int .i64 (((Sig.digits m).getD k 0:Nat):Int)):=HDC.out k _ (by unfold IU;rw[List.getElem?_map,List.getElem?_eq_getElem hdl,List.getD_eq_getElem?_getD,List.getElem?_eq_getElem hdl];rfl)
   have hd:wr.cell? ⟨g,k,none⟩=some (.int .i64 (((Sig.digits m).getD k 0:Nat):Int)):=by rw[Lj (a:=⟨g,k,none⟩) (HFR.out.keep g hgl (by omega))];exact hd0
   have zb2:=Sig.Sz m k
   have hch:Kv seed nx m (k+1)=Kv seed nx m k++[Sig.chain nx k 0 ((Sig.digits m).getD k 0) (Sig.secret seed nx k)]:=Ib _ _
   obtain⟨d,hdd⟩:∃ d,d=(Sig.digits m).getD k 0:=⟨_,rfl⟩
   rw[<- hdd] at hd zb2 hch
   have HCH:=zh hch
   clear hdl hd0 hdd hch
   go_wp2_with fail
   refine Lex.zn (fun j=>j=S\/j=w.heap.size\/j=g) [1,3,8] 17 [15,1] ?_
   simp only[Lex.Br,zd]
   go_wp2_with fail
   have hSl:S<wr.heap.size:=HAT.out.lt
   have hDl:w.heap.size<wr.heap.size:=HA0.out.lt
   refine(Md seed nx k wr.drew (by omega) (by omega) (by omega)).mono ?_
   rintro e w5 ⟨rfl,hb5⟩
   have XV:∀ j,(j=S\/j=w.heap.size\/j=g)->w5.heap[j]? = wr.drew.heap[j]? :=fun j hj=>hb5.block j (by show j<wr.heap.size;omega)
   have Vf : Below wr.heap.size wr w5:=((Below.refl wr.heap.size wr).drew).trans hb5
   have HB5:=zh Vf;clear hb5 Vf
   have hxz:=Sig.Ip seed nx k
   obtain⟨x,hx⟩:∃ x,x=Sig.secret seed nx k:=⟨_,rfl⟩
   rw[<- hx] at hxz HCH ⊢
   clear hx
   go_wp2_with fail
   refine Lex.Mid.intro (fun j hj _=>XV j hj) ?_
   go_wp2_with fail
   refine(show Calls Tryz.prog 154 #[.int .i64 nx,.int .i64 k,.int .i64 0,.int .i64 d,.string x] w5 _ from QD nx k 0 d d x w5 (by omega) (by omega) (by omega) (by omega) (by omega)).mono ?_
   rintro e w6 ⟨rfl,hb6⟩
   have hz5:=HB5.out.size
   have mM:∀ j,(j=S\/j=w.heap.size\/j=g)->w6.heap[j]? = wr.drew.heap[j]? :=fun j hj=>(hb6.block j (by omega)).trans (XV j hj)
   have HB6:=zh (HB5.out.trans (hb6.mono hz5));clear hb6
   obtain⟨y,hy⟩:∃ y,y=Sig.chain nx k 0 d x:=⟨_,rfl⟩
   rw[<- hy] at HCH ⊢
   clear hy
   have HO6:=zh (own_below HO.out HB6.out)
   have Dv:At w6 S 70 #[.int .i64 nx,.slice ca k cc,.slice none 0 0]:=HAT.out.below HB6.out hSl
   have s6:=Dv.cell 1
   simp only[zg] at s6
   have S6:=zh s6
   have EU:=zh Dv;clear Dv s6
   go_wp2_with fail
   refine Lex.Mid.intro (fun j hj _=>mM j hj) ?_
   have vO:=zh mM
   clear XV mM
   have ze6:S<w6.heap.size:=EU.out.lt
   go_wp2_with (at_builtin;go_must (refine Ai NP rfl _ _ rfl w4.heap.size k (.slice ca k cc) _ rfl (HO6.out.alloc _) (.slice (some ⟨w6.heap.size,0,none⟩) 1 1) 1 [.string y] rfl (CS w6 9 #[.string y] 1 1 1 rfl) (by intro u hu;simp at hu;subst hu;rfl) (by omega) (by omega) (by have:=HB6.out.size;simp;omega) ?_);intro v7 w7 ho7 hg7 hx7;obtain⟨va,vm,vc,rfl⟩:=Ad ho7;have zd7:some S≠(Value.slice ca k cc).ownBlock:=(fun e=>by have:=Al HO6.out S e.symm;omega);have JN:=(EU.out.alloc (.cells #[.string y] 9)).grown hg7 zd7;have z7:=JN.free 1;have y7:=JN.cell 1;simp only[zg] at y7;have HO7:=zh ho7;have HG7:=zh hg7;have HX7:=zh hx7;have PD:=zh JN;clear ho7 hg7 hx7 JN)
   have hwS:(w7.setCell ⟨S,1,none⟩ (.slice va vm vc)).ownsRow w4.heap.size 9 1 (.slice va vm vc) (k+1) ((Kv seed nx m (k+1)).map Value.string):=by
    rw[HCH.out,List.map_append]
    exact Af HO7.out (fun j hj=>zo (by have:=Al HO7.out j hj;show j≠S;omega))
   have zbB:Fr (fun j=>j=S) w4 (w7.setCell ⟨S,1,none⟩ (.slice va vm vc)):=by
    have f1:Fr (fun j=>j=S) w4 w6:=HFR.out.trans (Fr.of_below HB6.out |>.mono (fun _ h=>h)) (fun _ h=>.inl h)
    exact((f1.alloc _).grown HG7.out (fun j hj=>.inr (Al HO6.out j hj))).setCell (.inl rfl) _
   have XW:=PD.out.set 1 (.slice va vm vc)
   have HWS:=zh hwS;have zd8:=zh zbB;have vP:=zh XW
   clear hwS zbB XW
   refine Lex.zk ⟨⟨.inl rfl,zi s1⟩,⟨.inr (.inl rfl),zi c2⟩,⟨.inr (.inr rfl),zi hd⟩,trivial⟩ ?_
   go_wp2_with fail
   exact⟨⟨k+1,by omega,by go_num,_,vP.out,HWS.out,zd8.out⟩,by simp[intOf];omega⟩
  ·obtain rfl:k=67:=by omega
   have hinc:=fun(v:Value) (W:World) (h:Am W v (Sig.leaves seed 2)) (hc:Er v)=>Px v (Sig.leaves seed 2) nx W h hc (by show 2<=4096;omega) (Tn seed 2) (by show nx<2;omega)
   have hpl:EX (Sig.leaves seed 2).length (Sig.leaves seed 2) nx=(Sig.BJ seed nx m).path:=XU seed nx hn
   rw[hpl] at hinc
   have hch:Kv seed nx m 67=(Sig.BJ seed nx m).chains:=rfl
   rw[hch] at HO
   have hlv:=fun W=>Mf seed nx W (by omega)
   have hown:∀ (b:Nat) (v:Value) (W:World),W.ownsRow b 9 1 v 2 ((Sig.leaves seed 2).map Value.string)->Am W v (Sig.leaves seed 2):=fun b v W h=>Am.own h
   have hcl:(Sig.BJ seed nx m).chains.length=67:=by show((List.range 67).map _).length=67;simp
   have hp1:(Sig.BJ seed nx m).path.length=1:=rfl
   obtain⟨CH,zN⟩:∃ CH,CH=(Sig.BJ seed nx m).chains:=⟨_,rfl⟩
   obtain⟨PA,vQ⟩:∃ PA,PA=(Sig.BJ seed nx m).path:=⟨_,rfl⟩
   rw[<- zN] at HO hcl
   rw[<- vQ] at hp1
   simp only[<- vQ] at hinc
   have zd9:=zh zN;have zdA:=zh vQ
   clear zN vQ
   generalize Sig.leaves seed 2=LV at*
   have zbC:=zh hinc;have HLV:=zh hlv;have HOWN:=zh hown
   have hSl:S<wr.heap.size:=HAT.out.lt
   have hDl:w.heap.size<wr.heap.size:=HA0.out.lt
   clear hinc hlv hown hpl hch
   go_wp2_with fail
   refine Lex.zn (fun j=>j=w.heap.size) [3] 10 [2,3,5] ?_
   simp only[Lex.Br,zd]
   go_wp2_with fail
   refine(HLV.out _).mono ?_
   rintro e w5 ⟨lv,rfl,hol,hbl⟩
   have hb5:Below wr.heap.size wr w5:=((Below.refl wr.heap.size wr).drew).trans hbl
   have XV:∀ j,(j=w.heap.size)->w5.heap[j]? = wr.drew.heap[j]? :=fun j hj=>hbl.block j (by show j<wr.heap.size;omega)
   have HB5:=zh hb5;have HOL:=zh hol
   clear hbl hb5 hol
   go_wp2_with fail
   refine Lex.Mid.intro (fun j hj _=>XV j hj) ?_
   have c2' : w5.cell? ⟨w.heap.size,2,none⟩=some (.int .i64 nx):=(HB5.out.cell (p:=⟨w.heap.size,2,none⟩) hDl).trans c2
   go_wp2_with fail
   refine(zbC.out lv _ (HOWN.out _ _ _ HOL.out) (Er.own HOL.out)).mono ?_
   rintro e w6 ⟨pv,rfl,hop,hbp⟩
   obtain⟨pa,pm,pc,rfl⟩:=Ad hop
   obtain rfl:=Bf hop
   have hb6:=HB5.out.trans (hbp.mono HB5.out.size)
   have mM:∀ j,(j=w.heap.size)->w6.heap[j]? = wr.drew.heap[j]? :=fun j hj=>(hbp.block j (by have:=HB5.out.size;omega)).trans (HB5.out.block j (by omega))
   have Dv:=HAT.out.below hb6 hSl
   have z6:=Dv.free 2;have y6:=Dv.cell 2
   simp only[zg] at y6
   have HOP:=zh hop;have HB6:=zh hb6;have EU:=zh Dv;have vO:=zh mM
   have hz5:=HB5.out.size
   clear hop hbp hb6 Dv mM XV
   go_wp2_with fail
   refine Lex.Mid.intro (fun j hj _=>vO.out j hj) ?_
   go_wp2_with fail
   refine Lex.Mid.intro (fun j hj _=>(zo (by show j≠S;omega)).trans (vO.out j hj)) ?_
   go_wp2_with fail
   refine Lex.zk ⟨⟨rfl,zi c2⟩,trivial⟩ ?_
   have JN:At (w6.setCell ⟨S,2,none⟩ (.slice pa PA.length pc)) S 70 #[.int .i64 nx,.slice ca 67 cc,.slice pa PA.length pc]:=EU.out.set 2 (.slice pa PA.length pc)
   have mO:Below S w2 (w6.setCell ⟨S,2,none⟩ (.slice pa PA.length pc)):=by
    have zdB:Below S w2 w4:=by rw[HSS.out];exact HB4.out
    have hS4:S<w4.heap.size:=HS4.out.lt
    exact((zdB.trans (HFR.out.below (B:=S) (by omega) (fun j hj=>Nat.le_of_eq hj.symm))).trans (HB6.out.mono (by omega))).setCell (p:=⟨S,2,none⟩) (Nat.le_refl _) _
   have hoc:(w6.setCell ⟨S,2,none⟩ (.slice pa PA.length pc)).ownsRow w.heap.size 9 1 (.slice ca 67 cc) 67 (CH.map Value.string):=
    CO (Af (own_below HO.out HB6.out) (fun j hj=>zo (by have:=Al HO.out j hj;show j≠S;have:S<w4.heap.size:=HS4.out.lt;omega))) (by have:S<w4.heap.size:=HS4.out.lt;omega)
   have hop:(w6.setCell ⟨S,2,none⟩ (.slice pa PA.length pc)).ownsRow w.heap.size 9 1 (.slice pa PA.length pc) PA.length (PA.map Value.string):=
    CO (Af HOP.out (fun j hj=>zo (by have:=Al HOP.out j hj;show j≠S;omega))) (by omega)
   rw[hp1] at JN mO hoc hop
   have hS7:S<(w6.setCell ⟨S,2,none⟩ (.slice pa 1 pc)).heap.size:=JN.lt
   generalize w6.setCell ⟨S,2,none⟩ (.slice pa 1 pc)=w7 at*
   have a0:=A0.out.below mO (by omega);have a1:=A1.out.below mO (by omega);have a2:=A2.out.below mO (by omega)
   have zbD:Below w.heap.size w w7:=HB2.out.trans (mO.mono (by omega))
   have PD:=zh JN;have HOC:=zh hoc;have zbE:=zh hop;have zO:=zh zbD
   have B0:=zh a0;have B1:=zh a1;have B2:=zh a2
   obtain⟨p0,p1,p2⟩:=a0.c3
   clear JN hoc hop zbD a0 a1 a2 mO c0 c1 c2 s1 HAT HA0 HFR HB6 HB5 vO EU HOP HO HOL zbC HLV HOWN HA4 HS4 HDC HD4 A0 A1 A2 HB4 HB2 c2' z6 y6
   have q2:=(B0.out.alloc (.cells #[.string seed,.int .i64 1,.int .i64 nx] 123)).cell 2
   simp only[zg] at q2
   go_wp2_with fail
   have hz8:(w7.alloc (.cells #[.string seed,.int .i64 1,.int .i64 ((nx:Int)+1)] 123)).heap.size=w7.heap.size+1:=World.size_alloc _ _
   have A8:=PD.out.alloc (.cells #[.string seed,.int .i64 1,.int .i64 ((nx:Int)+1)] 123)
   have B81:=B1.out.alloc (.cells #[.string seed,.int .i64 1,.int .i64 ((nx:Int)+1)] 123)
   have B82:=B2.out.alloc (.cells #[.string seed,.int .i64 1,.int .i64 ((nx:Int)+1)] 123)
   have N8:=At.new w7 123 #[.string seed,.int .i64 1,.int .i64 ((nx:Int)+1)]
   have hb8:Below w.heap.size w (w7.alloc (.cells #[.string seed,.int .i64 1,.int .i64 ((nx:Int)+1)] 123)):=zO.out.alloc zO.out.size _
   have zbF:=own_below HOC.out ((Below.refl w7.heap.size w7).alloc (Nat.le_refl _) (.cells #[.string seed,.int .i64 1,.int .i64 ((nx:Int)+1)] 123))
   have zbG:=own_below zbE.out ((Below.refl w7.heap.size w7).alloc (Nat.le_refl _) (.cells #[.string seed,.int .i64 1,.int .i64 ((nx:Int)+1)] 123))
   generalize w7.alloc (.cells #[.string seed,.int .i64 1,.int .i64 ((nx:Int)+1)] 123)=w8 at*
   have e0:=A8.cell 0;have e1:=A8.cell 1;have e2:=A8.cell 2
   have f0:=N8.cell 0;have f1:=N8.cell 1;have f2:=N8.cell 2
   have g0:=B81.cell 0;have g1:=B81.cell 1;have g2:=B81.cell 2;have g3:=B81.free 0;have g4:=B81.free 1;have g5:=B81.free 2
   have i0:=B82.cell 0;have i1:=B82.cell 1;have i2:=B82.cell 2;have i3:=B82.free 0;have i4:=B82.free 1;have i5:=B82.free 2
   simp only[zg] at e0 e1 e2 f0 f1 f2 g0 g1 g2 i0 i1 i2
   have A8':=zh A8;have N8':=zh N8;have zQ:=zh B81;have zR:=zh B82;have HB8:=zh hb8;have zW:=zh zbF;have zZ:=zh zbG
   clear A8 N8 B81 B82 hb8 zbF zbG q2 PD HOC zbE zO B0 B1 B2 p0 p1 p2
   refine Lex.zn (fun j=>j=w7.heap.size) [1] 3 [3] ?_
   simp only[Lex.Br,zd]
   go_wp2_with fail
   have hz7:w.heap.size+3<=w7.heap.size:=by omega
   refine Lex.Mid.intro (fun j hj _=>by
    subst hj
    rw[Fb,zo (by show w7.heap.size≠w.heap.size+1;omega),zo (by show w7.heap.size≠w.heap.size+1;omega),zo (by show w7.heap.size≠w.heap.size+1;omega)]
    rfl) ?_
   go_wp2_with fail
   refine Lex.zk ⟨⟨rfl,zi f0⟩,trivial⟩ ?_
   go_wp2_with fail
   have F1:=((((((zQ.out.set 0 (.int .i64 nx)).set 1 (.slice ca 67 cc)).set 2 (.slice pa 1 pc)).far (p:=⟨w.heap.size+1+1,0,none⟩) (by simp) (.string seed)).far (p:=⟨w.heap.size+1+1,1,none⟩) (by simp) (.int .i64 1)).far (p:=⟨w.heap.size+1+1,2,none⟩) (by simp) (.int .i64 ((nx:Int)+1))).drew
   have F2:=((((((zR.out.far (p:=⟨w.heap.size+1,0,none⟩) (by simp) (.int .i64 nx)).far (p:=⟨w.heap.size+1,1,none⟩) (by simp) (.slice ca 67 cc)).far (p:=⟨w.heap.size+1,2,none⟩) (by simp) (.slice pa 1 pc)).set 0 (.string seed)).set 1 (.int .i64 1)).set 2 (.int .i64 ((nx:Int)+1))).drew
   have hbE:Below w8.heap.size w8 w8:=Below.refl _ _
   refine rA rfl rfl rfl rfl (AQ F1 Tryz.underlying70 rfl Tp) (AQ F2 Tryz.underlying123 rfl JK) ⟨.slice ca 67 cc,.slice pa 1 pc,rfl,?_,?_,?_⟩
   ·rw[<- zd9.out]
    exact Af zW.out (fun j hj=>ZR (by rintro rfl;exact zQ.out.own_ne zW.out (by decide) hj) (by rintro rfl;exact zR.out.own_ne zW.out (by decide) hj) _ _ _ _ _ _)
   ·rw[<- zdA.out]
    exact Af zZ.out (fun j hj=>ZR (by rintro rfl;exact zQ.out.own_ne zZ.out (by decide) hj) (by rintro rfl;exact zR.out.own_ne zZ.out (by decide) hj) _ _ _ _ _ _)
   ·exact((((((HB8.out.setCell (p:=⟨w.heap.size+1,0,none⟩) (by simp) _).setCell (p:=⟨w.heap.size+1,1,none⟩) (by simp) _).setCell (p:=⟨w.heap.size+1,2,none⟩) (by simp) _).setCell (p:=⟨w.heap.size+1+1,0,none⟩) (by show w.heap.size<=w.heap.size+1+1;omega) _).setCell (p:=⟨w.heap.size+1+1,1,none⟩) (by show w.heap.size<=w.heap.size+1+1;omega) _).setCell (p:=⟨w.heap.size+1+1,2,none⟩) (by show w.heap.size<=w.heap.size+1+1;omega) _).drew
end
section
open Go
namespace BK
theorem Kw {x y:Nat}(hx:x<4294967296)(hy:y<4294967296):bits .xor .u32 (x:Int) (y:Int)=((x ^^^ y:Nat):Int):=by
 show IntKind.u32.wrap ((BitVec.ofInt 32 (x:Int) ^^^ BitVec.ofInt 32 (y:Int)).toNat:Int)=_
 rw[BitVec.ofInt_natCast,BitVec.ofInt_natCast,BitVec.toNat_xor,BitVec.toNat_ofNat,BitVec.toNat_ofNat,Nat.mod_eq_of_lt hx,Nat.mod_eq_of_lt hy,IntKind.wrap_u32]
 have:=Dz hx hy
 omega
theorem Tq {x y:Nat}(hx:x<4294967296)(hy:y<4294967296):bits .and .u32 (x:Int) (y:Int)=((x &&& y:Nat):Int):=by
 show IntKind.u32.wrap ((BitVec.ofInt 32 (x:Int) &&& BitVec.ofInt 32 (y:Int)).toNat:Int)=_
 rw[BitVec.ofInt_natCast,BitVec.ofInt_natCast,BitVec.toNat_and,BitVec.toNat_ofNat,BitVec.toNat_ofNat,Nat.mod_eq_of_lt hx,Nat.mod_eq_of_lt hy,IntKind.wrap_u32]
 have:=Da y hx
 omega
theorem fP {x y:Nat}(hx:x<4294967296)(hy:y<4294967296):bits .or .u32 (x:Int) (y:Int)=((x ||| y:Nat):Int):=by
 show IntKind.u32.wrap ((BitVec.ofInt 32 (x:Int) ||| BitVec.ofInt 32 (y:Int)).toNat:Int)=_
 rw[BitVec.ofInt_natCast,BitVec.ofInt_natCast,BitVec.toNat_or,BitVec.toNat_ofNat,BitVec.toNat_ofNat,Nat.mod_eq_of_lt hx,Nat.mod_eq_of_lt hy,IntKind.wrap_u32]
 have:x ||| y<2^32:=Nat.or_lt_two_pow (n:=32) hx hy
 omega
theorem zaa {x:Nat}(hx:x<4294967296){A B:Nat}(k:Nat)(hA:(2:Nat)^k=A)(hB:A*B=4294967296):rot m1 x k=x/A+x%A*B:=by
 unfold rot
 rw[DZ,Nat.shiftRight_eq_div_pow,hA]
 have hp:0<A:=by rw[<- hA];exact Nat.two_pow_pos _
 have e:x+x*4294967296=x+A*(x*B):=by rw[<- hB,Nat.mul_left_comm]
 rw[e,Nat.add_mul_div_left _ _ hp]
 have hm:=Nat.mod_add_div x A
 have hr:x%A<A:=Nat.mod_lt _ hp
 have h1:x*B=x%A*B+4294967296*(x/A):=by
  rw[<- hB]
  conv=>lhs;rw[<- hm]
  rw[Nat.add_mul]
  congr 1
  rw[Nat.mul_assoc,Nat.mul_assoc,Nat.mul_comm (x/A) B]
 rw[h1,<- Nat.add_assoc,Nat.add_mul_mod_self_left]
 apply Nat.mod_eq_of_lt
 have hd:x/A<B:=by rw[Nat.div_lt_iff_lt_mul hp,Nat.mul_comm,hB];exact hx
 have h2:x%A*B+B<=A*B:=by
  have:=Nat.mul_le_mul_right B (show x%A+1<=A by omega)
  rwa [Nat.add_mul,Nat.one_mul] at this
 omega
theorem Tt {x:Nat}(hx:x<4294967296)(r k:Nat)(hrk:r+k=32):Sha.rotl (x:Int) (r:Int)=((rot m1 x k:Nat):Int):=by
 have hB:(2:Nat)^k*2^r=4294967296:=by rw[<- Nat.pow_add,show k+r=32 by omega]
 rw[zaa hx k rfl hB]
 unfold Sha.rotl
 have e1:(x:Int)*2^((r:Int)).toNat%4294967296=((x%2^k*2^r:Nat):Int):=by
  rw[Int.toNat_natCast,show((2:Int)^r)=((2^r:Nat):Int) from(Int.natCast_pow 2 r).symm,<- Int.natCast_mul,show(4294967296:Int)=((4294967296:Nat):Int) from rfl,<- Int.natCast_emod]
  congr 1
  rw[<- hB,Nat.mul_mod_mul_right]
 have e2:(x:Int)/2^(32-(r:Int)).toNat=((x/2^k:Nat):Int):=by
  rw[show(32-(r:Int)).toNat=k by omega,show((2:Int)^k)=((2^k:Nat):Int) from(Int.natCast_pow 2 k).symm,<- Int.natCast_ediv]
 have hd:x/2^k<2^r:=by rw[Nat.div_lt_iff_lt_mul (Nat.two_pow_pos _),Nat.mul_comm,hB];exact hx
 have hlt:x%2^k*2^r<4294967296:=by
  have h:=Nat.mod_lt x (Nat.two_pow_pos k)
  have:=(Nat.mul_lt_mul_right (Nat.two_pow_pos r)).2 h
  omega
 have hle:x/2^k<4294967296:=Nat.lt_of_le_of_lt (Nat.div_le_self _ _) hx
 rw[e1,e2,fP hlt hle,Nat.mul_comm,<- Nat.two_pow_add_eq_or_of_lt hd,Nat.add_comm]
theorem zbH {x:Nat}(hx:x<4294967296)(s:Nat):(x:Int)/2^((s:Int)).toNat=((shr m1 x s:Nat):Int):=by
 unfold shr
 rw[DZ,Nat.shiftRight_eq_div_pow,Nat.mod_eq_of_lt (Nat.lt_of_le_of_lt (Nat.div_le_self _ _) hx),Int.toNat_natCast,show((2:Int)^s)=((2^s:Nat):Int) from(Int.natCast_pow 2 s).symm,<- Int.natCast_ediv]
theorem zbI {x:Nat}(hx:x<4294967296)(a b c a' b' c' : Nat)(ha:a+a' = 32)(hb:b+b' = 32)(hc:c+c' = 32):Sha.sg (x:Int) (a:Int) (b:Int) (c:Int)=((s3 m1 x a' b' c' : Nat):Int):=by
 unfold Sha.sg s3 Sha.x32
 rw[Tt hx a a' ha,Tt hx b b' hb,Tt hx c c' hc,Kw (Cn _ _) (Cn _ _),Kw (Dz (Cn _ _) (Cn _ _)) (Cn _ _)]
theorem zbJ {x:Nat}(hx:x<4294967296)(a b a' b' s:Nat)(ha:a+a' = 32)(hb:b+b' = 32):Sha.ss (x:Int) (a:Int) (b:Int) (s:Int)=((s2 m1 x a' b' s:Nat):Int):=by
 unfold Sha.ss s2 Sha.x32
 rw[Tt hx a a' ha,Tt hx b b' hb,zbH hx s,Kw (Cn _ _) (Cn _ _),Kw (Dz (Cn _ _) (Cn _ _)) (dD _ _)]
structure Vok (v:V):Prop where
 a:v.a<4294967296
 b:v.b<4294967296
 c:v.c<4294967296
 d:v.d<4294967296
 e:v.e<4294967296
 f:v.f<4294967296
 g:v.g<4294967296
 h:v.h<4294967296
theorem VF.ok.at {v:VF}(h:v.ok)(i:Nat):Vok (v.at i):=⟨h.a i,h.b i,h.c i,h.d i,h.e i,h.f i,h.g i,h.h i⟩
def toL (v:V):List Int:=v.list.map fun n:Nat=>(n:Int)
theorem LD (v:V):toL v=[(v.a:Int),(v.b:Int),(v.c:Int),(v.d:Int),(v.e:Int),(v.f:Int),(v.g:Int),(v.h:Int)]:=rfl
theorem zbK (v:V)(hv:Vok v)(k w:Nat):Sha.rnd (toL v) (k:Int) (w:Int)=toL (kV m1 1 v k w):=by
 obtain⟨a,b,c,d,e,f,g,h⟩:=v
 obtain⟨ha,hb,hc,hd,he,hf,hg,hh⟩:=hv
 dsimp only at*
 rw[LD,LD]
 unfold Sha.rnd
 dsimp only
 have q1:Sha.sg (e:Int) 26 21 7=((s3 m1 e 6 11 25:Nat):Int):=zbI he 26 21 7 6 11 25 rfl rfl rfl
 have q2:Sha.sg (a:Int) 30 19 10=((s3 m1 a 2 13 22:Nat):Int):=zbI ha 30 19 10 2 13 22 rfl rfl rfl
 have q3:Sha.x32 (Sha.a32 (e:Int) (f:Int)) (Sha.a32 (Sha.n32 (e:Int)) (g:Int))=(((e &&& f) ^^^ ((m1 ^^^ e) &&& g):Nat):Int):=by
  unfold Sha.x32 Sha.a32 Sha.n32 Sha.x32
  rw[show(4294967295:Int)=((m1:Nat):Int) from rfl,Kw (show m1<4294967296 by decide) he,Tq he hf,Tq (Dz (show m1<4294967296 by decide) he) hg,Kw (Da _ he) (Da _ (Dz (show m1<4294967296 by decide) he))]
 have q4:Sha.x32 (Sha.x32 (Sha.a32 (a:Int) (b:Int)) (Sha.a32 (a:Int) (c:Int))) (Sha.a32 (b:Int) (c:Int))=((((a &&& b) ^^^ (a &&& c)) ^^^ (b &&& c):Nat):Int):=by
  unfold Sha.x32 Sha.a32
  rw[Tq ha hb,Tq ha hc,Tq hb hc,Kw (Da _ ha) (Da _ ha),Kw (Dz (Da _ ha) (Da _ ha)) (Da _ hb)]
 rw[q1,q2,q3,q4]
 unfold kV nA nE tA tB
 dsimp only
 rw[DZ,DZ]
 simp only[Nat.one_mul]
 congr 1
 ·omega
 ·simp only[List.cons.injEq,true_and,and_true]
  omega
/-! ### The words of a block -/
def Bt (w:Nat):List UInt8:=[(w/16777216).toUInt8,(w/65536%256).toUInt8,(w/256%256).toUInt8,(w%256).toUInt8]
def wd (s:ByteArray)(j:Nat):Nat:=((Sha.sched s (j+1)).getD j 0).toNat
theorem Wh (s:ByteArray)(j:Nat):∀ n,j<n->(Sha.sched s n).getD j 0=(Sha.sched s (j+1)).getD j 0
 | 0,h=>by omega
 | n + 1,h => by
   by_cases hj:j=n
   ·subst hj;rfl
   ·rw[<- Wh s j n (by omega)]
    unfold Sha.sched Sha.step
    rw[List.getD_eq_getElem?_getD,List.getElem?_append_left (by rw[Sha.Ay];omega),<- List.getD_eq_getElem?_getD]
    cases n with
    | zero=>omega
    | succ n=>rfl
theorem FZ (s:ByteArray)(j:Nat):(Sha.sched s (j+1)).getD j 0=if j<16 then Sha.acc s j 4 else Sha.nxt (Sha.sched s j):=by
 show(Sha.step s (Sha.sched s j)).getD j 0=_
 unfold Sha.step
 rw[Sha.Ay,List.getD_eq_getElem?_getD,List.getElem?_append_right (by rw[Sha.Ay];exact Nat.le_refl _),Sha.Ay,Nat.sub_self]
 rfl
theorem yH (s:ByteArray)(j:Nat):wd s j<4294967296:=by
 have:=Sha.Db s (j+1) j
 unfold wd
 omega
theorem PE (s:ByteArray)(j n:Nat)(h:j<n):(Sha.sched s n).getD j 0=((wd s j:Nat):Int):=by
 rw[Wh s j n h]
 unfold wd
 have:=Sha.Db s (j+1) j
 omega
theorem vR (s:ByteArray)(t:Nat):I9 m1 (wd s t) (wd s (t+1)) (wd s (t+9)) (wd s (t+14))=wd s (t+16):=by
 have h:=FZ s (t+16)
 rw[if_neg (by omega)] at h
 have h2:((wd s (t+16):Nat):Int)=Sha.nxt (Sha.sched s (t+16)):=by rw[<- h,<- PE s (t+16) (t+16+1) (by omega)]
 unfold Sha.nxt at h2
 rw[Sha.Ay,show t+16-2=t+14 by omega,show t+16-7=t+9 by omega,show t+16-15=t+1 by omega,show t+16-16=t by omega,PE s (t+14) _ (by omega),PE s (t+9) _ (by omega),PE s (t+1) _ (by omega),PE s t _ (by omega)] at h2
 have q1:Sha.ss ((wd s (t+14):Nat):Int) 15 13 10=((s2 m1 (wd s (t+14)) 17 19 10:Nat):Int):=zbJ (yH _ _) 15 13 17 19 10 rfl rfl
 have q2:Sha.ss ((wd s (t+1):Nat):Int) 25 14 3=((s2 m1 (wd s (t+1)) 7 18 3:Nat):Int):=zbJ (yH _ _) 25 14 7 18 3 rfl rfl
 rw[q1,q2] at h2
 unfold I9
 rw[DZ]
 omega
theorem zdC:∀ t,t<64->Sha.K.getD t 0=((KN.getD t 0:Nat):Int):=by decide
theorem vS:∀ t,t<64->KN.drop t=KN.getD t 0::KN.drop (t+1):=by decide
theorem Vok.rnd {v:V}(h:Vok v)(k w:Nat):Vok (kV m1 1 v k w):=
 ⟨by show nA m1 1 _ _ _<_;unfold nA;rw[DZ];exact Nat.mod_lt _ (by decide),h.a,h.b,h.c,by show nE m1 1 _ _ _<_;unfold nE;rw[DZ];exact Nat.mod_lt _ (by decide),h.e,h.f,h.g⟩
theorem Tv (s:ByteArray)(v0:List Int):∀ (n t:Nat) (u:V),t+n=64->toL u=Sha.rounds (Sha.sched s 64) v0 t->Vok u->
 toL (goK m1 1 (KN.drop t) (wd s t) (wd s (t+1)) (wd s (t+2)) (wd s (t+3)) (wd s (t+4)) (wd s (t+5)) (wd s (t+6)) (wd s (t+7)) (wd s (t+8)) (wd s (t+9)) (wd s (t+10)) (wd s (t+11)) (wd s (t+12)) (wd s (t+13)) (wd s (t+14)) (wd s (t+15)) u.a u.b u.c u.d u.e u.f u.g u.h)=Sha.rounds (Sha.sched s 64) v0 64/\Vok (goK m1 1 (KN.drop t) (wd s t) (wd s (t+1)) (wd s (t+2)) (wd s (t+3)) (wd s (t+4)) (wd s (t+5)) (wd s (t+6)) (wd s (t+7)) (wd s (t+8)) (wd s (t+9)) (wd s (t+10)) (wd s (t+11)) (wd s (t+12)) (wd s (t+13)) (wd s (t+14)) (wd s (t+15)) u.a u.b u.c u.d u.e u.f u.g u.h)
 | 0,t,u,ht,hu,hk => by
   have:t=64:=by omega
   subst this
   rw[show KN.drop 64=[] by decide,uT]
   exact⟨hu,hk⟩
 | n + 1,t,u,ht,hu,hk => by
   rw[vS t (by omega),Nq,vR]
   refine Tv s v0 n (t+1) (kV m1 1 u (KN.getD t 0) (wd s t)) (by omega) ?_ (hk.rnd _ _)
   show _=Sha.rnd (Sha.rounds (Sha.sched s 64) v0 t) (Sha.K.getD t 0) ((Sha.sched s 64).getD t 0)
   rw[<- hu,zdC t (by omega),PE s t 64 (by omega),zbK u hk]
theorem mP (v u:V):toL (YT m1 v u)=List.zipWith (fun x y=>(x+y)%4294967296) (toL v) (toL u):=by
 obtain⟨a,b,c,d,e,f,g,h⟩:=v
 obtain⟨a',b',c',d',e',f',g',h'⟩:=u
 rw[LD,LD,LD]
 unfold YT
 dsimp only
 simp only[DZ,List.zipWith_cons_cons,List.zipWith_nil_left]
 simp only[Int.natCast_emod,Int.natCast_add]
 rfl
theorem vT (v u:V):Vok (YT m1 v u):=by
 unfold YT
 constructor<;>(dsimp only;rw[DZ];exact Nat.mod_lt _ (by decide))
theorem vU (v:V)(hv:Vok v)(s:ByteArray):Sha.block (toL v) s=toL (JV m1 1 v (wd s 0) (wd s 1) (wd s 2) (wd s 3) (wd s 4) (wd s 5) (wd s 6) (wd s 7) (wd s 8) (wd s 9) (wd s 10) (wd s 11) (wd s 12) (wd s 13) (wd s 14) (wd s 15)):=by
 unfold JV Sha.block
 rw[mP]
 have h:=(Tv s (toL v) 64 0 v rfl rfl hv).1
 rw[List.drop_zero] at h
 rw[<- h]
theorem E9 (A b:Nat)(hA:A*256<4294967296)(hb:b<256):bits .or .u32 ((A:Int)*256%4294967296) (b:Int)=((A*256+b:Nat):Int):=by
 have e:(A:Int)*256%4294967296=((A*256:Nat):Int):=by omega
 rw[e,fP hA (by omega)]
 congr 1
 have:=Nat.two_pow_add_eq_or_of_lt (i:=8) (b:=b) (by omega) A
 rw[Nat.mul_comm A 256]
 exact this.symm
theorem rC (s:ByteArray)(i w:Nat)(hw:w<4294967296)(h:∀ k,k<4->s.data.toList.getD (4*i+k) 0=(Bt w).getD k 0):Sha.acc s i 4=(w:Int):=by
 have n8:∀ n:Nat,n<256->(n.toUInt8).toNat=n:=fun n hn=>by simp[Nat.mod_eq_of_lt hn]
 have b0:(s.data.toList.getD (4*i+0) 0).toNat=w/16777216:=by rw[h 0 (by omega)];exact n8 _ (by omega)
 have b1:(s.data.toList.getD (4*i+1) 0).toNat=w/65536%256:=by rw[h 1 (by omega)];exact n8 _ (by omega)
 have b2:(s.data.toList.getD (4*i+2) 0).toNat=w/256%256:=by rw[h 2 (by omega)];exact n8 _ (by omega)
 have b3:(s.data.toList.getD (4*i+3) 0).toNat=w%256:=by rw[h 3 (by omega)];exact n8 _ (by omega)
 unfold Sha.acc Sha.acc Sha.acc Sha.acc Sha.acc
 rw[b0,b1,b2,b3]
 have h0:bits .or .u32 ((0:Nat):Int) ((w/16777216:Nat):Int)=((w/16777216:Nat):Int):=by rw[fP (by omega) (by omega),Nat.zero_or]
 rw[Int.zero_mul,Int.zero_emod]
 rw[show(0:Int)=((0:Nat):Int) from rfl,h0]
 rw[E9 (w/16777216) (w/65536%256) (by omega) (by omega)]
 rw[E9 _ (w/256%256) (by omega) (by omega)]
 rw[E9 _ (w%256) (by omega) (by omega)]
 congr 1
 omega
/-! ### Messages of whole words -/
def Et:Nat->V->List Nat->V
 | 0,v,_=>v
 | n+1,v,ws=>Et n (cmp v ws) (ws.drop 16)
theorem Tx:∀ (n:Nat) (v:V) (ws:List Nat),Et (n+1) v ws=cmp (Et n v ws) (ws.drop (16*n))
 | 0,_,_=>rfl
 | n + 1,v,ws => by
   show Et (n+1) (cmp v ws) (ws.drop 16)=cmp (Et n (cmp v ws) (ws.drop 16)) _
   rw[Tx n,List.drop_drop]
   congr 2
   omega
theorem fQ (v:V)(ws:List Nat):Vok (cmp v ws):=by
 unfold cmp JV
 exact vT _ _
theorem Ky:∀ (n:Nat) (v:V) (ws:List Nat),Vok v->Vok (Et n v ws)
 | 0,_,_,h=>h
 | n+1,v,ws,_=>Ky n _ _ (fQ v ws)
theorem Eu (w:Nat):(Bt w).length=4:=rfl
theorem flat_get:∀ (ws:List Nat) (j k:Nat),k<4->j<ws.length->(ws.flatMap Bt).getD (4*j+k) 0=(Bt (ws.getD j 0)).getD k 0
 | [],j,k,_,h=>by cases h
 | w :: ws,0,k,hk,_ => by
   rw[List.flatMap_cons,List.getD_eq_getElem?_getD,List.getElem?_append_left (by rw[Eu];omega),<- List.getD_eq_getElem?_getD]
   rw[Nat.mul_zero,Nat.zero_add]
   rfl
 | w :: ws,j + 1,k,hk,h => by
   rw[List.flatMap_cons,List.getD_eq_getElem?_getD,List.getElem?_append_right (by rw[Eu];omega),Eu,show 4*(j+1)+k-4=4*j+k by omega,<- List.getD_eq_getElem?_getD,flat_get ws j k hk (by simpa using h)]
   rfl
theorem Wi:∀ (n:Nat) (ws:List Nat),(ws.flatMap Bt).drop (4*n)=(ws.drop n).flatMap Bt
 | 0,_=>rfl
 | n+1,[]=>by simp
 | n + 1,w :: ws => by
   rw[List.flatMap_cons,List.drop_append,Eu,List.drop_of_length_le (by rw[Eu];omega),List.nil_append,show 4*(n+1)-4=4*n by omega,Wi n ws]
   rfl
theorem Ob (ws:List Nat):(ws.flatMap Bt).length=4*ws.length:=by
 induction ws with
 | nil=>rfl
 | cons w ws ih=>rw[List.flatMap_cons,List.length_append,ih,Eu,List.length_cons];omega
theorem vV (s:ByteArray)(j w:Nat)(hj:j<16)(hw:w<4294967296)(h:∀ k,k<4->s.data.toList.getD (4*j+k) 0=(Bt w).getD k 0):wd s j=w:=by
 unfold wd
 rw[FZ,if_pos hj,rC s j w hw h]
 omega
theorem vW (v:V)(hv:Vok v)(s:ByteArray)(ws:List Nat)(hl:16<=ws.length)(hb:∀ w∈ws,w<4294967296)(hs:s.data.toList=(ws.flatMap Bt).take 64):Sha.block (toL v) s=toL (cmp v ws):=by
 have h:∀ j,j<16->wd s j=ws.getD j 0:=fun j hj=>by
  refine vV s j _ hj ?_ (fun k hk=>?_)
  ·rw[List.getD_eq_getElem?_getD,List.getElem?_eq_getElem (by omega)]
   exact hb _ (List.getElem_mem _)
  ·rw[hs,List.getD_eq_getElem?_getD,List.getElem?_take,if_pos (by omega),<- List.getD_eq_getElem?_getD,flat_get ws j k hk (by omega)]
 rw[vU v hv s]
 unfold cmp
 rw[h 0 (by omega),h 1 (by omega),h 2 (by omega),h 3 (by omega),h 4 (by omega),h 5 (by omega),h 6 (by omega),h 7 (by omega),h 8 (by omega),h 9 (by omega),h 10 (by omega),h 11 (by omega),h 12 (by omega),h 13 (by omega),h 14 (by omega),h 15 (by omega)]
theorem XY:Vok IVN:=by constructor<;>decide
theorem yI (s:ByteArray)(ws:List Nat)(hb:∀ w∈ws,w<4294967296)(hs:s.data.toList=ws.flatMap Bt):∀ n,16*n<=ws.length->Sha.run (toL IVN) s n=toL (Et n IVN ws)
 | 0,_=>rfl
 | n + 1,h => by
   show Sha.block (Sha.run (toL IVN) s n) _=_
   rw[yI s ws hb hs n (by omega),Tx]
   refine vW _ (Ky _ _ _ XY) _ _ (by rw[List.length_drop];omega) (fun w hw=>hb w (List.mem_of_mem_drop hw)) ?_
   rw[Sha.Ck,hs,show 64*n=4*(16*n) by omega,Wi]
   congr 1
   omega
theorem vX (v:V)(hv:Vok v):(strOfNums (Sha.bytes (toL v))).data.toList=v.list.flatMap Bt:=by
 have e:∀ x:Nat,x<4294967296->(Sha.be4 (x:Int)).map (fun n=>UInt8.ofNat n.toNat)=Bt x:=fun x hx=>by
  show[UInt8.ofNat ((x:Int)/16777216).toNat,UInt8.ofNat ((x:Int)/65536%256).toNat,UInt8.ofNat ((x:Int)/256%256).toNat,UInt8.ofNat ((x:Int)%256).toNat]=_
  rw[show((x:Int)/16777216).toNat=x/16777216 by omega,show((x:Int)/65536%256).toNat=x/65536%256 by omega,show((x:Int)/256%256).toNat=x/256%256 by omega,show((x:Int)%256).toNat=x%256 by omega]
  rfl
 rw[<- ByteArray.toList_eq,Lib.strOfNums_toList]
 unfold Lib.bytesOf Sha.bytes
 rw[LD]
 simp only[List.flatMap_cons,List.flatMap_nil,List.append_nil,List.map_append,V.list]
 rw[e _ hv.a,e _ hv.b,e _ hv.c,e _ hv.d,e _ hv.e,e _ hv.f,e _ hv.g,e _ hv.h]
theorem jO (m:ByteArray)(ws:List Nat)(n:Nat)(h:(m++Sha.pad m).data.toList=ws.flatMap Bt)(hl:ws.length=16*n)(hb:∀ w∈ws,w<4294967296):(Sha.sha m).data.toList=(Et n IVN ws).list.flatMap Bt:=by
 have hz:(m++Sha.pad m).size=64*n:=by
  rw[<- Sha.AZ,h,Ob,hl]
  omega
 have hst:Sha.state (m++Sha.pad m)=toL (Et n IVN ws):=by
  unfold Sha.state
  rw[hz,Nat.mul_div_cancel_left _ (by omega)]
  exact yI _ ws hb h n (by omega)
 unfold Sha.sha
 rw[hst,vX _ (Ky _ _ _ XY)]
end BK
namespace BK
theorem Tz {a b c d:Nat}(ha:a<256)(hb:b<256)(hc:c<256)(hd:d<256):Bt (wd4 a b c d)=[a.toUInt8,b.toUInt8,c.toUInt8,d.toUInt8]:=by
 unfold Bt wd4
 rw[show(a*16777216+b*65536+c*256+d)/16777216=a by omega,show(a*16777216+b*65536+c*256+d)/65536%256=b by omega,show(a*16777216+b*65536+c*256+d)/256%256=c by omega,show(a*16777216+b*65536+c*256+d)%256=d by omega]
theorem Kz {a b c d:Nat}(ha:a<256)(hb:b<256)(hc:c<256)(hd:d<256):wd4 a b c d<4294967296:=by unfold wd4;omega
theorem Oc (m:ByteArray)(n:Nat)(h:m.size=n):(Sha.pad m).data.toList=[128]++Lib.repeatL [0] ((119-n%64)%64)++((List.range 8).map fun j=>(8*n%18446744073709551616/2^(56-8*j)%256).toUInt8):=by
 subst h
 unfold Sha.pad
 rw[Sha.Ao,Sha.Ao]
 simp[be8]
theorem Od (n:Nat)(h:n<128):(Cod.uns n).data.toList=[n.toUInt8]:=by
 rw[Cod.Nr]
 show(if n<128 then [n.toUInt8] else _)=_
 rw[if_pos h]
theorem Wj (v:V)(ws:List Nat):Et 1 v ws=cmp v ws:=rfl
theorem ZU {v:V} : v.list.length=8:=rfl
theorem XZ {v:V}(h:Vok v):∀ w∈v.list,w<4294967296:=by
 intro w hw
 simp only[V.list,List.mem_cons,List.not_mem_nil,or_false] at hw
 rcases hw with rfl|rfl|rfl|rfl|rfl|rfl|rfl|rfl
 all_goals first|exact h.a|exact h.b|exact h.c|exact h.d|exact h.e|exact h.f|exact h.g|exact h.h
def Ce (s:Nat):ByteArray:=⟨(List.replicate 32 s.toUInt8).toArray⟩
theorem rD (s key c:Nat)(hs:s<256)(hk:key<128)(hc:c<128):(Sig.secret (Ce s) key c).data.toList=(cmp IVN (Jh s key c)).list.flatMap Bt:=by
 unfold Sig.secret
 have hm:(Sig.b1 2++Ce s++Cod.uns key++Cod.uns c).data.toList=[2]++List.replicate 32 s.toUInt8++[key.toUInt8]++[c.toUInt8]:=by
  rw[Sha.Ao,Sha.Ao,Sha.Ao,Od key hk,Od c hc]
  simp[Sig.b1,Ce]
 have hz:(Sig.b1 2++Ce s++Cod.uns key++Cod.uns c).size=35:=by rw[<- Sha.AZ,hm];simp
 rw[<- Wj]
 refine jO _ (Jh s key c) 1 ?_ rfl ?_
 ·rw[Sha.Ao,hm,Oc _ 35 hz]
  unfold Jh
  simp only[List.flatMap_cons,List.flatMap_nil,Tz (show 2<256 by omega) hs hs hs,Tz hs hs hs hs,Tz hs (show key<256 by omega) (show c<256 by omega) (show 128<256 by omega)]
  rfl
 ·intro w hw
  simp only[Jh,List.mem_cons,List.not_mem_nil,or_false] at hw
  have h1:=Kz (show 2<256 by omega) hs hs hs
  have h2:=Kz hs hs hs hs
  have h3:=Kz hs (show key<256 by omega) (show c<256 by omega) (show 128<256 by omega)
  rcases hw with rfl|rfl|rfl|rfl|rfl|rfl|rfl|rfl|rfl|rfl|rfl|rfl|rfl|rfl|rfl|rfl
  ·exact h1
  ·exact h2
  ·exact h2
  ·exact h2
  ·exact h2
  ·exact h2
  ·exact h2
  ·exact h2
  ·exact h3
  all_goals simp
def KA (b:Nat):Nat->Nat->V->V
 | 0,_,v=>v
 | n+1,p,v=>KA b n (p+1) (cmp IVN (stepW (b+p) v))
theorem zab (key c p:Nat)(x:ByteArray)(v:V)(hv:Vok v)(hx:x.data.toList=v.list.flatMap Bt)(hk:key<128)(hc:c<128)(hp:p<128):(Sig.Kh key c p x).data.toList=(cmp IVN (stepW (wd4 3 key c 0+p) v)).list.flatMap Bt:=by
 unfold Sig.Kh
 have hm:(Sig.b1 3++Cod.uns key++Cod.uns c++Cod.uns p++x).data.toList=[3]++[key.toUInt8]++[c.toUInt8]++[p.toUInt8]++v.list.flatMap Bt:=by
  rw[Sha.Ao,Sha.Ao,Sha.Ao,Sha.Ao,Od key hk,Od c hc,Od p hp,hx]
  simp[Sig.b1]
 have hz:(Sig.b1 3++Cod.uns key++Cod.uns c++Cod.uns p++x).size=36:=by
  rw[<- Sha.AZ,hm,List.length_append,Ob,ZU]
  rfl
 have he:wd4 3 key c 0+p=wd4 3 key c p:=rfl
 rw[he]
 rw[<- Wj]
 refine jO _ (stepW (wd4 3 key c p) v) 1 ?_ rfl ?_
 ·rw[Sha.Ao,hm,Oc _ 36 hz]
  unfold stepW V.list
  simp only[List.flatMap_cons,List.flatMap_nil,Tz (show 3<256 by omega) (show key<256 by omega) (show c<256 by omega) (show p<256 by omega)]
  simp only[List.append_assoc,List.cons_append,List.nil_append]
  rfl
 ·intro w hw
  have h0:=Kz (show 3<256 by omega) (show key<256 by omega) (show c<256 by omega) (show p<256 by omega)
  obtain⟨ha,hb,hc2,hd,he2,hf,hg,hh⟩:=hv
  simp only[stepW,List.mem_cons,List.not_mem_nil,or_false] at hw
  rcases hw with rfl|rfl|rfl|rfl|rfl|rfl|rfl|rfl|rfl|rfl|rfl|rfl|rfl|rfl|rfl|rfl
  ·exact h0
  ·exact ha
  ·exact hb
  ·exact hc2
  ·exact hd
  ·exact he2
  ·exact hf
  ·exact hg
  ·exact hh
  all_goals simp
theorem jP (key c:Nat)(hk:key<128)(hc:c<128):∀ (n p:Nat) (x:ByteArray) (v:V),Vok v->x.data.toList=v.list.flatMap Bt->p+n<=128->(Sig.chain key c p n x).data.toList=(KA (wd4 3 key c 0) n p v).list.flatMap Bt/\Vok (KA (wd4 3 key c 0) n p v)
 | 0,_,_,_,hv,hx,_=>⟨hx,hv⟩
 | n+1,p,x,v,hv,hx,hp=>jP key c hk hc n (p+1) _ _ (fQ _ _) (zab key c p x v hv hx hk hc (by omega)) (by omega)
theorem ZV (b n p:Nat)(v:V):KA b (n+1) p v=KA b n (p+1) (cmp IVN (stepW (b+p) v)):=by rw[KA]
theorem Fp:∀ n,Ab n (fun _=>0)=0
 | 0=>rfl
 | n+1=>by show 0+18446744073709551616*Ab n (fun _=>0)=0;rw[Fp n]
def VF.iv:VF:=⟨fun _=>IVN.a,fun _=>IVN.b,fun _=>IVN.c,fun _=>IVN.d,fun _=>IVN.e,fun _=>IVN.f,fun _=>IVN.g,fun _=>IVN.h⟩
theorem Rv (n:Nat):IVP (ones n)=VF.iv.pack n:=by
 unfold IVP VF.iv VF.pack
 simp only[CX]
 rfl
theorem jQ:VF.iv.ok:=by constructor<;>(intro i;simp[VF.iv,IVN])
theorem fT (n:Nat)(v:VF)(hv:v.ok)(base:Nat->Nat)(p:Nat)(hb:∀ i,base i+p<4294967296):∃ u:VF,u.ok/\oO (mask n) (ones n) (Ab n base) p (v.pack n)=u.pack n/\∀ i,u.at i=cmp IVN (stepW (base i+p) (v.at i)):=by
 obtain⟨u,h1,h2,h3⟩:=OY n VF.iv jQ (fun i=>base i+p) v.a v.b v.c v.d v.e v.f v.g v.h (fun _=>2147483648) (fun _=>0) (fun _=>0) (fun _=>0) (fun _=>0) (fun _=>0) (fun _=>288) hb hv.a hv.b hv.c hv.d hv.e hv.f hv.g hv.h (fun _=>by simp) (fun _=>by simp) (fun _=>by simp) (fun _=>by simp) (fun _=>by simp) (fun _=>by simp) (fun _=>by simp)
 refine⟨u,h1,?_,fun i=>(h3 i).trans (by unfold cmp stepW;rfl)⟩
 have e1:Ab n (fun i=>base i+p)=Ab n base+ones n*p:=by rw[CX n p,Ci n base (fun _=>p)]
 have e2:Ab n (fun _=>2147483648)=ones n*2147483648:=(CX n 2147483648).symm
 have e3:Ab n (fun _=>288)=ones n*288:=(CX n 288).symm
 rw[e1,e2,e3,Fp,<- Rv] at h2
 exact h2
end BK
end
section
open Go Go.RowKit Go.Maps
theorem zbL (W:World)(g b:Nat)(hb:b<256)(h:At W g 5 #[.int .u8 b]):(convert 66 9 (.slice (some ⟨g,0,none⟩) 1 1)).run Tryz.prog W=.ok (.string ⟨#[b.toUInt8]⟩) W:=by
 have:=run_convert_bytes_arg (P:=Tryz.prog) W 66 5 rfl rfl g 0 1 1 [(b:Int)] rfl (fun i hi=>by
  have:i=0:=by simpa using hi
  subst this
  exact h.cell 0) 9 rfl
 rw[this]
 have e:((b:Int)).toNat.toUInt8=b.toUInt8:=by rw[Int.toNat_natCast]
 first
  | rfl
  | (congr 1;simp[e])
theorem rE (b:Nat):(⟨(Lib.repeatL (⟨#[b.toUInt8]⟩:ByteArray).data.toList 32).toArray⟩:ByteArray)=BK.Ce b:=by
 unfold BK.Ce
 have:Lib.repeatL (⟨#[b.toUInt8]⟩:ByteArray).data.toList 32=List.replicate 32 b.toUInt8:=by
  first|rfl|(simp[Lib.repeatL])
 rw[this]
theorem fV (b:Nat)(w:World):Calls Tryz.prog 151 #[.string ⟨#[b.toUInt8]⟩,.int .i64 32] w fun e w' => e=.returned (.string (BK.Ce b))/\Below w.heap.size w w' :=
 (Tryz.strings_Repeat_main ⟨#[b.toUInt8]⟩ 32 w (by omega) (by omega) (by show 1*32<=140737488355328;omega) (by show 0<1;omega)).mono fun e w' ⟨he,hb⟩=>⟨by rw[he,rE],hb⟩
theorem Oe (b:Nat)(w:World)(hb:b<256):Calls Tryz.prog 98 #[.int .u8 b] w fun e w' => e=.returned (.agg #[.string (BK.Ce b),.int .i64 1,.int .i64 0])/\Below w.heap.size w w':=by
 have hrp:=fun W=>fV b W
 have hcv:=fun W g=>zbL W g b hb
 have HRP:=zh hrp;have HCV:=zh hcv;clear hrp hcv
 go_enter Tryz.func98,Tryz.ntmps98
 go_wp2_with fail
 have ha1:At (w.alloc (.cells #[.string ⟨#[]⟩,.int .i64 0,.int .i64 0] 123)) w.heap.size 123 #[.string ⟨#[]⟩,.int .i64 0,.int .i64 0]:=At.new w _ _
 have hb1:Below w.heap.size w (w.alloc (.cells #[.string ⟨#[]⟩,.int .i64 0,.int .i64 0] 123)):=zb
 have hn1:(w.alloc (.cells #[.string ⟨#[]⟩,.int .i64 0,.int .i64 0] 123)).heap.size=w.heap.size+1:=by simp
 rw[<- hn1]
 generalize w.alloc (.cells #[.string ⟨#[]⟩,.int .i64 0,.int .i64 0] 123)=w1 at*
 rw[HCV.out _ _ (At.new _ _ _)]
 go_wp2_with fail
 refine(HRP.out _).mono ?_
 rintro e w2 ⟨rfl,hb2⟩
 have hb3:Below w1.heap.size w1 w2:=Below.trans (b:=_) (by repeat' first|exact Below.refl _ _|refine Below.drew ?_|refine Below.alloc ?_ ?_ _|(simp;done)|(simp;omega)) (hb2.mono (by simp))
 have hlt:=ha1.lt
 have HA2:=zh (ha1.below hb3 hlt);have HB2:=zh (hb1.trans (hb3.mono hb1.size))
 clear ha1 hb1 hb2 hb3
 have z0:w2.frozen? ⟨w.heap.size,0,none⟩=false:=HA2.out.free 0
 have z1:w2.frozen? ⟨w.heap.size,1,none⟩=false:=HA2.out.free 1
 have z2:w2.frozen? ⟨w.heap.size,2,none⟩=false:=HA2.out.free 2
 obtain⟨c0,c1,c2⟩:=HA2.out.c3
 go_wp2_with fail
 have ha3:At (((w2.setCell ⟨w.heap.size,0,none⟩ (.string (BK.Ce b))).setCell ⟨w.heap.size,1,none⟩ (.int .i64 1)).setCell ⟨w.heap.size,2,none⟩ (.int .i64 0)) w.heap.size 123 #[.string (BK.Ce b),.int .i64 1,.int .i64 0]:=((HA2.out.set 0 _).set 1 _).set 2 _
 refine Pz rfl rfl (AQ ha3 Tryz.underlying123 rfl JK) ⟨rfl,((HB2.out.setCell (p:=⟨w.heap.size,0,none⟩) (Nat.le_refl _) _).setCell (p:=⟨w.heap.size,1,none⟩) (Nat.le_refl _) _).setCell (p:=⟨w.heap.size,2,none⟩) (Nat.le_refl _) _⟩
end
section
open Go
namespace BK
theorem ZW (f:Nat->Nat):∀ (n s:Nat),Hg f s n=Ab n fun i=>f (s+i)
 | 0,_=>rfl
 | n + 1,s => by
   have e:Ab (n+1) (fun i=>f (s+i))=f s+18446744073709551616*Ab n (fun i=>f (s+1+i)):=by
    show f (s+0)+18446744073709551616*Ab n (fun i=>f (s+(i+1)))=_
    congr 3
    funext i
    rw[Nat.add_assoc,Nat.add_comm 1 i]
   rw[e,<- ZW f n (s+1)]
   rfl
def diffs:List Nat->Bool
 | []=>true
 | x::l=>(l.all fun y => !Nat.beq x y)&&diffs l
end BK
namespace BK
theorem Wm:∀ (n i:Nat) (f:Nat->Nat),D f->i<n->lane i (Ab n f)=f i
 | 0,_,_,_,h=>by cases h
 | n + 1,0,f,hf,_ => by
   unfold lane
   show((f 0+18446744073709551616*_) >>> (64*0))%_=_
   rw[Nat.mul_zero,Nat.shiftRight_zero,Nat.add_mul_mod_self_left]
   exact Nat.mod_eq_of_lt (hf 0)
 | n + 1,i + 1,f,hf,h => by
   have ih:=Wm n i (fun i=>f (i+1)) (fun i=>hf _) (by omega)
   unfold lane at ih ⊢
   show((f 0+18446744073709551616*Ab n (fun i=>f (i+1))) >>> (64*(i+1)))%_=f (i+1)
   rw[show 64*(i+1)=64+64*i by omega,Nat.shiftRight_add]
   have e:(f 0+18446744073709551616*Ab n (fun i=>f (i+1))) >>> 64=Ab n (fun i=>f (i+1)):=by
    rw[Nat.shiftRight_eq_div_pow,show(2:Nat)^64=18446744073709551616 by decide,Nat.add_mul_div_left _ _ (by decide),Nat.div_eq_of_lt (hf 0),Nat.zero_add]
   rw[e]
   exact ih
theorem KD:∀ (ws:List Nat) (t:Nat),t<256->(∀ w∈ws,w<4294967296)->(shW t ws).flatMap Bt=t.toUInt8::(ws.flatMap Bt++[128,0,0])
 | [],t,ht,_ => by
   unfold shW
   rw[List.flatMap_cons,List.flatMap_nil,List.append_nil,Tz ht (show 128<256 by omega) (show 0<256 by omega) (show 0<256 by omega)]
   rfl
 | w :: ws,t,ht,hw => by
   have h1:=hw w List.mem_cons_self
   have ih:=KD ws (w%256) (Nat.mod_lt _ (by omega)) (fun x hx=>hw x (List.mem_cons_of_mem _ hx))
   unfold shW
   rw[List.flatMap_cons,ih,List.flatMap_cons]
   have e:Bt (t*16777216+w/256)=[t.toUInt8,(w/16777216).toUInt8,(w/65536%256).toUInt8,(w/256%256).toUInt8]:=by
    unfold Bt
    rw[show(t*16777216+w/256)/16777216=t by omega,show(t*16777216+w/256)/65536%256=w/16777216 by omega,show(t*16777216+w/256)/256%256=w/65536%256 by omega,show(t*16777216+w/256)%256=w/256%256 by omega]
   rw[e]
   simp[Bt]
theorem Ya:∀ (ws:List Nat) (t:Nat),(shW t ws).length=ws.length+1
 | [],_=>rfl
 | w :: ws,t => by
   unfold shW
   rw[List.length_cons,Ya ws,List.length_cons]
theorem fZ:∀ (ws:List Nat) (t:Nat),t<256->(∀ w∈ws,w<4294967296)->∀ x∈shW t ws,x<4294967296
 | [],t,ht,_,x,hx => by
   have:x=wd4 t 128 0 0:=by simpa [shW] using hx
   rw[this]
   exact Kz ht (by omega) (by omega) (by omega)
 | w :: ws,t,ht,hw,x,hx => by
   have h1:=hw w List.mem_cons_self
   unfold shW at hx
   rcases List.mem_cons.1 hx with rfl|hx
   ·omega
   ·exact fZ ws _ (Nat.mod_lt _ (by omega)) (fun y hy=>hw y (List.mem_cons_of_mem _ hy)) x hx
theorem ZX:∀ l:List ByteArray,(Cod.cat l).data.toList=l.flatMap fun x=>x.data.toList
 | []=>rfl
 | x::l=>by rw[Cod.cat,Sha.Ao,ZX l,List.flatMap_cons]
theorem mQ {α : Type}(f : α -> List Nat)(l:List α):(l.flatMap f).flatMap Bt=l.flatMap fun x=>(f x).flatMap Bt:=List.flatMap_assoc
end BK
namespace BK
theorem rF (n:Nat)(f:Nat->Nat):Hg f 0 n=Ab n f:=by
 rw[ZW]
 congr 1
 funext i
 rw[Nat.zero_add]
theorem KE:∀ (n:Nat) (f g:Nat->Nat),(∀ i,i<n->f i=g i)->Ab n f=Ab n g
 | 0,_,_,_=>rfl
 | n + 1,f,g,h => by
   have ih:=KE n (fun i=>f (i+1)) (fun i=>g (i+1)) (fun i hi=>h (i+1) (by omega))
   unfold Ab
   rw[h 0 (by omega),ih]
theorem ZY:∀ (l:List Nat),diffs l=true->∀ i j (hi:i<l.length) (hj:j<l.length),i<j->l[i]≠l[j]
 | [],_,i,j,hi,_,_=>by cases hi
 | x :: l,h,i,j,hi,hj,hij => by
   unfold diffs at h
   rw[Bool.and_eq_true] at h
   cases i with
   | zero =>
     cases j with
     | zero=>omega
     | succ j =>
       have hj2:j<l.length:=by simpa using hj
       have:=List.all_eq_true.1 h.1 l[j] (List.getElem_mem hj2)
       intro e
       have e:x=l[j]:=e
       rw[<- e] at this
       simp at this
   | succ i =>
     cases j with
     | zero=>omega
     | succ j=>exact ZY l h.2 i j (by simpa using hi) (by simpa using hj) (by omega)
theorem mR {x y:Nat}(hx:x<4294967296)(hy:y<4294967296)(h:Bt x=Bt y):x=y:=by
 unfold Bt at h
 simp only[List.cons.injEq,and_true] at h
 obtain⟨h1,h2,h3,h4⟩:=h
 have n8:∀ n:Nat,n<256->(n.toUInt8).toNat=n:=fun n hn=>by simp[Nat.mod_eq_of_lt hn]
 have e1:=congrArg UInt8.toNat h1;have e2:=congrArg UInt8.toNat h2;have e3:=congrArg UInt8.toNat h3;have e4:=congrArg UInt8.toNat h4
 rw[n8 _ (by omega),n8 _ (by omega)] at e1 e2 e3 e4
 omega
end BK
namespace BK
/-! ### cut functions -/
def cut (n:Nat)(f:Nat->Nat)(i:Nat):Nat:=if i<n then f i else 0
theorem Og (n:Nat)(f:Nat->Nat):Hg f 0 n=Ab n (cut n f):=by
 rw[rF]
 exact KE n _ _ (fun i hi=>by unfold cut;rw[if_pos hi])
theorem rG {n:Nat}{f:Nat->Nat}(h:∀ i,i<n->f i<4294967296):W (cut n f):=fun i=>by
 unfold cut
 split
 ·exact h i (by assumption)
 ·simp
theorem Yb {n:Nat}{f:Nat->Nat}{i:Nat}(h:i<n):cut n f i=f i:=by unfold cut;rw[if_pos h]
theorem Ev (n k:Nat):Hg (fun _=>k) 0 n=Ab n fun _=>k:=rF n _
theorem Wn (n:Nat)(base:Nat->Nat):∀ (k p:Nat) (v:VF),v.ok->(∀ i,base i+(p+k)<4294967296)->
 ∃ u:VF,u.ok/\YV (mask n) (ones n) (Ab n base) k p (v.pack n)=u.pack n/\∀ i,u.at i=KA (base i) k p (v.at i)
 | 0,p,v,hv,_=>⟨v,hv,rfl,fun _=>rfl⟩
 | k + 1,p,v,hv,hb => by
   obtain⟨s,s1,s2,s3⟩:=fT n v hv base p (fun i=>Nat.lt_of_le_of_lt (Nat.add_le_add_left (Nat.le_add_right _ _) _) (hb i))
   obtain⟨u,u1,u2,u3⟩:=Wn n base k (p+1) s s1 (fun i=>by rw[show p+1+k=p+(k+1) by omega];exact hb i)
   refine⟨u,u1,?_,fun i=>?_⟩
   ·rw[YV,GN,oU,s2,u2]
   ·rw[u3,s3,ZV]
theorem jR {k:Nat}(h:k<4294967296):W fun _=>k:=fun _=>h
end BK
namespace BK
def VF.fl (v:VF):List (Nat->Nat):=[v.a,v.b,v.c,v.d,v.e,v.f,v.g,v.h]
theorem zbM (v:VF)(i:Nat):(v.at i).list=v.fl.map (· i):=rfl
theorem zac {v:VF}(h:v.ok):∀ f∈v.fl,W f:=by
 obtain⟨h1,h2,h3,h4,h5,h6,h7,h8⟩:=h
 intro f hf
 simp only[VF.fl,List.mem_cons,List.not_mem_nil,or_false] at hf
 rcases hf with rfl|rfl|rfl|rfl|rfl|rfl|rfl|rfl<;>assumption
theorem Wo:∀ (k n:Nat) (f:Nat->Nat),D f->Ab (k+n) f >>> (64*k)=Ab n fun i=>f (k+i)
 | 0,n,f,_ => by
   rw[Nat.mul_zero,Nat.shiftRight_zero,Nat.zero_add]
   congr 1
   funext i
   rw[Nat.zero_add]
 | k + 1,n,f,hf => by
   have ih:=Wo k n (fun i=>f (i+1)) (fun i=>hf _)
   rw[show k+1+n=(k+n)+1 by omega,show 64*(k+1)=64+64*k by omega,Nat.shiftRight_add]
   have e1:Ab (k+n+1) f >>> 64=Ab (k+n) (fun i=>f (i+1)):=by
    show(f 0+18446744073709551616*Ab (k+n) (fun i=>f (i+1))) >>> 64=_
    rw[Nat.shiftRight_eq_div_pow,show(2:Nat)^64=18446744073709551616 by decide,Nat.add_mul_div_left _ _ (by decide),Nat.div_eq_of_lt (hf 0),Nat.zero_add]
   rw[e1,ih]
   congr 1
   funext i
   congr 1
   omega
theorem jS:∀ (n:Nat) (f:Nat->Nat),D f->Ab n f<18446744073709551616^n
 | 0,_,_=>by show 0<1;omega
 | n + 1,f,hf => by
   have ih:=jS n (fun i=>f (i+1)) (fun i=>hf _)
   have h0:=hf 0
   show f 0+18446744073709551616*Ab n (fun i=>f (i+1))<_
   rw[Nat.pow_succ]
   have:18446744073709551616*(Ab n (fun i=>f (i+1))+1)<=18446744073709551616*18446744073709551616^n:=Nat.mul_le_mul_left _ ih
   rw[Nat.mul_comm (18446744073709551616^n)]
   omega
theorem aj:∀ (m k:Nat) (f:Nat->Nat),Ab (m+k) f=Ab m f+18446744073709551616^m*Ab k fun i=>f (m+i)
 | 0,k,f => by
   rw[Nat.zero_add,Nat.pow_zero,Nat.one_mul]
   show _=0+_
   rw[Nat.zero_add]
   congr 1
   funext i
   rw[Nat.zero_add]
 | m + 1,k,f => by
   have ih:=aj m k (fun i=>f (i+1))
   rw[show m+1+k=(m+k)+1 by omega]
   show f 0+18446744073709551616*Ab (m+k) (fun i=>f (i+1))=(f 0+18446744073709551616*Ab m (fun i=>f (i+1)))+_
   have e:(fun i=>f (m+i+1))=fun i=>f (m+1+i):=funext fun i=>congrArg f (by omega)
   rw[ih,e,Nat.mul_add,Nat.pow_succ,Nat.mul_comm (18446744073709551616^m) 18446744073709551616,Nat.mul_assoc,Nat.add_assoc]
end BK
namespace BK
def VF.of (g:Nat->V):VF:=⟨fun i=>(g i).a,fun i=>(g i).b,fun i=>(g i).c,fun i=>(g i).d,fun i=>(g i).e,fun i=>(g i).f,fun i=>(g i).g,fun i=>(g i).h⟩
theorem yJ (g:Nat->V)(i:Nat):(VF.of g).at i=g i:=rfl
theorem rH {g:Nat->V}(h:∀ i,Vok (g i)):(VF.of g).ok:=⟨fun i=>(h i).a,fun i=>(h i).b,fun i=>(h i).c,fun i=>(h i).d,fun i=>(h i).e,fun i=>(h i).f,fun i=>(h i).g,fun i=>(h i).h⟩
theorem zbN (n:Nat)(g:Nat->V):(VF.of g).fl.map (Ab n)=[Ab n fun i=>(g i).a,Ab n fun i=>(g i).b,Ab n fun i=>(g i).c,Ab n fun i=>(g i).d,Ab n fun i=>(g i).e,Ab n fun i=>(g i).f,Ab n fun i=>(g i).g,Ab n fun i=>(g i).h]:=rfl
theorem yL (n:Nat)(v:VF):(v.pack n).a=Ab n v.a:=rfl
theorem zbO (n:Nat)(v:VF):(v.pack n).b=Ab n v.b:=rfl
theorem zbP (n:Nat)(v:VF):(v.pack n).c=Ab n v.c:=rfl
theorem zbQ (n:Nat)(v:VF):(v.pack n).d=Ab n v.d:=rfl
theorem zbR (n:Nat)(v:VF):(v.pack n).e=Ab n v.e:=rfl
theorem zbS (n:Nat)(v:VF):(v.pack n).f=Ab n v.f:=rfl
theorem zbT (n:Nat)(v:VF):(v.pack n).g=Ab n v.g:=rfl
theorem zbU (n:Nat)(v:VF):(v.pack n).h=Ab n v.h:=rfl
/-! ### messages of whole words,in lanes -/
def shF:(Nat->Nat)->List (Nat->Nat)->List (Nat->Nat)
 | t,[]=>[fun i=>t i*16777216+8388608]
 | t,w::ws=>(fun i=>t i*16777216+w i/256)::shF (fun i=>w i%256) ws
theorem zad (x:Nat):x &&& 255=x%256:=Nat.and_two_pow_sub_one_eq_mod x 8
theorem Yc (n:Nat):∀ (ws:List (Nat->Nat)) (t:Nat->Nat),(∀ w∈ws,W w)->shP (mask n) (ones n) (Ab n t) (ws.map (Ab n))=(shF t ws).map (Ab n)
 | [],t,_ => by
   rw[List.map_nil,shP,CX,JR,Ci]
   rfl
 | w :: ws,t,h => by
   have hw:=h w List.mem_cons_self
   have e1:(Ab n w >>> 8) &&& mask n=Ab n fun i=>w i/256:=by
    rw[Hf n w 8 hw.d (by omega)]
    congr 1
    funext i
    have:=hw i
    rw[Nat.shiftRight_eq_div_pow,show(2:Nat)^8=256 by decide]
    omega
   have e2:Ab n w &&& (ones n*255)=Ab n fun i=>w i%256:=by
    rw[CX,He n w _ hw.d (fun _=>by decide)]
    simp only[zad]
   rw[List.map_cons,shP,e1,e2,Yc n ws _ (fun x hx=>h x (List.mem_cons_of_mem _ hx)),JR,Ci,shF,List.map_cons]
theorem gu (i:Nat):∀ (ws:List (Nat->Nat)) (t:Nat->Nat),(shF t ws).map (· i)=shW (t i) (ws.map (· i))
 | [],t => by
   show[t i*16777216+8388608]=[wd4 (t i) 128 0 0]
   unfold wd4
   congr 1
 | w::ws,t=>by rw[shF,List.map_cons,gu i ws,List.map_cons,shW]
theorem rJ:∀ (ws:List (Nat->Nat)) (t:Nat->Nat),(∀ i,t i<256)->(∀ w∈ws,W w)->∀ g∈shF t ws,W g
 | [],t,ht,_,g,hg => by
   rw[shF,List.mem_singleton] at hg
   rw[hg]
   intro i
   have:=ht i
   show t i*16777216+8388608<_
   omega
 | w :: ws,t,ht,h,g,hg => by
   rw[shF] at hg
   rcases List.mem_cons.1 hg with rfl|hg
   ·intro i
    have:=ht i;have:=h w List.mem_cons_self i
    show t i*16777216+w i/256<_
    omega
   ·exact rJ ws _ (fun i=>Nat.mod_lt _ (by decide)) (fun x hx=>h x (List.mem_cons_of_mem _ hx)) g hg
theorem mU (n:Nat)(fs:List (Nat->Nat))(j:Nat):(fs.map (Ab n)).getD j 0=Ab n (fs.getD j fun _=>0):=by
 rw[List.getD_eq_getElem?_getD,List.getD_eq_getElem?_getD,List.getElem?_map]
 cases fs[j]? with
 | none=>exact(Fp n).symm
 | some f=>rfl
theorem getD_at (i:Nat)(fs:List (Nat->Nat))(j:Nat):(fs.map (· i)).getD j 0=(fs.getD j fun _=>0) i:=by
 rw[List.getD_eq_getElem?_getD,List.getD_eq_getElem?_getD,List.getElem?_map]
 cases fs[j]? <;> rfl
theorem DY {fs:List (Nat->Nat)}(h:∀ f∈fs,W f)(j:Nat):W (fs.getD j fun _=>0):=by
 rw[List.getD_eq_getElem?_getD]
 cases e:fs[j]? with
 | none=>exact fun _=>by simp
 | some f=>exact h f (List.mem_of_getElem? e)
theorem PG (n:Nat):∀ (k:Nat) (v:VF) (fs:List (Nat->Nat)),v.ok->(∀ f∈fs,W f)->
 ∃ u:VF,u.ok/\RI (mask n) (ones n) k (v.pack n) (fs.map (Ab n))=u.pack n/\∀ i,u.at i=Et k (v.at i) (fs.map (· i))
 | 0,v,fs,hv,_=>⟨v,hv,rfl,fun _=>rfl⟩
 | k + 1,v,fs,hv,h => by
   obtain⟨s,s1,s2,s3⟩:=OY n v hv _ _ _ _ _ _ _ _ _ _ _ _ _ _ _ _ (DY h 0) (DY h 1) (DY h 2) (DY h 3) (DY h 4) (DY h 5) (DY h 6) (DY h 7) (DY h 8) (DY h 9) (DY h 10) (DY h 11) (DY h 12) (DY h 13) (DY h 14) (DY h 15)
   obtain⟨u,u1,u2,u3⟩:=PG n k s (fs.drop 16) s1 (fun f hf=>h f (List.mem_of_mem_drop hf))
   refine⟨u,u1,?_,fun i=>?_⟩
   ·rw[RI,GN,<- List.map_drop]
    unfold zbi
    simp only[mU]
    rw[RH,s2,u2]
   ·rw[u3,s3,List.map_drop,Et]
    refine congrArg (fun x=>Et k x _) ?_
    unfold cmp
    simp only[getD_at]
theorem mV (n:Nat)(fs:List (Nat->Nat))(h:∀ f∈fs,W f):∃ u:VF,u.ok/\jk (mask n) (ones n) (fs.map (Ab n))=u.pack n/\∀ i,u.at i=Et 34 IVN (Il (fs.map (· i))):=by
 have hw:∀ f∈shF (fun _=>0) fs++[fun _=>0,fun _=>0,fun _=>0,fun _=>0,fun _=>0,fun _=>0,fun _=>17160],W f:=fun f hf=>by
  rcases List.mem_append.1 hf with hf|hf
  ·exact rJ fs _ (fun _=>by decide) h f hf
  ·simp only[List.mem_cons,List.not_mem_nil,or_false] at hf
   rcases hf with rfl|rfl|rfl|rfl|rfl|rfl|rfl<;>exact fun _=>by simp
 obtain⟨u,u1,u2,u3⟩:=PG n 34 VF.iv _ jQ hw
 refine⟨u,u1,?_,fun i=>?_⟩
 ·unfold jk
  rw[Jk,Rv,<- u2,List.map_append,<- Yc n fs _ h,Fp,CX]
  simp only[List.map_cons,List.map_nil,Fp]
 ·rw[u3,List.map_append,gu]
  rfl
end BK
namespace BK
/-! ### leaves and nodes -/
theorem zbV (v:Nat->V)(l:List Nat):(l.flatMap fun c=>(v c).list).length=8*l.length:=by
 induction l with
 | nil=>rfl
 | cons c l ih=>rw[List.flatMap_cons,List.length_append,ih,ZU,List.length_cons];omega
theorem rM (l:Nat->ByteArray)(v:Nat->V)(hv:∀ c,c<67->Vok (v c))(hl:∀ c,c<67->(l c).data.toList=(v c).list.flatMap Bt):
 (Sig.I7 ((List.range 67).map l)).data.toList=(Et 34 IVN (Il ((List.range 67).flatMap fun c=>(v c).list))).list.flatMap Bt:=by
 obtain⟨ws,hws⟩:∃ ws,ws=(List.range 67).flatMap fun c=>(v c).list:=⟨_,rfl⟩
 have hlt:∀ w∈ws,w<4294967296:=fun w hm=>by
  rw[hws] at hm
  obtain⟨c,hc,hm⟩:=List.mem_flatMap.1 hm
  exact XZ (hv c (List.mem_range.1 hc)) w hm
 have hlen:ws.length=536:=by rw[hws,zbV,List.length_range]
 have hm:(Sig.b1 0++Cod.cat ((List.range 67).map l)).data.toList=0::ws.flatMap Bt:=by
  have key:((List.range 67).map l).flatMap (fun x=>x.data.toList)=(List.range 67).flatMap fun c=>((v c).list).flatMap Bt:=by
   rw[List.flatMap_map,List.flatMap_def,List.flatMap_def]
   refine congrArg List.flatten (List.map_congr_left fun c hc=>?_)
   exact hl c (List.mem_range.1 hc)
  rw[Sha.Ao,ZX,hws,mQ,key]
  rfl
 have hz:(Sig.b1 0++Cod.cat ((List.range 67).map l)).size=2145:=by
  rw[<- Sha.AZ,hm,List.length_cons,Ob,hlen]
 unfold Sig.I7
 rw[<- hws]
 refine jO _ (Il ws) 34 ?_ ?_ ?_
 ·rw[Sha.Ao,hm,Oc _ 2145 hz]
  unfold Il
  rw[List.flatMap_append,KD ws 0 (by omega) hlt]
  simp only[List.cons_append,List.append_assoc]
  rfl
 ·unfold Il
  rw[List.length_append,Ya,hlen]
  rfl
 ·intro w hmem
  unfold Il at hmem
  rcases List.mem_append.1 hmem with h|h
  ·exact fZ ws 0 (by omega) hlt w h
  ·simp only[List.mem_cons,List.not_mem_nil,or_false] at h
   rcases h with rfl|rfl|rfl|rfl|rfl|rfl|rfl<;>simp
theorem zae (a b:ByteArray)(x y:V)(hx:Vok x)(hy:Vok y)(ha:a.data.toList=x.list.flatMap Bt)(hb:b.data.toList=y.list.flatMap Bt):
 (Sha.sha (Sig.b1 1++a++b)).data.toList=(Et 2 IVN (Ji (x.list++y.list))).list.flatMap Bt:=by
 obtain⟨ws,hws⟩:∃ ws,ws=x.list++y.list:=⟨_,rfl⟩
 have hlt:∀ w∈ws,w<4294967296:=fun w hm=>by
  rw[hws] at hm
  rcases List.mem_append.1 hm with hm|hm
  ·exact XZ hx w hm
  ·exact XZ hy w hm
 have hlen:ws.length=16:=by rw[hws,List.length_append];rfl
 have hm:(Sig.b1 1++a++b).data.toList=1::ws.flatMap Bt:=by
  rw[Sha.Ao,Sha.Ao,ha,hb,hws,List.flatMap_append]
  rfl
 have hz:(Sig.b1 1++a++b).size=65:=by
  rw[<- Sha.AZ,hm,List.length_cons,Ob,hlen]
 rw[<- hws]
 refine jO _ (Ji ws) 2 ?_ ?_ ?_
 ·rw[Sha.Ao,hm,Oc _ 65 hz]
  unfold Ji
  rw[List.flatMap_append,KD ws 1 (by omega) hlt]
  simp only[List.cons_append,List.append_assoc]
  rfl
 ·unfold Ji
  rw[List.length_append,Ya,hlen]
  rfl
 ·intro w hmem
  unfold Ji at hmem
  rcases List.mem_append.1 hmem with h|h
  ·exact fZ ws 1 (by omega) hlt w h
  ·simp only[List.mem_cons,List.not_mem_nil,or_false] at h
   rcases h with rfl|rfl|rfl|rfl|rfl|rfl|rfl|rfl|rfl|rfl|rfl|rfl|rfl|rfl|rfl<;>simp
def vY (b key c:Nat):V:=KA (wd4 3 key c 0) 15 0 (cmp IVN (Jh b key c))
theorem rO (b key c:Nat)(hb:b<256)(hk:key<128)(hc:c<128):(Sig.chain key c 0 15 (Sig.secret (Ce b) key c)).data.toList=(vY b key c).list.flatMap Bt/\Vok (vY b key c):=
 jP key c hk hc 15 0 _ _ (fQ _ _) (rD b key c hb hk hc) (by omega)
def Wp (b key:Nat):V:=Et 34 IVN (Il ((List.range 67).flatMap fun c=>(vY b key c).list))
theorem ak (b key:Nat):Vok (Wp b key):=Ky _ _ _ XY
theorem jT (b key:Nat)(hb:b<256)(hk:key<128):(Sig.leaf (Ce b) key).data.toList=(Wp b key).list.flatMap Bt:=
 rM _ _ (fun c hc=>(rO b key c hb hk (by omega)).2) (fun c hc=>(rO b key c hb hk (by omega)).1)
end BK
namespace BK
theorem Cj (m a n:Nat)(h:a+m<=n)(f:Nat->Nat)(hf:D f):OZ m a (Ab n f)=Ab m fun i=>f (a+i):=by
 obtain⟨r,hr⟩:∃ r,n=a+(m+r):=⟨n-a-m,by omega⟩
 have e:OZ m a (Ab n f)=(Ab n f >>> (64*a))%18446744073709551616^m:=rfl
 rw[e,hr,Wo _ _ f hf,aj m,Nat.add_mul_mod_self_left]
 exact Nat.mod_eq_of_lt (jS m _ (fun i=>hf _))
def vZ (x:VF)(c:Nat):VF:=VF.of fun j=>x.at (c*64+j)
theorem wC (x:VF)(c:Nat):(vZ x c).fl.map (Ab 64)=[Ab 64 fun j=>x.a (c*64+j),Ab 64 fun j=>x.b (c*64+j),Ab 64 fun j=>x.c (c*64+j),Ab 64 fun j=>x.d (c*64+j),Ab 64 fun j=>x.e (c*64+j),Ab 64 fun j=>x.f (c*64+j),Ab 64 fun j=>x.g (c*64+j),Ab 64 fun j=>x.h (c*64+j)]:=rfl
theorem Wq (x:VF)(hx:x.ok):∀ (n c:Nat),c+n<=67->jl (x.pack 4288) c n=((List.range' c n).flatMap fun c=>(vZ x c).fl).map (Ab 64)
 | 0,c,_=>rfl
 | n + 1,c,h => by
   rw[jl,Wq x hx n (c+1) (by omega),List.range'_succ,List.flatMap_cons,List.map_append,wC]
   refine congrArg (· ++ _) ?_
   have hc:c*64+64<=4288:=by omega
   rw[yL,zbO,zbP,zbQ,zbR,zbS,zbT,zbU,Cj 64 (c*64) 4288 hc _ hx.a.d,Cj 64 (c*64) 4288 hc _ hx.b.d,Cj 64 (c*64) 4288 hc _ hx.c.d,Cj 64 (c*64) 4288 hc _ hx.d.d,Cj 64 (c*64) 4288 hc _ hx.e.d,Cj 64 (c*64) 4288 hc _ hx.f.d,Cj 64 (c*64) 4288 hc _ hx.g.d,Cj 64 (c*64) 4288 hc _ hx.h.d]
theorem QI {s i:Nat}(hs:s+32<=256):sK s i<256:=by unfold sK;omega
theorem yM (i:Nat):kK i<2:=by unfold kK;omega
theorem yN {i:Nat}(h:i<4288):cK i<67:=by unfold cK;omega
theorem mW (s:Nat)(hs:s+32<=256):∃ u:VF,u.ok/\uU (mask 4288) (ones 4288) s=u.pack 4288/\∀ i,i<4288->u.at i=cmp IVN (Jh (sK s i) (kK i) (cK i)):=by
 have w2:W (cut 4288 fun i=>wd4 2 (sK s i) (sK s i) (sK s i)):=rG fun i _=>Kz (by omega) (QI hs) (QI hs) (QI hs)
 have ws:W (cut 4288 fun i=>wd4 (sK s i) (sK s i) (sK s i) (sK s i)):=rG fun i _=>Kz (QI hs) (QI hs) (QI hs) (QI hs)
 have w8:W (cut 4288 fun i=>wd4 (sK s i) (kK i) (cK i) 128):=rG fun i h=>by
  have:=yM i;have:=yN h
  exact Kz (QI hs) (by omega) (by omega) (by omega)
 have w0:W fun _=>0:=jR (by simp)
 obtain⟨u,h1,h2,h3⟩:=OY 4288 VF.iv jQ _ _ _ _ _ _ _ _ _ (fun _=>0) (fun _=>0) (fun _=>0) (fun _=>0) (fun _=>0) (fun _=>0) (fun _=>280) w2 ws ws ws ws ws ws ws w8 w0 w0 w0 w0 w0 w0 (jR (by simp))
 refine⟨u,h1,?_,fun i hi=>?_⟩
 ·unfold uU
  rw[force_eq,RH,Og,Og,Og,CX,Rv,<- Fp 4288]
  exact h2
 ·rw[h3,Yb hi,Yb hi,Yb hi]
  unfold cmp Jh
  rfl
theorem mX (n:Nat)(x y:VF)(hx:x.ok)(hy:y.ok):∃ u:VF,u.ok/\RI (mask n) (ones n) 2 (IVP (ones n)) (shP (mask n) (ones n) (ones n) (x.fl.map (Ab n)++y.fl.map (Ab n))++[0,0,0,0,0,0,0,0,0,0,0,0,0,0,ones n*520])=u.pack n/\
 ∀ i,u.at i=Et 2 IVN (Ji ((x.at i).list++(y.at i).list)):=by
 have hws:∀ f∈x.fl++y.fl,W f:=fun f hf=>by
  rcases List.mem_append.1 hf with hf|hf
  ·exact zac hx f hf
  ·exact zac hy f hf
 have hw:∀ f∈shF (fun _=>1) (x.fl++y.fl)++[fun _=>0,fun _=>0,fun _=>0,fun _=>0,fun _=>0,fun _=>0,fun _=>0,fun _=>0,fun _=>0,fun _=>0,fun _=>0,fun _=>0,fun _=>0,fun _=>0,fun _=>520],W f:=fun f hf=>by
  rcases List.mem_append.1 hf with hf|hf
  ·exact rJ _ _ (fun _=>by decide) hws f hf
  ·simp only[List.mem_cons,List.not_mem_nil,or_false] at hf
   rcases hf with rfl|rfl|rfl|rfl|rfl|rfl|rfl|rfl|rfl|rfl|rfl|rfl|rfl|rfl|rfl<;>exact fun _=>by simp
 obtain⟨u,u1,u2,u3⟩:=PG n 2 VF.iv _ jQ hw
 refine⟨u,u1,?_,fun i=>?_⟩
 ·rw[Rv,<- u2,List.map_append,<- Yc n _ _ hws,List.map_append,CX]
  simp only[List.map_cons,List.map_nil,Fp]
  rfl
 ·rw[u3,List.map_append,gu,List.map_append]
  rfl
def Oh (s:Nat):V:=Et 2 IVN (Ji ((Wp s 0).list++(Wp s 1).list))
theorem jU (x:VF)(i:Nat):∀ l:List Nat,((l.flatMap fun c=>(vZ x c).fl).map (· i))=l.flatMap fun c=>(x.at (c*64+i)).list
 | []=>rfl
 | c :: l => by
   rw[List.flatMap_cons,List.map_append,jU x i l,List.flatMap_cons,<- zbM]
   rfl
theorem ay (l:VF)(hl:l.ok)(a:Nat)(ha:a+32<=64):(l.pack 64).list.map (OZ 32 a)=(VF.of fun j=>l.at (a+j)).fl.map (Ab 32):=by
 rw[zbN]
 unfold VF.pack V.list
 simp only[List.map_cons,List.map_nil]
 rw[Cj 32 a 64 ha _ hl.a.d,Cj 32 a 64 ha _ hl.b.d,Cj 32 a 64 ha _ hl.c.d,Cj 32 a 64 ha _ hl.d.d,Cj 32 a 64 ha _ hl.e.d,Cj 32 a 64 ha _ hl.f.d,Cj 32 a 64 ha _ hl.g.d,Cj 32 a 64 ha _ hl.h.d]
 rfl
theorem mY (s:Nat)(hs:s+32<=256):EY s=Ab 32 fun j=>(Oh (s+j)).a:=by
 obtain⟨v,v1,v2,v3⟩:=mW s hs
 have hB:∀ i,cut 4288 (fun i=>wd4 3 (kK i) (cK i) 0) i+(0+15)<4294967296:=fun i=>by
  unfold cut
  split
  ·rename_i h
   have:=yN h;have:=yM i
   show wd4 3 (kK i) (cK i) 0+(0+15)<_
   unfold wd4
   omega
  ·simp
 obtain⟨x,x1,x2,x3⟩:=Wn 4288 (cut 4288 fun i=>wd4 3 (kK i) (cK i) 0) 15 0 v v1 hB
 have hat:∀ i,i<4288->x.at i=vY (sK s i) (kK i) (cK i):=fun i hi=>by
  rw[x3,v3 i hi,Yb hi]
  rfl
 obtain⟨fs,hfs⟩:∃ fs,fs=(List.range' 0 67).flatMap fun c=>(vZ x c).fl:=⟨_,rfl⟩
 have hw:∀ f∈fs,W f:=fun f hf=>by
  rw[hfs] at hf
  obtain⟨c,_,hf⟩:=List.mem_flatMap.1 hf
  exact zac (rH fun i=>x1.at _) f hf
 obtain⟨l,l1,l2,l3⟩:=mV 64 fs hw
 have yO:∀ i,i<64->l.at i=Wp (s+i%32) (i/32):=fun i hi=>by
  rw[l3,hfs,jU]
  unfold Wp
  refine congrArg (fun x=>Et 34 IVN (Il x)) ?_
  rw[List.range_eq_range',List.flatMap_def,List.flatMap_def]
  refine congrArg List.flatten (List.map_congr_left fun c hc=>congrArg V.list ?_)
  have hc:c<67:=by have:=List.mem_range'_1.1 hc;omega
  rw[hat _ (by omega)]
  have e1:sK s (c*64+i)=s+i%32:=by unfold sK;omega
  have e2:kK (c*64+i)=i/32:=by unfold kK;omega
  have e3:cK (c*64+i)=c:=by unfold cK;omega
  rw[e1,e2,e3]
 obtain⟨z,z1,z2,z3⟩:=mX 32 (VF.of fun j=>l.at (0+j)) (VF.of fun j=>l.at (32+j)) (rH fun i=>l1.at _) (rH fun i=>l1.at _)
 have hr:=Wq x x1 67 0 (by omega)
 rw[<- hfs] at hr
 unfold EY
 rw[force_eq,force_eq,force_eq,GN,GN,Jk,force_eq,force_eq,GN,force_eq,force_eq,Jk,GN,Ev,Ev,Ev,Ev,Ev,Ev,Og]
 rw[show uU (Ab 4288 fun _=>4294967295) (Ab 4288 fun _=>1) s=v.pack 4288 from v2,
  show YV (Ab 4288 fun _=>4294967295) (Ab 4288 fun _=>1) (Ab 4288 (cut 4288 fun i=>wd4 3 (kK i) (cK i) 0)) 15 0 (v.pack 4288)=x.pack 4288 from x2,hr,
  show jk (Ab 64 fun _=>4294967295) (Ab 64 fun _=>1) (fs.map (Ab 64))=l.pack 64 from l2,ay l l1 0 (by omega),ay l l1 32 (by omega)]
 rw[show RI (Ab 32 fun _=>4294967295) (Ab 32 fun _=>1) 2 (IVP (Ab 32 fun _=>1)) (shP (Ab 32 fun _=>4294967295) (Ab 32 fun _=>1) (Ab 32 fun _=>1) ((VF.of fun j=>l.at (0+j)).fl.map (Ab 32)++(VF.of fun j=>l.at (32+j)).fl.map (Ab 32))++[0,0,0,0,0,0,0,0,0,0,0,0,0,0,(Ab 32 fun _=>1)*520])=z.pack 32 from z2,yL]
 refine KE 32 _ _ fun j hj=>?_
 show(z.at j).a=_
 rw[z3,yJ,yJ,Nat.zero_add,yO j (by omega),yO (32+j) (by omega)]
 unfold Oh
 rw[show j%32=j by omega,show j/32=0 by omega,show(32+j)%32=j by omega,show(32+j)/32=1 by omega]
def Fq (g:Nat):Nat:=if g=0 then Xe else if g=1 then Xf else if g=2 then Xg else if g=3 then Xh else if g=4 then Xi else if g=5 then Xj else if g=6 then Xk else Xl
theorem rP (g:Nat)(hg:g<8):EY (32*g)=Fq g:=by
 have k:∀ (a b n g:Nat),n=a->Fq g=b->Nat.beq (EY a) b=true->EY n=Fq g:=fun a b n g h1 h2 h3=>by rw[h1,h2];exact Nat.eq_of_beq_eq_true h3
 rcases(show g=0\/g=1\/g=2\/g=3\/g=4\/g=5\/g=6\/g=7 by omega) with rfl|rfl|rfl|rfl|rfl|rfl|rfl|rfl
 ·exact k 0 Xe _ _ (by omega) (by unfold Fq;simp only[if_true]) oV
 ·exact k 32 Xf _ _ (by omega) (by unfold Fq;simp only[Nat.reduceEqDiff,if_false,if_true]) oW
 ·exact k 64 Xg _ _ (by omega) (by unfold Fq;simp only[Nat.reduceEqDiff,if_false,if_true]) oZ
 ·exact k 96 Xh _ _ (by omega) (by unfold Fq;simp only[Nat.reduceEqDiff,if_false,if_true]) pq
 ·exact k 128 Xi _ _ (by omega) (by unfold Fq;simp only[Nat.reduceEqDiff,if_false,if_true]) pE
 ·exact k 160 Xj _ _ (by omega) (by unfold Fq;simp only[Nat.reduceEqDiff,if_false,if_true]) pF
 ·exact k 192 Xk _ _ (by omega) (by unfold Fq;simp only[Nat.reduceEqDiff,if_false,if_true]) pG
 ·exact k 224 Xl _ _ (by omega) (by unfold Fq;simp only[Nat.reduceEqDiff,if_false,if_true]) pI
theorem TA (s:Nat):Vok (Oh s):=Ky _ _ _ XY
theorem jV (s:Nat)(hs:s<256):(Oh s).a=lane (s%32) (Fq (s/32)):=by
 have h:=mY (32*(s/32)) (by omega)
 rw[<- rP (s/32) (by omega),h,Wm 32 (s%32) _ (fun i=>Nat.lt_trans (TA _).a (by decide)) (by omega),show 32*(s/32)+s%32=s by omega]
theorem rQ:diffs ((List.range 256).map fun s=>lane (s%32) (Fq (s/32)))=true:=by decide +kernel
theorem rR {s t:Nat}(hs:s<256)(ht:t<256)(h:s≠t):(Oh s).a≠(Oh t).a:=by
 have key:∀ s t,s<t->t<256->(Oh s).a≠(Oh t).a:=fun s t hst ht=>by
  have:=ZY _ rQ s t (by simp;omega) (by simp;omega) hst
  simp only[List.getElem_map,List.getElem_range] at this
  rw[jV s (by omega),jV t ht]
  exact this
 rcases Nat.lt_or_ge s t with hst|hge
 ·exact key s t hst ht
 ·exact fun e=>key t s (by omega) hs e.symm
theorem jW (s:Nat)(hs:s<256):(Sig.root (Sig.leaves (Ce s) 2)).data.toList=(Oh s).list.flatMap Bt:=by
 have hl:Sig.leaves (Ce s) 2=[Sig.leaf (Ce s) 0,Sig.leaf (Ce s) 1]:=rfl
 rw[hl,Sig.SE _ _ (Sig.Fh _ _) (Sig.Fh _ _)]
 exact zae _ _ _ _ (ak s 0) (ak s 1) (jT s 0 hs (by omega)) (jT s 1 hs (by omega))
theorem rT {s t:Nat}(hs:s<256)(ht:t<256)(h:s≠t):Sig.root (Sig.leaves (Ce s) 2)≠Sig.root (Sig.leaves (Ce t) 2):=fun e=>by
 have e3:=congrArg (fun x:ByteArray=>x.data.toList) e
 rw[jW s hs,jW t ht] at e3
 have e4:=congrArg (List.take 4) e3
 refine rR hs ht h (mR (TA _).a (TA _).a ?_)
 have q:∀ v:V,(v.list.flatMap Bt).take 4=Bt v.a:=fun v=>by
  unfold V.list
  rw[List.flatMap_cons,List.take_append_of_le_length (by rw[Eu];exact Nat.le_refl _),List.take_of_length_le (by rw[Eu];exact Nat.le_refl _)]
 rwa [q,q] at e4
theorem wD {s t:Nat}(hs:s<256)(ht:t<256)(h:s≠t):Sig.IK (Ce s)≠Sig.IK (Ce t):=fun e=>
 rT hs ht h (by rw[<- Sig.MI,<- Sig.MI,e])
end BK
end
section
open Go Go.RowKit Go.Maps
namespace Nam
def cuts:List UInt8->List (List UInt8)
 | []=>[[]]
 | c::l=>if c=47 then []::cuts l else (c::(cuts l).headD [])::(cuts l).tail
theorem Ws:∀ l:List UInt8,(47:UInt8) ∉ l->cuts l=[l]
 | [],_=>rfl
 | c :: l,h => by
   have h1:c≠47:=fun e=>h (by rw[e];exact List.mem_cons_self)
   have h2:=Ws l (fun hm=>h (List.mem_cons_of_mem _ hm))
   unfold cuts
   rw[if_neg h1,h2]
   rfl
theorem aC (b:List UInt8):∀ a:List UInt8,(47:UInt8) ∉ a->cuts (a++47::b)=a::cuts b
 | [],_=>by simp[cuts]
 | c :: l,h => by
   have h1:c≠47:=fun e=>h (by rw[e];exact List.mem_cons_self)
   have h2:=aC b l (fun hm=>h (List.mem_cons_of_mem _ hm))
   have e:cuts (c::(l++47::b))=(c::(cuts (l++47::b)).headD [])::(cuts (l++47::b)).tail:=by rw[cuts,if_neg h1]
   rw[List.cons_append,e,h2]
   rfl
theorem occ_one (s:List UInt8)(i:Nat):Lib.occAt s [47] i=true↔s[i]? = some 47:=by
 unfold Lib.occAt
 rw[<- List.head?_drop]
 cases s.drop i with
 | nil=>simp
 | cons c l=>simp[List.isPrefixOf];exact⟨fun h=>h.symm,fun h=>h.symm⟩
theorem gy:∀ (n:Nat) (l:List UInt8),l.length<=n->Lib.split l [47]=cuts l:=by
 intro n
 induction n with
 | zero =>
   intro l h
   have:l=[]:=List.eq_nil_of_length_eq_zero (by omega)
   subst this
   rfl
 | succ n ih =>
   intro l h
   rcases Lib.index_spec l [47] with ⟨h1,h2⟩|⟨i,h1,h2,h3,h4⟩
   ·have hm : (47 : UInt8) ∉ l :=by
     intro hm
     obtain⟨j,hj⟩:=List.mem_iff_getElem?.1 hm
     have hjl:j<l.length:=(List.getElem?_eq_some_iff.1 hj).1
     have:=h2 j (by omega)
     rw[(occ_one l j).2 hj] at this
     cases this
    rw[Ws l hm]
    unfold Lib.split
    rw[Lib.count_miss h1]
    rfl
   ·have hi:=(occ_one l i).1 h3
    have hil:i<l.length:=(List.getElem?_eq_some_iff.1 hi).1
    have e:l=l.take i++47::l.drop (i+1):=by
     conv=>lhs;rw[<- List.take_append_drop i l]
     rw[List.drop_eq_getElem_cons hil]
     have:=(List.getElem?_eq_some_iff.1 hi).2
     rw[this]
    have hm:(47:UInt8) ∉ l.take i:=by
     intro hm
     obtain⟨j,hj⟩:=List.mem_iff_getElem?.1 hm
     have hjl:j<(l.take i).length:=(List.getElem?_eq_some_iff.1 hj).1
     rw[List.length_take] at hjl
     have hji:j<i:=by omega
     rw[List.getElem?_take_of_lt hji] at hj
     have:=h4 j hji
     rw[(occ_one l j).2 hj] at this
     cases this
    have e2:cuts l=l.take i::cuts (l.drop (i+1)):=by
     conv=>lhs;rw[e]
     exact aC _ _ hm
    have hne:¬ ((Lib.index l [47] == -1)=true):=by rw[h1,beq_iff_eq];omega
    have ih2:=ih (l.drop (i+1)) (by rw[List.length_drop];omega)
    rw[e2,<- ih2]
    unfold Lib.split
    rw[Lib.count_hit (by simp) h1,Nat.add_comm 1]
    conv=>lhs;unfold Lib.splitK
    rw[if_neg hne,h1]
    simp
end Nam
def IY (w:World):Prop:=∃ m:Int,w.cell? ⟨0,0,none⟩=some (.int .i64 m)
theorem IY.below {w w' : World}(h:IY w)(hb:Below w.heap.size w w'):IY w':=by
 obtain⟨m,h⟩:=h
 exact⟨m,(hb.cell (p:=⟨0,0,none⟩) (block_lt h)).trans h⟩
end
section
open Go
namespace Own
def jX (l:List UInt8):Bool:=(Nam.cuts l).all fun p => !p.isEmpty
def BL (s:ByteArray):Bool:=decide (1<=s.size)&&decide (s.size<=64)&&jX s.data.toList
def belongs (s p:ByteArray):Bool:=decide (s=p) || (p.data.toList++[47]).isPrefixOf s.data.toList
end Own
namespace Own
def Ak (a b:ByteArray):Bool:=Op.bytesLess a.toList b.toList
structure Member where
 name:ByteArray
 pub:ByteArray
deriving DecidableEq
structure Space where
 pre:ByteArray
 members:List Member
 threshold:Int
deriving DecidableEq
structure KeyUse where
 pub:ByteArray
 next:Int
deriving DecidableEq
structure Ar where
 count:Int
 spaces:List Space
 keys:List KeyUse
deriving DecidableEq
structure Aj where
 name:ByteArray
 sig:Sig.T
deriving DecidableEq
def Ar.none:Ar:=⟨0,[],[]⟩
def Fu (s:ByteArray):Bool:=decide (1<=s.size)&&decide (s.size<=32)
def Dl (pre:List Member)(m:Member):Bool:=Fu m.name&&Sig.Bq m.pub && !(pre.any fun x=>decide (x.pub=m.pub))&&(match pre.getLast? with|none=>true|some x=>Ak x.name m.name)
def Aq:List Member->List Member->Bool
 | _,[]=>true
 | pre,m::l=>Dl pre m&&Aq (pre++[m]) l
def Cx (l:List Member):Bool:=decide (1<=l.length)&&decide (l.length<=8)&&Aq [] l
def Bb (s:Space):Bool:=BL s.pre&&Cx s.members&&decide (1<=s.threshold)&&decide (s.threshold<=s.members.length)
def late:Int:=1099511627776
def Av {α : Type}(ok : α -> Bool)(lt : α -> α -> Bool):Option α -> List α -> Bool
 | _,[]=>true
 | p,x::l=>ok x&&(match p with|none=>true|some y=>lt y x)&&Av ok lt (some x) l
def Dt (k:KeyUse):Bool:=Sig.Bq k.pub&&decide (0<=k.next)&&decide (k.next<=2^(k.pub.get! 32).toNat)
def Bz (o:Ar):Bool:=decide (0<=o.count)&&decide (o.count<=late)&&decide (o.spaces.length<=64)&&Av Bb (fun x y=>Ak x.pre y.pre) none o.spaces&&Av Dt (fun x y=>Ak x.pub y.pub) none o.keys
def CY (s:ByteArray):Option Space->List Space->Option Space
 | b,[]=>b
 | b,x::l=>CY s (if belongs s x.pre&&(match b with|none=>true|some y=>decide (y.pre.size<x.pre.size)) then some x else b) l
def authority (o:Ar)(s:ByteArray):Option Space:=if Bz o&&BL s then CY s none o.spaces else none
def Bj (K:List KeyUse)(p:ByteArray):Int:=match K.find? fun k=>decide (k.pub=p) with|none=>0|some k=>k.next
def use:List KeyUse->KeyUse->List KeyUse
 | [],x=>[x]
 | k::l,x=>if Ak k.pub x.pub then k::use l x else if k.pub=x.pub then x::l else x::k::l
def find (l:List Member)(n:ByteArray):Option Member:=l.find? fun m=>decide (m.name=n)
def Bp (s:Space)(msg:ByteArray):List ByteArray->List KeyUse->List Aj->Except Int (List KeyUse)
 | _,K,[]=>.ok K
 | seen,K,a :: l => match find s.members a.name with
   | none=>.error 6
   | some m=>if seen.any (fun x=>decide (x=a.name)) then .error 5 else if Sig.verify m.pub msg a.sig then (if a.sig.index<Bj K m.pub then .error 8 else Bp s msg (a.name::seen) (use K ⟨m.pub,a.sig.index+1⟩) l) else .error 18
structure zbW where
 name:ByteArray
 pub:ByteArray
 agrees:Bool
deriving DecidableEq
structure rU where
 id:Int
 path:ByteArray
 digest:ByteArray
 opened:Int
 expires:Int
 zbX:List zbW
deriving DecidableEq
end Own
namespace Own
structure Op where
 kind:Int
 pre:ByteArray
 members:List Member
 threshold:Int
 name:ByteArray
 pub:ByteArray
 Aa:List Aj
def Op.none:Op:=⟨0,⟨#[]⟩,[],0,⟨#[]⟩,⟨#[]⟩,[]⟩
def Wt (op:Op):Bool:=if 3<=op.kind then decide (op.members.length=0)&&decide (op.threshold=0) else Cx op.members&&decide (1<=op.threshold)&&decide (op.threshold<=op.members.length)
def opName (op:Op):Bool:=if op.kind=4 then Fu op.name&&Sig.Bq op.pub else decide (op.name=⟨#[]⟩)&&decide (op.pub=⟨#[]⟩)
def Ez (op:Op):Bool:=decide (0<=op.kind)&&decide (op.kind<=4)&&BL op.pre&&decide (op.Aa.length<=8)&&Wt op&&opName op
def Ba (m:Member):ByteArray:=Cod.text m.name++Cod.text m.pub
def Dj (op:Op):ByteArray:=Cod.uns op.kind.toNat++(Cod.text op.pre++(Cod.uns op.members.length++(Cod.cat (op.members.map Ba)++(Cod.uns op.threshold.toNat++(Cod.text op.name++Cod.text op.pub)))))
def Bc (o:Ar)(op:Op):ByteArray × Int:=if (decide (0<=o.count)&&decide (o.count<=late)&&Ez op)=true then (Sig.b1 12++(Cod.uns o.count.toNat++Dj op),0) else (⟨#[]⟩,1)
def D8 (s:Sig.T):Bool:=decide (0<=s.index)&&decide (s.chains.length=67)&&decide (s.path.length<=6)&&s.chains.all Sig.digest&&s.path.all Sig.digest
def BF (s:Sig.T):ByteArray:=Cod.uns s.index.toNat++(Cod.texts s.chains++Cod.texts s.path)
def AL (a:Aj):ByteArray:=Cod.text a.name++BF a.sig
def Gh (op:Op):Bool:=Ez op&&op.Aa.all fun a=>D8 a.sig
def Du (op:Op):ByteArray × Int:=if Gh op=true then (Dj op++(Cod.uns op.Aa.length++Cod.cat (op.Aa.map AL)),0) else (⟨#[]⟩,1)
def J2 (s:ByteArray):Nat->Nat->Option (List Member × Nat)
 | 0,a=>some ([],a)
 | n + 1,a => match Cod.rdT s a with
   | none=>none
   | some (nm,b) => match Cod.rdT s b with
     | none=>none
     | some (pb,c) => match J2 s n c with
       | none=>none
       | some (l,d)=>some (⟨nm,pb⟩::l,d)
def Wu (s:ByteArray)(a:Nat):Option (Sig.T × Nat):=match Cod.rdN s a with
 | none=>none
 | some (i,b) => match Cod.Bu s b with
   | none=>none
   | some (ch,c) => match Cod.Bu s c with
     | none=>none
     | some (pa,d)=>some (⟨i,ch,pa⟩,d)
def Oi (s:ByteArray):Nat->Nat->Option (List Aj × Nat)
 | 0,a=>some ([],a)
 | n + 1,a => match Cod.rdT s a with
   | none=>none
   | some (nm,b) => match Wu s b with
     | none=>none
     | some (sg,c) => match Oi s n c with
       | none=>none
       | some (l,d)=>some (⟨nm,sg⟩::l,d)
def mZ (s:ByteArray):Option (Op × Nat):=match Cod.rdN s 0 with
 | none=>none
 | some (k,a1) => match Cod.rdT s a1 with
   | none=>none
   | some (pre,a2) => match Cod.rdN s a2 with
     | none=>none
     | some (n,a3) => if 8 < n then none else match J2 s n a3 with
       | none=>none
       | some (ms,a4) => match Cod.rdN s a4 with
         | none=>none
         | some (t,a5) => match Cod.rdT s a5 with
           | none=>none
           | some (nm,a6) => match Cod.rdT s a6 with
             | none=>none
             | some (pb,a7) => match Cod.rdN s a7 with
               | none=>none
               | some (m,a8) => if 8 < m then none else match Oi s m a8 with
                 | none=>none
                 | some (aps,a9)=>some (⟨k,pre,ms,t,nm,pb,aps⟩,a9)
def Oj (s:ByteArray):Op × Int:=match mZ s with
 | none=>(.none,9)
 | some (op,e)=>if (decide (e=s.size)&&Gh op)=true then (op,0) else (.none,9)
/-! ### what is read has just these bytes -/
theorem Yd (s:ByteArray):s++⟨#[]⟩=s:=by
 apply Sha.BI
 rw[Sha.Ao]
 simp
end Own
theorem Wv:∀ x:List UInt8,Op.bytesLess x x=false
 | []=>rfl
 | a :: x => by
   unfold Op.bytesLess
   rw[Wv x]
   simp
theorem aD:∀ x y z:List UInt8,Op.bytesLess x y=true->Op.bytesLess y z=true->Op.bytesLess x z=true
 | _,[],_,h,_=>by unfold Op.bytesLess at h;cases h
 | _,_::_,[],_,h=>by unfold Op.bytesLess at h;cases h
 | [],_::_,_::_,_,_=>rfl
 | a :: x,b :: y,c :: z,h1,h2 => by
   unfold Op.bytesLess at h1 h2 ⊢
   simp only[Bool.or_eq_true,Bool.and_eq_true,decide_eq_true_eq,beq_iff_eq] at h1 h2 ⊢
   rcases h1 with h1|⟨rfl,h1⟩
   ·rcases h2 with h2|⟨rfl,h2⟩
    ·exact .inl (UInt8.lt_trans h1 h2)
    ·exact .inl h1
   ·rcases h2 with h2|⟨rfl,h2⟩
    ·exact .inl h2
    ·exact .inr ⟨rfl,aD x y z h1 h2⟩
theorem rV:∀ x y:List UInt8,Op.bytesLess x y=false->Op.bytesLess y x=false->x=y
 | [],[],_,_=>rfl
 | [],_::_,h,_=>by unfold Op.bytesLess at h;cases h
 | _::_,[],_,h=>by unfold Op.bytesLess at h;cases h
 | a :: x,b :: y,h1,h2 => by
   unfold Op.bytesLess at h1 h2
   simp only[Bool.or_eq_false_iff,Bool.and_eq_false_iff,decide_eq_false_iff_not,beq_eq_false_iff_ne] at h1 h2
   obtain⟨h1a,h1b⟩:=h1
   obtain⟨h2a,h2b⟩:=h2
   have e:a=b:=UInt8.le_antisymm (UInt8.not_lt.1 h2a) (UInt8.not_lt.1 h1a)
   subst e
   rw[rV x y (h1b.resolve_left (fun h=>h rfl)) (h2b.resolve_left (fun h=>h rfl))]
namespace Own
theorem Ca (x:ByteArray):Ak x x=false:=Wv _
theorem D9 {x y z:ByteArray}(h1:Ak x y=true)(h2:Ak y z=true):Ak x z=true:=aD _ _ _ h1 h2
theorem toList_inj {x y:ByteArray}(h:x.toList=y.toList):x=y:=by
 rw[ByteArray.toList_eq,ByteArray.toList_eq] at h
 exact Sha.BI h
theorem ng {x y:ByteArray}(h1:Ak x y=false)(h2:Ak y x=false):x=y:=toList_inj (rV _ _ h1 h2)
section
variable {α : Type} (f : α -> ByteArray)
def Srt (l:List α):Prop:=l.Pairwise fun x y=>Ak (f x) (f y)=true
def posB (t:ByteArray):List α -> Nat
 | []=>0
 | x::l=>if Ak (f x) t then posB t l+1 else 0
def Dw (x : α):List α -> List α
 | []=>[x]
 | y::l=>if Ak (f y) (f x) then y::Dw x l else if f y=f x then x::l else x::y::l
variable {f}
theorem Ol (t:ByteArray):∀ l:List α,posB f t l<=l.length
 | []=>Nat.le_refl _
 | x :: l => by
   unfold posB
   split
   ·have:=Ol t l;simp;omega
   ·simp
theorem Ww (t:ByteArray):∀ (l:List α) (k:Nat) (_:k<posB f t l) (h:k<l.length),Ak (f l[k]) t=true
 | [],k,hk,h=>by cases h
 | x :: l,k,hk,h => by
   unfold posB at hk
   split at hk
   ·rename_i hx
    cases k with
    | zero=>exact hx
    | succ k=>exact Ww t l k (by omega) (by simpa using h)
   ·omega
theorem QJ (t:ByteArray){l:List α}{i:Nat}(hi:i<=l.length)(h1:∀ k (h:k<l.length),k<i->Ak (f l[k]) t=true)(h2:∀ k (h:k<l.length),i<=k->Ak (f l[k]) t=false):i=posB f t l:=by
 have hp:=Ol (f:=f) t l
 rcases Nat.lt_trichotomy i (posB f t l) with h|h|h
 ·have a:=Ww t l i h (by omega)
  have b:=h2 i (by omega) (Nat.le_refl _)
  rw[a] at b;cases b
 ·exact h
 ·have a:=h1 (posB f t l) (by omega) h
  exfalso
  have key:∀ (l:List α),posB f t l<l.length->∀ (hh:posB f t l<l.length),Ak (f l[posB f t l]) t=false:=by
   intro l
   induction l with
   | nil=>intro h;cases h
   | cons x l ih =>
     intro hlt hh
     by_cases hx:Ak (f x) t=true
     ·have e:posB f t (x::l)=posB f t l+1:=by rw[posB,if_pos hx]
      have hl2:posB f t l<l.length:=by rw[e] at hlt;simpa using hlt
      have:=ih hl2 hl2
      simp only[e,List.getElem_cons_succ]
      exact this
     ·have e:posB f t (x::l)=0:=by rw[posB,if_neg hx]
      simp only[e,List.getElem_cons_zero]
      simpa using hx
  have b:=key l (by omega) (by omega)
  rw[a] at b
  cases b
def Dx (f : α -> ByteArray)(t:ByteArray)(l:List α):Bool:=match l[posB f t l]? with
 | none=>false
 | some y=>decide (f y=t)
theorem Om (x : α):∀ l:List α,Dw f x l=l.take (posB f (f x) l)++x::l.drop (posB f (f x) l+if Dx f (f x) l then 1 else 0)
 | []=>rfl
 | y :: l => by
   by_cases h:Ak (f y) (f x)=true
   ·have e:posB f (f x) (y::l)=posB f (f x) l+1:=by rw[posB,if_pos h]
    have eh:Dx f (f x) (y::l)=Dx f (f x) l:=by unfold Dx;rw[e];rfl
    rw[Dw,if_pos h,Om x l,e,eh,List.take_succ_cons,Nat.add_right_comm,List.drop_succ_cons]
    rfl
   ·have e:posB f (f x) (y::l)=0:=by rw[posB,if_neg h]
    have eh:Dx f (f x) (y::l)=decide (f y=f x):=by unfold Dx;rw[e];rfl
    rw[Dw,if_neg h,e,eh]
    by_cases h2:f y=f x
    ·rw[if_pos h2,decide_eq_true h2];rfl
    ·rw[if_neg h2,decide_eq_false h2];rfl
theorem Oo (x : α):∀ (l:List α) (y : α),y∈Dw f x l->y=x\/y∈l
 | [],y,h=>.inl (by simpa [Dw] using h)
 | z :: l,y,h => by
   unfold Dw at h
   split at h
   ·rcases List.mem_cons.1 h with rfl|h
    ·exact .inr List.mem_cons_self
    ·exact(Oo x l y h).imp id (List.mem_cons_of_mem _)
   ·split at h
    ·exact(List.mem_cons.1 h).imp id (List.mem_cons_of_mem _)
    ·exact List.mem_cons.1 h
theorem Srt.put (x : α):∀ {l:List α},Srt f l->Srt f (Dw f x l)
 | [],_=>List.pairwise_singleton _ _
 | y :: l,h => by
   obtain⟨h1,h2⟩:=List.pairwise_cons.1 h
   unfold Dw
   split
   ·rename_i hy
    refine List.pairwise_cons.2 ⟨fun z hz=>?_,Srt.put x h2⟩
    rcases Oo x l z hz with rfl|hz
    ·exact hy
    ·exact h1 z hz
   ·rename_i hy
    have hy' : Ak (f y) (f x)=false:=by simpa using hy
    split
    ·rename_i he
     exact List.pairwise_cons.2 ⟨fun z hz=>by rw[<- he];exact h1 z hz,h2⟩
    ·rename_i he
     have hxy:Ak (f x) (f y)=true:=by
      cases hc:Ak (f x) (f y) with
      | true=>rfl
      | false=>exact absurd (ng hy' hc) he
     refine List.pairwise_cons.2 ⟨fun z hz=>?_,h⟩
     rcases List.mem_cons.1 hz with rfl|hz
     ·exact hxy
     ·exact D9 hxy (h1 z hz)
theorem J3 {ok : α -> Bool} : ∀ {l:List α} {p:Option α},Av ok (fun x y=>Ak (f x) (f y)) p l=true->Srt f l/\∀ q,p=some q->∀ x∈l,Ak (f q) (f x)=true
 | [],_,_=>⟨List.Pairwise.nil,fun _ _ _ h=>by cases h⟩
 | y :: l,p,h => by
   have h' : ((ok y&&(match p with|none=>true|some z=>Ak (f z) (f y)))&&Av ok (fun x y=>Ak (f x) (f y)) (some y) l)=true:=by cases p<;>exact h
   obtain⟨h1,h2⟩:=Bool.and_eq_true_iff.1 h'
   obtain⟨hs,hq⟩:=J3 h2
   refine⟨List.pairwise_cons.2 ⟨hq y rfl,hs⟩,?_⟩
   rintro q rfl x hx
   have hqy:Ak (f q) (f y)=true:=(Bool.and_eq_true_iff.1 h1).2
   rcases List.mem_cons.1 hx with rfl|hx
   ·exact hqy
   ·exact D9 hqy (hq y rfl x hx)
end
theorem FH:∀ (l:List KeyUse) (x:KeyUse),use l x=Dw KeyUse.pub x l
 | [],_=>rfl
 | y::l,x=>by unfold use Dw;rw[FH l x]
theorem Nb (p:ByteArray):∀ {l:List KeyUse},Srt KeyUse.pub l->Bj l p=if Dx KeyUse.pub p l then (match l[posB KeyUse.pub p l]? with|none=>0|some k=>k.next) else 0
 | [],_=>rfl
 | y :: l,h => by
   obtain⟨h1,h2⟩:=List.pairwise_cons.1 h
   have ih:=Nb p h2
   by_cases hy:Ak y.pub p=true
   ·have e:posB KeyUse.pub p (y::l)=posB KeyUse.pub p l+1:=by rw[posB,if_pos hy]
    have eh:Dx KeyUse.pub p (y::l)=Dx KeyUse.pub p l:=by unfold Dx;rw[e];rfl
    have hn:¬ y.pub=p:=fun e=>by rw[e,Ca] at hy;cases hy
    have e2:Bj (y::l) p=Bj l p:=by
     unfold Bj
     rw[List.find?_cons_of_neg (by simpa using hn)]
    rw[e2,ih,eh,e]
    rfl
   ·have e:posB KeyUse.pub p (y::l)=0:=by rw[posB,if_neg hy]
    have eh:Dx KeyUse.pub p (y::l)=decide (y.pub=p):=by unfold Dx;rw[e];rfl
    rw[eh,e]
    by_cases he:y.pub=p
    ·rw[decide_eq_true he]
     unfold Bj
     rw[List.find?_cons_of_pos (by simpa using he)]
     rfl
    ·rw[decide_eq_false he]
     have:l.find? (fun k=>decide (k.pub=p))=none:=by
      rw[List.find?_eq_none]
      intro z hz hp
      have hz2:z.pub=p:=of_decide_eq_true hp
      have h3:=h1 z hz
      rw[hz2] at h3
      exact hy h3
     unfold Bj
     rw[List.find?_cons_of_neg (by simpa using he),this]
     rfl
end Own
end
end Go.Proofs.YtjlmglgmcekmhaaGreatDoor
