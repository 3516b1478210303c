/- The reference's hash trees: roots and inclusion proofs. -/
import Derived.OrdersIn
import Derived.RangeFuncCalls
import Derived.TacticsIn
import Derived.RangeFuncNested
import Derived.RangeFuncBound
import Derived.RangeFuncLeaves
import Derived.OwnWalkIn
import Derived.TacticsInMore
import Derived.LoopNIn
import Derived.LoopIn
import Derived.Lib.Builder
import Derived.Lib.FrozenHead
import Derived.Lib.AppendStr
import Derived.Lib.Split
import Derived.Lib.SplitLaws
import Derived.Laws.EntriesVeiled
import Derived.Test.YtjlmglgmcekmhaaGreatDoorShkC2
set_option linter.unusedVariables false
set_option linter.unusedSimpArgs false
set_option maxRecDepth 100000
set_option maxHeartbeats 8000000
namespace Go.Proofs.YtjlmglgmcekmhaaGreatDoor
section
open Go Go.RowKit Go.Maps
theorem gU (f:Nat)(l:List ByteArray)(h:2<=l.length):Sig.FP (f+1) l=Sig.node (Sig.FP f (l.take (Sig.split l.length))) (Sig.FP f (l.drop (Sig.split l.length))):=by
 match l,h with
 | x::y::l,_=>rfl
theorem Al.qN {w:World}{a:Option Addr}{n c c' k:Nat}{xs:List ByteArray}(h:Al w (.slice a n c) xs)(hk:k<=xs.length):Al w (.slice a k c') (xs.take k):=by
 obtain⟨a',c2,he,h0|⟨b,o,ha,hc⟩⟩:=h
 ·cases he
  obtain rfl:k=0:=by omega
  exact⟨a,c',by simp,.inl (by simp)⟩
 ·cases he
  refine⟨a,c',by simp[Nat.min_eq_left hk],.inr ⟨b,o,ha,fun j hj=>?_⟩⟩
  rw[List.length_take,Nat.min_eq_left hk] at hj
  rw[hc j (by omega),List.getD_eq_getElem?_getD,List.getD_eq_getElem?_getD,List.getElem?_take_of_lt hj]
theorem Al.qO {w:World}{b o n c c' k m:Nat}{xs:List ByteArray}(h:Al w (.slice (some ⟨b,o,none⟩) n c) xs)(hm:m=xs.length-k):Al w (.slice (some ⟨b,o+k,none⟩) m c') (xs.drop k):=by
 refine⟨some ⟨b,o+k,none⟩,c',by rw[hm,List.length_drop],.inr ⟨b,o+k,rfl,fun j hj=>?_⟩⟩
 rw[List.length_drop] at hj
 have:=h.cellAt (k:=k+j) (by omega)
 rw[show o+k+j=o+(k+j) by omega,this,List.getD_eq_getElem?_getD,List.getD_eq_getElem?_getD,List.getElem?_drop]
theorem Ph (v:Value)(w:World)(h:Al w v []):
 Calls Tryz.prog 194 #[v] w fun e w' => e=.returned (.string (Sha.sha ⟨#[]⟩))/\Below w.heap.size w w':=by
 obtain⟨a,c,rfl⟩:=h.len
 go_enter Tryz.func194,Tryz.ntmps194
 go_wp2_with fail
 refine(Ig _ w (by decide)).mono ?_
 rintro e w1 ⟨rfl,hb⟩
 go_wp2_with fail
 go_ret
 exact⟨rfl,hb⟩
theorem Pj (v:Value)(x:ByteArray)(w:World)(h:Al w v [x]):
 Calls Tryz.prog 194 #[v] w fun e w' => e=.returned (.string x)/\Below w.heap.size w w':=by
 obtain⟨a,c,rfl⟩:=h.len
 obtain⟨b,o,rfl⟩:=h.addrOf (k:=0) (by simp)
 have hc:w.cell? ⟨b,o,none⟩=some (.string x):=h.cellAt (k:=0) (by simp)
 go_enter Tryz.func194,Tryz.ntmps194
 go_wp2_with fail
 go_ret
 exact⟨rfl,Below.refl _ _⟩
theorem J9:∀ (f:Nat) (v:Value) (p:List ByteArray) (w:World),p.length<=f+1->p.length<=4096->Al w v p->Eb v->
 Calls Tryz.prog 194 #[v] w fun e w' => e=.returned (.string (Sig.FP f p))/\Below w.heap.size w w':=by
 intro f
 induction f with
 | zero =>
   intro v p w hf hp h hcap
   match p,hf,h with
   | [],_,h=>exact Ph v w h
   | [x],_,h=>exact Pj v x w h
   | _::_::_,hf,_=>simp at hf
 | succ f ih =>
   intro v p w hf hp h hcap
   by_cases h0:p=[]
   ·subst h0
    exact Ph v w h
   by_cases h1:p.length=1
   ·obtain⟨x,rfl⟩:=List.length_eq_one_iff.1 h1
    exact Pj v x w h
   obtain⟨a,c,rfl⟩:=h.len
   obtain⟨_,_,_,he,hcl⟩:=hcap
   cases he
   have h00:p.length≠0:=fun e=>h0 (List.eq_nil_of_length_eq_zero e)
   have h2:2<=p.length:=by omega
   have hrr:=gU f p h2
   obtain⟨b,o,ha⟩:=h.addrOf (k:=0) (by omega)
   subst ha
   have d0:((p.length:Int)==0)=false:=by rw[beq_eq_false_iff_ne];omega
   have d1:((p.length:Int)==1)=false:=by rw[beq_eq_false_iff_ne];omega
   have hsp:=Sig.QK h2
   have hs0:=Sig.NK p.length
   have hk1:=h.qN (k:=Sig.split p.length) (c':=c) (by omega)
   have hk2:=h.qO (k:=Sig.split p.length) (m:=p.length-Sig.split p.length) (c':=c-Sig.split p.length) rfl
   have hl1:(p.take (Sig.split p.length)).length=Sig.split p.length:=by rw[List.length_take];omega
   have hl2:(p.drop (Sig.split p.length)).length=p.length-Sig.split p.length:=by rw[List.length_drop]
   obtain⟨P1,hP1⟩:∃ P1,P1=p.take (Sig.split p.length):=⟨_,rfl⟩
   obtain⟨P2,hP2⟩:∃ P2,P2=p.drop (Sig.split p.length):=⟨_,rfl⟩
   rw[<- hP1] at hrr hk1 hl1
   rw[<- hP2] at hrr hk2 hl2
   obtain⟨R,hR⟩:∃ R,R=Sig.FP (f+1) p:=⟨_,rfl⟩
   rw[<- hR] at hrr ⊢
   have hsplit:=fun w=>Mv p.length w h2 (by omega)
   obtain⟨K,hK⟩:∃ K,K=Sig.split p.length:=⟨_,rfl⟩
   rw[<- hK] at hsp hs0 hk1 hk2 hl1 hl2 hsplit
   obtain⟨N,hN⟩:∃ N,N=p.length:=⟨_,rfl⟩
   rw[<- hN] at hsp hcl hf hp hk2 hl2 d0 d1 h2 hsplit ⊢
   have HR:=zh hrr;have IH:=zh ih;have H1:=zh hk1;have H2:=zh hk2;have HL1:=zh hl1;have HL2:=zh hl2;have HS:=zh hsplit
   clear hrr ih hk1 hk2 hl1 hl2 hR hP1 hP2 h h0 h1 h00 hK hN hsplit
   go_enter Tryz.func194,Tryz.ntmps194
   go_wp2_with fail
   refine(HS.out w).mono ?_
   rintro e w1 ⟨rfl,rfl⟩
   go_wp2_with fail
   refine Lex.zl ?_
   go_wp2_with fail
   refine(IH.out _ P1 _ (by rw[HL1.out];omega) (by rw[HL1.out];omega) (show Al w1.drew _ _ from H1.out) ⟨_,_,_,rfl,by omega⟩).mono ?_
   rintro e w2 ⟨rfl,hb⟩
   have hb2:Below w1.heap.size w1 w2:=((Below.refl w1.heap.size w1).drew).trans hb
   have HB:=zh hb2;have H2':=zh (H2.out.below hb2);clear hb hb2
   go_wp2_with fail
   refine(IH.out _ P2 _ (by rw[HL2.out];omega) (by rw[HL2.out];omega) H2'.out ⟨_,_,_,rfl,by omega⟩).mono ?_
   rintro e w3 ⟨rfl,hb⟩
   have HB3:=zh (HB.out.trans (hb.mono HB.out.size));clear hb
   go_wp2_with fail
   refine(Yc _ _ w3).mono ?_
   rintro e w4 ⟨rfl,hb⟩
   have HB4:=zh (HB3.out.trans (hb.mono HB3.out.size));clear hb
   go_wp2_with fail
   refine Lex.ze ?_
   go_wp2_with fail
   go_ret
   rw[HR.out]
   exact⟨rfl,HB4.out⟩
theorem Mw:Nonempty (Fu Tryz.prog 68 9 1 16):=Ec (z:=.string ⟨#[]⟩) Tryz.underlying68 (by kernel_rfl) rfl (by omega)
def Ev:Nat->List ByteArray->Nat->List ByteArray
 | 0,_,_=>[]
 | f + 1,l,i => if l.length = 1 then [] else if i < Sig.split l.length then Ev f (l.take (Sig.split l.length)) i ++ [Sig.FP f (l.drop (Sig.split l.length))]
     else Ev f (l.drop (Sig.split l.length)) (i-Sig.split l.length)++[Sig.FP f (l.take (Sig.split l.length))]
theorem NU:∀ (f:Nat) (l:List ByteArray) (i:Nat),(Ev f l i).length<=f
 | 0,_,_=>Nat.le_refl _
 | f + 1,l,i => by
   unfold Ev
   split
   ·exact Nat.zero_le _
   ·split<;>rw[List.length_append,List.length_singleton]<;>exact Nat.succ_le_succ (NU f _ _)
theorem NY:∀ (f:Nat) (v:Value) (p:List ByteArray) (i:Nat) (w:World),1<=p.length->p.length<=f->f<=4096->i<p.length->Al w v p->Eb v->
 Calls Tryz.prog 192 #[v,.int .i64 i] w fun e w' => ∃ u,e=.returned u/\w'.ownsRow w.heap.size 9 1 u (Ev f p i).length ((Ev f p i).map Value.string)/\Below w.heap.size w w':=by
 intro f
 induction f with
 | zero=>intro v p i w h1 h2;omega
 | succ f ih =>
   intro v p i w h1 hf hff hi h hcap
   obtain⟨a,c,rfl⟩:=h.len
   obtain⟨_,_,_,he,hcl⟩:=hcap
   cases he
   by_cases hp1:p.length=1
   ·obtain⟨x,rfl⟩:=List.length_eq_one_iff.1 hp1
    clear ih h
    go_enter Tryz.func192,Tryz.ntmps192
    go_wp2_with fail
    go_ret
    exact⟨_,rfl,World.ownsRow_nil _ _ _ _,Below.refl _ _⟩
   have h2:2<=p.length:=by omega
   obtain⟨R,hR⟩:∃ R,R=Ev (f+1) p i:=⟨_,rfl⟩
   rw[<- hR]
   obtain⟨b,o,ha⟩:=h.addrOf (k:=0) (by omega)
   subst ha
   have d1:((p.length:Int)==1)=false:=by rw[beq_eq_false_iff_ne];omega
   have hsp:=Sig.QK h2
   have hs0:=Sig.NK p.length
   have hk1:=h.qN (k:=Sig.split p.length) (c':=c) (by omega)
   have hk2:=h.qO (k:=Sig.split p.length) (m:=p.length-Sig.split p.length) (c':=c-Sig.split p.length) rfl
   have hl1:(p.take (Sig.split p.length)).length=Sig.split p.length:=by rw[List.length_take];omega
   have hl2:(p.drop (Sig.split p.length)).length=p.length-Sig.split p.length:=by rw[List.length_drop]
   unfold Ev at hR
   rw[if_neg hp1] at hR
   obtain⟨P1,hP1⟩:∃ P1,P1=p.take (Sig.split p.length):=⟨_,rfl⟩
   obtain⟨P2,hP2⟩:∃ P2,P2=p.drop (Sig.split p.length):=⟨_,rfl⟩
   rw[<- hP1] at hR hk1 hl1
   rw[<- hP2] at hR hk2 hl2
   have hsplit:=fun w=>Mv p.length w h2 (by omega)
   obtain⟨K,hK⟩:∃ K,K=Sig.split p.length:=⟨_,rfl⟩
   rw[<- hK] at hsp hs0 hk1 hk2 hl1 hl2 hsplit hR
   obtain⟨N,hN⟩:∃ N,N=p.length:=⟨_,rfl⟩
   rw[<- hN] at hsp hcl hf hi hk2 hl2 d1 h1 h2 hsplit ⊢
   have HR:=zh hR;have IH:=zh ih;have H1:=zh hk1;have H2:=zh hk2;have HL1:=zh hl1;have HL2:=zh hl2;have HS:=zh hsplit
   clear hR ih hk1 hk2 hl1 hl2 hP1 hP2 h hp1 hK hN hsplit
   go_enter Tryz.func192,Tryz.ntmps192
   go_wp2_with fail
   refine(HS.out w).mono ?_
   rintro e w1 ⟨rfl,rfl⟩
   by_cases hik:i<K
   ·have dk:decide ((i:Int)<K)=true:=by simp;omega
    rw[if_pos hik] at HR
    go_wp2_with fail
    refine Lex.zl ?_
    go_wp2_with fail
    refine(IH.out _ P1 i _ (by rw[HL1.out];omega) (by rw[HL1.out];omega) (by omega) (by rw[HL1.out];omega) (show Al w1.drew _ _ from H1.out) ⟨_,_,_,rfl,by omega⟩).mono ?_
    rintro e w2 ⟨u,rfl,ho,hb⟩
    have hb2:Below w1.heap.size w1 w2:=((Below.refl w1.heap.size w1).drew).trans hb
    have HB:=zh hb2;have H2':=zh (H2.out.below hb2);have HO:=zh ho;clear hb hb2 ho
    go_wp2_with fail
    refine(J9 f _ P2 _ (by rw[HL2.out];omega) (by rw[HL2.out];omega) H2'.out ⟨_,_,_,rfl,by omega⟩).mono ?_
    rintro e w3 ⟨rfl,hb⟩
    have HO3:=zh (own_below HO.out hb);have HB3:=zh (HB.out.trans (hb.mono HB.out.size));clear hb
    obtain⟨rt,hrt⟩:∃ rt,rt=Sig.FP f P2:=⟨_,rfl⟩
    rw[<- hrt] at HR ⊢
    have hil:=NU f P1 i
    obtain⟨L,hL⟩:∃ L,L=Ev f P1 i:=⟨_,rfl⟩
    rw[<- hL] at HR HO3 hil
    clear hrt hL
    obtain⟨ga,gm,gc,rfl⟩:=Ac HO3.out
    go_wp2_with (at_builtin;go_must (refine Ah Mw rfl _ _ rfl w1.heap.size L.length _ _ rfl (HO3.out.alloc _) (.slice (some ⟨w3.heap.size,0,none⟩) 1 1) 1 [.string rt] rfl (Cx w3 9 #[.string rt] 1 1 1 rfl) (by intro u hu;simp at hu;subst hu;rfl) (by omega) (by omega) (by have:=HB3.out.size;simp;omega) ?_);intro v6 w6 ho6 hg6 _;have hb6:=Bh (HB3.out.alloc HB3.out.size _) (by have:=HB3.out.size;simp;omega) HO3.out hg6;have HO6:=zh ho6;have HB6:=zh hb6;clear ho6 hg6 hb6)
    refine Lex.ze ?_
    go_wp2_with fail
    go_ret
    refine⟨v6,rfl,?_,HB6.out⟩
    rw[HR.out,List.length_append,List.map_append]
    exact HO6.out
   ·have dk:decide ((i:Int)<K)=false:=by simp;omega
    rw[if_neg hik] at HR
    have e1:(i:Int)-K=((i-K:Nat):Int):=by omega
    go_wp2_with fail
    refine Lex.zl ?_
    go_wp2_with fail
    clear e1
    refine(IH.out _ P2 (i-K) _ (by rw[HL2.out];omega) (by rw[HL2.out];omega) (by omega) (by rw[HL2.out];omega) (show Al w1.drew _ _ from H2.out) ⟨_,_,_,rfl,by omega⟩).mono ?_
    rintro e w2 ⟨u,rfl,ho,hb⟩
    have hb2:Below w1.heap.size w1 w2:=((Below.refl w1.heap.size w1).drew).trans hb
    have HB:=zh hb2;have H1':=zh (H1.out.below hb2);have HO:=zh ho;clear hb hb2 ho
    go_wp2_with fail
    refine(J9 f _ P1 _ (by rw[HL1.out];omega) (by rw[HL1.out];omega) H1'.out ⟨_,_,_,rfl,by omega⟩).mono ?_
    rintro e w3 ⟨rfl,hb⟩
    have HO3:=zh (own_below HO.out hb);have HB3:=zh (HB.out.trans (hb.mono HB.out.size));clear hb
    obtain⟨rt,hrt⟩:∃ rt,rt=Sig.FP f P1:=⟨_,rfl⟩
    rw[<- hrt] at HR ⊢
    have hil:=NU f P2 (i-K)
    obtain⟨L,hL⟩:∃ L,L=Ev f P2 (i-K):=⟨_,rfl⟩
    rw[<- hL] at HR HO3 hil
    clear hrt hL
    obtain⟨ga,gm,gc,rfl⟩:=Ac HO3.out
    go_wp2_with (at_builtin;go_must (refine Ah Mw rfl _ _ rfl w1.heap.size L.length _ _ rfl (HO3.out.alloc _) (.slice (some ⟨w3.heap.size,0,none⟩) 1 1) 1 [.string rt] rfl (Cx w3 9 #[.string rt] 1 1 1 rfl) (by intro u hu;simp at hu;subst hu;rfl) (by omega) (by omega) (by have:=HB3.out.size;simp;omega) ?_);intro v6 w6 ho6 hg6 _;have hb6:=Bh (HB3.out.alloc HB3.out.size _) (by have:=HB3.out.size;simp;omega) HO3.out hg6;have HO6:=zh ho6;have HB6:=zh hb6;clear ho6 hg6 hb6)
    refine Lex.ze ?_
    go_wp2_with fail
    go_ret
    refine⟨v6,rfl,?_,HB6.out⟩
    rw[HR.out,List.length_append,List.map_append]
    exact HO6.out
theorem M5 (v:Value)(xs:List ByteArray)(w:World)(h:Al w v xs)(hl:xs.length<=140737488355328):
 Calls Tryz.prog 191 #[v] w fun e w' => e=.returned (.bool (decide (xs.length<=4096)&&xs.all Sig.digest))/\w' = w:=by
 obtain⟨R,hR⟩:∃ R,R=(decide (xs.length<=4096)&&xs.all Sig.digest):=⟨_,rfl⟩
 rw[<- hR]
 have H:=zh h
 obtain⟨a,c,rfl⟩:=h.len
 clear h
 go_enter Tryz.func191,Tryz.ntmps191
 by_cases h1:xs.length<=4096
 ·have d1:decide ((xs.length:Int)<=4096)=true:=by simp;omega
  rw[decide_eq_true h1,Bool.true_and] at hR
  have HR:=zh hR;clear hR
  go_wp2_with fail
  refine(Ri _ xs w H.out hl).mono ?_
  rintro e w1 ⟨rfl,rfl⟩
  rw[aG,<- HR.out]
  go_wp2_with fail
  go_ret
  exact⟨rfl,rfl⟩
 ·have d1:decide ((xs.length:Int)<=4096)=false:=by simp;omega
  rw[decide_eq_false h1,Bool.false_and] at hR
  have HR:=zh hR;clear hR
  go_wp2_with fail
  go_ret
  exact⟨by rw[HR.out];rfl,rfl⟩
theorem Yd (v:Value)(p:List ByteArray)(w:World)(h:Al w v p)(hcap:Eb v)(hl:p.length<=4096)(hd:p.all Sig.digest=true):
 Calls Tryz.prog 158 #[v] w fun e w' => e=.returned (.string (Sig.root p))/\Below w.heap.size w w':=by
 have hv:=M5 v p w h (by omega)
 rw[decide_eq_true hl,hd] at hv
 have hr:=J9 p.length v p w (by omega) hl h hcap
 have HV:=zh hv;have HR:=zh hr;clear hv hr
 obtain⟨a,c,rfl⟩:=h.len
 go_enter Tryz.func158,Tryz.ntmps158
 go_wp2_with fail
 refine HV.out.mono ?_
 rintro e w1 ⟨rfl,rfl⟩
 go_wp2_with fail
 refine HR.out.mono ?_
 rintro e w2 ⟨rfl,hb⟩
 go_wp2_with fail
 go_ret
 exact⟨rfl,hb⟩
theorem NZ (v:Value)(p:List ByteArray)(i:Nat)(w:World)(h:Al w v p)(hcap:Eb v)(hl:p.length<=4096)(hd:p.all Sig.digest=true)(hi:i<p.length):
 Calls Tryz.prog 156 #[v,.int .i64 i] w fun e w' => ∃ u,e=.returned (.tuple #[u,.int .i64 0])/\w'.ownsRow w.heap.size 9 1 u (Ev p.length p i).length ((Ev p.length p i).map Value.string)/\Below w.heap.size w w':=by
 have hv:=M5 v p w h (by omega)
 rw[decide_eq_true hl,hd] at hv
 have hr:=NY p.length v p i w (by omega) (by omega) hl hi h hcap
 have d1:decide (p.length<=i)=false:=by simp;omega
 have d2:decide ((p.length:Int)<=(i:Int))=false:=by simp;omega
 have HV:=zh hv;have HR:=zh hr;clear hv hr
 obtain⟨a,c,rfl⟩:=h.len
 go_enter Tryz.func156,Tryz.ntmps156
 go_wp2_with fail
 refine HV.out.mono ?_
 rintro e w1 ⟨rfl,rfl⟩
 go_wp2_with fail
 refine HR.out.mono ?_
 rintro e w2 ⟨u,rfl,ho,hb⟩
 go_wp2_with fail
 go_ret2
 exact⟨u,rfl,ho,hb⟩
end
section
namespace Lex
open Go
section
variable {P:Program} {ops:Array Oper} {Q:Exit->Act->World->Prop} {n:Nat}
def W (r:Option Nat):Fence :={ Fence.wide with round:=r }
theorem kU {r:Option Nat}{f:FuncId}{args:Array Value}{w:World}{R:Ending->World->Prop}(h:Calls P f args w R):CallsIn (W r) n P f args w R:=by
 have h1:CallsIn Fence.wide n P f args w R:=callsIn_wide.2 h
 exact h1
theorem vH {r:Option Nat}{f:String}{args:Array Value}{w:World}{R:Value->World->Prop}(h:Rows P f args w R):RowsIn (W r) n P f args w R:=by
 have h1:RowsIn Fence.wide n P f args w R:=fun c cs _=>let ⟨v,w',x,s⟩:=h c cs;⟨v,w',x,stepsIn_wide.2 s⟩
 exact h1
theorem Rn {r:Option Nat}{o:Oper}{a:Act}{K:Act->World->Prop}{x:Result Next}(h:o.upon P a K Q x):o.uponIn (W r) n P a K Q x:=by
 match x,h with
 | .ok (.value v) w',h=>exact h
 | .ok .skip w',h=>exact h
 | .ok (.defer d) w',h=>exact h
 | .ok (.enter f args) w',h=>exact⟨fun hd=>(by cases hd),kU h⟩
 | .ok (.row row args) w',h=>exact⟨fun hd=>(by cases hd),vH h⟩
 | .halt (.panic v) w',h=>exact h
def Kt (ops:Array Oper):Bool:=ops.all fun o=>match o.op with
 | .defer _=>false
 | _=>true
theorem aH (h:Kt ops=true){i:Nat}{o:Oper}(ho:ops[i]? = some o):∀ c,o.op≠.defer c:=by
 intro c hc
 obtain⟨hi,rfl⟩:=Array.getElem?_eq_some_iff.1 ho
 have:=(Array.all_eq_true.1 h) i hi
 rw[hc] at this
 cases this
theorem JA {r:Option Nat}{i:Nat}{K K' : Act->World->Prop}{a:Act}{w:World}(hd:Kt ops=true)(hQ:¬ LetsOut Q)(hK:∀ a w,K a w->K' a w)(h:wpOp P ops Q i K a w):wpOpIn (W r) n P ops Q i K' a w:=by
 unfold wpOp at h
 unfold wpOpIn
 split
 ·rename_i ho
  rw[ho] at h
  exact hK _ _ h
 ·rename_i o ho
  rw[ho] at h
  simp only at h
  split
  ·rename_i hw
   rw[if_pos hw] at h
   rcases h with h|⟨_,h⟩
   ·refine⟨fun _ _=>trivial,?_⟩
    rw[Oper.semAt_eq _ _ _ (aH hd ho)]
    exact Rn (Oper.wp_mono hK h)
   ·exact absurd h hQ
  ·rename_i hw
   rw[if_neg hw] at h
   exact⟨fun _ _=>trivial,hK _ _ h⟩
theorem M6 {r:Option Nat}{md:Region.Mode}(hd:Kt ops=true)(hQ:¬ LetsOut Q):∀ (fuel:Nat) (listed:Array Bool) (a:Act) (w:World),wpAny P md ops Q fuel listed a w->wpAnyIn (W r) n P md ops Q fuel listed a w
 | 0,_,_,_,h=>h
 | fuel+1,listed,a,w,h=>⟨h.1,fun i hi=>JA hd hQ (fun a w h=>M6 hd hQ fuel _ a w h) (h.2 i hi)⟩
theorem Ij {r:Option Nat}(hd:Kt ops=true)(hQ:¬ LetsOut Q):∀ (l:List Nat) (a:Act) (w:World),wpOps P ops Q l a w->wpOpsIn (W r) n P ops Q l a w
 | [],_,_,h=>h
 | i :: l,a,w,h => by
   rw[wpOps_cons] at h
   rw[wpOpsIn_cons]
   exact JA hd hQ (fun a w h=>Ij hd hQ l a w h) h
def Only (Q:Exit->Act->World->Prop):Exit->Act->World->Prop:=fun e a w=>e=.normal/\Q .normal a w
theorem Only.intro {a:Act}{w:World}(h:Q .normal a w):Only Q .normal a w:=⟨rfl,h⟩
theorem Only.Bb:CS (Only Q):=fun _ _ _ he h=>he h.1
theorem MB {r:Option Nat}{id:Nat}{l:List Oper}{a:Act}{w:World}(hd:Kt l.toArray=true)(h:wpList P l.toArray (Only Q) l a w):(Code.region id l.toArray false).wpIn (W r) n P Q a w:=by
 refine wpIn_mono (Q:=Only Q) (wpIn_region (Ij hd Only.Bb.out _ _ _ ?_)) (fun e a' w' he=>by obtain⟨rfl,h⟩:=he;exact h)
 rw[List.range_eq_range',show l.toArray.size=l.length from by simp,wpOps_eq_wpList l 0 (by simp)]
 exact h
theorem PW {r:Option Nat}{id:Nat}{l:List Oper}{a:Act}{w:World}(hm:P.follows .mixedOrders=true)(hA:Q7 P l.toArray=true)(hd:Kt l.toArray=true)
 (h:wpList P l.toArray (Ends P l.toArray Q) l a w.drew):(Code.region id l.toArray true).wpIn (W r) n P Q a w:=by
 refine wpIn_mono (Q:=Ends P l.toArray Q) (wpIn_region_any hm (M6 hd (Ends.Bb _ _ _).out _ _ _ _ ?_)) (fun e a' w' he=>by obtain⟨rfl,_,h⟩:=he;exact h)
 refine Li hA l.toArray.size (List.range l.toArray.size) _ a _ (by simp) (by simp) ?_ List.pairwise_lt_range (fun x=>by
  constructor
  ·intro hx
   have:=List.mem_range.1 hx
   exact⟨this,by simp only[Array.getD_eq_getD_getElem?];simp at this ⊢;simp[this]⟩
  ·exact fun hx=>List.mem_range.2 hx.1) ?_
 ·intro j o ho hl
  rw[getD_replicate_false] at hl
  cases hl
 ·rw[List.range_eq_range',show l.toArray.size=l.length from by simp,wpOps_eq_wpList l 0 (by simp)]
  exact h
end
end Lex
end
section
open Go Go.RowKit
structure Ye (d b:Nat) (W W' : World):Prop where
 size:W.heap.size<=W'.heap.size
 two:W'.heap[d]? = W.heap[d]? /\ W'.heap[d+1]? = W.heap[d+1]?
 bet:∀ k,b<=k->k<W.heap.size->W'.heap[k]? = W.heap[k]?
theorem Ye.refl (d b:Nat)(W:World):Ye d b W W:=⟨Nat.le_refl _,⟨rfl,rfl⟩,fun _ _ _=>rfl⟩
def roundEnd {β : Type}(d b:Nat)(J : β -> World->Prop)(Jx:Code->World->Prop)(s' : β)(W:World):Exit->Act->World->Prop:=fun e _ W' =>
 Ye d b W W' /\ (e=.normal/\J s' W' \/ ∃ c,(e=.ret/\c=.ret\/∃ i,e=.exit i/\c=.exit i)/\Jx c W')
def kV {β : Type}(J' : β -> World->Prop)(Jx' : World->Prop)(Done : β -> Prop)(e:Ending)(W' : World):Prop:=(∃ v,e=.returned v)/\((∃ s,Done s/\J' s W')\/Jx' W')
def Iter {α β : Type}(F:Fence)(m:Nat)(P:Program)(gf:Nat)(args:Nat->Array Value)(encs : α -> Array Value)(J : β -> World->Prop)(Step : β -> α -> β -> Prop)(Done : β -> Prop)(s0 : β):Prop:=
 ∀ (l : Nat) (J' : β → World → Prop) (Jx' : World → Prop) (W : World),(∀ s W,J' s W → J s W) → (∀ s W W',J' s W → Below W.heap.size W W' → J' s W') →
   (∀ s x s' W0 W,J' s W0->Below W0.heap.size W0 W->Step s x s' -> YieldAt F (m-1) P l (encs x) W (fun e W' => e=.returned (.bool true)/\J' s' W' /\ (∀ k,W0.heap.size<=k->k<W.heap.size->W'.heap[k]? = W.heap[k]?)\/e=.returned (.bool false)/\Jx' W'))->J' s0 W->
   CallsIn F m P gf (args l) W (kV J' Jx' Done)
theorem CZ (W:World)(l:Nat)(o:Obj):Fr (fun k=>k=l) W (W.putObj l o):=⟨rfl,rfl,rfl,by simp[World.putObj],fun _ _ hn=>World.putObj_heap_other hn⟩
theorem Kz {α β : Type}{P:Program}{n:Nat}{r:Option Nat}{g:Operand}{ps:Array Tmp}{assign body:Code}{Q:Exit->Act->World->Prop}{a:Act}{w:World}{gf:Nat}{pre lb:Array Value}
 (hro:r=none) (hg:a.eval g=.func (.func gf) pre lb) (eg:∀ args w,(callFunc gf args).run P w=.ok (.enter gf args) w) (encs : α -> Array Value) (hps:∀ x,(encs x).size=ps.size)
 (J : β -> World->Prop) (Jx:Code->World->Prop) (Step : β -> α -> β -> Prop) (Done : β -> Prop) (s0 : β)
 (hJb:∀ s W W',J s W->Below W.heap.size W W' -> J s W') (hJl:∀ s W W',J s W->Fr (fun k=>k=w.heap.size+1) W W' -> J s W') (VT:∀ c W W',Jx c W->Fr (fun k=>k=w.heap.size+1) W W' -> Jx c W')
 (h0:J s0 w)
 (hiter:Iter (Lex.W r) (n-1) P gf (fun l=>pre++(#[.func (.yield l) #[] #[]]++lb)) encs J Step Done s0)
 (Lv : ∀ s x s' W0 W,w.heap.size + 1 < W0.heap.size → J s W0 → Below W0.heap.size W0 W → Step s x s' →
   assign.wpIn (Lex.W (some (w.heap.size+1))) (n-1-1) P (Exit.then (fun a₁ W₁ => Ye w.heap.size W0.heap.size W W₁ /\ ∀ W₂,Fr (fun k=>k=w.heap.size+1) W₁ W₂ -> 
    body.wpIn (Lex.W (some (w.heap.size+1))) (n-1-1) P (roundEnd w.heap.size W0.heap.size J Jx s' W₂) a₁ W₂) (fun _ _ _=>False)) { tmps:=(ps.zip (encs x)).foldl (fun t (p,v)=>t.setIfInBounds p v) a.tmps,defers:=[] } W)
 (hdone:∀ s W,Done s->J s W->W.heap[w.heap.size]? = some (.deferred (some []))->Q .normal { a with defers :={ target:=.collected w.heap.size,args:=#[] } :: a.defers } W)
 (hstop:∀ (c:Code) (W:World),Jx c W->W.heap[w.heap.size]? = some (.deferred (some []))->c.wpIn (Lex.W r) n P Q { a with defers :={ target:=.collected w.heap.size,args:=#[] } :: a.defers } W):
 (Code.rangeFunc g ps assign body).wpIn (Lex.W r) n P Q a w:=by
 refine wpIn_rangeFunc ?_
 intro fn hfn
 subst hro
 obtain⟨rec,hrec⟩:∃ rec:LoopState->Option Code->Loop,rec=fun st pe => { state:=st,pending:=pe,fn,tmps:=a.tmps,params:=ps,assign,body,defers:=w.heap.size } :=⟨_,rfl⟩
 obtain⟨W1,hW1⟩:∃ W1,(w.alloc (.deferred (some []))).alloc (.loop (rec .ready none))=W1:=⟨_,rfl⟩
 have hL1:W1.heap[w.heap.size+1]? = some (.loop (rec .ready none)):=by
  rw[<- hW1];have:=World.alloc_heap_new (w.alloc (.deferred (some []))) (.loop (rec .ready none));rwa [World.size_alloc] at this
 have hK1:W1.heap[w.heap.size]? = some (.deferred (some [])):=by
  rw[<- hW1];exact(Below.heap_alloc _ _ _ (by simp)).trans (World.alloc_heap_new w _)
 have hb1:Below w.heap.size w W1:=by
  rw[<- hW1];exact((Below.refl _ w).alloc (Nat.le_refl _) _).alloc (by simp) _
 refine⟨w.heap.size+1,[{ target:=.collected w.heap.size,args:=#[] }],W1,{ target:=.fn (.func gf) lb,args:=pre++#[.func (.yield (w.heap.size+1)) #[] #[]] },W1,gf,
  pre++(#[.func (.yield (w.heap.size+1)) #[] #[]]++lb),W1,?_,?_,fun _ _=>trivial,?_,fun h=>(by cases h),?_⟩
 ·rw[<- hW1,hrec];exact run_enterLoop_outer _ _ _ _ _
 ·simp only[resolve,hg]
  simp[go_sem]
 ·simp[invoke,go_sem,eg]
 ·refine (hiter (w.heap.size + 1) (fun s W' => J s W' ∧ W'.heap[w.heap.size + 1]? = some (.loop (rec .ready none)) ∧ W'.heap[w.heap.size]? = some (.deferred (some [])))
   (fun W' => ∃ c,Jx c W' /\ W'.heap[w.heap.size+1]? = some (.loop (rec .done (some c)))/\W'.heap[w.heap.size]? = some (.deferred (some []))) W1
   (fun s W h=>h.1)
   (fun s W W' h hb => by
     have hl:=(Array.getElem?_eq_some_iff.1 h.2.1).1
     exact⟨hJb s W W' h.1 hb,(hb.block _ hl).trans h.2.1,(hb.block _ (by omega)).trans h.2.2⟩) ?_ ⟨hJb s0 w W1 h0 hb1,hL1,hK1⟩).mono ?_
  ·rintro s x s' W0 W ⟨hJ,hl0,hd0⟩ hbW hst
   have vJ:w.heap.size+1<W0.heap.size:=(Array.getElem?_eq_some_iff.1 hl0).1
   have hl:=(hbW.block _ vJ).trans hl0
   have hd:=(hbW.block w.heap.size (by omega)).trans hd0
   have hlt:w.heap.size+1<W.heap.size:=(Array.getElem?_eq_some_iff.1 hl).1
   have hy:=run_yield (P:=P) (args:=encs x) hl (by rw[hrec];exact hps x)
   rw[hrec] at hy
   refine⟨fn,_,assign,body,hy,roundIn_of_wpIn hfn (wpIn_mono (Lv s x s' W0 W vJ hJ hbW hst) ?_)⟩
   rintro e a₁ W₁ he
   cases e with
   | normal =>
     obtain⟨hk,hbody⟩:=he
     have hl1:W₁.heap[w.heap.size+1]? = some (.loop (rec .ready none)):=hk.two.2.trans hl
     have hd1:W₁.heap[w.heap.size]? = some (.deferred (some [])):=hk.two.1.trans hd
     refine⟨_,run_beginRound hl1 (by rw[hrec]),?_⟩
     have hlt1:w.heap.size+1<W₁.heap.size:=(Array.getElem?_eq_some_iff.1 hl1).1
     have hl2:(W₁.putObj (w.heap.size+1) (.loop { rec .ready none with state:=.busy })).heap[w.heap.size+1]? = some (.loop { rec .ready none with state:=.busy }):=World.putObj_heap_same hlt1
     have hd2:(W₁.putObj (w.heap.size+1) (.loop { rec .ready none with state:=.busy })).heap[w.heap.size]? = some (.deferred (some [])):=(World.putObj_heap_other (by omega)).trans hd1
     refine wpIn_mono (hbody _ (CZ _ _ _)) ?_
     rintro e a3 W3 ⟨hk3,hres⟩
     have hl3:=hk3.two.2.trans hl2
     have hd3:=hk3.two.1.trans hd2
     rcases hres with ⟨rfl,hJ3⟩|⟨c,hc,hx⟩
     ·have hr:=run_endRound (P:=P) none hl3
      have hl4:=World.putObj_heap_same (o:=.loop (rec .ready none)) (Array.getElem?_eq_some_iff.1 hl3).1
      have hk4:(W3.putObj (w.heap.size+1) (.loop (rec .ready none))).heap[w.heap.size]? = some (.deferred (some [])):=(World.putObj_heap_other (by omega)).trans hd3
      have hf:=hJl s' _ _ hJ3 (CZ W3 (w.heap.size+1) (.loop (rec .ready none)))
      rw[hrec] at hr hl4 hk4 hf
      refine⟨_,_,hr,.inl ⟨rfl,⟨hf,by rw[hrec];exact hl4,hk4⟩,fun k hk0 hkl=>?_⟩⟩
      have hsz2:W₁.heap.size=(W₁.putObj (w.heap.size+1) (.loop { rec .ready none with state:=.busy })).heap.size:=by simp[World.putObj]
      exact(World.putObj_heap_other (by omega)).trans ((hk3.bet k hk0 (by rw[<- hsz2];exact Nat.lt_of_lt_of_le hkl hk.size)).trans ((World.putObj_heap_other (by omega)).trans (hk.bet k hk0 hkl)))
     ·have hr:=run_endRound (P:=P) (some c) hl3
      have hl4:=World.putObj_heap_same (o:=.loop (rec .done (some c))) (Array.getElem?_eq_some_iff.1 hl3).1
      have hk4:(W3.putObj (w.heap.size+1) (.loop (rec .done (some c)))).heap[w.heap.size]? = some (.deferred (some [])):=(World.putObj_heap_other (by omega)).trans hd3
      have hf:=VT c _ _ hx (CZ W3 (w.heap.size+1) (.loop (rec .done (some c))))
      rw[hrec] at hr hl4 hk4 hf
      rcases hc with ⟨rfl,rfl⟩|⟨i,rfl,rfl⟩
      ·exact⟨_,_,hr,.inr ⟨rfl,.ret,hf,by rw[hrec];exact hl4,hk4⟩⟩
      ·exact⟨_,_,hr,.inr ⟨rfl,.exit i,hf,by rw[hrec];exact hl4,hk4⟩⟩
   | ret=>exact he.elim
   | exit id=>exact he.elim
   | goto t=>exact he.elim
   | panic ch=>exact he.elim
   | outgrown=>exact he.elim
  ·rintro e W2 ⟨⟨v,rfl⟩,⟨s,hD,hJ,hl,hd⟩|⟨c,hi,hl,hd⟩⟩
   ·refine⟨none,_,by have:=run_endLoop (P:=P) hl (by rw[hrec];simp);rw[hrec] at this;exact this,hdone s _ hD (hJl s _ _ hJ (CZ _ _ _)) ((World.putObj_heap_other (by omega)).trans hd)⟩
   ·refine⟨some c,_,by have:=run_endLoop (P:=P) hl (by rw[hrec];simp);rw[hrec] at this;exact this,hstop c _ (VT c _ _ hi (CZ _ _ _)) ((World.putObj_heap_other (by omega)).trans hd)⟩
def Kept (KT:_root_.Go.Obj->Prop)(W W' : World):Prop:=∀ (k:Nat) (o:_root_.Go.Obj),W.heap[k]? = some o->KT o->W'.heap[k]? = some o
theorem Kept.refl (KT:_root_.Go.Obj->Prop)(W:World):Kept KT W W:=fun _ _ h _=>h
theorem Kept.trans {KT:_root_.Go.Obj->Prop}{A B C:World}(h:Kept KT A B)(k:Kept KT B C):Kept KT A C:=fun i o hi ho=>k i o (h i o hi ho) ho
def VU (t:TypeId)(o:_root_.Go.Obj):Prop:=∃ cs fz,o=.cells cs t fz
def gW {β : Type}(KT:_root_.Go.Obj->Prop)(d:Nat)(J : β -> World->Prop)(Jx:Code->World->Prop)(s' : β)(W:World):Exit->Act->World->Prop:=fun e _ W' =>
 (W'.heap[d]? = W.heap[d]? /\ W'.heap[d+1]? = W.heap[d+1]?)/\Kept KT W W' /\ (e=.normal/\J s' W' \/ ∃ c,(e=.ret/\c=.ret\/∃ i,e=.exit i/\c=.exit i)/\Jx c W')
def iq {β : Type}(J' : β -> World->Prop)(Jx' : World->Prop)(Done : β -> Prop)(e:Ending)(W' : World):Prop:=(∃ v,e=.returned v)/\((∃ s,Done s/\J' s W')\/Jx' W')
def qP {α β : Type}(KT:_root_.Go.Obj->Prop)(F:Fence)(m:Nat)(P:Program)(gf:Nat)(args:Nat->Array Value)(encs : α -> Array Value)(J : β -> World->Prop)(Step : β -> α -> β -> Prop)(Done : β -> Prop)(s0 : β):Prop:=
 ∀ (l : Nat) (J' : β → World → Prop) (Jx' : World → Prop) (W : World),(∀ s W,J' s W → J s W) → (∀ s W W',J' s W → Below W.heap.size W W' → J' s W') →
   (∀ s x s' W,J' s W->Step s x s' -> YieldAt F (m-1) P l (encs x) W (fun e W' => e=.returned (.bool true)/\J' s' W' /\ Kept KT W W' \/ e=.returned (.bool false)/\Jx' W'))->J' s0 W->
   CallsIn F m P gf (args l) W (iq J' Jx' Done)
theorem JC {α β : Type}{P:Program}(KT:_root_.Go.Obj->Prop)(hKT:∀ L,¬ KT (.loop L)){n:Nat}{r:Option Nat}{g:Operand}{ps:Array Tmp}{assign body:Code}{Q:Exit->Act->World->Prop}{a:Act}{w:World}{gf:Nat}{pre lb:Array Value}
 (hro:r=none) (hg:a.eval g=.func (.func gf) pre lb) (eg:∀ args w,(callFunc gf args).run P w=.ok (.enter gf args) w) (encs : α -> Array Value) (hps:∀ x,(encs x).size=ps.size)
 (J : β -> World->Prop) (Jx:Code->World->Prop) (Step : β -> α -> β -> Prop) (Done : β -> Prop) (s0 : β)
 (hJb:∀ s W W',J s W->Below W.heap.size W W' -> J s W') (hJl:∀ s W W',J s W->Fr (fun k=>k=w.heap.size+1) W W' -> (∃ L,W.heap[w.heap.size+1]? = some (.loop L))->J s W') (VT:∀ c W W',Jx c W->Fr (fun k=>k=w.heap.size+1) W W' -> Jx c W')
 (h0:J s0 w)
 (hiter:qP KT (Lex.W r) (n-1) P gf (fun l=>pre++(#[.func (.yield l) #[] #[]]++lb)) encs J Step Done s0)
 (Lv : ∀ s x s' W,w.heap.size + 1 < W.heap.size → (∃ L,W.heap[w.heap.size + 1]? = some (.loop L)) → W.heap[w.heap.size]? = some (.deferred (some [])) → J s W → Step s x s' →
   assign.wpIn (Lex.W (some (w.heap.size+1))) (n-1-1) P (Exit.then (fun a₁ W₁ => W₁ = W/\∀ W₂,Fr (fun k=>k=w.heap.size+1) W W₂ -> (∃ L,W₂.heap[w.heap.size+1]? = some (.loop L)) -> 
    body.wpIn (Lex.W (some (w.heap.size+1))) (n-1-1) P (gW KT w.heap.size J Jx s' W₂) a₁ W₂) (fun _ _ _=>False)) { tmps:=(ps.zip (encs x)).foldl (fun t (p,v)=>t.setIfInBounds p v) a.tmps,defers:=[] } W)
 (hdone:∀ s W,Done s->J s W->W.heap[w.heap.size]? = some (.deferred (some []))->Q .normal { a with defers :={ target:=.collected w.heap.size,args:=#[] } :: a.defers } W)
 (hstop:∀ (c:Code) (W:World),Jx c W->W.heap[w.heap.size]? = some (.deferred (some []))->c.wpIn (Lex.W r) n P Q { a with defers :={ target:=.collected w.heap.size,args:=#[] } :: a.defers } W):
 (Code.rangeFunc g ps assign body).wpIn (Lex.W r) n P Q a w:=by
 refine wpIn_rangeFunc ?_
 intro fn hfn
 subst hro
 obtain⟨rec,hrec⟩:∃ rec:LoopState->Option Code->Loop,rec=fun st pe => { state:=st,pending:=pe,fn,tmps:=a.tmps,params:=ps,assign,body,defers:=w.heap.size } :=⟨_,rfl⟩
 obtain⟨W1,hW1⟩:∃ W1,(w.alloc (.deferred (some []))).alloc (.loop (rec .ready none))=W1:=⟨_,rfl⟩
 have hL1:W1.heap[w.heap.size+1]? = some (.loop (rec .ready none)):=by
  rw[<- hW1];have:=World.alloc_heap_new (w.alloc (.deferred (some []))) (.loop (rec .ready none));rwa [World.size_alloc] at this
 have hK1:W1.heap[w.heap.size]? = some (.deferred (some [])):=by
  rw[<- hW1];exact(Below.heap_alloc _ _ _ (by simp)).trans (World.alloc_heap_new w _)
 have hb1:Below w.heap.size w W1:=by
  rw[<- hW1];exact((Below.refl _ w).alloc (Nat.le_refl _) _).alloc (by simp) _
 have hb1' : Below w.heap.size w W1:=hb1
 refine⟨w.heap.size+1,[{ target:=.collected w.heap.size,args:=#[] }],W1,{ target:=.fn (.func gf) lb,args:=pre++#[.func (.yield (w.heap.size+1)) #[] #[]] },W1,gf,
  pre++(#[.func (.yield (w.heap.size+1)) #[] #[]]++lb),W1,?_,?_,fun _ _=>trivial,?_,fun h=>(by cases h),?_⟩
 ·rw[<- hW1,hrec];exact run_enterLoop_outer _ _ _ _ _
 ·simp only[resolve,hg]
  simp[go_sem]
 ·simp[invoke,go_sem,eg]
 ·refine (hiter (w.heap.size + 1) (fun s W' => J s W' ∧ W'.heap[w.heap.size + 1]? = some (.loop (rec .ready none)) ∧ W'.heap[w.heap.size]? = some (.deferred (some [])))
   (fun W' => ∃ c,Jx c W' /\ W'.heap[w.heap.size+1]? = some (.loop (rec .done (some c)))/\W'.heap[w.heap.size]? = some (.deferred (some []))) W1
   (fun s W h=>h.1)
   (fun s W W' h hb=>⟨hJb s W W' h.1 hb,(hb.block _ (Array.getElem?_eq_some_iff.1 h.2.1).1).trans h.2.1,(hb.block _ (Array.getElem?_eq_some_iff.1 h.2.2).1).trans h.2.2⟩) ?_ ⟨hJb s0 w W1 h0 (hb1'),hL1,hK1⟩).mono ?_
  ·rintro s x s' W ⟨hJ,hl,hd⟩ hst
   have hlt:w.heap.size+1<W.heap.size:=(Array.getElem?_eq_some_iff.1 hl).1
   have hy:=run_yield (P:=P) (args:=encs x) hl (by rw[hrec];exact hps x)
   rw[hrec] at hy
   refine⟨fn,_,assign,body,hy,roundIn_of_wpIn hfn (wpIn_mono (Lv s x s' W hlt ⟨_,hl⟩ hd hJ hst) ?_)⟩
   rintro e a₁ W₁ he
   cases e with
   | normal =>
     obtain⟨rfl,hbody⟩:=he
     refine⟨_,run_beginRound hl (by rw[hrec]),?_⟩
     have hl2:(W₁.putObj (w.heap.size+1) (.loop { rec .ready none with state:=.busy })).heap[w.heap.size+1]? = some (.loop { rec .ready none with state:=.busy }):=World.putObj_heap_same hlt
     have hd2:(W₁.putObj (w.heap.size+1) (.loop { rec .ready none with state:=.busy })).heap[w.heap.size]? = some (.deferred (some [])):=(World.putObj_heap_other (by omega)).trans hd
     have hm2:Kept KT W₁ (W₁.putObj (w.heap.size+1) (.loop { rec .ready none with state:=.busy })):=fun k o hk ho=>(World.putObj_heap_other (fun e=>by
      rw[e,hl] at hk
      cases hk
      exact hKT _ ho)).trans hk
     refine wpIn_mono (hbody _ (CZ _ _ _) ⟨_,hl2⟩) ?_
     rintro e a3 W3 ⟨hk3,zae,hres⟩
     have hl3:=hk3.2.trans hl2
     have hd3:=hk3.1.trans hd2
     have hm4:∀ o',Kept KT W3 (W3.putObj (w.heap.size+1) o'):=fun o' k o hk ho=>(World.putObj_heap_other (fun e=>by
      rw[e,hl3] at hk
      cases hk
      exact hKT _ ho)).trans hk
     rcases hres with ⟨rfl,hJ3⟩|⟨c,hc,hx⟩
     ·have hr:=run_endRound (P:=P) none hl3
      have hl4:=World.putObj_heap_same (o:=.loop (rec .ready none)) (Array.getElem?_eq_some_iff.1 hl3).1
      have hk4:(W3.putObj (w.heap.size+1) (.loop (rec .ready none))).heap[w.heap.size]? = some (.deferred (some [])):=(World.putObj_heap_other (by omega)).trans hd3
      have hf:=hJl s' _ _ hJ3 (CZ W3 (w.heap.size+1) (.loop (rec .ready none))) ⟨_,hl3⟩
      have hmf:=hm2.trans (zae.trans (hm4 (.loop (rec .ready none))))
      rw[hrec] at hr hl4 hk4 hf hmf
      refine⟨_,_,hr,.inl ⟨rfl,⟨hf,by rw[hrec];exact hl4,hk4⟩,hmf⟩⟩
     ·have hr:=run_endRound (P:=P) (some c) hl3
      have hl4:=World.putObj_heap_same (o:=.loop (rec .done (some c))) (Array.getElem?_eq_some_iff.1 hl3).1
      have hk4:(W3.putObj (w.heap.size+1) (.loop (rec .done (some c)))).heap[w.heap.size]? = some (.deferred (some [])):=(World.putObj_heap_other (by omega)).trans hd3
      have hf:=VT c _ _ hx (CZ W3 (w.heap.size+1) (.loop (rec .done (some c))))
      rw[hrec] at hr hl4 hk4 hf
      rcases hc with ⟨rfl,rfl⟩|⟨i,rfl,rfl⟩
      ·exact⟨_,_,hr,.inr ⟨rfl,.ret,hf,by rw[hrec];exact hl4,hk4⟩⟩
      ·exact⟨_,_,hr,.inr ⟨rfl,.exit i,hf,by rw[hrec];exact hl4,hk4⟩⟩
   | ret=>exact he.elim
   | exit id=>exact he.elim
   | goto t=>exact he.elim
   | panic ch=>exact he.elim
   | outgrown=>exact he.elim
  ·rintro e W2 ⟨⟨v,rfl⟩,⟨s,hD,hJ,hl,hd⟩|⟨c,hi,hl,hd⟩⟩
   ·refine⟨none,_,by have:=run_endLoop (P:=P) hl (by rw[hrec];simp);rw[hrec] at this;exact this,hdone s _ hD (hJl s _ _ hJ (CZ _ _ _) ⟨_,hl⟩) ((World.putObj_heap_other (by omega)).trans hd)⟩
   ·refine⟨some c,_,by have:=run_endLoop (P:=P) hl (by rw[hrec];simp);rw[hrec] at this;exact this,hstop c _ (VT c _ _ hi (CZ _ _ _)) ((World.putObj_heap_other (by omega)).trans hd)⟩
end
section
open Go Go.RowKit Go.Maps
attribute [local go_sem] Oper.semAt_some
def dS (m:ByteArray)(k:Nat)(x:Nat × Nat)(k' : Nat):Prop:=k<67/\x=(k,(Sig.digits m).getD k 0)/\k' = k+1
theorem kW (r:Option Nat):(Lex.W r).round=r:=rfl
theorem VW (mb n:Nat)(m:ByteArray)(hs:m.size<=9223372036854775000)(J:Nat->World->Prop)(hJ:∀ W,J 0 W->W.cell? ⟨mb,0,none⟩=some (.string m)):
 qP (VU 3) (Lex.W none) n Tryz.prog 215 (fun l=>#[]++(#[.func (.yield l) #[] #[]]++#[.pointer (some ⟨mb,0,none⟩)])) (fun x:Nat × Nat=>#[.int .i64 x.1,.int .i64 x.2]) J (dS m) (fun k=>k=67) 0:=by
 intro l J' Jx' W hJJ hJb hY h0
 have hrr:(Lex.W none).round=none:=rfl
 refine callsIn_of_wp Tryz.func215 rfl trivial ?_ rfl
 simp only[Tryz.ntmps215,List.size_toArray,List.length_cons,List.length_nil,Nat.reduceAdd,Nat.reduceSub,Array.replicate_succ,Array.replicate_zero,List.push_toArray,List.append_toArray,List.nil_append,List.cons_append]
 have hc:=hJ _ (hJJ _ _ h0)
 have H0:=zh h0;have HJb:=zh hJb;have HY:=zh hY
 clear hJJ hJ hJb hY h0
 have hcall:=Ya m W hs
 have HC:=zh hcall;clear hcall
 gi_wp2
 refine⟨trivial,fun h=>(by cases h),(Lex.kU HC.out).mono ?_⟩
 rintro e w1 ⟨v,rfl,ho,hb⟩
 obtain⟨g,cap,rfl,hcell⟩:=Ct ho (by omega)
 have hat:∃ cur,At w1 g 3 cur:=Db ho rfl
 obtain⟨cur,hat⟩:=hat
 have hcells:∀ k (hk:k<67),cur[k]? = some (.int .i64 (((Sig.digits m).getD k 0:Nat):Int)):=by
  intro k hk
  rw[<- hat.cell k]
  refine hcell k _ ?_
  unfold Ii
  have hl:=Sig.QM m
  rw[List.getElem?_map,List.getElem?_eq_getElem (by omega),List.getD_eq_getElem?_getD,List.getElem?_eq_getElem (by omega)]
  rfl
 have H1:=zh (HJb.out _ _ _ H0.out hb);have HCE:=zh hcells;have HAT:=zh hat
 clear ho hb hcell hat hcells hc H0 HC
 gi_wp2
 gi_loopw [8] (fun i wr=>∃ k:Nat,k<=67/\i=.int .i64 k/\J' k wr/\At wr g 3 cur) (fun i _=>67-(intOf i).toNat)
 case atStart=>exact⟨0,by omega,rfl,H1.out,HAT.out⟩
 case round=>
  obtain⟨k,hk,rfl,hj,ha⟩:=hrel
  have HJ1:=zh hj;have HA:=zh ha
  clear hj ha H1 HAT
  by_cases hlt:k<67
  ·have dk:decide ((k:Int)<67)=true:=by simp;omega
   have hck:=(HA.out.cell k).trans (HCE.out k hlt)
   obtain⟨d,hd⟩:∃ d,d=(Sig.digits m).getD k 0:=⟨_,rfl⟩
   rw[<- hd] at hck
   obtain⟨fn,tmps,assign,body,hy,hR⟩:=HY.out k (k,d) (k+1) wr HJ1.out ⟨hlt,by rw[hd],rfl⟩
   clear hd
   gi_wp2
   refine⟨fun h=>(by cases h),hR.mono ?_⟩
   rintro e W3 (⟨rfl,hJ3,hk3⟩|⟨rfl,hJx3⟩)
   ·have HJ3:=zh hJ3;have HA3:=zh (hk3 g _ HA.out ⟨cur,(0,0),rfl⟩:At W3 g 3 cur);clear hJ3 hk3 hck
    gi_wp2
    go_roundw
    case rel=>exact⟨k+1,by omega,by go_num,HJ3.out,HA3.out⟩
    case measure=>simp[intOf];omega
   ·gi_wp2
    refine bodyPost_ret (results_none rfl _ _ _) rfl ?_
    exact⟨⟨_,rfl⟩,.inr hJx3⟩
  ·have dk:decide ((k:Int)<67)=false:=by simp;omega
   have vK:k=67:=by omega
   have HK:=zh vK;clear vK
   gi_wp2
   refine bodyPost_end (results_none rfl _ _ _) rfl ⟨⟨_,rfl⟩,.inl ⟨k,HK.out,HJ1.out⟩⟩
end
section
open Go Go.RowKit
theorem Yf:(Tryz.prog.info? 142).map (·.size)=some 2:=by kernel_rfl
theorem kX:liesAt Tryz.prog Tryz.prog.depth 142 (2/Tryz.prog.cellsOf 142) 0 142 1=true:=by kernel_rfl
theorem KJ (b:Nat)(w:World)(h0:w.cell? ⟨b,0,none⟩=some (.pointer (some ⟨b,0,none⟩))):
 Calls Tryz.prog 167 #[.pointer (some ⟨b,0,none⟩)] w fun e w' => e=.returned (.tuple #[])/\w' = w:=by
 obtain⟨j,hj,_⟩:=Option.map_eq_some_iff.1 Yf
 go_enter Tryz.func167,Tryz.ntmps167
 go_wp2
 rw[Lib.run_neq_ptr_same w _ Tryz.underlying140 hj]
 go_wp2
 go_end0
 exact⟨rfl,rfl⟩
theorem JE (b:Nat)(w:World)(h0:w.cell? ⟨b,0,none⟩=some (.pointer none))(hsh:w.shape? b=some (142,2))(hfz:w.frozen? ⟨b,0,none⟩=false):
 Calls Tryz.prog 167 #[.pointer (some ⟨b,0,none⟩)] w fun e w' => e=.returned (.tuple #[])/\w' = w.setCell ⟨b,0,none⟩ (.pointer (some ⟨b,0,none⟩)):=by
 obtain⟨j,hj,hjs⟩:=Option.map_eq_some_iff.1 Yf
 go_enter Tryz.func167,Tryz.ntmps167
 go_wp2
 rw[Lib.run_to_unsafe w ⟨b,0,none⟩ Tryz.underlying140 Tryz.underlying218 hj (by rw[hjs];decide) hsh (Nat.zero_lt_succ 1)]
 simp only[Result.andThen]
 rw[Oper.upon_value]
 go_wp2
 rw[run_callFunc_extern Tryz.func200 (by kernel_rfl) (by kernel_rfl) (by kernel_rfl) (e:=Extern.AbiNoEscape.same) (by kernel_rfl)]
 rw[Lib.run_noEscape]
 simp only[Result.andThen]
 rw[Oper.upon_value]
 go_wp2
 rw[Lib.run_from_unsafe w ⟨b,0,none⟩ Tryz.underlying218 Tryz.underlying140 hj hsh kX]
 simp only[Result.andThen]
 rw[Oper.upon_value]
 go_wp2
 go_end0
 exact⟨rfl,rfl⟩
theorem VY (B b:Nat)(bs:List Value)(w:World)(h:Lib.IsBuilderF 142 5 B b bs w):
 Calls Tryz.prog 167 #[.pointer (some ⟨b,0,none⟩)] w fun e w' => e=.returned (.tuple #[])/\(Lib.BuilderAtF 142 5 B b (.pointer (some ⟨b,0,none⟩)) bs w' /\ Below B w w'):=by
 rcases h with h|h
 ·refine(JE b w h.cell0 h.shape h.frozen0).mono ?_
  rintro e w' ⟨rfl,rfl⟩
  exact⟨rfl,h.used _,(Below.refl B w).setCell (p:=⟨b,0,none⟩) h.1 _⟩
 ·refine(KJ b w h.cell0).mono ?_
  rintro e w' ⟨rfl,rfl⟩
  exact⟨rfl,h,Below.refl B _⟩
theorem VZ (B b:Nat)(bs:List Value)(s:ByteArray)(w:World)(h:Lib.IsBuilderF 142 5 B b bs w)(hlen:bs.length+s.size<=140737488355328)(hBw:B<=w.heap.size):
 Calls Tryz.prog 118 #[.pointer (some ⟨b,0,none⟩),.string s] w fun e w' => e=.returned (.tuple #[.int .i64 s.size,.nilIface])/\(Lib.IsBuilderF 142 5 B b (bs++Lib.strCells s) w' /\ Below B w w'):=by
 obtain⟨i0,hi,hz0,hz1,hz2⟩:=info_parts GX
 go_enter Tryz.func118,Tryz.ntmps118
 go_wp2_with (go_at_call 167;refine(VY B b bs _ h).mono ?_)
 rintro e w1 ⟨rfl,h1,hb1⟩
 obtain⟨hB,v,hbk,hown,hne⟩:=h1
 have c0:w1.cell? ⟨b,0,none⟩=some (.pointer (some ⟨b,0,none⟩)):=by rw[Lib.cell_of_heap hbk];rfl
 have c1:w1.cell? ⟨b,1,none⟩=some v:=by rw[Lib.cell_of_heap hbk];rfl
 go_wp2_with (at_builtin;refine Lib.wpList_append_own_stringF _ rfl _ _ 66 9 rfl B 5 i0 Tryz.underlying66 Tryz.underlying9 hi hz0 hz1 hz2 _ _ _ rfl hown s rfl ?c3 ?c4 ?c5 ?_)
 case c3=>unfold maxLen;omega
 case c4=>omega
 case c5=>have:=hb1.size;omega
 intro v' w2 hown' hgrow _
 have hlt:b<w1.heap.size:=by
  rcases Nat.lt_or_ge b w1.heap.size with h' | h'
  ·exact h'
  ·simp[Array.getElem?_eq_none h'] at hbk
 have hb2:w2.heap[b]? = some (.cells #[.pointer (some ⟨b,0,none⟩),v] 142 (0,0)):=by
  rw[hgrow.block b hlt (fun e=>hne e.symm)]
  exact hbk
 have d0:w2.cell? ⟨b,0,none⟩=some (.pointer (some ⟨b,0,none⟩)):=by rw[Lib.cell_of_heap hb2];rfl
 have d1:w2.cell? ⟨b,1,none⟩=some v:=by rw[Lib.cell_of_heap hb2];rfl
 have f1:w2.frozen? ⟨b,1,none⟩=false:=Lib.frozen_of_heap hb2 1
 obtain⟨ao,n',cap,rfl⟩:∃ ao n' cap,v' = .slice ao n' cap:=by
  rcases hown'.2 with ⟨hv,_⟩|⟨g,cap,cur,fz,hv,_⟩
  ·exact⟨_,_,_,hv⟩
  ·exact⟨_,_,_,hv⟩
 go_wp2
 go_ret2
 refine⟨rfl,?_,?_⟩
 ·exact .inr (Lib.BuilderAtF.put (T:=142) (e:=5) hB hb2 (bs':=bs++Lib.strCells s) (by simpa [Lib.strCells_length] using hown') (by decide))
 ·exact(hb1.grown hgrow (by have:=hb1.size;omega) (fun k hk=>(hown.lt k hk).1)).setCell (p:=⟨b,1,none⟩) hB _
theorem rU (w:World):Lib.IsBuilderF 142 5 w.heap.size w.heap.size [] (w.alloc (.cells #[.pointer none,.slice none 0 0] 142)):=
 .inl ⟨Nat.le_refl _,_,heap_alloc_new w _,⟨rfl,.inl ⟨rfl,rfl⟩⟩,by simp[Value.ownBlock]⟩
theorem Ro {w w' : World}(h:Below w.heap.size w w'):w.grownBy w' none:=⟨h.os,h.tape,h.output,h.size,fun k hk _=>h.block k hk⟩
theorem Ik {T e:TypeId}{B b:Nat}{p:Value}{bs:List Value}{w w' : World}(h:Lib.BuilderAtF T e B b p bs w)(hb:Below w.heap.size w w'):Lib.BuilderAtF T e B b p bs w':=by
 have hlt:=h.lt
 obtain⟨hB,v,hbk,hown,hne⟩:=h
 exact⟨hB,v,(hb.block _ hlt).trans hbk,hown.kept (Ro hb) (by cases hv:v.ownBlock<;>simp),hne⟩
theorem Oa {T e:TypeId}{B b:Nat}{bs:List Value}{w w' : World}(h:Lib.IsBuilderF T e B b bs w)(hb:Below w.heap.size w w'):Lib.IsBuilderF T e B b bs w':=h.imp (fun h=>Ik h hb) (fun h=>Ik h hb)
end
section
open Go Go.RowKit Go.Maps
def BK (w:World)(b:Nat)(X:ByteArray):Prop:=Lib.IsBuilderF 142 5 b b (Lib.strCells X) w
theorem ME (X s:ByteArray):Lib.strCells (X++s)=Lib.strCells X++Lib.strCells s:=by
 unfold Lib.strCells
 rw[Sha.Bq,List.map_append]
theorem BK.below {w w' : World}{b:Nat}{X:ByteArray}(h:BK w b X)(hb:Below w.heap.size w w'):BK w' b X:=Oa h hb
theorem BK.new (w:World):BK (w.alloc (.cells #[.pointer none,.slice none 0 0] 142)) w.heap.size ⟨#[]⟩:=rU w
theorem BK.lt {w:World}{b:Nat}{X:ByteArray}(h:BK w b X):b<w.heap.size:=by
 rcases h with h|h
 ·exact h.lt
 ·exact h.lt
theorem kY (b:Nat)(X s:ByteArray)(w:World)(h:BK w b X)(hl:X.size+s.size<=140737488355328):
 Calls Tryz.prog 118 #[.pointer (some ⟨b,0,none⟩),.string s] w fun e w' => e=.returned (.tuple #[.int .i64 s.size,.nilIface])/\BK w' b (X++s)/\Below b w w' :=
 (VZ b b _ s w h (by rw[Lib.strCells_length];exact hl) (Nat.le_of_lt h.lt)).mono fun _ _ ⟨h1,h2,h3⟩=>⟨h1,by unfold BK;rw[ME];exact h2,h3⟩
theorem vL (b:Nat)(X:ByteArray)(w:World)(h:BK w b X):
 Calls Tryz.prog 119 #[.pointer (some ⟨b,0,none⟩)] w fun e w' => e=.returned (.string X)/\BK w' b X/\Below b w w' :=
 (Tryz.Builder_String_any_f b b X.data.toList w h (Nat.le_of_lt h.lt)).mono fun _ _ ⟨h1,h2,h3⟩=>⟨by rw[h1],h2,h3⟩
theorem Tx (B b:Nat)(bs:List Value)(w:World)(h:Lib.IsBuilderF 142 5 B b bs w):
 Calls Tryz.prog 167 #[.pointer (some ⟨b,0,none⟩)] w fun e w' => e=.returned (.tuple #[])/\(Lib.BuilderAtF 142 5 B b (.pointer (some ⟨b,0,none⟩)) bs w' /\ Below B w w')/\Lib.OthersKept 5 (some b) w w':=by
 rcases h with h|h
 ·refine(JE b w h.cell0 h.shape h.frozen0).mono ?_
  rintro e w' ⟨rfl,rfl⟩
  exact⟨rfl,⟨h.used _,(Below.refl B w).setCell (p:=⟨b,0,none⟩) h.1 _⟩,(Lib.OthersKept.refl _ _ _).setCell ⟨b,0,none⟩ rfl _⟩
 ·refine(KJ b w h.cell0).mono ?_
  rintro e w' ⟨rfl,rfl⟩
  exact⟨rfl,⟨h,Below.refl B _⟩,Lib.OthersKept.refl _ _ _⟩
theorem Tz (B b:Nat)(bs:List Value)(s:ByteArray)(w:World)(h:Lib.IsBuilderF 142 5 B b bs w)(hlen:bs.length+s.size<=140737488355328)(hBw:B<=w.heap.size):
 Calls Tryz.prog 118 #[.pointer (some ⟨b,0,none⟩),.string s] w fun e w' => e=.returned (.tuple #[.int .i64 s.size,.nilIface])/\(Lib.IsBuilderF 142 5 B b (bs++Lib.strCells s) w' /\ Below B w w')/\Lib.OthersKept 5 (some b) w w':=by
 obtain⟨i0,hi,hz0,hz1,hz2⟩:=info_parts GX
 go_enter Tryz.func118,Tryz.ntmps118
 go_wp2_with (go_at_call 167;refine(Tx B b bs _ h).mono ?_)
 rintro e w1 ⟨rfl,⟨h1,hb1⟩,hk1⟩
 obtain⟨hB,v,hbk,hown,hne⟩:=h1
 have c0:w1.cell? ⟨b,0,none⟩=some (.pointer (some ⟨b,0,none⟩)):=by rw[Lib.cell_of_heap hbk];rfl
 have c1:w1.cell? ⟨b,1,none⟩=some v:=by rw[Lib.cell_of_heap hbk];rfl
 go_wp2_with (at_builtin;refine Lib.wpList_append_own_stringF _ rfl _ _ 66 9 rfl B 5 i0 Tryz.underlying66 Tryz.underlying9 hi hz0 hz1 hz2 _ _ _ rfl hown s rfl ?c3 ?c4 ?c5 ?_)
 case c3=>unfold maxLen;omega
 case c4=>omega
 case c5=>have:=hb1.size;omega
 intro v' w2 hown' hgrow _
 have hlt:b<w1.heap.size:=by
  rcases Nat.lt_or_ge b w1.heap.size with h' | h'
  ·exact h'
  ·simp[Array.getElem?_eq_none h'] at hbk
 have hb2:w2.heap[b]? = some (.cells #[.pointer (some ⟨b,0,none⟩),v] 142 (0,0)):=by
  rw[hgrow.block b hlt (fun e=>hne e.symm)]
  exact hbk
 have d0:w2.cell? ⟨b,0,none⟩=some (.pointer (some ⟨b,0,none⟩)):=by rw[Lib.cell_of_heap hb2];rfl
 have d1:w2.cell? ⟨b,1,none⟩=some v:=by rw[Lib.cell_of_heap hb2];rfl
 have f1:w2.frozen? ⟨b,1,none⟩=false:=Lib.frozen_of_heap hb2 1
 have hk2:=hk1.grown hgrow (Lib.ownsRowF_kind hown)
 obtain⟨ao,n',cap,rfl⟩:∃ ao n' cap,v' = .slice ao n' cap:=by
  rcases hown'.2 with ⟨hv,_⟩|⟨g,cap,cur,fz,hv,_⟩
  ·exact⟨_,_,_,hv⟩
  ·exact⟨_,_,_,hv⟩
 go_wp2
 go_ret2
 refine⟨rfl,⟨?_,?_⟩,hk2.setCell ⟨b,1,none⟩ rfl _⟩
 ·exact .inr (Lib.BuilderAtF.put (T:=142) (e:=5) hB hb2 (bs':=bs++Lib.strCells s) (by simpa [Lib.strCells_length] using hown') (by decide))
 ·exact(hb1.grown hgrow (by have:=hb1.size;omega) (fun k hk=>(hown.lt k hk).1)).setCell (p:=⟨b,1,none⟩) hB _
theorem zaf (b:Nat)(X s:ByteArray)(w:World)(h:BK w b X)(hl:X.size+s.size<=140737488355328):
 Calls Tryz.prog 118 #[.pointer (some ⟨b,0,none⟩),.string s] w fun e w' => e=.returned (.tuple #[.int .i64 s.size,.nilIface])/\BK w' b (X++s)/\Below b w w' /\ Lib.OthersKept 5 (some b) w w' :=
 (Tz b b _ s w h (by rw[Lib.strCells_length];exact hl) (Nat.le_of_lt h.lt)).mono fun _ _ ⟨h1,⟨h2,h3⟩,h4⟩=>⟨h1,by unfold BK;rw[ME];exact h2,h3,h4⟩
attribute [local go_sem] Oper.semAt_some kW
theorem Yg (m:ByteArray)(w:World):Calls Tryz.prog 179 #[.string m] w fun e w' => e=.returned (.func (.func 215) #[] #[.pointer (some ⟨w.heap.size,0,none⟩)])/\w' = w.alloc (.cells #[.string m] 9):=by
 go_enter Tryz.func179,Tryz.ntmps179
 go_wp2_with fail
 go_ret
 exact⟨rfl,rfl⟩
theorem BK.loop {w w' : World}{b j:Nat}{X:ByteArray}(h:BK w b X)(hf:Fr (fun k=>k=j) w w')(hl:∃ L,w.heap[j]? = some (.loop L)):BK w' b X:=by
 obtain⟨L,hl⟩:=hl
 have hg:w.grownBy w' (some j):=⟨hf.os,hf.tape,hf.output,hf.size,fun k hk hne=>hf.keep k hk (fun e=>hne (by rw[e]))⟩
 have key:∀ p,Lib.BuilderAtF 142 5 b b p (Lib.strCells X) w->Lib.BuilderAtF 142 5 b b p (Lib.strCells X) w':=by
  intro p h
  have hlt:=h.lt
  obtain⟨hB,v,hbk,hown,hne⟩:=h
  refine⟨hB,v,(hg.block b hlt (fun e=>?_)).trans hbk,hown.kept hg (.inr fun e=>?_),hne⟩
  ·cases e
   rw[hl] at hbk
   cases hbk
  ·obtain⟨c,fz,hc⟩:=Lib.ownsRowF_kind hown j e
   rw[hl] at hc
   cases hc
 exact h.imp (key _) (key _)
theorem BK.obj {w:World}{b:Nat}{X:ByteArray}(h:BK w b X):∃ cs,w.heap[b]? = some (.cells cs 142 (0,0)):=by
 rcases h with ⟨_,v,hbk,_⟩|⟨_,v,hbk,_⟩<;>exact⟨_,hbk⟩
theorem iw (key:Nat)(m:ByteArray)(l:List ByteArray)(k:Nat)(hk:k<67):(Sig.ends key m l).take (k+1)=(Sig.ends key m l).take k++[Sig.chain key k ((Sig.digits m).getD k 0) (15-(Sig.digits m).getD k 0) (l.getD k ⟨#[]⟩)]:=by
 have hl:k<(Sig.ends key m l).length:=by unfold Sig.ends;rw[List.length_map,List.length_range];exact hk
 rw[List.take_succ_eq_append_getElem hl]
 unfold Sig.ends
 simp
structure Wd (w2:World) (m:ByteArray) (E:List ByteArray) (k:Nat) (W:World):Prop where
 bld:BK W w2.heap.size (Cod.cat (E.take k))
 msg:At W (w2.heap.size+1) 9 #[.string m]
 bel:Below w2.heap.size w2 W
theorem Wd.below {w2 W W' : World}{m:ByteArray}{E:List ByteArray}{k:Nat}(h:Wd w2 m E k W)(hb:Below W.heap.size W W'):Wd w2 m E k W':=⟨h.bld.below hb,h.msg.below hb h.msg.lt,h.bel.trans (hb.mono h.bel.size)⟩
theorem Wd.loop {w2 W W' : World}{m:ByteArray}{E:List ByteArray}{k j:Nat}(h:Wd w2 m E k W)(hj:w2.heap.size+1<j)(hf:Fr (fun i=>i=j) W W')(hl:∃ L,W.heap[j]? = some (.loop L)):Wd w2 m E k W' :=
 ⟨h.bld.loop hf hl,h.msg.keep (hf.keep _ h.msg.lt (by omega)),h.bel.trans (hf.below h.bel.size (fun k hk=>by have e:k=j:=hk;omega))⟩
theorem Rp (l:List ByteArray)(h:∀ x∈l,x.size=32):(Cod.cat l).size=32*l.length:=by
 induction l with
 | nil=>rfl
 | cons x l ih =>
   show(x++Cod.cat l).size=_
   rw[ByteArray.size_append,ih (fun y hy=>h y (List.mem_cons_of_mem _ hy)),h x List.mem_cons_self,List.length_cons]
   omega
theorem Gi {F:Fence}{n:Nat}{P:Program}{fn:Func}{R:Ending->World->Prop}{tmps:Array Value}{w:World}{v:Value}(h:(results fn tmps).run P w=.ok v w)(hq:R (.returned v) w):bodyPostM F n P fn R Exit.ret { tmps:=tmps,defers:=[] } w:=⟨v,h,hq⟩
theorem iy {F:Fence}{n:Nat}{P:Program}{fn:Func}{R:Ending->World->Prop}{tmps:Array Value}{w:World}{v:Value}{r:Nat}(hd:w.heap[r]? = some (.deferred (some [])))(h:(results fn tmps).run P (w.putObj r (.deferred none))=.ok v (w.putObj r (.deferred none)))(hq:R (.returned v) (w.putObj r (.deferred none))):
 bodyPostM F n P fn R Exit.ret { tmps:=tmps,defers:=[{ target:=.collected r,args:=#[] }] } w:=
 ⟨by simp,.inl ⟨r,_,rfl,run_takeDeferred hd,v,h,hq⟩⟩
theorem Yh (pub m:ByteArray)(s:Sig.T)(cv pv:Value)(w:World)(hc:Al w cv s.chains)(hp:Al w pv s.path)(hcap:Eb pv)(hl:s.chains.length<=140737488355328)(hpl:s.path.length<=140737488355328)(hm:m.size<=9223372036854775000):
 Calls Tryz.prog 148 #[.string pub,.string m,.agg #[.int .i64 s.index,cv,pv]] w fun e w' => e=.returned (.bool (Sig.verify pub m s))/\Below w.heap.size w w':=by
 obtain⟨R,hR⟩:∃ R,R=Sig.verify pub m s:=⟨_,rfl⟩
 rw[<- hR]
 unfold Sig.verify at hR
 obtain⟨ca,cc,rfl⟩:=hc.len
 obtain⟨pa,pc,rfl⟩:=hp.len
 have HR:=zh hR;have HC:=zh hc;have HP:=zh hp;have HCAP:=zh hcap
 clear hR hc hp hcap
 refine(callsIn_wide (n:=9)).1 ?_
 refine callsIn_of_wp_marks Tryz.func148 rfl trivial ?_ rfl
 simp only[Tryz.ntmps148,List.size_toArray,List.length_cons,List.length_nil,Nat.reduceAdd,Nat.reduceSub,Array.replicate_succ,Array.replicate_zero,List.push_toArray,List.append_toArray,List.nil_append,List.cons_append]
 refine wpIn_wide.2 ?_
 have hb1:Below w.heap.size w (w.alloc (.cells #[.int .i64 s.index,.slice ca s.chains.length cc,.slice pa s.path.length pc] 70)):=zb
 have ha1:At (w.alloc (.cells #[.int .i64 s.index,.slice ca s.chains.length cc,.slice pa s.path.length pc] 70)) w.heap.size 70 #[.int .i64 s.index,.slice ca s.chains.length cc,.slice pa s.path.length pc]:=At.new w _ _
 have HB1:=zh hb1;have HA1:=zh ha1
 clear hb1 ha1
 obtain⟨c0,c1,c2⟩:=HA1.out.c3
 by_cases h33:pub.size=33
 case neg=>
  have d1:((pub.size:Int) != 33)=true:=by rw[bne_iff_ne];omega
  have hx:R=false:=by rw[HR.out];unfold Sig.Bn;rw[decide_eq_false h33];rfl
  have HX:=zh hx;clear hx
  go_wp2_with fail
  refine Gi (results_tmp rfl _ _ _) ?_
  exact⟨by rw[HX.out];rfl,HB1.out⟩
 have d1:((pub.size:Int) != 33)=false:=by rw[bne_eq_false_iff_eq];omega
 have h32:32<pub.size:=by omega
 have hg:pub.get! 32=pub[32]:=getElem!_pos pub.data 32 h32
 have hxl:pub[32].toNat<256:=pub[32].toNat_lt
 rw[hg] at HR
 by_cases h6:pub[32].toNat<=6
 case neg=>
  have d2:decide ((6:Int)<(pub[32].toNat:Int))=true:=zt
  have hx:R=false:=by
   rw[HR.out]
   have:Sig.Bn pub=false:=by unfold Sig.Bn;rw[hg,decide_eq_false h6];simp
   rw[this];rfl
  have HX:=zh hx;clear hx
  go_wp2_with fail
  refine Gi (results_tmp rfl _ _ _) ?_
  exact⟨by rw[HX.out];rfl,HB1.out⟩
 have d2:decide ((6:Int)<(pub[32].toNat:Int))=false:=zf
 have vM:Sig.Bn pub=true:=by unfold Sig.Bn;rw[hg,decide_eq_true h33,decide_eq_true h6];rfl
 obtain⟨N,hN⟩:∃ N:Nat,N=2^pub[32].toNat:=⟨_,rfl⟩
 have zah:N<=64:=by
  rw[hN]
  exact Nat.le_trans (Nat.pow_le_pow_right (by omega) h6) (by decide)
 have hN0:0<N:=by rw[hN];exact Nat.two_pow_pos _
 have hsh:wrap64 ((2:Int)^pub[32].toNat)=(N:Int):=by
  have:((2:Int)^pub[32].toNat)=((2^pub[32].toNat:Nat):Int):=(Int.natCast_pow 2 _).symm
  rw[this,<- hN]
  unfold wrap64
  omega
 have hR2:R=(decide (0<=s.index)&&decide (s.index<(N:Int))&&decide (s.chains.length=67)&&s.chains.all Sig.digest&&Sig.included (Sig.Jy (Sig.ends s.index.toNat m s.chains)) s.index N s.path (pub.extract 0 32)):=by
  have:((2:Int)^pub[32].toNat)=(N:Int):=by rw[hN];exact(Int.natCast_pow 2 _).symm
  rw[HR.out,vM,this]
  simp
 have HR2:=zh hR2;have HSH:=zh hsh
 clear hR2 vM hN hsh
 go_upto_region 4 with fail
 rw[HSH.out]
 have hlw:w.heap.size<(w.alloc (.cells #[.int .i64 s.index,.slice ca s.chains.length cc,.slice pa s.path.length pc] 70)).heap.size:=by simp
 have HC1:=zh (HC.out.below HB1.out);have HP1:=zh (HP.out.below HB1.out)
 generalize w.alloc (.cells #[.int .i64 s.index,.slice ca s.chains.length cc,.slice pa s.path.length pc] 70)=w1 at*
 by_cases i1:s.index<0
 ·have e1:decide (s.index<0)=true:=decide_eq_true i1
  have hx:R=false:=by rw[HR2.out,zf];rfl
  have HX:=zh hx;clear hx
  go_wp2_with fail
  refine Gi (results_tmp rfl _ _ _) ?_
  exact⟨by rw[HX.out];rfl,HB1.out⟩
 have e1:decide (s.index<0)=false:=decide_eq_false i1
 by_cases i2:(N:Int)<=s.index
 ·have e2:decide ((N:Int)<=s.index)=true:=decide_eq_true i2
  have hx:R=false:=by rw[HR2.out,decide_eq_false (p:=s.index<(N:Int)) (by omega)];simp
  have HX:=zh hx;clear hx
  go_wp2_with fail
  refine Gi (results_tmp rfl _ _ _) ?_
  exact⟨by rw[HX.out];rfl,HB1.out⟩
 have e2:decide ((N:Int)<=s.index)=false:=decide_eq_false i2
 by_cases i3:s.chains.length=67
 case neg=>
  have e3:((s.chains.length:Int) != 67)=true:=by rw[bne_iff_ne];omega
  have hx:R=false:=by rw[HR2.out,decide_eq_false i3];simp
  have HX:=zh hx;clear hx
  go_wp2_with fail
  refine Gi (results_tmp rfl _ _ _) ?_
  exact⟨by rw[HX.out];rfl,HB1.out⟩
 have e3:((s.chains.length:Int) != 67)=false:=by rw[bne_eq_false_iff_eq];omega
 have I3:=zh i3;clear i3
 go_wp2_with fail
 refine(Hg 126 #[] Tryz.call126 (fun x => !Sig.digest x) _ s.chains _ (fun W x=>Ls x W) HC1.out hl).mono ?_
 rintro e _ ⟨rfl,q,rfl⟩
 rw[Hl]
 have hbq:Below w1.heap.size w1 (w1.drewN q):=below_drewN (Below.refl _ _) q
 have HB2:=zh (HB1.out.trans (hbq.mono HB1.out.size));have HA2:=zh (HA1.out.below hbq HA1.out.lt);have HC2:=zh (HC1.out.below hbq);have HP2:=zh (HP1.out.below hbq)
 clear hbq c0 c1 c2 HC1 HP1 HA1 HB1
 generalize w1.drewN q=w2 at*
 cases hall:s.chains.all Sig.digest with
 | false =>
   have hx:R=false:=by rw[HR2.out,hall];simp
   have HX:=zh hx;clear hx hall
   go_wp2_with fail
   refine Gi (results_tmp rfl _ _ _) ?_
   exact⟨by rw[HX.out];rfl,HB2.out⟩
 | true=>
 have hR3:R=Sig.included (Sig.Jy (Sig.ends s.index.toNat m s.chains)) s.index N s.path (pub.extract 0 32):=by
  rw[HR2.out,hall,decide_eq_true I3.out,decide_eq_true (p:=0<=s.index) (by omega),decide_eq_true (p:=s.index<(N:Int)) (by omega)]
  rfl
 have Pk:∀ x∈s.chains,x.size=32:=fun x hx=>of_decide_eq_true (List.all_eq_true.1 hall x hx)
 have HR3:=zh hR3;have oF:=zh Pk
 clear hR3 hall Pk HR HR2
 go_wp2_with fail
 refine(Yg m _).mono ?_
 rintro e w3 ⟨rfl,rfl⟩
 go_wp2_with fail
 have hpw:w.heap.size<w2.heap.size:=HA2.out.lt
 have hj0:Wd w2 m (Sig.ends s.index.toNat m s.chains) 0 ((w2.alloc (.cells #[.pointer none,.slice none 0 0] 142)).alloc (.cells #[.string m] 9)):=
  ⟨BK.below (BK.new w2) zb,At.new1 w2 _ _ _,zb.alloc (by simp) _⟩
 have hs4:((w2.alloc (.cells #[.pointer none,.slice none 0 0] 142)).alloc (.cells #[.string m] 9)).heap.size=w2.heap.size+2:=by simp
 have hEl:(Sig.ends s.index.toNat m s.chains).length=67:=by unfold Sig.ends;rw[List.length_map,List.length_range]
 have hEz:∀ x∈Sig.ends s.index.toNat m s.chains,x.size=32:=by
  intro x hx
  unfold Sig.ends at hx
  obtain⟨c,hc,rfl⟩:=List.mem_map.1 hx
  have hc:=List.mem_range.1 hc
  refine Sig.Gx _ _ _ _ _ ?_
  rw[List.getD_eq_getElem?_getD,List.getElem?_eq_getElem (by have:=I3.out;omega)]
  exact oF.out _ (List.getElem_mem _)
 have HJ0:=zh hj0;have HS4:=zh hs4;have HEL:=zh hEl;have HEZ:=zh hEz
 clear hj0 hs4 hEl hEz
 generalize (w2.alloc (.cells #[.pointer none,.slice none 0 0] 142)).alloc (.cells #[.string m] 9)=w4 at*
 have hs4:=HS4.out
 have hrr:Fence.wide.round=none:=rfl
 refine(wpIn_wide (n:=9)).1 ?_
 refine JC (VU 3) (fun L h=>by obtain⟨_,_,h⟩:=h;cases h) (r:=none) rfl rfl (enters_of Tryz.func215 (by kernel_rfl) rfl) (fun x:Nat × Nat=>#[.int .i64 x.1,.int .i64 x.2]) (fun _=>rfl)
  (Wd w2 m (Sig.ends s.index.toNat m s.chains)) (fun _ _=>False) (dS m) (fun k=>k=67) 0 ?hJb ?hJl ?VT ?h0 ?hiter ?Lv ?hdone ?hstop
 case hJb=>exact fun k W W' h hb=>h.below hb
 case hJl=>exact fun k W W' h hf hl=>h.loop (by omega) hf hl
 case VT=>exact fun c W W' h _=>h
 case h0=>exact HJ0.out
 case hiter=>
  refine VW (w2.heap.size+1) _ m hm _ ?_
  rintro W h
  exact h.msg.cell 0
 case Lv=>
  rintro k ⟨k',d⟩ k2 W hsz hl hd hj ⟨hk,hx,rfl⟩
  obtain⟨rfl,hdd⟩:=Prod.mk.inj hx
  have vN:d<=15:=by rw[hdd];exact Sig.QN m k'
  have HJ:=zh hj;have HL:=zh hl;have HDF:=zh hd;have HDD:=zh hdd
  clear hj hl hx hd hdd
  gi_wp2
  refine⟨trivial,?_⟩
  intro W2 hf hl2
  have hj2:=HJ.out.loop (by omega) hf HL.out
  have vO:W2.heap[w4.heap.size]? = some (.deferred (some [])):=(hf.keep _ (by omega) (by omega)).trans HDF.out
  have hfs:=hf.size
  have rV:At W2 w.heap.size 70 #[.int .i64 s.index,.slice ca s.chains.length cc,.slice pa s.path.length pc]:=HA2.out.below hj2.bel hpw
  have hcs2:=HC2.out.below hj2.bel
  have hkl:k' < s.chains.length:=by have:=I3.out;omega
  obtain⟨cb,co,hca⟩:=hcs2.addrOf hkl
  subst hca
  have hcell:=hcs2.cellAt hkl
  obtain⟨I,hI⟩:∃ I:Nat,s.index=I:=⟨s.index.toNat,by omega⟩
  obtain⟨x,hx⟩:∃ x,x=s.chains.getD k' ⟨#[]⟩:=⟨_,rfl⟩
  have hxz:x.size=32:=by
   rw[hx,List.getD_eq_getElem?_getD,List.getElem?_eq_getElem hkl]
   exact oF.out _ (List.getElem_mem _)
  rw[<- hx] at hcell
  have q0:=rV.cell 0;have q1:=rV.cell 1
  simp only[zg] at q0 q1
  rw[hI] at q0
  have HJ2:=zh hj2;have vP:=zh vO;have HL2:=zh hl2;have HX:=zh hx;have HII:=zh hI
  have hIN:I<64:=by omega
  clear hj2 vO hl2 hx rV hcs2 hf hI
  gi_step
  refine wpIn_block ?_
  refine Lex.PW (by kernel_rfl) (by kernel_rfl) (by kernel_rfl) ?_
  go_wp2_with fail
  refine(show Calls Tryz.prog 180 #[.string x,.int .i64 I,.int .i64 k',.int .i64 d,.int .i64 15] W2.drew _ from gH x I k' d (15-d) 15 W2.drew (by omega) (by omega) (by omega) (by omega) (by omega)).mono ?_
  rintro e w5 ⟨rfl,hb5⟩
  have iA:Below W2.heap.size W2 w5:=((Below.refl W2.heap.size W2).drew).trans hb5
  have hyz:=Sig.Gx I k' d (15-d) x hxz
  have hE:(Sig.ends s.index.toNat m s.chains).take (k' + 1)=(Sig.ends s.index.toNat m s.chains).take k' ++ [Sig.chain I k' d (15-d) x]:=by
   rw[iw _ _ _ _ hk,<- HDD.out,<- HX.out]
   have:s.index.toNat=I:=by rw[HII.out];exact Int.toNat_natCast I
   rw[this]
  obtain⟨y,hy⟩:∃ y,y=Sig.chain I k' d (15-d) x:=⟨_,rfl⟩
  rw[<- hy] at hyz hE ⊢
  have hj5:=HJ2.out.below iA
  have hcl:(Cod.cat ((Sig.ends s.index.toNat m s.chains).take k')).size<=3000:=by
   rw[Rp _ (fun z hz=>HEZ.out z (List.mem_of_mem_take hz)),List.length_take]
   omega
  have HJ5:=zh hj5;have aI:=zh iA;have HE:=zh hE
  clear hy hE hb5 iA hj5 q0 q1 hcell
  go_wp2_with fail
  refine(zaf w2.heap.size _ y w5 HJ5.out.bld (by omega)).mono ?_
  rintro e w6 ⟨rfl,iB,hb6,kZ⟩
  obtain⟨cs,hob⟩:=HJ5.out.bld.obj
  obtain⟨L2,hl2⟩:=HL2.out
  have hsz2:w4.heap.size+1<W2.heap.size:=(Array.getElem?_eq_some_iff.1 hl2).1
  have hk0:w6.heap[w4.heap.size]? = W2.heap[w4.heap.size]? :=by
   have h1:=(aI.out.block w4.heap.size (by omega)).trans vP.out
   rw[vP.out]
   exact kZ _ _ h1 (fun e=>by have:=Option.some.inj e;omega) (fun c fz e=>by cases e)
  have hk1:w6.heap[w4.heap.size+1]? = W2.heap[w4.heap.size+1]? :=by
   have h1:=(aI.out.block (w4.heap.size+1) hsz2).trans hl2
   rw[hl2]
   exact kZ _ _ h1 (fun e=>by have:=Option.some.inj e;omega) (fun c fz e=>by cases e)
  have hkk:Kept (VU 3) W2 w6:=by
   intro k o hk ho
   have h1:=(aI.out.block k (Array.getElem?_eq_some_iff.1 hk).1).trans hk
   obtain⟨c,fz,rfl⟩:=ho
   refine kZ _ _ h1 (fun e=>?_) (fun c fz e=>by cases e)
   rw[Option.some.inj e] at h1
   rw[hob] at h1
   cases h1
  have JF:At w6 (w2.heap.size+1) 9 #[.string m]:=kZ _ _ HJ5.out.msg (fun e=>by have:=Option.some.inj e;omega) (fun c fz e=>by cases e)
  have hnew:Wd w2 m (Sig.ends s.index.toNat m s.chains) (k' + 1) w6:=by
   refine⟨?_,JF,HJ5.out.bel.trans hb6⟩
   rw[HE.out,Gy]
   exact iB
  have HK0:=zh hk0;have HK1:=zh hk1;have HKK:=zh hkk;have kT:=zh hnew
  clear iB hb6 kZ hob hl2 hk0 hk1 hkk JF hnew
  go_wp2_with fail
  refine Lex.ze ?_
  gi_wp2
  exact⟨⟨HK0.out,HK1.out⟩,HKK.out,.inl ⟨rfl,kT.out⟩⟩
 case hdone=>
  intro k W hD hJ hdf
  subst hD
  have hE:(Sig.ends s.index.toNat m s.chains).take 67=Sig.ends s.index.toNat m s.chains:=List.take_of_length_le (by have:=HEL.out;omega)
  have hat:At W w.heap.size 70 #[.int .i64 s.index,.slice ca s.chains.length cc,.slice pa s.path.length pc]:=HA2.out.below hJ.bel hpw
  have iB:=hJ.bld
  rw[hE] at iB
  have hps:=HP2.out.below hJ.bel
  have hcl:(Cod.cat (Sig.ends s.index.toNat m s.chains)).size<=3000:=by
   rw[Rp _ HEZ.out,HEL.out]
   omega
  have hbel:Below w.heap.size w W:=HB2.out.trans (hJ.bel.mono HB2.out.size)
  have q0:=hat.cell 0;have q2:=hat.cell 2
  simp only[zg] at q0 q2
  have HAT:=zh hat;have HBL:=zh iB;have HPS:=zh hps;have HBE:=zh hbel;have HDF:=zh hdf;have HJD:=zh hJ
  clear hat iB hps hbel hdf hJ hE
  go_wp2_with fail
  refine Lex.zn (fun k=>k=w.heap.size) [3,6] 9 [1,1] ?_
  simp only[Lex.Bp,zd]
  go_wp2_with fail
  obtain⟨C,hC⟩:∃ C,C=Cod.cat (Sig.ends s.index.toNat m s.chains):=⟨_,rfl⟩
  rw[<- hC] at HBL hcl
  refine(Tryz.Builder_String_any_k w2.heap.size w2.heap.size C.data.toList W.drew HBL.out (Nat.le_of_lt HBL.out.lt)).mono ?_
  rintro e w5 ⟨rfl,hx5,hb5,vQ⟩
  clear hx5
  have iA:Below w2.heap.size w2 w5:=HJD.out.bel.trans ((Below.refl w2.heap.size W).drew.trans hb5)
  have vR:w5.heap[w4.heap.size]? = some (.deferred (some [])):=vQ _ _ HDF.out (fun e=>by have:=Option.some.inj e;omega) (fun c fz e=>by cases e)
  have hC2:(⟨C.data.toList.toArray⟩:ByteArray)=C:=rfl
  rw[hC2]
  have aI:=zh iA;have HD5:=zh vR;have HCC:=zh hC
  clear hb5 vQ iA vR hC hC2
  go_wp2_with fail
  refine Lex.Mid.intro (fun k hk hl=>by subst hk;exact(aI.out.block _ hpw).trans (HJD.out.bel.block _ hpw).symm) ?_
  go_wp2_with fail
  refine(gG C w5 (by omega)).mono ?_
  rintro e w6 ⟨rfl,hb6⟩
  have rW:Below w2.heap.size w2 w6:=aI.out.trans (hb6.mono aI.out.size)
  have vS:w6.heap[w4.heap.size]? = some (.deferred (some [])):=(hb6.block _ (Array.getElem?_eq_some_iff.1 HD5.out).1).trans HD5.out
  have Di:=HA2.out.below rW hpw
  have hlf:Sha.sha (Sig.b1 0++C)=Sig.Jy (Sig.ends s.index.toNat m s.chains):=by rw[HCC.out];rfl
  rw[hlf]
  have q0':=Di.cell 0;have q2':=Di.cell 2
  simp only[zg] at q0' q2'
  have oG:=zh rW;have HD6:=zh vS
  clear hb6 rW vS Di hlf q0 q2
  go_wp2_with fail
  refine Lex.Mid.intro (fun k hk hl=>by subst hk;exact(oG.out.block _ hpw).trans (HJD.out.bel.block _ hpw).symm) ?_
  obtain⟨I,hI⟩:∃ I:Nat,s.index=I:=⟨s.index.toNat,by omega⟩
  have vT:=HP2.out.below oG.out
  have zai:=zh vT;clear vT
  have d33:decide ((33:Int)<32)=false:=by decide
  have hpz:(pub.size:Int)=33:=by omega
  have qQ:R=Sig.included (Sig.Jy (Sig.ends I m s.chains)) (I:Int) (N:Int) s.path (pub.extract 0 32):=by
   rw[HR3.out,hI,Int.toNat_natCast]
  have HFR:=zh qQ;clear qQ
  go_wp2_with fail
  refine(Tt (Sig.Jy (Sig.ends I m s.chains)) I N (.slice pa s.path.length pc) s.path (pub.extract 0 32) w6 zai.out HCAP.out hpl).mono ?_
  rintro e w7 ⟨rfl,hb7⟩
  rw[<- HFR.out]
  have vU:w7.heap[w2.heap.size+2]? = some (.deferred (some [])):=by
   have:=(hb7.block _ (Array.getElem?_eq_some_iff.1 HD6.out).1).trans HD6.out
   rwa [HS4.out] at this
  have hbf:Below w.heap.size w w7:=HB2.out.trans ((oG.out.trans (hb7.mono oG.out.size)).mono HB2.out.size)
  have k0:=HAT.out.cell 0;have k2:=HAT.out.cell 2
  simp only[zg] at k0 k2
  have zaj:=zh vU;have HBF:=zh hbf
  clear hb7 vU hbf q0' q2'
  go_wp2_with fail
  refine Lex.zk ⟨⟨rfl,zi k0⟩,⟨rfl,zi k2⟩,trivial⟩ ?_
  go_wp2_with fail
  refine iy zaj.out (results_tmp rfl _ _ _) ?_
  refine⟨rfl,HBF.out.trans ⟨rfl,rfl,rfl,by simp[World.putObj],fun k hk=>World.putObj_heap_other (by omega)⟩⟩
 case hstop=>exact fun c W h=>h.elim
end
section
open Go Go.RowKit Go.Maps
theorem Gz {β : Type}(f:Nat -> β)(k:Nat):(List.range (k+1)).map f=(List.range k).map f++[f k]:=by rw[List.range_succ,List.map_append];rfl
theorem PX (seed:ByteArray)(key:Nat)(g:Nat->Nat)(k:Nat):(Cod.cat ((List.range k).map fun c=>Sig.chain key c 0 (g c) (Sig.secret seed key c))).size=32*k:=by
 rw[Rp _ (fun x hx=>by obtain⟨c,_,rfl⟩:=List.mem_map.1 hx;exact Sig.Gx _ _ _ _ _ (Sig.GY _ _ _)),List.length_map,List.length_range]
theorem Yi (seed:ByteArray)(key:Nat)(w:World)(hs:seed.size<=1000)(hk:key<9223372036854775808):
 Calls Tryz.prog 193 #[.string seed,.int .i64 key] w fun e w' => e=.returned (.string (Sig.leaf seed key))/\Below w.heap.size w w':=by
 obtain⟨R,hR⟩:∃ R,R=Sig.leaf seed key:=⟨_,rfl⟩
 rw[<- hR]
 obtain⟨F,hF⟩:∃ F:Nat->ByteArray,F=fun k=>Cod.cat ((List.range k).map fun c=>Sig.chain key c 0 15 (Sig.secret seed key c)):=⟨_,rfl⟩
 have hFz:∀ k,(F k).size=32*k:=fun k=>by rw[hF];exact PX seed key (fun _=>15) k
 have hFs:∀ k,F (k+1)=F k++Sig.chain key k 0 15 (Sig.secret seed key k):=fun k=>by rw[hF];show Cod.cat _=Cod.cat _++_;rw[Gz,Gy]
 have hF0:F 0=⟨#[]⟩:=by rw[hF];rfl
 have hR2:R=Sha.sha (Sig.b1 0++F 67):=by rw[hR,hF];rfl
 have HFZ:=zh hFz;have HFS:=zh hFs;have HR2:=zh hR2;have HF0:=zh hF0
 clear hR hF hFz hFs hF0 hR2
 go_enter Tryz.func193,Tryz.ntmps193
 go_wp2_with fail
 go_loopw [5,6] (fun s i wr=>∃ k:Nat,k<=67/\i=.int .i64 k/\s=.string (F k)/\Below w.heap.size w wr) (fun _ i _=>67-(intOf i).toNat)
 case atStart=>exact⟨0,by omega,rfl,by rw[HF0.out],Below.refl _ _⟩
 case round=>
  obtain⟨k,hk2,rfl,rfl,hb⟩:=hrel
  have HB:=zh hb;clear hb
  by_cases hlt:k<67
  ·have dk:decide ((k:Int)<67)=true:=by simp;omega
   go_wp2_with fail
   refine(KI seed key k wr hs hk (by omega)).mono ?_
   rintro e w2 ⟨rfl,hb2⟩
   have HB2:=zh (HB.out.trans (hb2.mono HB.out.size));clear hb2
   have hsz:=Sig.GY seed key k
   have hst:=HFS.out k
   obtain⟨x,hx⟩:∃ x,x=Sig.secret seed key k:=⟨_,rfl⟩
   rw[<- hx] at hsz hst ⊢
   have HST:=zh hst;clear hx hst
   go_wp2_with fail
   refine(show Calls Tryz.prog 154 #[.int .i64 key,.int .i64 k,.int .i64 0,.int .i64 15,.string x] w2 _ from Pf key k 0 15 15 x w2 (by omega) (by omega) hk (by omega) (by omega)).mono ?_
   rintro e w3 ⟨rfl,hb3⟩
   have HB3:=zh (HB2.out.trans (hb3.mono HB2.out.size));clear hb3
   have hyz:=Sig.Gx key k 0 15 x hsz
   obtain⟨y,hy⟩:∃ y,y=Sig.chain key k 0 15 x:=⟨_,rfl⟩
   rw[<- hy] at HST hyz ⊢
   have hkz:=HFZ.out k
   clear hy
   go_wp2_with fail
   exact⟨⟨k+1,by omega,by go_num,by rw[HST.out],HB3.out⟩,by simp[intOf];omega⟩
  ·obtain rfl:k=67:=by omega
   go_wp2_with fail
   refine(Yb (F 67) wr (by have:=HFZ.out 67;omega)).mono ?_
   rintro e w2 ⟨rfl,hb2⟩
   have HB2:=zh (HB.out.trans (hb2.mono HB.out.size));clear hb2
   rw[<- HR2.out]
   go_wp2_with fail
   go_ret
   exact⟨rfl,HB2.out⟩
theorem KL (seed:ByteArray)(nx:Int)(w:World)(hs:seed.size<=1000):
 Calls Tryz.prog 157 #[.agg #[.string seed,.int .i64 1,.int .i64 nx]] w fun e w' => ∃ v,e=.returned v/\w'.ownsRow w.heap.size 9 1 v 2 ((Sig.leaves seed 2).map Value.string)/\Below w.heap.size w w':=by
 have hL:Sig.leaves seed 2=Sig.leaves seed 2:=rfl
 obtain⟨R,hR⟩:∃ R,R=(Sig.leaves seed 2).map Value.string:=⟨_,rfl⟩
 rw[<- hR]
 have HR:=zh hR;clear hL hR
 go_enter Tryz.func157,Tryz.ntmps157
 go_wp2_with fail
 have hb1:Below w.heap.size w (w.alloc (.cells #[.string seed,.int .i64 1,.int .i64 nx] 123)):=zb
 have ha1:=At.new w 123 #[.string seed,.int .i64 1,.int .i64 nx]
 have hn1:(w.alloc (.cells #[.string seed,.int .i64 1,.int .i64 nx] 123)).heap.size=w.heap.size+1:=by simp
 have HB1:=zh hb1;have HA1:=zh ha1;clear hb1 ha1
 generalize w.alloc (.cells #[.string seed,.int .i64 1,.int .i64 nx] 123)=w1 at*
 go_loopw [3,4] (fun v i wr=>∃ k:Nat,k<=2/\i=.int .i64 k/\wr.ownsRow w1.heap.size 9 1 v k ((Sig.leaves seed k).map Value.string)/\Below w1.heap.size w1 wr) (fun _ i _=>2-(intOf i).toNat)
 case atStart=>exact⟨0,by omega,rfl,World.ownsRow_nil _ _ _ _,Below.refl _ _⟩
 case round=>
  obtain⟨k0,hk2,rfl,ho,hb⟩:=hrel
  have ha:=HA1.out.below hb (by omega)
  have HO:=zh ho;have HB:=zh hb;have HA:=zh ha
  obtain⟨ga,k,gc,rfl⟩:=Ac ho
  obtain rfl:=Ba ho
  have c0:=ha.cell 0;have c1:=ha.cell 1
  simp only[zg] at c0 c1
  clear ho hb ha
  by_cases hlt:k<2
  ·have dk:decide ((k:Int)<2)=true:=by simp;omega
   go_wp2_with fail
   refine(Yi seed k wr hs (by omega)).mono ?_
   rintro e w2 ⟨rfl,hb2⟩
   have hlk:(Sig.leaves seed (k+1)).map Value.string=(Sig.leaves seed k).map Value.string++[.string (Sig.leaf seed k)]:=by
    unfold Sig.leaves
    rw[Gz,List.map_append]
    rfl
   obtain⟨x,hx⟩:∃ x,x=Sig.leaf seed k:=⟨_,rfl⟩
   rw[<- hx] at hlk ⊢
   have HO2:=zh (own_below HO.out hb2);have HB2:=zh (HB.out.trans (hb2.mono HB.out.size));have HLK:=zh hlk
   clear hb2 hlk hx c0 c1
   go_wp2_with (at_builtin;go_must (refine Ah Mw rfl _ _ rfl w1.heap.size k _ _ rfl (HO2.out.alloc _) (.slice (some ⟨w2.heap.size,0,none⟩) 1 1) 1 [.string x] rfl (Cx w2 9 #[.string x] 1 1 1 rfl) (by intro u hu;simp at hu;subst hu;rfl) (by omega) (by omega) (by have:=HB2.out.size;simp;omega) ?_);intro v6 w6 ho6 hg6 _;have hb6:=Bh (HB2.out.alloc HB2.out.size _) (by have:=HB2.out.size;simp;omega) HO2.out hg6;have HO6:=zh ho6;have HB6:=zh hb6;clear ho6 hg6 hb6)
   exact⟨⟨k+1,by omega,by go_num,by rw[HLK.out];exact HO6.out,HB6.out⟩,by simp[intOf];omega⟩
  ·obtain rfl:k=2:=by omega
   go_wp2_with fail
   go_ret
   exact⟨_,rfl,Cw (by rw[HR.out];exact HO.out) (by omega),HB1.out.trans (HB.out.mono (by omega))⟩
theorem MF (seed:ByteArray)(nx:Nat)(w:World)(hs:seed.size=32)(hn:nx<=2):
 Calls Tryz.prog 152 #[.agg #[.string seed,.int .i64 1,.int .i64 nx]] w fun e w' => e=.returned (.bool true)/\Below w.heap.size w w':=by
 have ha:=At.new w 123 #[.string seed,.int .i64 1,.int .i64 nx]
 have d1:((seed.size:Int)==32)=true:=by rw[hs];rfl
 have d2:decide ((nx:Int)<=2)=true:=by simp;omega
 have d3:decide ((0:Int)<=(nx:Int))=true:=by simp
 go_enter Tryz.func152,Tryz.ntmps152
 go_wp2_with fail
 have hb1:Below w.heap.size w (w.alloc (.cells #[.string seed,.int .i64 1,.int .i64 nx] 123)):=zb
 have HB1:=zh hb1;have HA:=zh ha
 have c0:=ha.cell 0;have c1:=ha.cell 1;have c2:=ha.cell 2
 simp only[zg] at c0 c1 c2
 clear hb1 ha
 generalize w.alloc (.cells #[.string seed,.int .i64 1,.int .i64 nx] 123)=w1 at*
 refine Lex.zl ?_
 go_wp2_with fail
 refine Lex.ze ?_
 go_wp2_with fail
 go_ret
 exact⟨rfl,HB1.out.drew⟩
theorem dU (W:World)(g:Nat)(h:At W g 5 #[.int .u8 1]):(convert 66 9 (.slice (some ⟨g,0,none⟩) 1 1)).run Tryz.prog W=.ok (.string (Sig.b1 1)) W:=by
 have:=run_convert_bytes_arg (P:=Tryz.prog) W 66 5 rfl rfl g 0 1 1 [1] rfl (fun i hi=>by
  have:i=0:=by simpa using hi
  subst this
  exact h.cell 0) 9 rfl
 exact this
theorem Rq (seed:ByteArray)(n:Nat):(Sig.leaves seed n).all Sig.digest=true:=by
 rw[List.all_eq_true]
 intro x hx
 obtain⟨k,_,rfl⟩:=List.mem_map.1 hx
 exact decide_eq_true (Sig.Ie seed k)
theorem TA (seed:ByteArray)(w:World)(hs:seed.size=32):
 Calls Tryz.prog 102 #[.agg #[.string seed,.int .i64 1,.int .i64 0]] w fun e w' => e=.returned (.tuple #[.string (Sig.Jz seed),.int .i64 0])/\Below w.heap.size w w':=by
 obtain⟨R,hR⟩:∃ R,R=Sig.Jz seed:=⟨_,rfl⟩
 rw[<- hR]
 have HR:=zh hR;clear hR
 have ha:=At.new w 123 #[.string seed,.int .i64 1,.int .i64 0]
 go_enter Tryz.func102,Tryz.ntmps102
 go_wp2_with fail
 have hb1:Below w.heap.size w (w.alloc (.cells #[.string seed,.int .i64 1,.int .i64 0] 123)):=zb
 have hn1:(w.alloc (.cells #[.string seed,.int .i64 1,.int .i64 0] 123)).heap.size=w.heap.size+1:=by simp
 have HB1:=zh hb1;have HA1:=zh ha;clear hb1 ha
 generalize w.alloc (.cells #[.string seed,.int .i64 1,.int .i64 0] 123)=w1 at*
 refine(show Calls Tryz.prog 152 #[.agg #[.string seed,.int .i64 1,.int .i64 0]] w1 _ from MF seed 0 w1 hs (by omega)).mono ?_
 rintro e w2 ⟨rfl,hb⟩
 have HB2:=zh (HB1.out.trans (hb.mono HB1.out.size));have HA2:=zh (HA1.out.below hb (by omega))
 clear hb
 obtain⟨c0,c1,c2⟩:=HA2.out.c3
 go_wp2_with fail
 have hlw:=HA2.out.lt
 have hrt:R=Sig.root (Sig.leaves seed 2)++Sig.b1 1:=HR.out
 have hrz:=Sig.IE seed
 have C0:=zh c0;have C1:=zh c1;have C2:=zh c2
 have hroot:=fun(v:Value) (W:World) (h:Al W v (Sig.leaves seed 2)) (hc:Eb v)=>Yd v (Sig.leaves seed 2) W h hc (by show 2<=4096;omega) (Rq seed 2)
 have hown:∀ (b:Nat) (v:Value) (W:World),W.ownsRow b 9 1 v 2 ((Sig.leaves seed 2).map Value.string)->Al W v (Sig.leaves seed 2):=fun b v W h=>Al.own h
 have hlv:=fun W=>KL seed 0 W (by omega)
 generalize Sig.leaves seed 2=LV at*
 obtain⟨RT,hRT⟩:∃ RT,RT=Sig.root LV:=⟨_,rfl⟩
 rw[<- hRT] at hrt hrz hroot
 have HRT:=zh hrt;have vV:=zh hroot;have HLV:=zh hlv;have HOWN:=zh hown
 clear hrt hroot hlv HR hRT hown
 go_cut [2,3] (fun v2 v3 wx=>v2=.string (RT++Sig.b1 1)/\v3=.int .i64 0/\Below w2.heap.size w2 wx)
 case first=>
  refine Lex.Jh [0,1,2,4,6,7] [0,1,3,0,8,24,56,120,255,511,1023] [3] (.alt 0 [] (.alt 1 [] (.alt 2 [] (.alt 4 [5] (.alt 6 [] (.alt 7 [8,9,10] .nil .nil) .nil) .nil) (.alt 4 [5] (.alt 2 [] (.alt 6 [] (.alt 7 [8,9,10] .nil .nil) .nil) (.alt 6 [] (.alt 2 [] (.alt 7 [8,9,10] .nil .nil) (.alt 7 [] (.alt 2 [8,9,10] .nil .nil) .nil)) .nil)) .nil)) (.alt 4 [5] (.alt 1 [] (.alt 2 [] (.alt 6 [] (.alt 7 [8,9,10] .nil .nil) .nil) (.alt 6 [] (.alt 2 [] (.alt 7 [8,9,10] .nil .nil) (.alt 7 [] (.alt 2 [8,9,10] .nil .nil) .nil)) .nil)) (.alt 6 [] (.alt 1 [] (.alt 2 [] (.alt 7 [8,9,10] .nil .nil) (.alt 7 [] (.alt 2 [8,9,10] .nil .nil) .nil)) (.alt 7 [] (.alt 1 [] (.alt 2 [8,9,10] .nil .nil) .nil) .nil)) .nil)) .nil)) (.alt 4 [5] (.alt 0 [] (.alt 1 [] (.alt 2 [] (.alt 6 [] (.alt 7 [8,9,10] .nil .nil) .nil) (.alt 6 [] (.alt 2 [] (.alt 7 [8,9,10] .nil .nil) (.alt 7 [] (.alt 2 [8,9,10] .nil .nil) .nil)) .nil)) (.alt 6 [] (.alt 1 [] (.alt 2 [] (.alt 7 [8,9,10] .nil .nil) (.alt 7 [] (.alt 2 [8,9,10] .nil .nil) .nil)) (.alt 7 [] (.alt 1 [] (.alt 2 [8,9,10] .nil .nil) .nil) .nil)) .nil)) (.alt 6 [] (.alt 0 [] (.alt 1 [] (.alt 2 [] (.alt 7 [8,9,10] .nil .nil) (.alt 7 [] (.alt 2 [8,9,10] .nil .nil) .nil)) (.alt 7 [] (.alt 1 [] (.alt 2 [8,9,10] .nil .nil) .nil) .nil)) (.alt 7 [] (.alt 0 [] (.alt 1 [] (.alt 2 [8,9,10] .nil .nil) .nil) .nil) .nil)) .nil)) .nil)) (by kernel_rfl) (by kernel_rfl) (by kernel_rfl) ?_
  intro ops Ee hE
  have HE:=zh hE;clear hE
  simp only[Lex.pick,List.filterMap_cons,List.filterMap_nil,List.getElem?_cons_succ,List.getElem?_cons_zero]
  go_wp2_with fail
  iterate 40 (try any_goals (first
   | exact Lex.Ko
   | (refine Lex.J7 ?_ ?_)
   | (refine Lex.Rf (HE.out _ _ (by kernel_rfl) ?_);go_wp2_with fail;go_meet;exact⟨rfl,rfl,by first|exact HB4.out|exact HB4.out.alloc HB4.out.size _⟩)
   | (refine Lex.Mid.intro trivial ?_)
   | (refine (HLV.out _).mono ?_
      rintro e w3 ⟨lv,rfl,hol,hbl⟩
      have hb3:Below w2.heap.size w2 w3:=Below.trans (b:=_) (by repeat' first|exact Below.refl _ _|refine Below.drew ?_|refine Below.alloc ?_ ?_ _|(simp;done)|(simp;omega)) (hbl.mono (by simp))
      have HOL:=zh hol;have HB3:=zh hb3
      have HBY:=zh (hbl.block w2.heap.size);have HSZ:=zh hbl.size
      have c0:=(hb3.cell (p:=⟨w.heap.size,0,none⟩) hlw).trans C0.out;have c1:=(hb3.cell (p:=⟨w.heap.size,1,none⟩) hlw).trans C1.out;have c2:=(hb3.cell (p:=⟨w.heap.size,2,none⟩) hlw).trans C2.out
      clear hol hbl hb3
      go_wp2_with fail)
   | (refine (vV.out lv _ (Al.below (HOWN.out _ _ _ HOL.out) (by repeat' first | exact Below.refl _ _ | refine Below.drew ?_ | refine Below.alloc ?_ ?_ _ | (simp;done) | (simp;omega))) (Eb.own HOL.out)).mono ?_
      rintro e w4 ⟨rfl,hbr⟩
      have hb4:Below w2.heap.size w2 w4:=Below.trans (Below.trans HB3.out (Below.mono (by repeat' first|exact Below.refl _ _|refine Below.drew ?_|refine Below.alloc ?_ ?_ _|(simp;done)|(simp;omega)) HB3.out.size)) (hbr.mono (by have:=HB3.out.size;simp;omega))
      have HB4:=zh hb4
      have zak:=zh (hbr.block w2.heap.size);have zal:=zh (hbr.block w3.heap.size)
      have c0:=(hb4.cell (p:=⟨w.heap.size,0,none⟩) hlw).trans C0.out;have c1:=(hb4.cell (p:=⟨w.heap.size,1,none⟩) hlw).trans C1.out;have c2:=(hb4.cell (p:=⟨w.heap.size,2,none⟩) hlw).trans C2.out
      clear hbr hb4
      go_wp2_with fail)
   | (rw[dU _ _ (by first|exact At.new _ _ _|exact(At.new _ _ _).drew)];go_wp2_with fail)
   | (rw[dU _ _ ((HBY.out (by simp)).trans (by first|exact At.new _ _ _|exact(At.new _ _ _).drew))];go_wp2_with fail)
   | (rw[dU _ _ ((zal.out (by simp)).trans (by first|exact At.new _ _ _|exact(At.new _ _ _).drew))];go_wp2_with fail)
   | (rw[dU _ _ ((zak.out (by have:=HSZ.out;simp at this;omega)).trans ((HBY.out (by simp)).trans (by first|exact At.new _ _ _|exact(At.new _ _ _).drew)))];go_wp2_with fail)
   | (simp only [Lex.pick,List.filterMap_cons,List.filterMap_nil,List.getElem?_cons_succ,List.getElem?_cons_zero]
      go_wp2_with fail)))
 obtain⟨rfl,rfl,hb⟩:=hcut
 go_wp2_with fail
 go_ret2
 exact⟨by rw[HRT.out];rfl,HB2.out.trans (hb.mono HB2.out.size)⟩
section
variable {P:Program} {fn:Func} {tmps:Array Value} {w:World} {Q:Ending->World->Prop}
theorem AJ {g:Nat}{t ty:TypeId}{cs:Array Value}{d:TypeDesc}(hat:At w g t cs)(hu:P.underlying ty=some d)(hd:(match d with|.struct _|.array _ _=>true|_=>false)=true)(hi:(P.info? ty).map (·.size)=some cs.size):
 (loadVar ty ⟨g,0,none⟩).run P w=.ok (.agg cs) w:=run_loadVar_row w g t ty cs (0,0) d hat hu hd hi
theorem Ob {p:Tmp}{t1:TypeId}{b1:Nat}{v1:Value}(h:fn.results=#[.cell p t1])(hp:tmps.getD p undef=.pointer (some ⟨b1,0,none⟩))
 (l1:(loadVar t1 ⟨b1,0,none⟩).run P w=.ok v1 w) (hQ:Q (.returned v1) w):bodyPost P fn Q Exit.ret { tmps:=tmps,defers:=[] } w:=by
 refine bodyPost_ret (v:=v1) ?_ rfl hQ
 have hp' : tmps[p]?.getD undef=.pointer (some ⟨b1,0,none⟩):=by rw[<- hp];simp
 simp[results,h,hp',asAddr,l1,Sem.run_bind]
theorem BJ {p u:Tmp}{t1:TypeId}{b1:Nat}{v1 x:Value}(h:fn.results=#[.cell p t1,.tmp u])(hp:tmps.getD p undef=.pointer (some ⟨b1,0,none⟩))(hu:tmps.getD u undef=x)
 (l1:(loadVar t1 ⟨b1,0,none⟩).run P w=.ok v1 w) (hQ:Q (.returned (.tuple #[v1,x])) w):bodyPost P fn Q Exit.ret { tmps:=tmps,defers:=[] } w:=by
 refine bodyPost_ret (v:=.tuple #[v1,x]) ?_ rfl hQ
 have e:(results fn tmps).run P w=((asAddr (tmps.getD p undef)).run P w).andThen fun a w₁ => ((loadVar t1 a).run P w₁).andThen fun x w₂ => .ok (.tuple #[x,tmps.getD u undef]) w₂ :=by
  simp only[results,h]
  simp[Sem.run_bind,Result.andThen]
 show(results fn tmps).run P w=_
 rw[e,hp,hu]
 simp[asAddr,l1]
theorem lg {p q u:Tmp}{t1 t2:TypeId}{b1 b2:Nat}{v1 v2 x:Value}(h:fn.results=#[.cell p t1,.cell q t2,.tmp u])(hp:tmps.getD p undef=.pointer (some ⟨b1,0,none⟩))(hq:tmps.getD q undef=.pointer (some ⟨b2,0,none⟩))(hu:tmps.getD u undef=x)
 (l1:(loadVar t1 ⟨b1,0,none⟩).run P w=.ok v1 w) (l2:(loadVar t2 ⟨b2,0,none⟩).run P w=.ok v2 w) (hQ:Q (.returned (.tuple #[v1,v2,x])) w):bodyPost P fn Q Exit.ret { tmps:=tmps,defers:=[] } w:=by
 refine bodyPost_ret (v:=.tuple #[v1,v2,x]) ?_ rfl hQ
 have e:(results fn tmps).run P w=((asAddr (tmps.getD p undef)).run P w).andThen fun a w₁ => ((loadVar t1 a).run P w₁).andThen fun x w₂ => ((asAddr (tmps.getD q undef)).run P w₂).andThen fun a w₁ => ((loadVar t2 a).run P w₁).andThen fun y w₂ => .ok (.tuple #[x,y,tmps.getD u undef]) w₂ :=by
  simp only[results,h]
  simp[Sem.run_bind,Result.andThen]
 show(results fn tmps).run P w=_
 rw[e,hp,hq,hu]
 simp[asAddr,l1,l2]
end
end
section
open Go Go.RowKit Go.Maps
theorem U4:Sig.split 2=1:=by decide
theorem Wh (seed:ByteArray)(k:Nat)(hk:k<2):Ev 2 (Sig.leaves seed 2) k=[Sig.leaf seed (1-k)]:=by
 have hl:Sig.leaves seed 2=[Sig.leaf seed 0,Sig.leaf seed 1]:=rfl
 rw[hl]
 rcases(show k=0\/k=1 by omega) with rfl|rfl
 ·unfold Ev
  simp[U4,Ev,Sig.FP]
 ·unfold Ev
  simp[U4,Ev,Sig.FP]
def JG (seed:ByteArray)(key:Nat)(m:ByteArray)(k:Nat):List ByteArray:=(List.range k).map fun c=>Sig.chain key c 0 ((Sig.digits m).getD c 0) (Sig.secret seed key c)
theorem Rs:(Tryz.prog.info? 70).map (·.size)=some 3:=by kernel_rfl
theorem Jj:(Tryz.prog.info? 123).map (·.size)=some 3:=by kernel_rfl
theorem Yj {w:World}{b c k:Nat}(hb:k≠b)(hc:k≠c)(v0 v1 v2 u0 u1 u2:Value):((((((w.setCell ⟨b,0,none⟩ v0).setCell ⟨b,1,none⟩ v1).setCell ⟨b,2,none⟩ v2).setCell ⟨c,0,none⟩ u0).setCell ⟨c,1,none⟩ u1).setCell ⟨c,2,none⟩ u2).drew.heap[k]? = w.heap[k]? :=by
 rw[Ez,zo hc,zo hc,zo hc,zo hb,zo hb,zo hb]
theorem Yk (seed m:ByteArray)(nx:Nat)(w:World)(hs:seed.size=32)(hn:nx<2)(hm:m.size<=140737488350000):
 Calls Tryz.prog 99 #[.agg #[.string seed,.int .i64 1,.int .i64 nx],.string m] w fun e w' => ∃ cv pv,e=.returned (.tuple #[.agg #[.int .i64 nx,cv,pv],.agg #[.string seed,.int .i64 1,.int .i64 ((nx+1:Nat):Int)],.int .i64 0])/\w'.ownsRow w.heap.size 9 1 cv 67 ((Sig.BH seed nx m).chains.map Value.string)/\w'.ownsRow w.heap.size 9 1 pv 1 ((Sig.BH seed nx m).path.map Value.string)/\Below w.heap.size w w':=by
 go_enter Tryz.func99,Tryz.ntmps99
 go_wp2_with fail
 have ha:=At.new w 123 #[.string seed,.int .i64 1,.int .i64 nx]
 have hb1:Below w.heap.size w (w.alloc (.cells #[.string seed,.int .i64 1,.int .i64 nx] 123)):=zb
 have hn1:(w.alloc (.cells #[.string seed,.int .i64 1,.int .i64 nx] 123)).heap.size=w.heap.size+1:=by simp
 have h2:=At.new (w.alloc (.cells #[.string seed,.int .i64 1,.int .i64 nx] 123)) 70 #[.int .i64 0,.slice none 0 0,.slice none 0 0]
 have h3:=At.new ((w.alloc (.cells #[.string seed,.int .i64 1,.int .i64 nx] 123)).alloc (.cells #[.int .i64 0,.slice none 0 0,.slice none 0 0] 70)) 123 #[.string ⟨#[]⟩,.int .i64 0,.int .i64 0]
 have hv:=fun W=>MF seed nx W hs (by omega)
 have HV:=zh hv;clear hv
 refine(HV.out _).mono ?_
 rintro e w2 ⟨rfl,hb⟩
 have hs3:(((w.alloc (.cells #[.string seed,.int .i64 1,.int .i64 nx] 123)).alloc (.cells #[.int .i64 0,.slice none 0 0,.slice none 0 0] 70)).alloc (.cells #[.string ⟨#[]⟩,.int .i64 0,.int .i64 0] 123)).heap.size=w.heap.size+3:=by simp
 have hb2:Below w.heap.size w w2:=(((hb1.alloc hb1.size _).alloc (by simp;omega) _)).trans (hb.mono (by omega))
 have a0:At w2 w.heap.size 123 #[.string seed,.int .i64 1,.int .i64 nx]:=(((ha.below zb (by omega)).below zb (by simp;omega))).below hb (by omega)
 have a1:At w2 (w.heap.size+1) 70 #[.int .i64 0,.slice none 0 0,.slice none 0 0]:=by
  rw[hn1] at h2
  exact(h2.below zb (by simp)).below hb (by omega)
 have a2:At w2 (w.heap.size+1+1) 123 #[.string ⟨#[]⟩,.int .i64 0,.int .i64 0]:=by
  have:((w.alloc (.cells #[.string seed,.int .i64 1,.int .i64 nx] 123)).alloc (.cells #[.int .i64 0,.slice none 0 0,.slice none 0 0] 70)).heap.size=w.heap.size+1+1:=by simp
  rw[this] at h3
  exact h3.below hb (by omega)
 have hz2:w.heap.size+3<=w2.heap.size:=by rw[<- hs3];exact hb.size
 have HB2:=zh hb2;have A0:=zh a0;have A1:=zh a1;have A2:=zh a2
 clear hb hb1 hb2 ha h2 h3 hs3 hn1
 obtain⟨c0,c1,c2⟩:=a0.c3
 clear a0 a1 a2
 have d1:((nx:Int)==2)=false:=by rw[beq_eq_false_iff_ne];omega
 go_wp2_with fail
 refine Lex.zl ?_
 go_wp2_with fail
 refine Lex.ze ?_
 go_wp2_with fail
 have hS:=At.new w2 70 #[.int .i64 nx,.slice none 0 0,.slice none 0 0]
 have hbS:Below w2.heap.size w2 (w2.alloc (.cells #[.int .i64 nx,.slice none 0 0,.slice none 0 0] 70)).drew:=zb.drew
 have hzS:(w2.alloc (.cells #[.int .i64 nx,.slice none 0 0,.slice none 0 0] 70)).drew.heap.size=w2.heap.size+1:=by simp
 have hS' : At (w2.alloc (.cells #[.int .i64 nx,.slice none 0 0,.slice none 0 0] 70)).drew w2.heap.size 70 #[.int .i64 nx,.slice none 0 0,.slice none 0 0]:=hS
 have HS:=zh hS'
 have HBS:=zh hbS
 clear hS hS' hbS
 generalize (w2.alloc (.cells #[.int .i64 nx,.slice none 0 0,.slice none 0 0] 70)).drew=w3 at*
 refine(Tv m w3 hm).mono ?_
 rintro e w4 ⟨dv,rfl,hdo,hb4⟩
 have HS4:=zh (HS.out.below hb4 (by omega));have HB4:=zh (HBS.out.trans (hb4.mono (by omega)));have HD4:=zh hdo
 have hz4:=hb4.size
 clear hb4 hdo HS HBS
 go_wp2_with fail
 obtain⟨g,zbk,hdv,hdc⟩:=Ct HD4.out (by omega)
 have hgu:=Ak HD4.out g (by rw[hdv];rfl)
 have hgl:g<w4.heap.size:=by
  obtain⟨cur,hc⟩:=Db HD4.out (g:=g) (by rw[hdv];rfl)
  exact At.lt hc
 subst hdv
 have HDC:=zh hdc
 have hA4:At w4 w.heap.size 123 #[.string seed,.int .i64 1,.int .i64 nx]:=A0.out.below HB4.out (by omega)
 have HA4:=zh hA4
 obtain⟨S,hSS⟩:∃ S,S=w2.heap.size:=⟨_,rfl⟩
 rw[<- hSS] at HS4 hz2 hzS ⊢
 have HSS:=zh hSS
 clear hdc hA4 c0 c1 c2 hSS
 go_loopw [9] (fun i wr=>∃ k:Nat,k<=67/\i=.int .i64 k/\∃ cv,At wr S 70 #[.int .i64 nx,cv,.slice none 0 0]/\wr.ownsRow w4.heap.size 9 1 cv k ((JG seed nx m k).map Value.string)/\Fr (fun j=>j=S) w4 wr) (fun i _=>67-(intOf i).toNat)
 case atStart=>exact⟨0,by omega,rfl,_,HS4.out,World.ownsRow_nil _ _ _ _,Fr.refl _ _⟩
 case round=>
  obtain⟨k0,hk,rfl,cv,hat,ho,hfr⟩:=hrel
  have hfz:=hfr.size
  have ha0:At wr w.heap.size 123 #[.string seed,.int .i64 1,.int .i64 nx]:=hfr.at HA4.out (by omega)
  obtain⟨ca,k,cc,rfl⟩:=Ac ho
  obtain rfl:=Ba ho
  have HAT:=zh hat;have HO:=zh ho;have HFR:=zh hfr;have HA0:=zh ha0
  have c0:=ha0.cell 0;have c1:=ha0.cell 1;have c2:=ha0.cell 2;have s1:=hat.cell 1
  simp only[zg] at c0 c1 c2 s1
  clear ho hat hfr ha0
  by_cases hlt:k<67
  ·have dk:decide ((k:Int)<67)=true:=by simp;omega
   have hdl:k<(Sig.digits m).length:=by rw[Sig.QM];omega
   have hd0:w4.cell? ⟨g,k,none⟩=some (.int .i64 (((Sig.digits m).getD k 0:Nat):Int)):=HDC.out k _ (by unfold Ii;rw[List.getElem?_map,List.getElem?_eq_getElem hdl,List.getD_eq_getElem?_getD,List.getElem?_eq_getElem hdl];rfl)
   have hd:wr.cell? ⟨g,k,none⟩=some (.int .i64 (((Sig.digits m).getD k 0:Nat):Int)):=by rw[Kl (a:=⟨g,k,none⟩) (HFR.out.keep g hgl (by omega))];exact hd0
   have vN:=Sig.QN m k
   have hch:JG seed nx m (k+1)=JG seed nx m k++[Sig.chain nx k 0 ((Sig.digits m).getD k 0) (Sig.secret seed nx k)]:=Gz _ _
   obtain⟨d,hdd⟩:∃ d,d=(Sig.digits m).getD k 0:=⟨_,rfl⟩
   rw[<- hdd] at hd vN hch
   have HCH:=zh hch
   clear hdl hd0 hdd hch
   go_wp2_with fail
   refine Lex.zn (fun j=>j=S\/j=w.heap.size\/j=g) [1,3,8] 17 [15,1] ?_
   simp only[Lex.Bp,zd]
   go_wp2_with fail
   have hSl:S<wr.heap.size:=HAT.out.lt
   have hDl:w.heap.size<wr.heap.size:=HA0.out.lt
   refine(KI seed nx k wr.drew (by omega) (by omega) (by omega)).mono ?_
   rintro e w5 ⟨rfl,hb5⟩
   have Wi:∀ j,(j=S\/j=w.heap.size\/j=g)->w5.heap[j]? = wr.drew.heap[j]? :=fun j hj=>hb5.block j (by show j<wr.heap.size;omega)
   have TF : Below wr.heap.size wr w5:=((Below.refl wr.heap.size wr).drew).trans hb5
   have HB5:=zh TF;clear hb5 TF
   have hxz:=Sig.GY seed nx k
   obtain⟨x,hx⟩:∃ x,x=Sig.secret seed nx k:=⟨_,rfl⟩
   rw[<- hx] at hxz HCH ⊢
   clear hx
   go_wp2_with fail
   refine Lex.Mid.intro (fun j hj _=>Wi j hj) ?_
   go_wp2_with fail
   refine(show Calls Tryz.prog 154 #[.int .i64 nx,.int .i64 k,.int .i64 0,.int .i64 d,.string x] w5 _ from Pf nx k 0 d d x w5 (by omega) (by omega) (by omega) (by omega) (by omega)).mono ?_
   rintro e w6 ⟨rfl,hb6⟩
   have hz5:=HB5.out.size
   have iC:∀ j,(j=S\/j=w.heap.size\/j=g)->w6.heap[j]? = wr.drew.heap[j]? :=fun j hj=>(hb6.block j (by omega)).trans (Wi j hj)
   have HB6:=zh (HB5.out.trans (hb6.mono hz5));clear hb6
   obtain⟨y,hy⟩:∃ y,y=Sig.chain nx k 0 d x:=⟨_,rfl⟩
   rw[<- hy] at HCH ⊢
   clear hy
   have HO6:=zh (own_below HO.out HB6.out)
   have Di:At w6 S 70 #[.int .i64 nx,.slice ca k cc,.slice none 0 0]:=HAT.out.below HB6.out hSl
   have s6:=Di.cell 1
   simp only[zg] at s6
   have S6:=zh s6
   have Eu:=zh Di;clear Di s6
   go_wp2_with fail
   refine Lex.Mid.intro (fun j hj _=>iC j hj) ?_
   have oH:=zh iC
   clear Wi iC
   have zbl:S<w6.heap.size:=Eu.out.lt
   go_wp2_with (at_builtin;go_must (refine Ah Mw rfl _ _ rfl w4.heap.size k (.slice ca k cc) _ rfl (HO6.out.alloc _) (.slice (some ⟨w6.heap.size,0,none⟩) 1 1) 1 [.string y] rfl (Cx w6 9 #[.string y] 1 1 1 rfl) (by intro u hu;simp at hu;subst hu;rfl) (by omega) (by omega) (by have:=HB6.out.size;simp;omega) ?_);intro v7 w7 ho7 hg7 hx7;obtain⟨va,vm,vc,rfl⟩:=Ac ho7;have zam:some S≠(Value.slice ca k cc).ownBlock:=(fun e=>by have:=Ak HO6.out S e.symm;omega);have Jo:=(Eu.out.alloc (.cells #[.string y] 9)).grown hg7 zam;have z7:=Jo.free 1;have y7:=Jo.cell 1;simp only[zg] at y7;have HO7:=zh ho7;have HG7:=zh hg7;have HX7:=zh hx7;have Oc:=zh Jo;clear ho7 hg7 hx7 Jo)
   have hwS:(w7.setCell ⟨S,1,none⟩ (.slice va vm vc)).ownsRow w4.heap.size 9 1 (.slice va vm vc) (k+1) ((JG seed nx m (k+1)).map Value.string):=by
    rw[HCH.out,List.map_append]
    exact Ae HO7.out (fun j hj=>zo (by have:=Ak HO7.out j hj;show j≠S;omega))
   have vW:Fr (fun j=>j=S) w4 (w7.setCell ⟨S,1,none⟩ (.slice va vm vc)):=by
    have f1:Fr (fun j=>j=S) w4 w6:=HFR.out.trans (Fr.of_below HB6.out |>.mono (fun _ h=>h)) (fun _ h=>.inl h)
    exact((f1.alloc _).grown HG7.out (fun j hj=>.inr (Ak HO6.out j hj))).setCell (.inl rfl) _
   have Wj:=Oc.out.set 1 (.slice va vm vc)
   have HWS:=zh hwS;have zan:=zh vW;have oI:=zh Wj
   clear hwS vW Wj
   refine Lex.zk ⟨⟨.inl rfl,zi s1⟩,⟨.inr (.inl rfl),zi c2⟩,⟨.inr (.inr rfl),zi hd⟩,trivial⟩ ?_
   go_wp2_with fail
   exact⟨⟨k+1,by omega,by go_num,_,oI.out,HWS.out,zan.out⟩,by simp[intOf];omega⟩
  ·obtain rfl:k=67:=by omega
   have hinc:=fun(v:Value) (W:World) (h:Al W v (Sig.leaves seed 2)) (hc:Eb v)=>NZ v (Sig.leaves seed 2) nx W h hc (by show 2<=4096;omega) (Rq seed 2) (by show nx<2;omega)
   have hpl:Ev (Sig.leaves seed 2).length (Sig.leaves seed 2) nx=(Sig.BH seed nx m).path:=Wh seed nx hn
   rw[hpl] at hinc
   have hch:JG seed nx m 67=(Sig.BH seed nx m).chains:=rfl
   rw[hch] at HO
   have hlv:=fun W=>KL seed nx W (by omega)
   have hown:∀ (b:Nat) (v:Value) (W:World),W.ownsRow b 9 1 v 2 ((Sig.leaves seed 2).map Value.string)->Al W v (Sig.leaves seed 2):=fun b v W h=>Al.own h
   have hcl:(Sig.BH seed nx m).chains.length=67:=by show((List.range 67).map _).length=67;simp
   have hp1:(Sig.BH seed nx m).path.length=1:=rfl
   obtain⟨CH,rX⟩:∃ CH,CH=(Sig.BH seed nx m).chains:=⟨_,rfl⟩
   obtain⟨PA,oJ⟩:∃ PA,PA=(Sig.BH seed nx m).path:=⟨_,rfl⟩
   rw[<- rX] at HO hcl
   rw[<- oJ] at hp1
   simp only[<- oJ] at hinc
   have zao:=zh rX;have zaq:=zh oJ
   clear rX oJ
   generalize Sig.leaves seed 2=LV at*
   have vX:=zh hinc;have HLV:=zh hlv;have HOWN:=zh hown
   have hSl:S<wr.heap.size:=HAT.out.lt
   have hDl:w.heap.size<wr.heap.size:=HA0.out.lt
   clear hinc hlv hown hpl hch
   go_wp2_with fail
   refine Lex.zn (fun j=>j=w.heap.size) [3] 10 [2,3,5] ?_
   simp only[Lex.Bp,zd]
   go_wp2_with fail
   refine(HLV.out _).mono ?_
   rintro e w5 ⟨lv,rfl,hol,hbl⟩
   have hb5:Below wr.heap.size wr w5:=((Below.refl wr.heap.size wr).drew).trans hbl
   have Wi:∀ j,(j=w.heap.size)->w5.heap[j]? = wr.drew.heap[j]? :=fun j hj=>hbl.block j (by show j<wr.heap.size;omega)
   have HB5:=zh hb5;have HOL:=zh hol
   clear hbl hb5 hol
   go_wp2_with fail
   refine Lex.Mid.intro (fun j hj _=>Wi j hj) ?_
   have c2' : w5.cell? ⟨w.heap.size,2,none⟩=some (.int .i64 nx):=(HB5.out.cell (p:=⟨w.heap.size,2,none⟩) hDl).trans c2
   go_wp2_with fail
   refine(vX.out lv _ (HOWN.out _ _ _ HOL.out) (Eb.own HOL.out)).mono ?_
   rintro e w6 ⟨pv,rfl,hop,hbp⟩
   obtain⟨pa,pm,pc,rfl⟩:=Ac hop
   obtain rfl:=Ba hop
   have hb6:=HB5.out.trans (hbp.mono HB5.out.size)
   have iC:∀ j,(j=w.heap.size)->w6.heap[j]? = wr.drew.heap[j]? :=fun j hj=>(hbp.block j (by have:=HB5.out.size;omega)).trans (HB5.out.block j (by omega))
   have Di:=HAT.out.below hb6 hSl
   have z6:=Di.free 2;have y6:=Di.cell 2
   simp only[zg] at y6
   have HOP:=zh hop;have HB6:=zh hb6;have Eu:=zh Di;have oH:=zh iC
   have hz5:=HB5.out.size
   clear hop hbp hb6 Di iC Wi
   go_wp2_with fail
   refine Lex.Mid.intro (fun j hj _=>oH.out j hj) ?_
   go_wp2_with fail
   refine Lex.Mid.intro (fun j hj _=>(zo (by show j≠S;omega)).trans (oH.out j hj)) ?_
   go_wp2_with fail
   refine Lex.zk ⟨⟨rfl,zi c2⟩,trivial⟩ ?_
   have Jo:At (w6.setCell ⟨S,2,none⟩ (.slice pa PA.length pc)) S 70 #[.int .i64 nx,.slice ca 67 cc,.slice pa PA.length pc]:=Eu.out.set 2 (.slice pa PA.length pc)
   have iD:Below S w2 (w6.setCell ⟨S,2,none⟩ (.slice pa PA.length pc)):=by
    have zar:Below S w2 w4:=by rw[HSS.out];exact HB4.out
    have hS4:S<w4.heap.size:=HS4.out.lt
    exact((zar.trans (HFR.out.below (B:=S) (by omega) (fun j hj=>Nat.le_of_eq hj.symm))).trans (HB6.out.mono (by omega))).setCell (p:=⟨S,2,none⟩) (Nat.le_refl _) _
   have hoc:(w6.setCell ⟨S,2,none⟩ (.slice pa PA.length pc)).ownsRow w.heap.size 9 1 (.slice ca 67 cc) 67 (CH.map Value.string):=
    Cw (Ae (own_below HO.out HB6.out) (fun j hj=>zo (by have:=Ak HO.out j hj;show j≠S;have:S<w4.heap.size:=HS4.out.lt;omega))) (by have:S<w4.heap.size:=HS4.out.lt;omega)
   have hop:(w6.setCell ⟨S,2,none⟩ (.slice pa PA.length pc)).ownsRow w.heap.size 9 1 (.slice pa PA.length pc) PA.length (PA.map Value.string):=
    Cw (Ae HOP.out (fun j hj=>zo (by have:=Ak HOP.out j hj;show j≠S;omega))) (by omega)
   rw[hp1] at Jo iD hoc hop
   have hS7:S<(w6.setCell ⟨S,2,none⟩ (.slice pa 1 pc)).heap.size:=Jo.lt
   generalize w6.setCell ⟨S,2,none⟩ (.slice pa 1 pc)=w7 at*
   have a0:=A0.out.below iD (by omega);have a1:=A1.out.below iD (by omega);have a2:=A2.out.below iD (by omega)
   have vY:Below w.heap.size w w7:=HB2.out.trans (iD.mono (by omega))
   have Oc:=zh Jo;have HOC:=zh hoc;have vZ:=zh hop;have rY:=zh vY
   have B0:=zh a0;have B1:=zh a1;have B2:=zh a2
   obtain⟨p0,p1,p2⟩:=a0.c3
   clear Jo hoc hop vY a0 a1 a2 iD c0 c1 c2 s1 HAT HA0 HFR HB6 HB5 oH Eu HOP HO HOL vX HLV HOWN HA4 HS4 HDC HD4 A0 A1 A2 HB4 HB2 c2' z6 y6
   have q2:=(B0.out.alloc (.cells #[.string seed,.int .i64 1,.int .i64 nx] 123)).cell 2
   simp only[zg] at q2
   go_wp2_with fail
   have hz8:(w7.alloc (.cells #[.string seed,.int .i64 1,.int .i64 ((nx:Int)+1)] 123)).heap.size=w7.heap.size+1:=World.size_alloc _ _
   have A8:=Oc.out.alloc (.cells #[.string seed,.int .i64 1,.int .i64 ((nx:Int)+1)] 123)
   have B81:=B1.out.alloc (.cells #[.string seed,.int .i64 1,.int .i64 ((nx:Int)+1)] 123)
   have B82:=B2.out.alloc (.cells #[.string seed,.int .i64 1,.int .i64 ((nx:Int)+1)] 123)
   have N8:=At.new w7 123 #[.string seed,.int .i64 1,.int .i64 ((nx:Int)+1)]
   have hb8:Below w.heap.size w (w7.alloc (.cells #[.string seed,.int .i64 1,.int .i64 ((nx:Int)+1)] 123)):=rY.out.alloc rY.out.size _
   have wC:=own_below HOC.out ((Below.refl w7.heap.size w7).alloc (Nat.le_refl _) (.cells #[.string seed,.int .i64 1,.int .i64 ((nx:Int)+1)] 123))
   have wD:=own_below vZ.out ((Below.refl w7.heap.size w7).alloc (Nat.le_refl _) (.cells #[.string seed,.int .i64 1,.int .i64 ((nx:Int)+1)] 123))
   generalize w7.alloc (.cells #[.string seed,.int .i64 1,.int .i64 ((nx:Int)+1)] 123)=w8 at*
   have e0:=A8.cell 0;have e1:=A8.cell 1;have e2:=A8.cell 2
   have f0:=N8.cell 0;have f1:=N8.cell 1;have f2:=N8.cell 2
   have g0:=B81.cell 0;have g1:=B81.cell 1;have g2:=B81.cell 2;have g3:=B81.free 0;have g4:=B81.free 1;have g5:=B81.free 2
   have i0:=B82.cell 0;have i1:=B82.cell 1;have i2:=B82.cell 2;have i3:=B82.free 0;have i4:=B82.free 1;have i5:=B82.free 2
   simp only[zg] at e0 e1 e2 f0 f1 f2 g0 g1 g2 i0 i1 i2
   have A8':=zh A8;have N8':=zh N8;have rZ:=zh B81;have sj:=zh B82;have HB8:=zh hb8;have su:=zh wC;have sw:=zh wD
   clear A8 N8 B81 B82 hb8 wC wD q2 Oc HOC vZ rY B0 B1 B2 p0 p1 p2
   refine Lex.zn (fun j=>j=w7.heap.size) [1] 3 [3] ?_
   simp only[Lex.Bp,zd]
   go_wp2_with fail
   have hz7:w.heap.size+3<=w7.heap.size:=by omega
   refine Lex.Mid.intro (fun j hj _=>by
    subst hj
    rw[Ez,zo (by show w7.heap.size≠w.heap.size+1;omega),zo (by show w7.heap.size≠w.heap.size+1;omega),zo (by show w7.heap.size≠w.heap.size+1;omega)]
    rfl) ?_
   go_wp2_with fail
   refine Lex.zk ⟨⟨rfl,zi f0⟩,trivial⟩ ?_
   go_wp2_with fail
   have F1:=((((((rZ.out.set 0 (.int .i64 nx)).set 1 (.slice ca 67 cc)).set 2 (.slice pa 1 pc)).far (p:=⟨w.heap.size+1+1,0,none⟩) (by simp) (.string seed)).far (p:=⟨w.heap.size+1+1,1,none⟩) (by simp) (.int .i64 1)).far (p:=⟨w.heap.size+1+1,2,none⟩) (by simp) (.int .i64 ((nx:Int)+1))).drew
   have F2:=((((((sj.out.far (p:=⟨w.heap.size+1,0,none⟩) (by simp) (.int .i64 nx)).far (p:=⟨w.heap.size+1,1,none⟩) (by simp) (.slice ca 67 cc)).far (p:=⟨w.heap.size+1,2,none⟩) (by simp) (.slice pa 1 pc)).set 0 (.string seed)).set 1 (.int .i64 1)).set 2 (.int .i64 ((nx:Int)+1))).drew
   have hbE:Below w8.heap.size w8 w8:=Below.refl _ _
   refine lg rfl rfl rfl rfl (AJ F1 Tryz.underlying70 rfl Rs) (AJ F2 Tryz.underlying123 rfl Jj) ⟨.slice ca 67 cc,.slice pa 1 pc,rfl,?_,?_,?_⟩
   ·rw[<- zao.out]
    exact Ae su.out (fun j hj=>Yj (by rintro rfl;exact rZ.out.own_ne su.out (by decide) hj) (by rintro rfl;exact sj.out.own_ne su.out (by decide) hj) _ _ _ _ _ _)
   ·rw[<- zaq.out]
    exact Ae sw.out (fun j hj=>Yj (by rintro rfl;exact rZ.out.own_ne sw.out (by decide) hj) (by rintro rfl;exact sj.out.own_ne sw.out (by decide) hj) _ _ _ _ _ _)
   ·exact((((((HB8.out.setCell (p:=⟨w.heap.size+1,0,none⟩) (by simp) _).setCell (p:=⟨w.heap.size+1,1,none⟩) (by simp) _).setCell (p:=⟨w.heap.size+1,2,none⟩) (by simp) _).setCell (p:=⟨w.heap.size+1+1,0,none⟩) (by show w.heap.size<=w.heap.size+1+1;omega) _).setCell (p:=⟨w.heap.size+1+1,1,none⟩) (by show w.heap.size<=w.heap.size+1+1;omega) _).setCell (p:=⟨w.heap.size+1+1,2,none⟩) (by show w.heap.size<=w.heap.size+1+1;omega) _).drew
end
section
open Go
namespace GR
def DK (s:Nat):ByteArray:=⟨(List.replicate 32 s.toUInt8).toArray⟩
end GR
end
section
open Go Go.RowKit Go.Maps
theorem wE (W:World)(g b:Nat)(hb:b<256)(h:At W g 5 #[.int .u8 b]):(convert 66 9 (.slice (some ⟨g,0,none⟩) 1 1)).run Tryz.prog W=.ok (.string ⟨#[b.toUInt8]⟩) W:=by
 have:=run_convert_bytes_arg (P:=Tryz.prog) W 66 5 rfl rfl g 0 1 1 [(b:Int)] rfl (fun i hi=>by
  have:i=0:=by simpa using hi
  subst this
  exact h.cell 0) 9 rfl
 rw[this]
 have e:((b:Int)).toNat.toUInt8=b.toUInt8:=by rw[Int.toNat_natCast]
 first
  | rfl
  | (congr 1;simp[e])
theorem lq (b:Nat):(⟨(Lib.repeatL (⟨#[b.toUInt8]⟩:ByteArray).data.toList 32).toArray⟩:ByteArray)=GR.DK b:=by
 unfold GR.DK
 have:Lib.repeatL (⟨#[b.toUInt8]⟩:ByteArray).data.toList 32=List.replicate 32 b.toUInt8:=by
  first|rfl|(simp[Lib.repeatL])
 rw[this]
theorem aJ (b:Nat)(w:World):Calls Tryz.prog 151 #[.string ⟨#[b.toUInt8]⟩,.int .i64 32] w fun e w' => e=.returned (.string (GR.DK b))/\Below w.heap.size w w' :=
 (Tryz.strings_Repeat_main ⟨#[b.toUInt8]⟩ 32 w (by omega) (by omega) (by show 1*32<=140737488355328;omega) (by show 0<1;omega)).mono fun e w' ⟨he,hb⟩=>⟨by rw[he,lq],hb⟩
theorem MH (b:Nat)(w:World)(hb:b<256):Calls Tryz.prog 98 #[.int .u8 b] w fun e w' => e=.returned (.agg #[.string (GR.DK b),.int .i64 1,.int .i64 0])/\Below w.heap.size w w':=by
 have hrp:=fun W=>aJ b W
 have hcv:=fun W g=>wE W g b hb
 have HRP:=zh hrp;have HCV:=zh hcv;clear hrp hcv
 go_enter Tryz.func98,Tryz.ntmps98
 go_wp2_with fail
 have ha1:At (w.alloc (.cells #[.string ⟨#[]⟩,.int .i64 0,.int .i64 0] 123)) w.heap.size 123 #[.string ⟨#[]⟩,.int .i64 0,.int .i64 0]:=At.new w _ _
 have hb1:Below w.heap.size w (w.alloc (.cells #[.string ⟨#[]⟩,.int .i64 0,.int .i64 0] 123)):=zb
 have hn1:(w.alloc (.cells #[.string ⟨#[]⟩,.int .i64 0,.int .i64 0] 123)).heap.size=w.heap.size+1:=by simp
 rw[<- hn1]
 generalize w.alloc (.cells #[.string ⟨#[]⟩,.int .i64 0,.int .i64 0] 123)=w1 at*
 rw[HCV.out _ _ (At.new _ _ _)]
 go_wp2_with fail
 refine(HRP.out _).mono ?_
 rintro e w2 ⟨rfl,hb2⟩
 have hb3:Below w1.heap.size w1 w2:=Below.trans (b:=_) (by repeat' first|exact Below.refl _ _|refine Below.drew ?_|refine Below.alloc ?_ ?_ _|(simp;done)|(simp;omega)) (hb2.mono (by simp))
 have hlt:=ha1.lt
 have HA2:=zh (ha1.below hb3 hlt);have HB2:=zh (hb1.trans (hb3.mono hb1.size))
 clear ha1 hb1 hb2 hb3
 have z0:w2.frozen? ⟨w.heap.size,0,none⟩=false:=HA2.out.free 0
 have z1:w2.frozen? ⟨w.heap.size,1,none⟩=false:=HA2.out.free 1
 have z2:w2.frozen? ⟨w.heap.size,2,none⟩=false:=HA2.out.free 2
 obtain⟨c0,c1,c2⟩:=HA2.out.c3
 go_wp2_with fail
 have ha3:At (((w2.setCell ⟨w.heap.size,0,none⟩ (.string (GR.DK b))).setCell ⟨w.heap.size,1,none⟩ (.int .i64 1)).setCell ⟨w.heap.size,2,none⟩ (.int .i64 0)) w.heap.size 123 #[.string (GR.DK b),.int .i64 1,.int .i64 0]:=((HA2.out.set 0 _).set 1 _).set 2 _
 refine Ob rfl rfl (AJ ha3 Tryz.underlying123 rfl Jj) ⟨rfl,((HB2.out.setCell (p:=⟨w.heap.size,0,none⟩) (Nat.le_refl _) _).setCell (p:=⟨w.heap.size,1,none⟩) (Nat.le_refl _) _).setCell (p:=⟨w.heap.size,2,none⟩) (Nat.le_refl _) _⟩
namespace Nam
def cuts:List UInt8->List (List UInt8)
 | []=>[[]]
 | c::l=>if c=47 then []::cuts l else (c::(cuts l).headD [])::(cuts l).tail
theorem U5:∀ l:List UInt8,(47:UInt8) ∉ l->cuts l=[l]
 | [],_=>rfl
 | c :: l,h => by
   have h1:c≠47:=fun e=>h (by rw[e];exact List.mem_cons_self)
   have h2:=U5 l (fun hm=>h (List.mem_cons_of_mem _ hm))
   unfold cuts
   rw[if_neg h1,h2]
   rfl
theorem Ym (b:List UInt8):∀ a:List UInt8,(47:UInt8) ∉ a->cuts (a++47::b)=a::cuts b
 | [],_=>by simp[cuts]
 | c :: l,h => by
   have h1:c≠47:=fun e=>h (by rw[e];exact List.mem_cons_self)
   have h2:=Ym b l (fun hm=>h (List.mem_cons_of_mem _ hm))
   have e:cuts (c::(l++47::b))=(c::(cuts (l++47::b)).headD [])::(cuts (l++47::b)).tail:=by rw[cuts,if_neg h1]
   rw[List.cons_append,e,h2]
   rfl
theorem occ_one (s:List UInt8)(i:Nat):Lib.occAt s [47] i=true↔s[i]? = some 47:=by
 unfold Lib.occAt
 rw[<- List.head?_drop]
 cases s.drop i with
 | nil=>simp
 | cons c l=>simp[List.isPrefixOf];exact⟨fun h=>h.symm,fun h=>h.symm⟩
theorem aK:∀ (n:Nat) (l:List UInt8),l.length<=n->Lib.split l [47]=cuts l:=by
 intro n
 induction n with
 | zero =>
   intro l h
   have:l=[]:=List.eq_nil_of_length_eq_zero (by omega)
   subst this
   rfl
 | succ n ih =>
   intro l h
   rcases Lib.index_spec l [47] with ⟨h1,h2⟩|⟨i,h1,h2,h3,h4⟩
   ·have hm : (47 : UInt8) ∉ l :=by
     intro hm
     obtain⟨j,hj⟩:=List.mem_iff_getElem?.1 hm
     have hjl:j<l.length:=(List.getElem?_eq_some_iff.1 hj).1
     have:=h2 j (by omega)
     rw[(occ_one l j).2 hj] at this
     cases this
    rw[U5 l hm]
    unfold Lib.split
    rw[Lib.count_miss h1]
    rfl
   ·have hi:=(occ_one l i).1 h3
    have hil:i<l.length:=(List.getElem?_eq_some_iff.1 hi).1
    have e:l=l.take i++47::l.drop (i+1):=by
     conv=>lhs;rw[<- List.take_append_drop i l]
     rw[List.drop_eq_getElem_cons hil]
     have:=(List.getElem?_eq_some_iff.1 hi).2
     rw[this]
    have hm:(47:UInt8) ∉ l.take i:=by
     intro hm
     obtain⟨j,hj⟩:=List.mem_iff_getElem?.1 hm
     have hjl:j<(l.take i).length:=(List.getElem?_eq_some_iff.1 hj).1
     rw[List.length_take] at hjl
     have hji:j<i:=by omega
     rw[List.getElem?_take_of_lt hji] at hj
     have:=h4 j hji
     rw[(occ_one l j).2 hj] at this
     cases this
    have e2:cuts l=l.take i::cuts (l.drop (i+1)):=by
     conv=>lhs;rw[e]
     exact Ym _ _ hm
    have hne:¬ ((Lib.index l [47] == -1)=true):=by rw[h1,beq_iff_eq];omega
    have ih2:=ih (l.drop (i+1)) (by rw[List.length_drop];omega)
    rw[e2,<- ih2]
    unfold Lib.split
    rw[Lib.count_hit (by simp) h1,Nat.add_comm 1]
    conv=>lhs;unfold Lib.splitK
    rw[if_neg hne,h1]
    simp
end Nam
def Il (w:World):Prop:=∃ m:Int,w.cell? ⟨0,0,none⟩=some (.int .i64 m)
theorem Il.below {w w' : World}(h:Il w)(hb:Below w.heap.size w w'):Il w':=by
 obtain⟨m,h⟩:=h
 exact⟨m,(hb.cell (p:=⟨0,0,none⟩) (block_lt h)).trans h⟩
end
section
open Go
namespace Own
def dV (l:List UInt8):Bool:=(Nam.cuts l).all fun p => !p.isEmpty
def BI (s:ByteArray):Bool:=decide (1<=s.size)&&decide (s.size<=64)&&dV s.data.toList
def belongs (s p:ByteArray):Bool:=decide (s=p) || (p.data.toList++[47]).isPrefixOf s.data.toList
end Own
namespace Own
def Aj (a b:ByteArray):Bool:=Op.bytesLess a.toList b.toList
structure Member where
 name:ByteArray
 pub:ByteArray
deriving DecidableEq
structure Space where
 pre:ByteArray
 members:List Member
 threshold:Int
deriving DecidableEq
structure KeyUse where
 pub:ByteArray
 next:Int
deriving DecidableEq
structure Ao where
 count:Int
 spaces:List Space
 keys:List KeyUse
deriving DecidableEq
structure Ai where
 name:ByteArray
 sig:Sig.T
deriving DecidableEq
def Ao.none:Ao:=⟨0,[],[]⟩
def EG (s:ByteArray):Bool:=decide (1<=s.size)&&decide (s.size<=32)
def CX (pre:List Member)(m:Member):Bool:=EG m.name&&Sig.Bn m.pub && !(pre.any fun x=>decide (x.pub=m.pub))&&(match pre.getLast? with|none=>true|some x=>Aj x.name m.name)
def Am:List Member->List Member->Bool
 | _,[]=>true
 | pre,m::l=>CX pre m&&Am (pre++[m]) l
def Co (l:List Member):Bool:=decide (1<=l.length)&&decide (l.length<=8)&&Am [] l
def AX (s:Space):Bool:=BI s.pre&&Co s.members&&decide (1<=s.threshold)&&decide (s.threshold<=s.members.length)
def late:Int:=1099511627776
def Ar {α : Type}(ok : α -> Bool)(lt : α -> α -> Bool):Option α -> List α -> Bool
 | _,[]=>true
 | p,x::l=>ok x&&(match p with|none=>true|some y=>lt y x)&&Ar ok lt (some x) l
def Df (k:KeyUse):Bool:=Sig.Bn k.pub&&decide (0<=k.next)&&decide (k.next<=2^(k.pub.get! 32).toNat)
def Bv (o:Ao):Bool:=decide (0<=o.count)&&decide (o.count<=late)&&decide (o.spaces.length<=64)&&Ar AX (fun x y=>Aj x.pre y.pre) none o.spaces&&Ar Df (fun x y=>Aj x.pub y.pub) none o.keys
def CB (s:ByteArray):Option Space->List Space->Option Space
 | b,[]=>b
 | b,x::l=>CB s (if belongs s x.pre&&(match b with|none=>true|some y=>decide (y.pre.size<x.pre.size)) then some x else b) l
def authority (o:Ao)(s:ByteArray):Option Space:=if Bv o&&BI s then CB s none o.spaces else none
def Bf (K:List KeyUse)(p:ByteArray):Int:=match K.find? fun k=>decide (k.pub=p) with|none=>0|some k=>k.next
def use:List KeyUse->KeyUse->List KeyUse
 | [],x=>[x]
 | k::l,x=>if Aj k.pub x.pub then k::use l x else if k.pub=x.pub then x::l else x::k::l
def find (l:List Member)(n:ByteArray):Option Member:=l.find? fun m=>decide (m.name=n)
def Bl (s:Space)(msg:ByteArray):List ByteArray->List KeyUse->List Ai->Except Int (List KeyUse)
 | _,K,[]=>.ok K
 | seen,K,a :: l => match find s.members a.name with
   | none=>.error 6
   | some m=>if seen.any (fun x=>decide (x=a.name)) then .error 5 else if Sig.verify m.pub msg a.sig then (if a.sig.index<Bf K m.pub then .error 8 else Bl s msg (a.name::seen) (use K ⟨m.pub,a.sig.index+1⟩) l) else .error 18
structure wF where
 name:ByteArray
 pub:ByteArray
 agrees:Bool
deriving DecidableEq
structure lu where
 id:Int
 path:ByteArray
 digest:ByteArray
 opened:Int
 expires:Int
 wG:List wF
deriving DecidableEq
end Own
namespace Own
structure Op where
 kind:Int
 pre:ByteArray
 members:List Member
 threshold:Int
 name:ByteArray
 pub:ByteArray
 Aa:List Ai
def Op.none:Op:=⟨0,⟨#[]⟩,[],0,⟨#[]⟩,⟨#[]⟩,[]⟩
def U7 (op:Op):Bool:=if 3<=op.kind then decide (op.members.length=0)&&decide (op.threshold=0) else Co op.members&&decide (1<=op.threshold)&&decide (op.threshold<=op.members.length)
def opName (op:Op):Bool:=if op.kind=4 then EG op.name&&Sig.Bn op.pub else decide (op.name=⟨#[]⟩)&&decide (op.pub=⟨#[]⟩)
def Eh (op:Op):Bool:=decide (0<=op.kind)&&decide (op.kind<=4)&&BI op.pre&&decide (op.Aa.length<=8)&&U7 op&&opName op
def AV (m:Member):ByteArray:=Cod.text m.name++Cod.text m.pub
def CW (op:Op):ByteArray:=Cod.uns op.kind.toNat++(Cod.text op.pre++(Cod.uns op.members.length++(Cod.cat (op.members.map AV)++(Cod.uns op.threshold.toNat++(Cod.text op.name++Cod.text op.pub)))))
def AZ (o:Ao)(op:Op):ByteArray × Int:=if (decide (0<=o.count)&&decide (o.count<=late)&&Eh op)=true then (Sig.b1 12++(Cod.uns o.count.toNat++CW op),0) else (⟨#[]⟩,1)
def Dq (s:Sig.T):Bool:=decide (0<=s.index)&&decide (s.chains.length=67)&&decide (s.path.length<=6)&&s.chains.all Sig.digest&&s.path.all Sig.digest
def Bw (s:Sig.T):ByteArray:=Cod.uns s.index.toNat++(Cod.texts s.chains++Cod.texts s.path)
def Ay (a:Ai):ByteArray:=Cod.text a.name++Bw a.sig
def Fv (op:Op):Bool:=Eh op&&op.Aa.all fun a=>Dq a.sig
def Dh (op:Op):ByteArray × Int:=if Fv op=true then (CW op++(Cod.uns op.Aa.length++Cod.cat (op.Aa.map Ay)),0) else (⟨#[]⟩,1)
def IL (s:ByteArray):Nat->Nat->Option (List Member × Nat)
 | 0,a=>some ([],a)
 | n + 1,a => match Cod.rdT s a with
   | none=>none
   | some (nm,b) => match Cod.rdT s b with
     | none=>none
     | some (pb,c) => match IL s n c with
       | none=>none
       | some (l,d)=>some (⟨nm,pb⟩::l,d)
def UD (s:ByteArray)(a:Nat):Option (Sig.T × Nat):=match Cod.rdN s a with
 | none=>none
 | some (i,b) => match Cod.Br s b with
   | none=>none
   | some (ch,c) => match Cod.Br s c with
     | none=>none
     | some (pa,d)=>some (⟨i,ch,pa⟩,d)
def MI (s:ByteArray):Nat->Nat->Option (List Ai × Nat)
 | 0,a=>some ([],a)
 | n + 1,a => match Cod.rdT s a with
   | none=>none
   | some (nm,b) => match UD s b with
     | none=>none
     | some (sg,c) => match MI s n c with
       | none=>none
       | some (l,d)=>some (⟨nm,sg⟩::l,d)
def iE (s:ByteArray):Option (Op × Nat):=match Cod.rdN s 0 with
 | none=>none
 | some (k,a1) => match Cod.rdT s a1 with
   | none=>none
   | some (pre,a2) => match Cod.rdN s a2 with
     | none=>none
     | some (n,a3) => if 8 < n then none else match IL s n a3 with
       | none=>none
       | some (ms,a4) => match Cod.rdN s a4 with
         | none=>none
         | some (t,a5) => match Cod.rdT s a5 with
           | none=>none
           | some (nm,a6) => match Cod.rdT s a6 with
             | none=>none
             | some (pb,a7) => match Cod.rdN s a7 with
               | none=>none
               | some (m,a8) => if 8 < m then none else match MI s m a8 with
                 | none=>none
                 | some (aps,a9)=>some (⟨k,pre,ms,t,nm,pb,aps⟩,a9)
def MJ (s:ByteArray):Op × Int:=match iE s with
 | none=>(.none,9)
 | some (op,e)=>if (decide (e=s.size)&&Fv op)=true then (op,0) else (.none,9)
/-! ### what is read has just these bytes -/
theorem Wm (s:ByteArray):s++⟨#[]⟩=s:=by
 apply Sha.BG
 rw[Sha.Bq]
 simp
end Own
theorem UE:∀ x:List UInt8,Op.bytesLess x x=false
 | []=>rfl
 | a :: x => by
   unfold Op.bytesLess
   rw[UE x]
   simp
theorem Yn:∀ x y z:List UInt8,Op.bytesLess x y=true->Op.bytesLess y z=true->Op.bytesLess x z=true
 | _,[],_,h,_=>by unfold Op.bytesLess at h;cases h
 | _,_::_,[],_,h=>by unfold Op.bytesLess at h;cases h
 | [],_::_,_::_,_,_=>rfl
 | a :: x,b :: y,c :: z,h1,h2 => by
   unfold Op.bytesLess at h1 h2 ⊢
   simp only[Bool.or_eq_true,Bool.and_eq_true,decide_eq_true_eq,beq_iff_eq] at h1 h2 ⊢
   rcases h1 with h1|⟨rfl,h1⟩
   ·rcases h2 with h2|⟨rfl,h2⟩
    ·exact .inl (UInt8.lt_trans h1 h2)
    ·exact .inl h1
   ·rcases h2 with h2|⟨rfl,h2⟩
    ·exact .inl h2
    ·exact .inr ⟨rfl,Yn x y z h1 h2⟩
theorem lC:∀ x y:List UInt8,Op.bytesLess x y=false->Op.bytesLess y x=false->x=y
 | [],[],_,_=>rfl
 | [],_::_,h,_=>by unfold Op.bytesLess at h;cases h
 | _::_,[],_,h=>by unfold Op.bytesLess at h;cases h
 | a :: x,b :: y,h1,h2 => by
   unfold Op.bytesLess at h1 h2
   simp only[Bool.or_eq_false_iff,Bool.and_eq_false_iff,decide_eq_false_iff_not,beq_eq_false_iff_ne] at h1 h2
   obtain⟨h1a,h1b⟩:=h1
   obtain⟨h2a,h2b⟩:=h2
   have e:a=b:=UInt8.le_antisymm (UInt8.not_lt.1 h2a) (UInt8.not_lt.1 h1a)
   subst e
   rw[lC x y (h1b.resolve_left (fun h=>h rfl)) (h2b.resolve_left (fun h=>h rfl))]
namespace Own
theorem BP (x:ByteArray):Aj x x=false:=UE _
theorem Dr {x y z:ByteArray}(h1:Aj x y=true)(h2:Aj y z=true):Aj x z=true:=Yn _ _ _ h1 h2
theorem toList_inj {x y:ByteArray}(h:x.toList=y.toList):x=y:=by
 rw[ByteArray.toList_eq,ByteArray.toList_eq] at h
 exact Sha.BG h
theorem iF {x y:ByteArray}(h1:Aj x y=false)(h2:Aj y x=false):x=y:=toList_inj (lC _ _ h1 h2)
section
variable {α : Type} (f : α -> ByteArray)
def Srt (l:List α):Prop:=l.Pairwise fun x y=>Aj (f x) (f y)=true
def posB (t:ByteArray):List α -> Nat
 | []=>0
 | x::l=>if Aj (f x) t then posB t l+1 else 0
def Dj (x : α):List α -> List α
 | []=>[x]
 | y::l=>if Aj (f y) (f x) then y::Dj x l else if f y=f x then x::l else x::y::l
variable {f}
theorem MK (t:ByteArray):∀ l:List α,posB f t l<=l.length
 | []=>Nat.le_refl _
 | x :: l => by
   unfold posB
   split
   ·have:=MK t l;simp;omega
   ·simp
theorem UF (t:ByteArray):∀ (l:List α) (k:Nat) (_:k<posB f t l) (h:k<l.length),Aj (f l[k]) t=true
 | [],k,hk,h=>by cases h
 | x :: l,k,hk,h => by
   unfold posB at hk
   split at hk
   ·rename_i hx
    cases k with
    | zero=>exact hx
    | succ k=>exact UF t l k (by omega) (by simpa using h)
   ·omega
theorem Pm (t:ByteArray){l:List α}{i:Nat}(hi:i<=l.length)(h1:∀ k (h:k<l.length),k<i->Aj (f l[k]) t=true)(h2:∀ k (h:k<l.length),i<=k->Aj (f l[k]) t=false):i=posB f t l:=by
 have hp:=MK (f:=f) t l
 rcases Nat.lt_trichotomy i (posB f t l) with h|h|h
 ·have a:=UF t l i h (by omega)
  have b:=h2 i (by omega) (Nat.le_refl _)
  rw[a] at b;cases b
 ·exact h
 ·have a:=h1 (posB f t l) (by omega) h
  exfalso
  have key:∀ (l:List α),posB f t l<l.length->∀ (hh:posB f t l<l.length),Aj (f l[posB f t l]) t=false:=by
   intro l
   induction l with
   | nil=>intro h;cases h
   | cons x l ih =>
     intro hlt hh
     by_cases hx:Aj (f x) t=true
     ·have e:posB f t (x::l)=posB f t l+1:=by rw[posB,if_pos hx]
      have hl2:posB f t l<l.length:=by rw[e] at hlt;simpa using hlt
      have:=ih hl2 hl2
      simp only[e,List.getElem_cons_succ]
      exact this
     ·have e:posB f t (x::l)=0:=by rw[posB,if_neg hx]
      simp only[e,List.getElem_cons_zero]
      simpa using hx
  have b:=key l (by omega) (by omega)
  rw[a] at b
  cases b
def Dl (f : α -> ByteArray)(t:ByteArray)(l:List α):Bool:=match l[posB f t l]? with
 | none=>false
 | some y=>decide (f y=t)
theorem MN (x : α):∀ l:List α,Dj f x l=l.take (posB f (f x) l)++x::l.drop (posB f (f x) l+if Dl f (f x) l then 1 else 0)
 | []=>rfl
 | y :: l => by
   by_cases h:Aj (f y) (f x)=true
   ·have e:posB f (f x) (y::l)=posB f (f x) l+1:=by rw[posB,if_pos h]
    have eh:Dl f (f x) (y::l)=Dl f (f x) l:=by unfold Dl;rw[e];rfl
    rw[Dj,if_pos h,MN x l,e,eh,List.take_succ_cons,Nat.add_right_comm,List.drop_succ_cons]
    rfl
   ·have e:posB f (f x) (y::l)=0:=by rw[posB,if_neg h]
    have eh:Dl f (f x) (y::l)=decide (f y=f x):=by unfold Dl;rw[e];rfl
    rw[Dj,if_neg h,e,eh]
    by_cases h2:f y=f x
    ·rw[if_pos h2,decide_eq_true h2];rfl
    ·rw[if_neg h2,decide_eq_false h2];rfl
theorem MW (x : α):∀ (l:List α) (y : α),y∈Dj f x l->y=x\/y∈l
 | [],y,h=>.inl (by simpa [Dj] using h)
 | z :: l,y,h => by
   unfold Dj at h
   split at h
   ·rcases List.mem_cons.1 h with rfl|h
    ·exact .inr List.mem_cons_self
    ·exact(MW x l y h).imp id (List.mem_cons_of_mem _)
   ·split at h
    ·exact(List.mem_cons.1 h).imp id (List.mem_cons_of_mem _)
    ·exact List.mem_cons.1 h
theorem Srt.put (x : α):∀ {l:List α},Srt f l->Srt f (Dj f x l)
 | [],_=>List.pairwise_singleton _ _
 | y :: l,h => by
   obtain⟨h1,h2⟩:=List.pairwise_cons.1 h
   unfold Dj
   split
   ·rename_i hy
    refine List.pairwise_cons.2 ⟨fun z hz=>?_,Srt.put x h2⟩
    rcases MW x l z hz with rfl|hz
    ·exact hy
    ·exact h1 z hz
   ·rename_i hy
    have hy' : Aj (f y) (f x)=false:=by simpa using hy
    split
    ·rename_i he
     exact List.pairwise_cons.2 ⟨fun z hz=>by rw[<- he];exact h1 z hz,h2⟩
    ·rename_i he
     have hxy:Aj (f x) (f y)=true:=by
      cases hc:Aj (f x) (f y) with
      | true=>rfl
      | false=>exact absurd (iF hy' hc) he
     refine List.pairwise_cons.2 ⟨fun z hz=>?_,h⟩
     rcases List.mem_cons.1 hz with rfl|hz
     ·exact hxy
     ·exact Dr hxy (h1 z hz)
theorem IQ {ok : α -> Bool} : ∀ {l:List α} {p:Option α},Ar ok (fun x y=>Aj (f x) (f y)) p l=true->Srt f l/\∀ q,p=some q->∀ x∈l,Aj (f q) (f x)=true
 | [],_,_=>⟨List.Pairwise.nil,fun _ _ _ h=>by cases h⟩
 | y :: l,p,h => by
   have h' : ((ok y&&(match p with|none=>true|some z=>Aj (f z) (f y)))&&Ar ok (fun x y=>Aj (f x) (f y)) (some y) l)=true:=by cases p<;>exact h
   obtain⟨h1,h2⟩:=Bool.and_eq_true_iff.1 h'
   obtain⟨hs,hq⟩:=IQ h2
   refine⟨List.pairwise_cons.2 ⟨hq y rfl,hs⟩,?_⟩
   rintro q rfl x hx
   have hqy:Aj (f q) (f y)=true:=(Bool.and_eq_true_iff.1 h1).2
   rcases List.mem_cons.1 hx with rfl|hx
   ·exact hqy
   ·exact Dr hqy (hq y rfl x hx)
end
theorem EP:∀ (l:List KeyUse) (x:KeyUse),use l x=Dj KeyUse.pub x l
 | [],_=>rfl
 | y::l,x=>by unfold use Dj;rw[EP l x]
theorem LD (p:ByteArray):∀ {l:List KeyUse},Srt KeyUse.pub l->Bf l p=if Dl KeyUse.pub p l then (match l[posB KeyUse.pub p l]? with|none=>0|some k=>k.next) else 0
 | [],_=>rfl
 | y :: l,h => by
   obtain⟨h1,h2⟩:=List.pairwise_cons.1 h
   have ih:=LD p h2
   by_cases hy:Aj y.pub p=true
   ·have e:posB KeyUse.pub p (y::l)=posB KeyUse.pub p l+1:=by rw[posB,if_pos hy]
    have eh:Dl KeyUse.pub p (y::l)=Dl KeyUse.pub p l:=by unfold Dl;rw[e];rfl
    have hn:¬ y.pub=p:=fun e=>by rw[e,BP] at hy;cases hy
    have e2:Bf (y::l) p=Bf l p:=by
     unfold Bf
     rw[List.find?_cons_of_neg (by simpa using hn)]
    rw[e2,ih,eh,e]
    rfl
   ·have e:posB KeyUse.pub p (y::l)=0:=by rw[posB,if_neg hy]
    have eh:Dl KeyUse.pub p (y::l)=decide (y.pub=p):=by unfold Dl;rw[e];rfl
    rw[eh,e]
    by_cases he:y.pub=p
    ·rw[decide_eq_true he]
     unfold Bf
     rw[List.find?_cons_of_pos (by simpa using he)]
     rfl
    ·rw[decide_eq_false he]
     have:l.find? (fun k=>decide (k.pub=p))=none:=by
      rw[List.find?_eq_none]
      intro z hz hp
      have hz2:z.pub=p:=of_decide_eq_true hp
      have h3:=h1 z hz
      rw[hz2] at h3
      exact hy h3
     unfold Bf
     rw[List.find?_cons_of_neg (by simpa using he),this]
     rfl
end Own
end
section
open Go
namespace Own
def AQ (op:Op):Space:=⟨op.pre,op.members,op.threshold⟩
def GA (l:List Space)(p:ByteArray):Option Space:=l.find? fun s=>decide (s.pre=p)
def KA (n pub:ByteArray)(l:List Member):List Member:=l.map fun x=>if x.name=n then ⟨x.name,pub⟩ else x
def Wn (s:Space)(n pub:ByteArray):Space:=⟨s.pre,KA n pub s.members,s.threshold⟩
def Na (l:List Space)(p:ByteArray):List Space:=l.filter fun x => !decide (x.pre=p)
def Fh (l:List Space)(op:Op):Except Int (Space × List Space):=
 if op.kind=0 then
  match CB op.pre none l with
  | some _=>.error 5
  | none=>if l.length=64 then .error 7 else .ok (AQ op,Dj Space.pre (AQ op) l)
 else if op.kind=1 then
  match GA l op.pre with
  | none=>.error 6
  | some s=>.ok (s,Dj Space.pre (AQ op) l)
 else if op.kind=2 then
  match GA l op.pre with
  | some _=>.error 5
  | none => match CB op.pre none l with
    | none=>.error 6
    | some s=>if l.length=64 then .error 7 else .ok (s,Dj Space.pre (AQ op) l)
 else if op.kind=3 then
  match GA l op.pre with
  | none=>.error 6
  | some s=>.ok (s,Na l op.pre)
 else match GA l op.pre with
  | none=>.error 6
  | some s => match find s.members op.name with
    | none=>.error 6
    | some m=>if s.members.any (fun x => !decide (x.name=m.name)&&decide (x.pub=op.pub)) then .error 5 else .ok (⟨s.pre,[m],1⟩,Dj Space.pre (Wn s op.name op.pub) l)
def AO (s:Space)(msg:ByteArray)(K:List KeyUse)(l:List Ai):Except Int (List KeyUse):=
 match Bl s msg [] K l with
 | .error c=>.error c
 | .ok K' => if (l.length:Int)<s.threshold then .error 20 else .ok K'
def Cg (o:Ao)(op:Op):Ao × Int:=
 if (Bv o&&Eh op)=false then (.none,1)
 else if o.count=late then (.none,7)
 else match Fh o.spaces op with
  | .error c=>(.none,c)
  | .ok (s,l) => match AO s (AZ o op).1 o.keys op.Aa with
    | .error c=>(.none,c)
    | .ok K=>(⟨o.count+1,l,K⟩,0)
/-! ### chains in order -/
theorem Od {α : Type}{ok : α -> Bool}{f : α -> ByteArray} : ∀ {l:List α} {p:Option α},(∀ x∈l,ok x=true)->Srt f l->(∀ q,p=some q->∀ x∈l,Aj (f q) (f x)=true)->Ar ok (fun x y=>Aj (f x) (f y)) p l=true
 | [],_,_,_,_=>rfl
 | x :: l,p,ho,hs,hp => by
   have hs':=List.pairwise_cons.1 hs
   have ih:=Od (p:=some x) (fun y hy=>ho y (List.mem_cons_of_mem _ hy)) hs'.2 (fun q hq y hy=>by cases hq;exact hs'.1 y hy)
   unfold Ar
   rw[ho x List.mem_cons_self,ih]
   cases p with
   | none=>rfl
   | some q=>simp only[hp q rfl x List.mem_cons_self,Bool.and_self]
theorem Oe {α : Type}{ok : α -> Bool}{lt : α -> α -> Bool} : ∀ {l:List α} {p:Option α},Ar ok lt p l=true->∀ x∈l,ok x=true
 | [],_,_,x,hx=>by cases hx
 | y :: l,p,h,x,hx => by
   unfold Ar at h
   simp only[Bool.and_eq_true] at h
   rcases List.mem_cons.1 hx with rfl|hx
   ·exact h.1.1
   ·exact Oe h.2 x hx
structure Rt (o:Ao):Prop where
 c0:0<=o.count
 c1:o.count<=late
 len:o.spaces.length<=64
 sp:∀ s∈o.spaces,AX s=true
 iG:Srt Space.pre o.spaces
 ky:∀ k∈o.keys,Df k=true
 sD:Srt KeyUse.pub o.keys
theorem Rt.iff {o:Ao} : Bv o=true↔Rt o:=by
 constructor
 ·intro h
  unfold Bv at h
  simp only[Bool.and_eq_true,decide_eq_true_eq] at h
  obtain⟨⟨⟨⟨h1,h2⟩,h3⟩,h4⟩,h5⟩:=h
  exact⟨h1,h2,h3,Oe h4,(IQ (f:=Space.pre) h4).1,Oe h5,(IQ (f:=KeyUse.pub) h5).1⟩
 ·intro h
  unfold Bv
  simp only[Bool.and_eq_true,decide_eq_true_eq]
  exact⟨⟨⟨⟨h.c0,h.c1⟩,h.len⟩,Od h.sp h.iG (fun _ h=>by cases h)⟩,Od h.ky h.sD (fun _ h=>by cases h)⟩
theorem Im {α : Type}(f : α -> ByteArray)(x : α):∀ l:List α,(Dj f x l).length<=l.length+1
 | []=>by simp[Dj]
 | y :: l => by
   unfold Dj
   split
   ·have:=Im f x l;simp;omega
   ·split<;>simp
theorem IU {α : Type}(f : α -> ByteArray)(x : α):∀ {l:List α},Srt f l->(∃ y∈l,f y=f x)->(Dj f x l).length=l.length
 | [],_,⟨y,hy,_⟩=>by cases hy
 | z :: l,hs,⟨y,hy,he⟩ => by
   obtain⟨h1,h2⟩:=List.pairwise_cons.1 hs
   unfold Dj
   by_cases hz:Aj (f z) (f x)=true
   ·rw[if_pos hz]
    rcases List.mem_cons.1 hy with rfl|hy
    ·rw[he,BP] at hz;cases hz
    ·simp[IU f x h2 ⟨y,hy,he⟩]
   ·rw[if_neg hz]
    by_cases he2:f z=f x
    ·rw[if_pos he2];simp
    ·exfalso
     rcases List.mem_cons.1 hy with rfl|hy
     ·exact he2 he
     ·have:=h1 y hy
      rw[he] at this
      exact hz this
theorem JH {l:List Space}{p:ByteArray}{s:Space}(h:GA l p=some s):s∈l/\s.pre=p:=
 ⟨List.mem_of_find?_eq_some h,by simpa using List.find?_some h⟩
theorem KM:∀ {l pre:List Member},Am pre l=true↔((∀ m∈l,EG m.name=true/\Sig.Bn m.pub=true)/\l.Pairwise (fun x y=>x.pub≠y.pub)/\(∀ x∈pre,∀ y∈l,x.pub≠y.pub)/\Srt Member.name (pre.getLast?.toList++l))
 | [],pre => by
   refine⟨fun _=>⟨(fun m hm=>by cases hm),List.Pairwise.nil,(fun _ _ y hy=>by cases hy),?_⟩,fun _=>rfl⟩
   cases pre.getLast? with
   | none=>exact List.Pairwise.nil
   | some x=>exact List.pairwise_singleton _ _
 | m :: l,pre => by
   have ih:=KM (l:=l) (pre:=pre++[m])
   have e:(pre++[m]).getLast?.toList=[m]:=by simp
   rw[e] at ih
   show(CX pre m&&Am (pre++[m]) l)=true↔_
   rw[Bool.and_eq_true,ih]
   unfold CX
   simp only[Bool.and_eq_true,Bool.not_eq_true',List.any_eq_false,decide_eq_true_eq]
   constructor
   ·rintro⟨⟨⟨⟨h1,h2⟩,h3⟩,h4⟩,h5,h6,h7,h8⟩
    refine⟨fun x hx=>?_,List.pairwise_cons.2 ⟨fun y hy=>h7 m (by simp) y hy,h6⟩,fun x hx y hy=>?_,?_⟩
    ·rcases List.mem_cons.1 hx with rfl|hx
     ·exact⟨h1,h2⟩
     ·exact h5 x hx
    ·rcases List.mem_cons.1 hy with rfl|hy
     ·exact h3 x hx
     ·exact h7 x (by simp[hx]) y hy
    ·cases hp:pre.getLast? with
     | none=>exact h8
     | some z =>
       rw[hp] at h4
       refine List.pairwise_cons.2 ⟨fun y hy=>?_,h8⟩
       rcases List.mem_cons.1 hy with rfl|hy
       ·exact h4
       ·exact Dr h4 ((List.pairwise_cons.1 h8).1 y hy)
   ·rintro⟨h1,h2,h3,h4⟩
    obtain⟨h2a,h2b⟩:=List.pairwise_cons.1 h2
    refine⟨⟨⟨h1 m (by simp),fun x hx=>h3 x hx m (by simp)⟩,?_⟩,fun x hx=>h1 x (by simp[hx]),h2b,fun x hx y hy=>?_,?_⟩
    ·cases hp:pre.getLast? with
     | none=>rfl
     | some z =>
       rw[hp] at h4
       exact(List.pairwise_cons.1 h4).1 m (by simp)
    ·rcases List.mem_append.1 hx with hx|hx
     ·exact h3 x hx y (by simp[hy])
     ·have:x=m:=by simpa using hx
      subst this
      exact h2a y hy
    ·cases hp:pre.getLast? with
     | none=>rw[hp] at h4;exact h4
     | some z=>rw[hp] at h4;exact(List.pairwise_cons.1 h4).2
structure KO (l:List Member):Prop where
 l1:1<=l.length
 l8:l.length<=8
 ok:∀ m∈l,EG m.name=true/\Sig.Bn m.pub=true
 pubs:l.Pairwise fun x y=>x.pub≠y.pub
 srt:Srt Member.name l
theorem KO.iff {l:List Member} : Co l=true↔KO l:=by
 unfold Co
 rw[Bool.and_eq_true,Bool.and_eq_true,decide_eq_true_eq,decide_eq_true_eq,KM]
 constructor
 ·rintro⟨⟨h1,h2⟩,h3,h4,_,h5⟩
  exact⟨h1,h2,h3,h4,h5⟩
 ·intro h
  exact⟨⟨h.l1,h.l8⟩,h.ok,h.pubs,(fun x hx=>by cases hx),h.srt⟩
theorem sF {l:List Member}{n pub:ByteArray}{m:Member}(h:KO l)(hm:m∈l)(hn:m.name=n)(hp:Sig.Bn pub=true)(ha:l.any (fun x => !decide (x.name=m.name)&&decide (x.pub=pub))=false):KO (KA n pub l):=by
 have ha' : ∀ x∈l,x.name≠n->x.pub≠pub:=fun x hx hxn hxp=>by
  have:=List.any_eq_false.1 ha x hx
  rw[hn] at this
  simp[hxn,hxp] at this
 have hnm:∀ x:Member,(if x.name=n then (⟨x.name,pub⟩:Member) else x).name=x.name:=fun x=>by split<;>rfl
 refine⟨by simpa [KA] using h.l1,by simpa [KA] using h.l8,fun x hx=>?_,?_,?_⟩
 ·obtain⟨y,hy,rfl⟩:=List.mem_map.1 hx
  have:=h.ok y hy
  split
  ·exact⟨this.1,hp⟩
  ·exact this
 ·unfold KA
  rw[List.pairwise_map]
  refine List.Pairwise.imp_of_mem ?_ (h.pubs.and h.srt)
  rintro x y hx hy ⟨hxy,hlt⟩
  have hne:x.name≠y.name:=fun e=>by rw[e,BP] at hlt;cases hlt
  by_cases hxn:x.name=n
  ·have hyn:y.name≠n:=fun e=>hne (hxn.trans e.symm)
   rw[if_pos hxn,if_neg hyn]
   exact fun e=>ha' y hy hyn e.symm
  ·by_cases hyn:y.name=n
   ·rw[if_neg hxn,if_pos hyn]
    exact ha' x hx hxn
   ·rw[if_neg hxn,if_neg hyn]
    exact hxy
 ·unfold KA Srt
  rw[List.pairwise_map]
  exact h.srt.imp fun {x y} hxy=>by rw[hnm,hnm];exact hxy
theorem Ru {op:Op}(h:Eh op=true)(hk:op.kind<3):AX (AQ op)=true:=by
 unfold Eh U7 at h
 simp only[Bool.and_eq_true,decide_eq_true_eq,if_neg (show ¬ (3:Int)<=op.kind by omega)] at h
 obtain⟨⟨⟨⟨⟨_,_⟩,hp⟩,_⟩,⟨hm,h1⟩,h2⟩,_⟩:=h
 unfold AX AQ
 simp only[Bool.and_eq_true,decide_eq_true_eq]
 exact⟨⟨⟨hp,hm⟩,h1⟩,h2⟩
theorem Da {s:Space}(h:AX s=true):KO s.members:=by
 unfold AX at h
 simp only[Bool.and_eq_true] at h
 exact KO.iff.1 h.1.1.2
theorem UG {s:ByteArray} : ∀ {l:List Space} {b:Option Space} {x:Space},CB s b l=some x->x∈l\/b=some x
 | [],_,_,h=>.inr h
 | y :: l,b,x,h => by
   unfold CB at h
   rcases UG h with h|h
   ·exact .inl (List.mem_cons_of_mem _ h)
   ·generalize (belongs s y.pre&&_)=c at h
    cases c with
    | true=>cases h;exact .inl List.mem_cons_self
    | false=>exact .inr h
theorem sG {l:List Space}{op:Op}{s:Space}{l' : List Space}(ho:Eh op=true)(hs:∀ x∈l,AX x=true)(hl:l.length<=64)(hsr:Srt Space.pre l)(h:Fh l op=.ok (s,l')):
 KO s.members/\(∀ x∈l',AX x=true)/\l'.length<=64/\Srt Space.pre l':=by
 have hput:∀ x,AX x=true->(∀ y∈Dj Space.pre x l,AX y=true):=fun x hx y hy=>(MW x l y hy).elim (fun e=>by rw[e];exact hx) (hs y)
 unfold Fh at h
 by_cases h0:op.kind=0
 ·rw[if_pos h0] at h
  split at h
  ·cases h
  ·split at h
   ·cases h
   ·rename_i hne
    cases h
    have hv:=Ru ho (by omega)
    have:=Im Space.pre (AQ op) l
    exact⟨Da hv,hput _ hv,by omega,hsr.put _⟩
 rw[if_neg h0] at h
 by_cases h1:op.kind=1
 ·rw[if_pos h1] at h
  split at h
  ·cases h
  ·rename_i s' he
   cases h
   have hv:=Ru ho (by omega)
   obtain⟨hm,hpre⟩:=JH he
   have:=IU Space.pre (AQ op) hsr ⟨_,hm,hpre⟩
   exact⟨Da (hs _ hm),hput _ hv,by omega,hsr.put _⟩
 rw[if_neg h1] at h
 by_cases h2:op.kind=2
 ·rw[if_pos h2] at h
  split at h
  ·cases h
  ·split at h
   ·cases h
   ·rename_i s' hb
    split at h
    ·cases h
    ·cases h
     have hv:=Ru ho (by omega)
     have:=Im Space.pre (AQ op) l
     have hm:=(UG hb).resolve_right (by simp)
     exact⟨Da (hs _ hm),hput _ hv,by omega,hsr.put _⟩
 rw[if_neg h2] at h
 by_cases h3:op.kind=3
 ·rw[if_pos h3] at h
  split at h
  ·cases h
  ·rename_i s' he
   cases h
   obtain⟨hm,_⟩:=JH he
   refine⟨Da (hs _ hm),fun x hx=>hs x (List.mem_filter.1 hx).1,?_,List.Pairwise.filter _ hsr⟩
   have:=List.length_filter_le (fun x:Space => !decide (x.pre=op.pre)) l
   exact Nat.le_trans this hl
 rw[if_neg h3] at h
 split at h
 ·cases h
 rename_i s' he
 obtain⟨hm,hpre⟩:=JH he
 split at h
 ·cases h
 rename_i m hf
 split at h
 ·cases h
 rename_i ha
 cases h
 have hms:=Da (hs _ hm)
 have hmm:m∈s'.members:=List.mem_of_find?_eq_some hf
 have hmn:m.name=op.name:=by simpa using List.find?_some hf
 have hk:=ho
 unfold Eh opName at hk
 simp only[Bool.and_eq_true,decide_eq_true_eq] at hk
 obtain⟨⟨⟨⟨⟨hk0,hk4⟩,_⟩,_⟩,_⟩,hn⟩:=hk
 rw[if_pos (show op.kind=4 by omega),Bool.and_eq_true] at hn
 have zas:=sF hms hmm hmn hn.2 (by simpa using ha)
 have hv:AX (Wn s' op.name op.pub)=true:=by
  have:=hs _ hm
  unfold AX at this ⊢
  simp only[Bool.and_eq_true,decide_eq_true_eq] at this ⊢
  obtain⟨⟨⟨a1,_⟩,a3⟩,a4⟩:=this
  exact⟨⟨⟨a1,KO.iff.2 zas⟩,a3⟩,by simpa [Wn,KA] using a4⟩
 have:=IU Space.pre (Wn s' op.name op.pub) hsr ⟨_,hm,rfl⟩
 refine⟨⟨by simp,by simp,fun x hx=>?_,List.pairwise_singleton _ _,List.pairwise_singleton _ _⟩,hput _ hv,by omega,hsr.put _⟩
 have:x=m:=by simpa using hx
 rw[this]
 exact hms.ok m hmm
/-! ### Aa keep the keys valid and let no Next become less -/
theorem Yo {p m:ByteArray}{s:Sig.T}(h:Sig.verify p m s=true):Sig.Bn p=true/\0<=s.index/\s.index+1<=2^(p.get! 32).toNat:=by
 unfold Sig.verify at h
 simp only[Bool.and_eq_true,decide_eq_true_eq] at h
 obtain⟨⟨⟨⟨⟨h1,h2⟩,h3⟩,_⟩,_⟩,_⟩:=h
 exact⟨h1,h2,by omega⟩
theorem dW {K:List KeyUse}{x y:KeyUse}(h:y∈use K x):y=x\/y∈K:=by
 rw[EP] at h
 exact MW x K y h
theorem dX:∀ {K:List KeyUse},Srt KeyUse.pub K->∀ (x:KeyUse),Bf K x.pub<=x.next->∀ k∈K,∃ n∈use K x,n.pub=k.pub/\k.next<=n.next
 | [],_,_,_,k,hk=>by cases hk
 | y :: K,hs,x,hx,k,hk => by
   obtain⟨h1,h2⟩:=List.pairwise_cons.1 hs
   have Rv:Bf (y::K) x.pub=if y.pub=x.pub then y.next else Bf K x.pub:=by
    unfold Bf
    by_cases h:y.pub=x.pub
    ·rw[if_pos h];simp[h]
    ·rw[if_neg h];simp[h]
   rw[Rv] at hx
   unfold use
   by_cases hl:Aj y.pub x.pub=true
   ·have hne:y.pub≠x.pub:=fun e=>by rw[e,BP] at hl;cases hl
    rw[if_neg hne] at hx
    rw[if_pos hl]
    rcases List.mem_cons.1 hk with rfl|hk
    ·exact⟨k,by simp,rfl,Int.le_refl _⟩
    ·obtain⟨n,hn,e1,e2⟩:=dX h2 x hx k hk
     exact⟨n,by simp[hn],e1,e2⟩
   ·rw[if_neg hl]
    by_cases he:y.pub=x.pub
    ·rw[if_pos he] at hx
     rw[if_pos he]
     rcases List.mem_cons.1 hk with rfl|hk
     ·exact⟨x,by simp,he.symm,hx⟩
     ·exact⟨k,by simp[hk],rfl,Int.le_refl _⟩
    ·rw[if_neg he]
     rcases List.mem_cons.1 hk with rfl|hk
     ·exact⟨k,by simp,rfl,Int.le_refl _⟩
     ·exact⟨k,by simp[hk],rfl,Int.le_refl _⟩
theorem Rx (s:Space)(msg:ByteArray):∀ (l:List Ai) (seen:List ByteArray) (K K' : List KeyUse),Srt KeyUse.pub K->(∀ k∈K,Df k=true)->Bl s msg seen K l=.ok K' ->
 Srt KeyUse.pub K' /\ (∀ k∈K',Df k=true)/\∀ k∈K,∃ n∈K',n.pub=k.pub/\k.next<=n.next
 | [],seen,K,K',hs,hk,h => by
   cases h
   exact⟨hs,hk,fun k hk=>⟨k,hk,rfl,Int.le_refl _⟩⟩
 | a :: l,seen,K,K',hs,hk,h => by
   unfold Bl at h
   split at h
   ·cases h
   rename_i m hf
   split at h
   ·cases h
   split at h
   ·rename_i hv
    split at h
    ·cases h
    ·rename_i hlt
     obtain⟨v1,v2,v3⟩:=Yo hv
     have hs2:Srt KeyUse.pub (use K ⟨m.pub,a.sig.index+1⟩):=by rw[EP];exact hs.put _
     have hk2:∀ k∈use K ⟨m.pub,a.sig.index+1⟩,Df k=true:=fun k hk' => by
      rcases dW hk' with rfl|hk'
      ·unfold Df
       simp only[Bool.and_eq_true,decide_eq_true_eq]
       exact⟨⟨v1,by omega⟩,v3⟩
      ·exact hk k hk'
     obtain⟨r1,r2,r3⟩:=Rx s msg l _ _ _ hs2 hk2 h
     refine⟨r1,r2,fun k hk' => ?_⟩
     obtain⟨n,hn,e1,e2⟩:=dX hs ⟨m.pub,a.sig.index+1⟩ (by show Bf K m.pub<=a.sig.index+1;omega) k hk'
     obtain⟨n',hn',e3,e4⟩:=r3 n hn
     exact⟨n',hn',e3.trans e1,Int.le_trans e2 e4⟩
   ·cases h
theorem Yp {s:Space}{msg:ByteArray}{l:List Ai}{K K' : List KeyUse}(hs:Srt KeyUse.pub K)(hk:∀ k∈K,Df k=true)(h:AO s msg K l=.ok K'):
 Srt KeyUse.pub K' /\ (∀ k∈K',Df k=true)/\∀ k∈K,∃ n∈K',n.pub=k.pub/\k.next<=n.next:=by
 unfold AO at h
 split at h
 ·cases h
 ·rename_i K2 he
  split at h
  ·cases h
  ·cases h
   exact Rx s msg l [] K K' hs hk he
theorem lD {o:Ao}{op:Op}(h:(Cg o op).2=0):Bv (Cg o op).1=true/\(Cg o op).1.count=o.count+1/\∀ k∈o.keys,∃ n∈(Cg o op).1.keys,n.pub=k.pub/\k.next<=n.next:=by
 unfold Cg at h ⊢
 split
 ·rename_i h1;rw[if_pos h1] at h;cases h
 rename_i h1
 rw[if_neg h1] at h
 have h1' : Bv o=true/\Eh op=true:=by simpa using h1
 obtain⟨hv,hop⟩:=h1'
 have hO:=Rt.iff.1 hv
 split
 ·rename_i h2;rw[if_pos h2] at h;cases h
 rename_i h2
 rw[if_neg h2] at h
 cases hw:Fh o.spaces op with
 | error c => 
   rw[hw] at h
   exfalso
   have h:c=0:=h
   subst h
   revert hw
   unfold Fh
   repeat' split
   all_goals (intro hw;cases hw)
 | ok p =>
   obtain⟨s,l⟩:=p
   rw[hw] at h
   dsimp only at h ⊢
   obtain⟨_,w2,w3,w4⟩:=sG hop hO.sp hO.len hO.iG hw
   cases ha:AO s (AZ o op).1 o.keys op.Aa with
   | error c =>
     rw[ha] at h
     exfalso
     have h:c=0:=h
     subst h
     have:∀ (l:List Ai) (seen:List ByteArray) (K:List KeyUse),Bl s (AZ o op).1 seen K l≠.error 0:=by
      intro l
      induction l with
      | nil=>intro seen K h;cases h
      | cons a l ih =>
        intro seen K h
        unfold Bl at h
        repeat' split at h
        all_goals first|(cases h;done)|exact ih _ _ h
     unfold AO at ha
     split at ha
     ·rename_i c he;cases ha;exact this _ _ _ he
     ·split at ha
      ·cases ha
      ·cases ha
   | ok K =>
     obtain⟨k1,k2,k3⟩:=Yp hO.sD hO.ky ha
     have hc1:=hO.c1
     exact⟨Rt.iff.2 ⟨by have:=hO.c0;show 0<=o.count+1;omega,by show o.count+1<=late;unfold late at *;omega,w3,w2,w4,k2,k1⟩,rfl,k3⟩
end Own
namespace Own
theorem Yq {p r:ByteArray}{n:Nat}(hn:n<9223372036854775808):Cod.rdN (p++(Cod.uns n++r)) p.size=some (n,(p++Cod.uns n).size):=by
 rw[Cod.Zy rfl hn,Sha.Ag]
theorem UH {p x r:ByteArray}(hn:x.size<9223372036854775808):Cod.rdT (p++(Cod.text x++r)) p.size=some (x,(p++Cod.text x).size):=by
 rw[Cod.jR rfl hn,Sha.Ag]
theorem UJ {p r:ByteArray}{l:List ByteArray}(hl:l.length<9223372036854775808)(hx:∀ x∈l,x.size<9223372036854775808):Cod.Br (p++(Cod.texts l++r)) p.size=some (l,(p++Cod.texts l).size):=by
 rw[Cod.Zz rfl hl hx,Sha.Ag]
theorem Yr {r:ByteArray} : ∀ (l:List Member) (p:ByteArray),(∀ m∈l,m.name.size<9223372036854775808/\m.pub.size<9223372036854775808)->IL (p++(Cod.cat (l.map AV)++r)) l.length p.size=some (l,(p++Cod.cat (l.map AV)).size)
 | [],p,_ => by
   show some _=some _
   rw[show p++Cod.cat (([]:List Member).map AV)=p from Wm p]
 | m :: l,p,h => by
   obtain⟨h1,h2⟩:=h m List.mem_cons_self
   have e:Cod.cat ((m::l).map AV)=(Cod.text m.name++Cod.text m.pub)++Cod.cat (l.map AV):=rfl
   rw[e]
   have e1:p++(((Cod.text m.name++Cod.text m.pub)++Cod.cat (l.map AV))++r)=p++(Cod.text m.name++(Cod.text m.pub++(Cod.cat (l.map AV)++r))):=by simp only[ByteArray.append_assoc]
   have e2:p++(((Cod.text m.name++Cod.text m.pub)++Cod.cat (l.map AV))++r)=(p++Cod.text m.name)++(Cod.text m.pub++(Cod.cat (l.map AV)++r)):=by simp only[ByteArray.append_assoc]
   have e3:p++(((Cod.text m.name++Cod.text m.pub)++Cod.cat (l.map AV))++r)=(p++Cod.text m.name++Cod.text m.pub)++(Cod.cat (l.map AV)++r):=by simp only[ByteArray.append_assoc]
   show IL _ (l.length+1) p.size=_
   have r1:=UH (p:=p) (x:=m.name) (r:=Cod.text m.pub++(Cod.cat (l.map AV)++r)) h1
   have r2:=UH (p:=p++Cod.text m.name) (x:=m.pub) (r:=Cod.cat (l.map AV)++r) h2
   have r3:=Yr (r:=r) l (p++Cod.text m.name++Cod.text m.pub) (fun x hx=>h x (List.mem_cons_of_mem _ hx))
   rw[<- e1] at r1
   rw[<- e2] at r2
   rw[<- e3] at r3
   unfold IL
   simp only[r1,r2,r3]
   congr 2
   simp only[ByteArray.append_assoc]
theorem oL {p r:ByteArray}{s:Sig.T}(h0:0<=s.index)(h1:s.index<9223372036854775808)(h2:s.chains.length<9223372036854775808)(h3:∀ x∈s.chains,x.size<9223372036854775808)(h4:s.path.length<9223372036854775808)(h5:∀ x∈s.path,x.size<9223372036854775808):
 UD (p++(Bw s++r)) p.size=some (s,(p++Bw s).size):=by
 unfold Bw
 have e1:p++((Cod.uns s.index.toNat++(Cod.texts s.chains++Cod.texts s.path))++r)=p++(Cod.uns s.index.toNat++(Cod.texts s.chains++(Cod.texts s.path++r))):=by simp only[ByteArray.append_assoc]
 have e2:p++((Cod.uns s.index.toNat++(Cod.texts s.chains++Cod.texts s.path))++r)=(p++Cod.uns s.index.toNat)++(Cod.texts s.chains++(Cod.texts s.path++r)):=by simp only[ByteArray.append_assoc]
 have e3:p++((Cod.uns s.index.toNat++(Cod.texts s.chains++Cod.texts s.path))++r)=(p++Cod.uns s.index.toNat++Cod.texts s.chains)++(Cod.texts s.path++r):=by simp only[ByteArray.append_assoc]
 have r1:=Yq (p:=p) (n:=s.index.toNat) (r:=Cod.texts s.chains++(Cod.texts s.path++r)) (by omega)
 have r2:=UJ (p:=p++Cod.uns s.index.toNat) (l:=s.chains) (r:=Cod.texts s.path++r) h2 h3
 have r3:=UJ (p:=p++Cod.uns s.index.toNat++Cod.texts s.chains) (l:=s.path) (r:=r) h4 h5
 rw[<- e1] at r1
 rw[<- e2] at r2
 rw[<- e3] at r3
 unfold UD
 simp only[r1,r2,r3,Int.toNat_of_nonneg h0]
 congr 2
 simp only[ByteArray.append_assoc]
theorem Og {s:Sig.T}(h:Dq s=true):0<=s.index/\s.chains.length=67/\(∀ x∈s.chains,x.size=32)/\s.path.length<=6/\∀ x∈s.path,x.size=32:=by
 unfold Dq at h
 simp only[Bool.and_eq_true,decide_eq_true_eq,List.all_eq_true] at h
 obtain⟨⟨⟨⟨h1,h2⟩,h3⟩,h4⟩,h5⟩:=h
 exact⟨h1,h2,fun x hx=>of_decide_eq_true (h4 x hx),h3,fun x hx=>of_decide_eq_true (h5 x hx)⟩
theorem dY {r:ByteArray} : ∀ (l:List Ai) (p:ByteArray),(∀ a∈l,a.name.size<9223372036854775808/\Dq a.sig=true/\a.sig.index<9223372036854775808)->MI (p++(Cod.cat (l.map Ay)++r)) l.length p.size=some (l,(p++Cod.cat (l.map Ay)).size)
 | [],p,_ => by
   show some _=some _
   rw[show p++Cod.cat (([]:List Ai).map Ay)=p from Wm p]
 | a :: l,p,h => by
   obtain⟨h1,h2,h3⟩:=h a List.mem_cons_self
   obtain⟨g1,g2,g3,g4,g5⟩:=Og h2
   have e:Cod.cat ((a::l).map Ay)=(Cod.text a.name++Bw a.sig)++Cod.cat (l.map Ay):=rfl
   rw[e]
   have e1:p++(((Cod.text a.name++Bw a.sig)++Cod.cat (l.map Ay))++r)=p++(Cod.text a.name++(Bw a.sig++(Cod.cat (l.map Ay)++r))):=by simp only[ByteArray.append_assoc]
   have e2:p++(((Cod.text a.name++Bw a.sig)++Cod.cat (l.map Ay))++r)=(p++Cod.text a.name)++(Bw a.sig++(Cod.cat (l.map Ay)++r)):=by simp only[ByteArray.append_assoc]
   have e3:p++(((Cod.text a.name++Bw a.sig)++Cod.cat (l.map Ay))++r)=(p++Cod.text a.name++Bw a.sig)++(Cod.cat (l.map Ay)++r):=by simp only[ByteArray.append_assoc]
   show MI _ (l.length+1) p.size=_
   have r1:=UH (p:=p) (x:=a.name) (r:=Bw a.sig++(Cod.cat (l.map Ay)++r)) h1
   have r2:=oL (p:=p++Cod.text a.name) (s:=a.sig) (r:=Cod.cat (l.map Ay)++r) g1 h3 (by omega) (fun x hx=>by have:=g3 x hx;omega) (by omega) (fun x hx=>by have:=g5 x hx;omega)
   have r3:=dY (r:=r) l (p++Cod.text a.name++Bw a.sig) (fun x hx=>h x (List.mem_cons_of_mem _ hx))
   rw[<- e1] at r1
   rw[<- e2] at r2
   rw[<- e3] at r3
   unfold MI
   simp only[r1,r2,r3]
   congr 2
   simp only[ByteArray.append_assoc]
theorem iH {l:List Member}(h:Co l=true):l.length<=8/\∀ m∈l,m.name.size<=32/\m.pub.size=33:=by
 have hM:=KO.iff.1 h
 refine⟨hM.l8,fun m hm=>?_⟩
 obtain⟨h1,h2⟩:=hM.ok m hm
 unfold EG at h1
 unfold Sig.Bn at h2
 simp only[Bool.and_eq_true,decide_eq_true_eq] at h1 h2
 exact⟨h1.2,h2.1⟩
structure KD (op:Op):Prop where
 k0:0<=op.kind
 k4:op.kind<=4
 pre:op.pre.size<=64
 al:op.Aa.length<=8
 ml:op.members.length<=8
 ms:∀ m∈op.members,m.name.size<=32/\m.pub.size=33
 t0:0<=op.threshold
 t8:op.threshold<=8
 nm:op.name.size<=32
 pb:op.pub.size<=33
theorem KD.of {op:Op}(h:Eh op=true):KD op:=by
 unfold Eh at h
 simp only[Bool.and_eq_true,decide_eq_true_eq] at h
 obtain⟨⟨⟨⟨⟨h0,h4⟩,hp⟩,ha⟩,hm⟩,hn⟩:=h
 unfold BI at hp
 simp only[Bool.and_eq_true,decide_eq_true_eq] at hp
 have hmm:op.members.length<=8/\(∀ m∈op.members,m.name.size<=32/\m.pub.size=33)/\0<=op.threshold/\op.threshold<=8:=by
  unfold U7 at hm
  by_cases h3:3<=op.kind
  ·rw[if_pos h3,Bool.and_eq_true,decide_eq_true_eq,decide_eq_true_eq] at hm
   have e:op.members=[]:=List.eq_nil_of_length_eq_zero hm.1
   exact⟨by omega,fun m hm=>by(rw[e] at hm;cases hm),by omega,by omega⟩
  ·rw[if_neg h3,Bool.and_eq_true,Bool.and_eq_true,decide_eq_true_eq,decide_eq_true_eq] at hm
   obtain⟨g1,g2⟩:=iH hm.1.1
   exact⟨g1,g2,by omega,by omega⟩
 have hnn:op.name.size<=32/\op.pub.size<=33:=by
  unfold opName at hn
  by_cases h4' : op.kind=4
  ·rw[if_pos h4',Bool.and_eq_true] at hn
   have h1:=hn.1
   have h2:=hn.2
   unfold EG at h1
   unfold Sig.Bn at h2
   simp only[Bool.and_eq_true,decide_eq_true_eq] at h1 h2
   exact⟨h1.2,by omega⟩
  ·rw[if_neg h4',Bool.and_eq_true,decide_eq_true_eq,decide_eq_true_eq] at hn
   rw[hn.1,hn.2]
   exact⟨by decide,by decide⟩
 exact⟨h0,h4,hp.1.2,ha,hmm.1,hmm.2.1,hmm.2.2.1,hmm.2.2.2,hnn.1,hnn.2⟩
theorem lF {op:Op}(h:Fv op=true)(hi:∀ a∈op.Aa,a.name.size<9223372036854775808/\a.sig.index<9223372036854775808):iE (CW op++(Cod.uns op.Aa.length++Cod.cat (op.Aa.map Ay)))=some (op,(CW op++(Cod.uns op.Aa.length++Cod.cat (op.Aa.map Ay))).size):=by
 unfold Fv at h
 simp only[Bool.and_eq_true,List.all_eq_true] at h
 have hz:=KD.of h.1
 have iI:∀ a∈op.Aa,a.name.size<9223372036854775808/\Dq a.sig=true/\a.sig.index<9223372036854775808:=fun a ha=>⟨(hi a ha).1,h.2 a ha,(hi a ha).2⟩
 obtain⟨kd,pre,ms,th,nm,pb,aps⟩:=op
 obtain⟨k0,k4,hpre,hal,hml,hms,t0,t8,hnm,hpb⟩:=hz
 dsimp only at k0 k4 hpre hal hml hms t0 t8 hnm hpb iI
 obtain⟨k,rfl⟩:∃ k:Nat,kd=k:=⟨kd.toNat,by omega⟩
 obtain⟨t,rfl⟩:∃ t:Nat,th=t:=⟨th.toNat,by omega⟩
 unfold CW
 simp only[Int.toNat_natCast]
 have r1:=Yq (p:=⟨#[]⟩) (n:=k) (r:=Cod.text pre++(Cod.uns ms.length++(Cod.cat (ms.map AV)++(Cod.uns t++(Cod.text nm++(Cod.text pb++(Cod.uns aps.length++(Cod.cat (aps.map Ay)++⟨#[]⟩)))))))) (by omega)
 have r2:=UH (p:=⟨#[]⟩++Cod.uns k) (x:=pre) (r:=Cod.uns ms.length++(Cod.cat (ms.map AV)++(Cod.uns t++(Cod.text nm++(Cod.text pb++(Cod.uns aps.length++(Cod.cat (aps.map Ay)++⟨#[]⟩))))))) (by omega)
 have r3:=Yq (p:=⟨#[]⟩++Cod.uns k++Cod.text pre) (n:=ms.length) (r:=Cod.cat (ms.map AV)++(Cod.uns t++(Cod.text nm++(Cod.text pb++(Cod.uns aps.length++(Cod.cat (aps.map Ay)++⟨#[]⟩)))))) (by omega)
 have r4:=Yr (r:=Cod.uns t++(Cod.text nm++(Cod.text pb++(Cod.uns aps.length++(Cod.cat (aps.map Ay)++⟨#[]⟩))))) ms (⟨#[]⟩++Cod.uns k++Cod.text pre++Cod.uns ms.length) (fun m hm=>by have:=hms m hm;omega)
 have r5:=Yq (p:=⟨#[]⟩++Cod.uns k++Cod.text pre++Cod.uns ms.length++Cod.cat (ms.map AV)) (n:=t) (r:=Cod.text nm++(Cod.text pb++(Cod.uns aps.length++(Cod.cat (aps.map Ay)++⟨#[]⟩)))) (by omega)
 have r6:=UH (p:=⟨#[]⟩++Cod.uns k++Cod.text pre++Cod.uns ms.length++Cod.cat (ms.map AV)++Cod.uns t) (x:=nm) (r:=Cod.text pb++(Cod.uns aps.length++(Cod.cat (aps.map Ay)++⟨#[]⟩))) (by omega)
 have r7:=UH (p:=⟨#[]⟩++Cod.uns k++Cod.text pre++Cod.uns ms.length++Cod.cat (ms.map AV)++Cod.uns t++Cod.text nm) (x:=pb) (r:=Cod.uns aps.length++(Cod.cat (aps.map Ay)++⟨#[]⟩)) (by omega)
 have r8:=Yq (p:=⟨#[]⟩++Cod.uns k++Cod.text pre++Cod.uns ms.length++Cod.cat (ms.map AV)++Cod.uns t++Cod.text nm++Cod.text pb) (n:=aps.length) (r:=Cod.cat (aps.map Ay)++⟨#[]⟩) (by omega)
 have r9:=dY (r:=⟨#[]⟩) aps (⟨#[]⟩++Cod.uns k++Cod.text pre++Cod.uns ms.length++Cod.cat (ms.map AV)++Cod.uns t++Cod.text nm++Cod.text pb++Cod.uns aps.length) iI
 have n0:∀ s:ByteArray,(⟨#[]⟩:ByteArray)++s=s:=fun s=>by apply Sha.BG;rw[Sha.Bq];simp
 have z0:(⟨#[]⟩:ByteArray).size=0:=rfl
 rw[z0] at r1
 simp only[n0,Wm,ByteArray.append_assoc] at r1 r2 r3 r4 r5 r6 r7 r8 r9 ⊢
 unfold iE
 simp only[r1,r2,r3,r4,r5,r6,r7,r8,r9,if_neg (show ¬ 8<ms.length by omega),if_neg (show ¬ 8<aps.length by omega)]
theorem iJ {op:Op}(h:Fv op=true)(hi:∀ a∈op.Aa,a.name.size<9223372036854775808/\a.sig.index<9223372036854775808):MJ (Dh op).1=(op,0):=by
 unfold Dh
 rw[if_pos h]
 dsimp only
 unfold MJ
 rw[lF h hi]
 dsimp only
 rw[if_pos (by rw[decide_eq_true rfl,h];rfl)]
end Own
namespace Own
def CG (b:Nat):ByteArray:=⟨#[109,(48+b/100).toUInt8,(48+b/10%10).toUInt8,(48+b%10).toUInt8]⟩
def Ej (b:Nat):ByteArray:=Sig.Jz (GR.DK b)
def Yt (b:Nat):Member:=⟨CG b,Ej b⟩
def Dm (i:Nat)(msg:ByteArray)(b:Nat):Ai:=⟨CG b,Sig.BH (GR.DK b) i msg⟩
theorem Qj (a b:Nat)(x y:List UInt8)(ha:a<256)(hb:b<256):Op.bytesLess (a.toUInt8::x) (b.toUInt8::y)=(decide (a<b) || (decide (a=b)&&Op.bytesLess x y)):=by
 have n8:∀ n:Nat,n<256->(n.toUInt8).toNat=n:=fun n hn=>by simp[Nat.mod_eq_of_lt hn]
 have e1:decide (a.toUInt8<b.toUInt8)=decide (a<b):=by rw[decide_eq_decide,UInt8.lt_iff_toNat_lt,n8 a ha,n8 b hb]
 have e2:(a.toUInt8==b.toUInt8)=decide (a=b):=by
  rw[Bool.eq_iff_iff,beq_iff_eq,decide_eq_true_eq,<- UInt8.toNat_inj,n8 a ha,n8 b hb]
 show(decide (a.toUInt8<b.toUInt8) || (a.toUInt8==b.toUInt8&&Op.bytesLess x y))=_
 rw[e1,e2]
theorem UK (b:Nat):(CG b).toList=[(109:Nat).toUInt8,(48+b/100).toUInt8,(48+b/10%10).toUInt8,(48+b%10).toUInt8]:=by
 rw[ByteArray.toList_eq]
 rfl
theorem Wo {a b:Nat}(h:a<b)(hb:b<256):Aj (CG a) (CG b)=true:=by
 unfold Aj
 rw[UK,UK,Qj _ _ _ _ (by omega) (by omega),Qj _ _ _ _ (by omega) (by omega),Qj _ _ _ _ (by omega) (by omega),Qj _ _ _ _ (by omega) (by omega)]
 have key:48+a/100<48+b/100\/(48+a/100=48+b/100/\(48+a/10%10<48+b/10%10\/(48+a/10%10=48+b/10%10/\48+a%10<48+b%10))):=by omega
 simp only[Bool.or_eq_true,Bool.and_eq_true,decide_eq_true_eq]
 rcases key with h1|⟨h1,h2|⟨h2,h3⟩⟩
 ·exact .inr ⟨trivial,.inl h1⟩
 ·exact .inr ⟨trivial,.inr ⟨h1,.inl h2⟩⟩
 ·exact .inr ⟨trivial,.inr ⟨h1,.inr ⟨h2,.inl h3⟩⟩⟩
theorem Yu {a b:Nat}(ha:a<256)(hb:b<256)(h:CG a=CG b):a=b:=by
 rcases Nat.lt_trichotomy a b with g|g|g
 ·have:=Wo g hb;rw[h,BP] at this;cases this
 ·exact g
 ·have:=Wo g ha;rw[h,BP] at this;cases this
theorem oM (b:Nat):EG (CG b)=true:=rfl
def Inj (l:List Nat):Prop:=∀ a∈l,∀ b∈l,Ej a=Ej b->a=b
theorem Inj.one (b:Nat):Inj [b]:=fun x hx y hy _=>(List.mem_singleton.1 hx).trans (List.mem_singleton.1 hy).symm
theorem Inj.tail {b:Nat}{l:List Nat}(h:Inj (b::l)):Inj l:=fun x hx y hy=>h x (by simp[hx]) y (by simp[hy])
theorem lG (b:Nat):Sig.Bn (Ej b)=true:=by unfold Sig.Bn Ej;rw[Sig.QO,Sig.IG];rfl
def Bj (l:List Nat):List Member:=l.map Yt
structure Hu (l:List Nat):Prop where
 lt:∀ b∈l,b<256
 srt:l.Pairwise (· < ·)
theorem Hu.one {b:Nat}(h:b<256):Hu [b]:=⟨fun x hx=>by rw[List.mem_singleton.1 hx];exact h,List.pairwise_singleton _ _⟩
theorem Yv {l:List Nat}(hi:Inj l)(h:Hu l)(h1:1<=l.length)(h8:l.length<=8):Co (Bj l)=true:=by
 refine KO.iff.2 ⟨by simpa [Bj] using h1,by simpa [Bj] using h8,fun m hm=>?_,?_,?_⟩
 ·obtain⟨b,_,rfl⟩:=List.mem_map.1 hm
  exact⟨oM b,lG b⟩
 ·unfold Bj
  rw[List.pairwise_map]
  refine List.Pairwise.imp_of_mem ?_ h.srt
  intro a b ha hb hab e
  have:=hi a ha b hb e
  omega
 ·unfold Bj Srt
  rw[List.pairwise_map]
  refine List.Pairwise.imp_of_mem ?_ h.srt
  intro a b ha hb hab
  exact Wo hab (h.lt b hb)
theorem Yw {l:List Nat}(h:∀ b∈l,b<256){b:Nat}(hb:b∈l):find (Bj l) (CG b)=some (Yt b):=by
 induction l with
 | nil=>cases hb
 | cons a l ih =>
   unfold find Bj
   rw[List.map_cons]
   by_cases e:a=b
   ·subst e
    rw[List.find?_cons_of_pos (by simp[Yt])]
   ·have hne:¬ CG a=CG b:=fun e2=>e (Yu (h a (by simp)) (h b hb) e2)
    rw[List.find?_cons_of_neg (by simp only[Yt];exact fun e2=>hne (of_decide_eq_true e2))]
    exact ih (fun x hx=>h x (by simp[hx])) (by simpa [Ne.symm e] using hb)
theorem LG (S:ByteArray)(i:Nat)(m:ByteArray):(Sig.BH S i m).index=(i:Int):=by unfold Sig.BH;rfl
theorem Yx (b i:Nat)(hi:i<2)(msg:ByteArray):Sig.verify (Ej b) msg (Sig.BH (GR.DK b) i msg)=true:=Sig.XI _ i hi msg
def Jp (i:Nat)(K:List KeyUse)(b:Nat):List KeyUse:=use K ⟨Ej b,(i:Int)+1⟩
theorem Po:∀ {K:List KeyUse},Srt KeyUse.pub K->∀ (x:KeyUse) (p:ByteArray),Bf (use K x) p=if x.pub=p then x.next else Bf K p
 | [],_,x,p => by
   unfold use Bf
   by_cases h:x.pub=p
   ·rw[if_pos h];simp[h]
   ·rw[if_neg h];simp[h]
 | k :: K,hs,x,p => by
   have hs':=List.pairwise_cons.1 hs
   have Rv:∀ (y:KeyUse) (l:List KeyUse),Bf (y::l) p=if y.pub=p then y.next else Bf l p:=fun y l=>by
    unfold Bf
    by_cases h:y.pub=p
    ·rw[if_pos h];simp[h]
    ·rw[if_neg h];simp[h]
   unfold use
   by_cases h1:Aj k.pub x.pub=true
   ·rw[if_pos h1,Rv,Rv,Po hs'.2 x p]
    by_cases hk:k.pub=p
    ·rw[if_pos hk,if_pos hk]
     rw[if_neg (fun hx=>by rw[hk,hx,BP] at h1;cases h1)]
    ·rw[if_neg hk,if_neg hk]
   ·rw[if_neg h1]
    by_cases h2:k.pub=x.pub
    ·rw[if_pos h2,Rv,Rv]
     by_cases hx:x.pub=p
     ·rw[if_pos hx,if_pos hx]
     ·rw[if_neg hx,if_neg hx,if_neg (by rw[h2];exact hx)]
    ·rw[if_neg h2,Rv]
structure KB (K:List KeyUse):Prop where
 srt:Srt KeyUse.pub K
 mem:∀ k∈K,∃ b,b<256/\k.pub=Ej b/\0<=k.next/\k.next<=2
theorem KB.nil:KB []:=⟨List.Pairwise.nil,fun k hk=>by cases hk⟩
theorem KB.use {K:List KeyUse}(h:KB K){b:Nat}(hb:b<256){i:Nat}(hi:i<2):KB (Jp i K b):=by
 refine⟨by unfold Jp;rw[EP];exact h.srt.put _,fun k hk=>?_⟩
 rcases dW hk with rfl|hk
 ·exact⟨b,hb,rfl,by show(0:Int)<=(i:Int)+1;omega,by show(i:Int)+1<=2;omega⟩
 ·exact h.mem k hk
theorem KB.ok {K:List KeyUse}(h:KB K):∀ k∈K,Df k=true:=fun k hk=>by
 obtain⟨b,_,hp,h0,h2⟩:=h.mem k hk
 have e:((2:Int)^(k.pub.get! 32).toNat)=2:=by rw[hp];unfold Ej;rw[Sig.IG];rfl
 unfold Df
 rw[e,hp,lG]
 simp only[Bool.true_and,Bool.and_eq_true,decide_eq_true_eq]
 exact⟨h0,h2⟩
theorem KB.qR {K:List KeyUse}(h:KB K){a b:Nat}(hi:Ej b=Ej a->b=a)(i:Nat):Bf (Jp i K b) (Ej a)=if b=a then (i:Int)+1 else Bf K (Ej a):=by
 unfold Jp
 rw[Po h.srt]
 by_cases e:b=a
 ·subst e;rw[if_pos rfl,if_pos rfl]
 ·rw[if_neg e,if_neg (fun h=>e (hi h))]
theorem KB.fold {i:Nat}(hi:i<2):∀ {l:List Nat} {K:List KeyUse},KB K->(∀ b∈l,b<256)->KB (l.foldl (Jp i) K)
 | [],_,h,_=>h
 | b :: l,K,h,hl => by
   rw[List.foldl_cons]
   exact KB.fold hi (l:=l) (KB.use h (hl b (by simp)) hi) fun x hx=>hl x (by simp[hx])
theorem Ry {i a:Nat}(hi:i<2):∀ {l:List Nat} {K:List KeyUse},(∀ b∈l,Ej b=Ej a->b=a)->KB K->(∀ b∈l,b<256)->Bf (l.foldl (Jp i) K) (Ej a)=if a∈l then (i:Int)+1 else Bf K (Ej a)
 | [],_,_,_,_=>by simp
 | b :: l,K,hj,h,hl => by
   have hb:=hl b (by simp)
   rw[List.foldl_cons,Ry hi (fun x hx=>hj x (by simp[hx])) (h.use hb hi) (fun x hx=>hl x (by simp[hx])),h.qR (hj b (by simp))]
   by_cases e:b=a
   ·subst e;simp
   ·by_cases e2:a∈l
    ·simp[e2]
    ·simp[e,e2,Ne.symm e]
theorem Jk {s:Space}{msg:ByteArray}{i:Nat}(hi:i<2):∀ (ks:List Nat) (seen:List ByteArray) (K:List KeyUse),Inj ks->KB K->ks.Nodup->(∀ b∈ks,b<256)->(∀ b∈ks,find s.members (CG b)=some (Yt b)/\CG b ∉ seen/\Bf K (Ej b)<=i)->
 Bl s msg seen K (ks.map (Dm i msg))=.ok (ks.foldl (Jp i) K)
 | [],_,_,_,_,_,_,_=>rfl
 | b :: ks,seen,K,hj,hK,hd,hl,h => by
   obtain⟨h1,h2,h3⟩:=h b (by simp)
   have hb:=hl b (by simp)
   obtain⟨hd1,hd2⟩:=List.nodup_cons.1 hd
   rw[List.map_cons,List.foldl_cons]
   unfold Bl
   rw[show(Dm i msg b).name=CG b from rfl,h1]
   dsimp only
   have e1:(seen.any fun x=>decide (x=CG b))=false:=by
    rw[List.any_eq_false]
    intro x hx e
    have:x=CG b:=of_decide_eq_true e
    rw[this] at hx
    exact h2 hx
   rw[e1,if_neg (by simp),show(Yt b).pub=Ej b from rfl,show(Dm i msg b).sig=Sig.BH (GR.DK b) i msg from rfl,Yx b i hi msg,if_pos rfl,LG,if_neg (by omega)]
   refine Jk hi ks _ _ hj.tail (hK.use hb hi) hd2 (fun x hx=>hl x (by simp[hx])) (fun x hx=>?_)
   obtain⟨g1,g2,g3⟩:=h x (by simp[hx])
   have hx2:=hl x (by simp[hx])
   have hne:b≠x:=fun e=>hd1 (by rw[e];exact hx)
   refine⟨g1,fun hm=>?_,?_⟩
   ·rcases List.mem_cons.1 hm with e|hm
    ·exact hne (Yu hx2 hb e).symm
    ·exact g2 hm
   ·have:=hK.qR (hj b (by simp) x (by simp[hx])) i
    rw[if_neg hne] at this
    show Bf (Jp i K b) (Ej x)<=_
    rw[this]
    exact g3
end Own
end
section
open Go Go.RowKit Go.Maps
theorem PY (b:Nat)(w:World)(hb:b<256):Calls Tryz.prog 47 #[.int .u8 b] w fun e w' => e=.returned (.string (Own.Ej b))/\Below w.heap.size w w':=by
 obtain⟨P,hP⟩:∃ P,P=Own.Ej b:=⟨_,rfl⟩
 rw[<- hP]
 have hpb:=fun W=>TA (GR.DK b) W (by unfold GR.DK;simp[ByteArray.size])
 unfold Own.Ej at hP
 rw[<- hP] at hpb
 have HPB:=zh hpb
 clear hpb hP
 go_enter Tryz.func47,Tryz.ntmps47
 go_wp2_with fail
 refine(MH b _ hb).mono ?_
 rintro e w1 ⟨rfl,hb1⟩
 have HB1:=zh hb1;clear hb1
 obtain⟨S,hS⟩:∃ S,S=GR.DK b:=⟨_,rfl⟩
 rw[<- hS] at HPB ⊢
 clear hS
 go_wp2_with fail
 refine(HPB.out _).mono ?_
 rintro e w2 ⟨rfl,hb2⟩
 have HB2:=zh (HB1.out.trans (hb2.mono HB1.out.size));clear hb2
 go_wp2_with fail
 go_ret
 exact⟨rfl,HB2.out⟩
theorem sH (W:World)(g a b c:Nat)(h:At W g 5 #[.int .u8 a,.int .u8 b,.int .u8 c]):(convert 66 9 (.slice (some ⟨g,0,none⟩) 3 3)).run Tryz.prog W=.ok (.string ⟨#[a.toUInt8,b.toUInt8,c.toUInt8]⟩) W:=by
 have:=run_convert_bytes_arg (P:=Tryz.prog) W 66 5 rfl rfl g 0 3 3 [(a:Int),(b:Int),(c:Int)] rfl (fun i hi=>by
  have hi2:i<3:=hi
  have:i=0\/i=1\/i=2:=by omega
  rcases this with rfl|rfl|rfl
  ·exact h.cell 0
  ·exact h.cell 1
  ·exact h.cell 2) 9 rfl
 rw[this]
 rfl
theorem KP (b:Nat)(w:World)(hb:b<256):Calls Tryz.prog 46 #[.int .u8 b] w fun e w' => e=.returned (.string (Own.CG b))/\Below w.heap.size w w':=by
 have hcv:=fun W g=>sH W g (48+b/100) (48+b/10%10) (48+b%10)
 obtain⟨S,hS⟩:∃ S:ByteArray,S=⟨#[(48+b/100).toUInt8,(48+b/10%10).toUInt8,(48+b%10).toUInt8]⟩:=⟨_,rfl⟩
 simp only[<- hS] at hcv
 have zS:S.size=3:=by rw[hS];rfl
 have HE:=zh (show Own.CG b=(⟨#[109]⟩:ByteArray)++S by
  rw[hS]
  apply Sha.BG
  rw[Sha.Bq]
  rfl)
 have HCV:=zh hcv;clear hcv hS
 go_enter Tryz.func46,Tryz.ntmps46
 go_wp2_with fail
 have hat:At (w.alloc (.cells #[.int .u8 (48+(b:Int)/100),.int .u8 (48+(b:Int)/10%10),.int .u8 (48+(b:Int)%10)] 5)) w.heap.size 5 #[.int .u8 ((48+b/100:Nat):Int),.int .u8 ((48+b/10%10:Nat):Int),.int .u8 ((48+b%10:Nat):Int)]:=by
  rw[show((48+b/100:Nat):Int)=48+(b:Int)/100 by omega,show((48+b/10%10:Nat):Int)=48+(b:Int)/10%10 by omega,show((48+b%10:Nat):Int)=48+(b:Int)%10 by omega]
  exact At.new w _ _
 rw[HCV.out _ _ hat]
 have hbw:Below w.heap.size w (w.alloc (.cells #[.int .u8 (48+(b:Int)/100),.int .u8 (48+(b:Int)/10%10),.int .u8 (48+(b:Int)%10)] 5)):=zb
 have HBW:=zh hbw
 clear hat hbw
 go_wp2_with fail
 go_ret
 exact⟨by rw[HE.out];rfl,HBW.out⟩
structure CY (w0 w:World) (bs:List (TypeId × Array Value)):Prop where
 size:w.heap.size=w0.heap.size+bs.length
 under:Below w0.heap.size w0 w
 at_:∀ (i:Nat) (t:TypeId) (cs:Array Value),bs[i]? = some (t,cs)->At w (w0.heap.size+i) t cs
structure Au (w0 w:World) (bs:List (TypeId × Array Value)):Prop where
 size:w0.heap.size+bs.length<=w.heap.size
 under:Below w0.heap.size w0 w
 at_:∀ (i:Nat) (t:TypeId) (cs:Array Value),bs[i]? = some (t,cs)->At w (w0.heap.size+i) t cs
section
variable {w0 w w' : World} {bs:List (TypeId × Array Value)}
theorem CY.nil (w:World):CY w w []:=⟨by simp,Below.refl _ _,fun i t cs h=>by simp at h⟩
theorem CY.push (h:CY w0 w bs)(t:TypeId)(cs:Array Value):CY w0 (w.alloc (.cells cs t)) (bs++[(t,cs)]):=by
 refine⟨by rw[World.size_alloc,h.size,List.length_append];rfl,h.under.alloc h.under.size _,fun i t' cs' hi=>?_⟩
 by_cases hl:i<bs.length
 ·rw[List.getElem?_append_left hl] at hi
  exact(h.at_ i t' cs' hi).alloc _
 ·rw[List.getElem?_append_right (by omega)] at hi
  have:i-bs.length=0:=by
   have:=(List.getElem?_eq_some_iff.1 hi).1
   simp at this
   omega
  rw[this] at hi
  cases hi
  have e:w0.heap.size+i=w.heap.size:=by rw[h.size];omega
  rw[e]
  exact At.new _ _ _
theorem CY.boxes (h:CY w0 w bs):Au w0 w bs:=⟨Nat.le_of_eq h.size.symm,h.under,h.at_⟩
theorem Au.step (h:Au w0 w bs)(hb:Below w.heap.size w w'):Au w0 w' bs:=
 ⟨Nat.le_trans h.size hb.size,h.under.trans (hb.mono h.under.size),fun i t cs hi=>(h.at_ i t cs hi).below hb (h.at_ i t cs hi).lt⟩
theorem Au.over (h:Au w0 w bs)(hb:Below (w0.heap.size+bs.length) w w'):Au w0 w' bs:=
 ⟨Nat.le_trans h.size hb.size,h.under.trans (hb.mono (by omega)),fun i t cs hi=>(h.at_ i t cs hi).below hb (by have:=(List.getElem?_eq_some_iff.1 hi).1;omega)⟩
theorem Au.cell (h:Au w0 w bs)(i j:Nat){t:TypeId}{cs:Array Value}{v:Value}(hi:bs[i]? = some (t,cs))(hj:cs[j]? = some v):w.cell? ⟨w0.heap.size+i,j,none⟩=some v:=((h.at_ i t cs hi).cell j).trans hj
theorem Au.free (h:Au w0 w bs)(i j:Nat){t:TypeId}{cs:Array Value}(hi:bs[i]? = some (t,cs)):w.frozen? ⟨w0.heap.size+i,j,none⟩=false:=(h.at_ i t cs hi).free j
theorem Au.at1 (h:Au w0 w bs)(i:Nat){t:TypeId}{cs:Array Value}(hi:bs[i]? = some (t,cs)):At w (w0.heap.size+i) t cs:=h.at_ i t cs hi
theorem Au.lt (h:Au w0 w bs){i:Nat}(hi:i<bs.length):w0.heap.size+i<w.heap.size:=by have:=h.size;omega
theorem Au.put (h:Au w0 w bs)(i j:Nat)(u:Value){t:TypeId}{cs:Array Value}(hi:bs[i]? = some (t,cs)):Au w0 (w.setCell ⟨w0.heap.size+i,j,none⟩ u) (bs.set i (t,cs.setIfInBounds j u)):=by
 refine⟨by rw[List.length_set];exact Nat.le_trans h.size (by simp[World.setCell]),h.under.setCell (by show w0.heap.size<=w0.heap.size+i;omega) _,fun k t' cs' hk=>?_⟩
 have hl:=(List.getElem?_eq_some_iff.1 hi).1
 by_cases hki:k=i
 ·subst hki
  rw[List.getElem?_set_self hl] at hk
  cases hk
  exact(h.at_ k t cs hi).set j u
 ·rw[List.getElem?_set_ne (fun e=>hki e.symm)] at hk
  exact(h.at_ k t' cs' hk).far (p:=⟨w0.heap.size+i,j,none⟩) (by show w0.heap.size+k≠w0.heap.size+i;omega) _
theorem Au.drew (h:Au w0 w bs):Au w0 w.drew bs:=⟨h.size,h.under.drew,fun i t cs hi=>(h.at_ i t cs hi).drew⟩
end
theorem Au.wH{u w:World}{l:List (TypeId×Array Value)}{t:TypeId}{a b:Value}(h:Au u w l)(r:l[0]?=some (t,#[a,b])):w.cell? ⟨u.heap.size,0,none⟩=some a/\w.cell? ⟨u.heap.size,1,none⟩=some b:=⟨h.cell 0 0 r rfl,h.cell 0 1 r rfl⟩
theorem Au.Fw{u w:World}{l:List (TypeId×Array Value)}{t:TypeId}{a b c:Value}(h:Au u w l)(r:l[0]?=some (t,#[a,b,c])):w.cell? ⟨u.heap.size,0,none⟩=some a/\w.cell? ⟨u.heap.size,1,none⟩=some b/\w.cell? ⟨u.heap.size,2,none⟩=some c:=⟨h.cell 0 0 r rfl,h.cell 0 1 r rfl,h.cell 0 2 r rfl⟩
theorem Au.wI{u w:World}{l:List (TypeId×Array Value)}{t:TypeId}{a b c:Value}(h:Au u w l)(r:l[0]?=some (t,#[a,b,c])):w.cell? ⟨u.heap.size,0,none⟩=some a/\w.cell? ⟨u.heap.size,1,none⟩=some b/\w.cell? ⟨u.heap.size,2,none⟩=some c/\w.frozen? ⟨u.heap.size,0,none⟩=false/\w.frozen? ⟨u.heap.size,1,none⟩=false/\w.frozen? ⟨u.heap.size,2,none⟩=false:=⟨h.cell 0 0 r rfl,h.cell 0 1 r rfl,h.cell 0 2 r rfl,h.free 0 0 r,h.free 0 1 r,h.free 0 2 r⟩
theorem Au.wJ{u w:World}{l:List (TypeId×Array Value)}{t:TypeId}{a b c d:Value}(h:Au u w l)(r:l[0]?=some (t,#[a,b,c,d])):w.cell? ⟨u.heap.size,0,none⟩=some a/\w.cell? ⟨u.heap.size,1,none⟩=some b/\w.cell? ⟨u.heap.size,2,none⟩=some c/\w.cell? ⟨u.heap.size,3,none⟩=some d:=⟨h.cell 0 0 r rfl,h.cell 0 1 r rfl,h.cell 0 2 r rfl,h.cell 0 3 r rfl⟩
theorem Au.zat{u w:World}{l:List (TypeId×Array Value)}{t:TypeId}{a b c d:Value}(h:Au u w l)(r:l[0]?=some (t,#[a,b,c,d])):w.cell? ⟨u.heap.size,0,none⟩=some a/\w.cell? ⟨u.heap.size,1,none⟩=some b/\w.cell? ⟨u.heap.size,2,none⟩=some c/\w.cell? ⟨u.heap.size,3,none⟩=some d/\w.frozen? ⟨u.heap.size,0,none⟩=false/\w.frozen? ⟨u.heap.size,1,none⟩=false/\w.frozen? ⟨u.heap.size,2,none⟩=false/\w.frozen? ⟨u.heap.size,3,none⟩=false:=⟨h.cell 0 0 r rfl,h.cell 0 1 r rfl,h.cell 0 2 r rfl,h.cell 0 3 r rfl,h.free 0 0 r,h.free 0 1 r,h.free 0 2 r,h.free 0 3 r⟩
theorem Au.JI{u w:World}{l:List (TypeId×Array Value)}{t:TypeId}{a b c d e f g:Value}(h:Au u w l)(r:l[0]?=some (t,#[a,b,c,d,e,f,g])):w.cell? ⟨u.heap.size,0,none⟩=some a/\w.cell? ⟨u.heap.size,1,none⟩=some b/\w.cell? ⟨u.heap.size,2,none⟩=some c/\w.cell? ⟨u.heap.size,3,none⟩=some d/\w.cell? ⟨u.heap.size,4,none⟩=some e/\w.cell? ⟨u.heap.size,5,none⟩=some f/\w.cell? ⟨u.heap.size,6,none⟩=some g:=⟨h.cell 0 0 r rfl,h.cell 0 1 r rfl,h.cell 0 2 r rfl,h.cell 0 3 r rfl,h.cell 0 4 r rfl,h.cell 0 5 r rfl,h.cell 0 6 r rfl⟩
theorem Au.sI{u w:World}{l:List (TypeId×Array Value)}{t:TypeId}{a b c:Value}(h:Au u w l)(r:l[1]?=some (t,#[a,b,c])):w.cell? ⟨u.heap.size+1,0,none⟩=some a/\w.cell? ⟨u.heap.size+1,1,none⟩=some b/\w.cell? ⟨u.heap.size+1,2,none⟩=some c:=⟨h.cell 1 0 r rfl,h.cell 1 1 r rfl,h.cell 1 2 r rfl⟩
theorem Au.KE{u w:World}{l:List (TypeId×Array Value)}{t:TypeId}{a b c d e f g:Value}(h:Au u w l)(r:l[1]?=some (t,#[a,b,c,d,e,f,g])):w.cell? ⟨u.heap.size+1,0,none⟩=some a/\w.cell? ⟨u.heap.size+1,1,none⟩=some b/\w.cell? ⟨u.heap.size+1,2,none⟩=some c/\w.cell? ⟨u.heap.size+1,3,none⟩=some d/\w.cell? ⟨u.heap.size+1,4,none⟩=some e/\w.cell? ⟨u.heap.size+1,5,none⟩=some f/\w.cell? ⟨u.heap.size+1,6,none⟩=some g:=⟨h.cell 1 0 r rfl,h.cell 1 1 r rfl,h.cell 1 2 r rfl,h.cell 1 3 r rfl,h.cell 1 4 r rfl,h.cell 1 5 r rfl,h.cell 1 6 r rfl⟩
theorem Au.Oh{u w:World}{l:List (TypeId×Array Value)}{t:TypeId}{a b c:Value}(h:Au u w l)(r:l[2]?=some (t,#[a,b,c])):w.cell? ⟨u.heap.size+1+1,0,none⟩=some a/\w.cell? ⟨u.heap.size+1+1,1,none⟩=some b/\w.cell? ⟨u.heap.size+1+1,2,none⟩=some c/\w.frozen? ⟨u.heap.size+1+1,0,none⟩=false/\w.frozen? ⟨u.heap.size+1+1,1,none⟩=false/\w.frozen? ⟨u.heap.size+1+1,2,none⟩=false:=⟨h.cell 2 0 r rfl,h.cell 2 1 r rfl,h.cell 2 2 r rfl,h.free 2 0 r,h.free 2 1 r,h.free 2 2 r⟩
theorem Au.zau{u w:World}{l:List (TypeId×Array Value)}{t:TypeId}{a b c d e f g:Value}(h:Au u w l)(r:l[2]?=some (t,#[a,b,c,d,e,f,g])):w.cell? ⟨u.heap.size+1+1,0,none⟩=some a/\w.cell? ⟨u.heap.size+1+1,1,none⟩=some b/\w.cell? ⟨u.heap.size+1+1,2,none⟩=some c/\w.cell? ⟨u.heap.size+1+1,3,none⟩=some d/\w.cell? ⟨u.heap.size+1+1,4,none⟩=some e/\w.cell? ⟨u.heap.size+1+1,5,none⟩=some f/\w.cell? ⟨u.heap.size+1+1,6,none⟩=some g/\w.frozen? ⟨u.heap.size+1+1,0,none⟩=false/\w.frozen? ⟨u.heap.size+1+1,1,none⟩=false/\w.frozen? ⟨u.heap.size+1+1,2,none⟩=false/\w.frozen? ⟨u.heap.size+1+1,3,none⟩=false/\w.frozen? ⟨u.heap.size+1+1,4,none⟩=false/\w.frozen? ⟨u.heap.size+1+1,5,none⟩=false/\w.frozen? ⟨u.heap.size+1+1,6,none⟩=false:=⟨h.cell 2 0 r rfl,h.cell 2 1 r rfl,h.cell 2 2 r rfl,h.cell 2 3 r rfl,h.cell 2 4 r rfl,h.cell 2 5 r rfl,h.cell 2 6 r rfl,h.free 2 0 r,h.free 2 1 r,h.free 2 2 r,h.free 2 3 r,h.free 2 4 r,h.free 2 5 r,h.free 2 6 r⟩
end
section
open Go Go.RowKit Go.Maps
theorem Au.keep {w0 w w' : World}{bs:List (TypeId × Array Value)}(h:Au w0 w bs)(hu:Below w0.heap.size w0 w')(hs:w.heap.size<=w'.heap.size)(hk:∀ k,w0.heap.size<=k->k<w0.heap.size+bs.length->w'.heap[k]? = w.heap[k]?):Au w0 w' bs:=
 ⟨Nat.le_trans h.size hs,hu,fun i t cs hi=>(h.at_ i t cs hi).keep (hk _ (by omega) (by have:=(List.getElem?_eq_some_iff.1 hi).1;omega))⟩
theorem Au.far {w0 w w' : World}{bs:List (TypeId × Array Value)}(h:Au w0 w bs){O:Nat}(hO:w0.heap.size+bs.length<=O){row:Option Nat}(hr:∀ k,row=some k->O<=k)(hg:w.grownBy w' row):Au w0 w' bs:=by
 refine h.keep (h.under.grown hg h.under.size (fun k hk=>by have:=hr k hk;omega)) hg.size (fun k _ hk=>hg.block k (by have:=h.size;omega) (fun e=>by have:=hr k e.symm;omega))
theorem dZ {w:World}{base base' n size:Nat}{e:TypeId}{v:Value}{xs:List Value}(h:w.ownsRow base e size v n xs)(hb:base' <= base):w.ownsRow base' e size v n xs:=by
 refine⟨h.1,?_⟩
 rcases h.2 with h0|⟨g,cap,cur,h1,h2,h3⟩
 ·exact .inl h0
 ·exact .inr ⟨g,cap,cur,h1,Nat.le_trans hb h2,h3⟩
theorem TG (b i:Nat)(msg:ByteArray)(w:World)(hb:b<256)(hi:i<2)(JF:msg.size<=140737488350000):
 Calls Tryz.prog 41 #[.int .u8 b,.int .i64 i,.string msg] w fun e w' => ∃ cv pv,e=.returned (.agg #[.string (Own.CG b),.int .i64 i,cv,pv])/\w'.ownsRow w.heap.size 9 1 cv 67 ((Own.Dm i msg b).sig.chains.map Value.string)/\w'.ownsRow w.heap.size 9 1 pv 1 ((Own.Dm i msg b).sig.path.map Value.string)/\Below w.heap.size w w':=by
 obtain⟨CH,hCH⟩:∃ C,C=(Own.Dm i msg b).sig.chains.map Value.string:=⟨_,rfl⟩
 obtain⟨PA,hPA⟩:∃ C,C=(Own.Dm i msg b).sig.path.map Value.string:=⟨_,rfl⟩
 rw[<- hCH,<- hPA]
 have hsg:=fun W=>Yk (GR.DK b) msg i W (by unfold GR.DK;simp[ByteArray.size]) hi JF
 have wK:CH=(Sig.BH (GR.DK b) i msg).chains.map Value.string:=hCH
 have wL:PA=(Sig.BH (GR.DK b) i msg).path.map Value.string:=hPA
 rw[<- wK,<- wL] at hsg
 clear hCH hPA wK wL
 have hky:=fun W=>MH b W hb
 have hnm:=fun W=>KP b W hb
 obtain⟨S,hS⟩:∃ S,S=GR.DK b:=⟨_,rfl⟩
 obtain⟨N,hN⟩:∃ S,S=Own.CG b:=⟨_,rfl⟩
 rw[<- hN]
 simp only[<- hS] at hsg hky
 simp only[<- hN] at hnm
 have HSG:=zh hsg;have HKY:=zh hky;have HNM:=zh hnm
 clear hsg hky hnm hS hN
 have F1:=zh (show Au w _ [(72,#[.string ⟨#[]⟩,.int .i64 0,.slice none 0 0,.slice none 0 0])] from((CY.nil w).push 72 #[.string ⟨#[]⟩,.int .i64 0,.slice none 0 0,.slice none 0 0]).boxes)
 go_enter Tryz.func41,Tryz.ntmps41
 go_upto_region 1 with fail
 generalize (w.alloc (.cells #[.string ⟨#[]⟩,.int .i64 0,.slice none 0 0,.slice none 0 0] 72))=w1 at*
 go_wp2_with fail
 refine(HKY.out w1).mono ?_
 rintro e w2 ⟨rfl,hb2⟩
 have F2:=zh (F1.out.step hb2);clear hb2
 go_upto_region 2 with fail
 have hb3:Below w2.heap.size w2 (w2.alloc (.cells #[.string S,.int .i64 1,.int .i64 0] 123)):=zb
 have VO:=At.new w2 123 #[.string S,.int .i64 1,.int .i64 0]
 have F3:=zh (F2.out.step hb3);have iK:=zh VO;have B3:=zh hb3
 have hg2:=F2.out.size
 clear hb3 VO
 generalize w2.alloc (.cells #[.string S,.int .i64 1,.int .i64 0] 123)=w3 at*
 obtain⟨g,hg⟩:∃ g,g=w2.heap.size:=⟨_,rfl⟩
 rw[<- hg] at iK ⊢
 have hgw:w.heap.size+1<=g:=by rw[hg];simpa using hg2
 clear hg hg2
 have c0:=iK.out.cell 0;have c1:=iK.out.cell 1;have c2:=iK.out.cell 2;have f2:=iK.out.free 2
 simp only[zg] at c0 c1 c2
 go_upto_region 3 with fail
 have TI:=iK.out.set 2 (.int .i64 i)
 have F4:=zh (F3.out.over (w':=w3.setCell ⟨g,2,none⟩ (.int .i64 i)) ((Below.refl _ _).setCell (p:=⟨g,2,none⟩) (by show w.heap.size+1<=g;exact hgw) _))
 have sM:=zh TI
 clear TI c0 c1 c2 f2 B3
 generalize w3.setCell ⟨g,2,none⟩ (.int .i64 i)=w4 at*
 have c0:=sM.out.cell 0;have c1:=sM.out.cell 1;have c2:=sM.out.cell 2
 simp only[List.getElem?_toArray,List.getElem?_cons_zero,List.getElem?_cons_succ,List.setIfInBounds_toArray,List.set_cons_succ,List.set_cons_zero] at c0 c1 c2
 go_wp2_with fail
 refine(HSG.out w4).mono ?_
 rintro e w5 ⟨cv,pv,rfl,hcv,hpv,hb5⟩
 have hz4:w.heap.size+1<=w4.heap.size:=by simpa using F4.out.size
 have F5:=zh (F4.out.step hb5);have HCV:=zh hcv;have HPV:=zh hpv
 obtain⟨ca,cm,cc,rfl⟩:=Ac hcv
 obtain rfl:=Ba hcv
 obtain⟨pa,pm,pc,rfl⟩:=Ac hpv
 obtain rfl:=Ba hpv
 clear hcv hpv hb5 c0 c1 c2
 go_upto_region 4 with fail
 have hb6:Below w5.heap.size w5 ((w5.alloc (.cells #[.int .i64 i,.slice ca 67 cc,.slice pa 1 pc] 70)).alloc (.cells #[.string S,.int .i64 1,.int .i64 ((i:Int)+1)] 123)):=zb.alloc (by simp) _
 have Di:=(At.new w5 70 #[.int .i64 i,.slice ca 67 cc,.slice pa 1 pc]).alloc (.cells #[.string S,.int .i64 1,.int .i64 ((i:Int)+1)] 123)
 have hz5:=F5.out.size
 have F6:=zh (F5.out.step hb6);have Eu:=zh Di;have zav:=zh (own_below HCV.out hb6);have zaw:=zh (own_below HPV.out hb6)
 clear hb6 Di HCV HPV
 generalize (w5.alloc (.cells #[.int .i64 i,.slice ca 67 cc,.slice pa 1 pc] 70)).alloc (.cells #[.string S,.int .i64 1,.int .i64 ((i:Int)+1)] 123)=w6 at*
 obtain⟨r,hr⟩:∃ r,r=w5.heap.size:=⟨_,rfl⟩
 rw[<- hr] at Eu ⊢
 have hrw:w.heap.size+1<=r:=by rw[hr];simpa using hz5
 clear hr hz5
 have hrl:r<w6.heap.size:=Eu.out.lt
 obtain⟨c0,c1,c2⟩:=Eu.out.c3
 have Y0:=zh (zi c0)
 refine Lex.zn (fun k=>k=r) [2] 3 [2] ?_
 simp only[Lex.Bp,zd]
 go_wp2_with fail
 refine(HNM.out w6.drew).mono ?_
 rintro e w7 ⟨rfl,hb7⟩
 have B7:=zh (show Below w6.heap.size w6 w7 from(Below.refl w6.heap.size w6).drew.trans hb7)
 have F7:=zh (F6.out.step B7.out);have wO:=zh (own_below zav.out B7.out);have wP:=zh (own_below zaw.out B7.out)
 have Oc:=Eu.out.below B7.out hrl
 clear hb7 c0 c1 c2
 obtain⟨c0,c1,c2⟩:=Oc.c3
 obtain⟨x00,x01,x02,x03,wQ,wT,wU,zbm⟩:=F7.out.zat rfl
 go_wp2_with fail
 refine Lex.Mid.intro (fun k hk hkl=>by rw[hk];exact B7.out.block _ hrl) ?_
 go_wp2_with fail
 refine Lex.zk ⟨⟨rfl,Y0.out⟩,trivial⟩ ?_
 go_wp2_with fail
 have G2:=(((F7.out.put 0 0 (.string N) rfl).put 0 1 (.int .i64 i) rfl).put 0 2 (.slice ca 67 cc) rfl).put 0 3 (.slice pa 1 pc) rfl
 refine Ob rfl rfl (AJ (G2.at1 0 rfl) Tryz.underlying72 rfl (by kernel_rfl)) ⟨_,_,rfl,?_,?_,G2.under⟩
 ·refine dZ (Ae wO.out (fun k hk=>?_)) (by omega)
  have hk1:k≠w.heap.size:=by have:=Ak wO.out k hk;omega
  rw[zo hk1,zo hk1,zo hk1,zo hk1]
 ·refine dZ (Ae wP.out (fun k hk=>?_)) (by omega)
  have hk1:k≠w.heap.size:=by have:=Ak wP.out k hk;omega
  rw[zo hk1,zo hk1,zo hk1,zo hk1]
end
section
open Go
namespace Own
def aL (L:List Nat)(i j:Nat):Prop:=∀ p q,p<q->q<=i->q≠j->L.getD p 0<=L.getD q 0
theorem Rz {L:List Nat}{i:Nat}(hi:i<L.length)(x p:Nat):(L.set i x).getD p 0=if p=i then x else L.getD p 0:=by
 rw[List.getD_eq_getElem?_getD,List.getD_eq_getElem?_getD,List.getElem?_set]
 by_cases h:i=p
 ·subst h;simp[hi]
 ·rw[if_neg h,if_neg (fun e=>h e.symm)]
def Nb (L:List Nat)(j:Nat):List Nat:=(L.set j (L.getD (j-1) 0)).set (j-1) (L.getD j 0)
theorem UL (L:List Nat)(j:Nat):(Nb L j).length=L.length:=by simp[Nb]
theorem EH {L:List Nat}{j:Nat}(h0:0<j)(hj:j<L.length)(p:Nat):(Nb L j).getD p 0=if p=j-1 then L.getD j 0 else if p=j then L.getD (j-1) 0 else L.getD p 0:=by
 unfold Nb
 rw[Rz (by simp;omega),Rz hj]
theorem aL.swap {L:List Nat}{i j:Nat}(h:aL L i j)(h0:0<j)(hji:j<=i)(hi:i<L.length)(hlt:L.getD j 0<L.getD (j-1) 0):aL (Nb L j) i (j-1):=by
 intro p q hpq hq hne
 rw[EH h0 (by omega),EH h0 (by omega),if_neg hne]
 by_cases hqj:q=j
 ·rw[if_pos hqj]
  by_cases hp:p=j-1
  ·rw[if_pos hp];omega
  ·rw[if_neg hp,if_neg (by omega)]
   exact h p (j-1) (by omega) (by omega) (by omega)
 ·rw[if_neg hqj]
  by_cases hp:p=j-1
  ·rw[if_pos hp]
   exact h j q (by omega) hq hqj
  ·rw[if_neg hp]
   by_cases hp2:p=j
   ·rw[if_pos hp2]
    exact h (j-1) q (by omega) hq hqj
   ·rw[if_neg hp2]
    exact h p q hpq hq hqj
def Ord (L:List Nat)(i:Nat):Prop:=∀ p q,p<q->q<i->L.getD p 0<=L.getD q 0
theorem Ord.start {L:List Nat}{i:Nat}(h:Ord L i):aL L i i:=fun p q hpq hq hne=>h p q hpq (by omega)
theorem aL.done {L:List Nat}{i j:Nat}(h:aL L i j)(hj:j=0\/L.getD (j-1) 0<=L.getD j 0):Ord L (i+1):=by
 intro p q hpq hq
 by_cases hqj:q=j
 ·rcases hj with h0|h1
  ·omega
  ·subst hqj
   by_cases hp:p=q-1
   ·rw[hp];exact h1
   ·exact Nat.le_trans (h p (q-1) (by omega) (by omega) (by omega)) h1
 ·exact h p q hpq (by omega) hqj
theorem Nc {L:List Nat}{x:Nat} : x∈L↔∃ p,p<L.length/\L.getD p 0=x:=by
 rw[List.mem_iff_getElem]
 constructor
 ·rintro⟨p,hp,e⟩
  exact⟨p,hp,by rw[List.getD_eq_getElem?_getD,List.getElem?_eq_getElem hp];exact e⟩
 ·rintro⟨p,hp,e⟩
  refine⟨p,hp,?_⟩
  rw[List.getD_eq_getElem?_getD,List.getElem?_eq_getElem hp] at e
  exact e
theorem iL {L:List Nat}{j:Nat}(h0:0<j)(hj:j<L.length)(x:Nat):x∈Nb L j↔x∈L:=by
 rw[Nc,Nc,UL]
 constructor
 ·rintro⟨p,hp,e⟩
  rw[EH h0 hj] at e
  by_cases h1:p=j-1
  ·rw[if_pos h1] at e;exact⟨j,hj,e⟩
  ·rw[if_neg h1] at e
   by_cases h2:p=j
   ·rw[if_pos h2] at e;exact⟨j-1,by omega,e⟩
   ·rw[if_neg h2] at e;exact⟨p,hp,e⟩
 ·rintro⟨p,hp,e⟩
  by_cases h1:p=j-1
  ·refine⟨j,hj,?_⟩
   rw[EH h0 hj,if_neg (by omega),if_pos rfl,<- h1]
   exact e
  ·by_cases h2:p=j
   ·refine⟨j-1,by omega,?_⟩
    rw[EH h0 hj,if_pos rfl,<- h2]
    exact e
   ·refine⟨p,hp,?_⟩
    rw[EH h0 hj,if_neg h1,if_neg h2]
    exact e
structure Sqz (L0 L:List Nat) (n k:Nat):Prop where
 k0:0<k
 kn:k<=n
 len:L.length=L0.length
 nl:n<=L0.length
 incr:∀ p q,p<q->q<k->L.getD p 0<L.getD q 0
 last:L.getD (k-1) 0=L0.getD (n-1) 0
 mem:∀ x,(∃ p,p<k/\L.getD p 0=x)↔(∃ p,p<n/\L0.getD p 0=x)
 rest:∀ p,n-1<=p->k<=p->L.getD p 0=L0.getD p 0
theorem Sqz.start {L:List Nat}(h:0<L.length):Sqz L L 1 1:=
 ⟨by omega,by omega,rfl,h,fun p q hpq hq=>by omega,rfl,fun x=>Iff.rfl,fun _ _ _=>rfl⟩
theorem Sqz.same {L0 L:List Nat}{n k:Nat}(h:Sqz L0 L n k)(hn:n<L0.length)(he:L0.getD n 0=L0.getD (n-1) 0):Sqz L0 L (n+1) k:=by
 have hk:=h.k0
 have hkn:=h.kn
 refine⟨h.k0,by omega,h.len,hn,h.incr,?_,fun x=>?_,fun p h1 h2=>h.rest p (by omega) h2⟩
 ·rw[h.last,Nat.add_sub_cancel];exact he.symm
 ·rw[h.mem x]
  constructor
  ·rintro⟨p,hp,e⟩;exact⟨p,by omega,e⟩
  ·rintro⟨p,hp,e⟩
   by_cases hpn:p=n
   ·exact⟨n-1,by omega,by rw[<- he,<- hpn];exact e⟩
   ·exact⟨p,by omega,e⟩
theorem Sqz.next {L0 L:List Nat}{n k:Nat}(h:Sqz L0 L n k)(hs:Ord L0 L0.length)(hn:n<L0.length)(he:L0.getD n 0≠L0.getD (n-1) 0):Sqz L0 (L.set k (L0.getD n 0)) (n+1) (k+1):=by
 have hk:=h.k0
 have hkn:=h.kn
 have hlen:=h.len
 have hlt:L0.getD (n-1) 0<L0.getD n 0:=by
  have:=hs (n-1) n (by omega) hn
  omega
 have hg:∀ p,(L.set k (L0.getD n 0)).getD p 0=if p=k then L0.getD n 0 else L.getD p 0:=fun p=>Rz (by omega) _ p
 refine⟨by omega,by omega,by rw[List.length_set];exact h.len,hn,fun p q hpq hq=>?_,?_,fun x=>?_,fun p h1 h2=>?_⟩
 ·rw[hg,hg,if_neg (show p≠k by omega)]
  by_cases hqk:q=k
  ·rw[if_pos hqk]
   have h1:L.getD p 0<=L.getD (k-1) 0:=by
    by_cases e:p=k-1
    ·rw[e];exact Nat.le_refl _
    ·exact Nat.le_of_lt (h.incr p (k-1) (by omega) (by omega))
   rw[h.last] at h1
   omega
  ·rw[if_neg hqk];exact h.incr p q hpq (by omega)
 ·rw[hg,Nat.add_sub_cancel,Nat.add_sub_cancel,if_pos rfl]
 ·constructor
  ·rintro⟨p,hp,e⟩
   rw[hg] at e
   by_cases hpk:p=k
   ·rw[if_pos hpk] at e;exact⟨n,by omega,e⟩
   ·rw[if_neg hpk] at e
    obtain⟨q,hq,e2⟩:=(h.mem x).1 ⟨p,by omega,e⟩
    exact⟨q,by omega,e2⟩
  ·rintro⟨p,hp,e⟩
   by_cases hpn:p=n
   ·exact⟨k,by omega,by rw[hg,if_pos rfl,<- hpn];exact e⟩
   ·obtain⟨q,hq,e2⟩:=(h.mem x).2 ⟨p,by omega,e⟩
    exact⟨q,by omega,by rw[hg,if_neg (by omega)];exact e2⟩
 ·rw[hg,if_neg (by omega)]
  exact h.rest p (by omega) (by omega)
theorem iM {L:List Nat}(h:∀ p q,p<q->q<L.length->L.getD p 0<L.getD q 0):L.Pairwise (· < ·):=by
 rw[List.pairwise_iff_getElem]
 intro i j hi hj hij
 have:=h i j hij hj
 rw[List.getD_eq_getElem?_getD,List.getD_eq_getElem?_getD,List.getElem?_eq_getElem hi,List.getElem?_eq_getElem hj] at this
 exact this
theorem getD_take {L:List Nat}{k p:Nat}(h:p<k):(L.take k).getD p 0=L.getD p 0:=by
 rw[List.getD_eq_getElem?_getD,List.getD_eq_getElem?_getD,List.getElem?_take_of_lt h]
end Own
end
end Go.Proofs.YtjlmglgmcekmhaaGreatDoor
