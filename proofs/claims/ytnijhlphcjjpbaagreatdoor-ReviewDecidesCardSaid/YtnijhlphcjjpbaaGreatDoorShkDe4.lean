/- Rows of members, keys, votes, spaces, proposals: copies of them; The program's owners: the authority of a path; The program's owners: Authority; IndexFunc and ContainsFunc over members and proposals, with predicates that may lay blocks; The program's owners: a member by name; comparing strings; searching keys and votes; The laws' own members: the member of a seed; The boxes that a call has laid, block by block behind the world that it began in; Laws on rows of elements of some cells: append of zeros, copy; The order of strings, plainly; sorted lists, places in them, what is put into them; The program's owners: binary search in keys and votes; slices.Insert of one struct into a row of one's o. -/
import Derived.Lib.Overlaps
import Derived.Laws.Externs
import Derived.Lib.AppendZeros
import Derived.Laws.IdiomCopy
import Derived.Laws.CopyRow
import Derived.Test.YtnijhlphcjjpbaaGreatDoorShkDe1
import Derived.Test.YtnijhlphcjjpbaaGreatDoorShkDe2
import Derived.Test.YtnijhlphcjjpbaaGreatDoorShkDe3
set_option linter.unusedVariables false
set_option linter.unusedSimpArgs false
set_option maxRecDepth 100000
set_option maxHeartbeats 8000000
namespace Go.Proofs.YtnijhlphcjjpbaaGreatDoor
section
open Go Go.RowKit Go.Maps
namespace Own
def encM (m:Member):List Value:=[.string m.name,.string m.pub]
def encK (k:KeyUse):List Value:=[.string k.pub,.int .i64 k.next]
def encV (v:Vote):List Value:=[.string v.name,.string v.pub,.bool v.agrees]
end Own
theorem flat_flatten {α : Type} {enc : α -> List Value} : ∀ {css:List (List Value)} {l:List α},css.length=l.length->(∀ i (hi:i<l.length) (hi' : i<css.length),css[i]=enc l[i])->css.flatten=l.flatMap enc
 | [],[],_,_=>rfl
 | c :: css,x :: l,hl,h => by
   have h0:c=enc x:=h 0 (by simp) (by simp)
   rw[List.flatten_cons,List.flatMap_cons,h0,flat_flatten (by simpa using hl) (fun i hi hi' => h (i+1) (by simp;omega) (by simp;omega))]
 | [],_::_,hl,_=>by simp at hl
 | _::_,[],hl,_=>by simp at hl
section
variable {w w' : World} {v:Value} {F:Nat->Prop}
theorem flat_rows {α : Type} {size:Nat} {R:Elem α} {enc : α -> List Value} (hR:∀ cs x,R F w cs x->cs=enc x) {l:List α} (h:ListF size R F w v l):RowsC w v size l.length (l.flatMap enc):=by
 obtain⟨css,h1,h2,h3⟩:=h.cells
 have:css.flatten=l.flatMap enc:=flat_flatten h1 (fun i hi hi' => hR _ _ (h2 i hi hi').2)
 rw[<- this]
 exact h3
theorem rows_flat {α : Type} {size n:Nat} {R:Elem α} {enc : α -> List Value} (hR:∀ x,R F w (enc x) x) (hs:∀ x,(enc x).length=size) {l:List α} (h:RowsC w v size n (l.flatMap enc)) (hn:n=l.length) (hF:∀ k,v.ownBlock=some k->F k):ListF size R F w v l:=by
 refine ListF.of_rows (css:=l.map enc) (by rw[<- List.flatMap_def];exact h) hn (by simp) hF (fun i hi hi' => ?_)
 rw[List.getElem_map]
 exact⟨hs _,hR _⟩
end
namespace Own
theorem MembersC.rows {w:World} {v:Value} {l:List Member} (h:MembersC w v l):RowsC w v 2 l.length (l.flatMap encM):=flat_rows (fun _ _ h=>h) h
theorem KeysC.rows {w:World} {v:Value} {l:List KeyUse} (h:KeysC w v l):RowsC w v 2 l.length (l.flatMap encK):=flat_rows (fun _ _ h=>h) h
theorem VotesC.rows {w:World} {v:Value} {l:List Vote} (h:VotesC w v l):RowsC w v 3 l.length (l.flatMap encV):=flat_rows (fun _ _ h=>h) h
theorem MembersC.of {w:World} {v:Value} {n:Nat} {l:List Member} (h:RowsC w v 2 n (l.flatMap encM)) (hn:n=l.length):MembersC w v l:=rows_flat (enc:=encM) (fun _=>rfl) (fun _=>rfl) h hn (fun _ _=>trivial)
theorem KeysC.of {w:World} {v:Value} {n:Nat} {l:List KeyUse} (h:RowsC w v 2 n (l.flatMap encK)) (hn:n=l.length):KeysC w v l:=rows_flat (enc:=encK) (fun _=>rfl) (fun _=>rfl) h hn (fun _ _=>trivial)
theorem VotesC.of {w:World} {v:Value} {n:Nat} {l:List Vote} (h:RowsC w v 3 n (l.flatMap encV)) (hn:n=l.length):VotesC w v l:=rows_flat (enc:=encV) (fun _=>rfl) (fun _=>rfl) h hn (fun _ _=>trivial)
theorem one_M (l:List Member):∀ u∈l.flatMap encM,u.oneCell' = true:=by
 intro u hu
 obtain⟨x,_,hx⟩:=List.mem_flatMap.1 hu
 unfold encM at hx
 simp at hx
 rcases hx with rfl | rfl <;> rfl
theorem one_K (l:List KeyUse):∀ u∈l.flatMap encK,u.oneCell' = true:=by
 intro u hu
 obtain⟨x,_,hx⟩:=List.mem_flatMap.1 hu
 unfold encK at hx
 simp at hx
 rcases hx with rfl | rfl <;> rfl
theorem one_V (l:List Vote):∀ u∈l.flatMap encV,u.oneCell' = true:=by
 intro u hu
 obtain⟨x,_,hx⟩:=List.mem_flatMap.1 hu
 unfold encV at hx
 simp at hx
 rcases hx with rfl | rfl | rfl <;> rfl
end Own
theorem elemMembers:Nonempty (ElemOf Tryz.prog 68 73 2 32):=elemOf_mk (z:=.agg #[.string ⟨#[]⟩,.string ⟨#[]⟩]) Tryz.underlying68 (by kernel_rfl) rfl (by omega)
theorem elemKeys:Nonempty (ElemOf Tryz.prog 36 91 2 24):=elemOf_mk (z:=.agg #[.string ⟨#[]⟩,.int .i64 0]) Tryz.underlying36 (by kernel_rfl) rfl (by omega)
theorem elemVotes:Nonempty (ElemOf Tryz.prog 44 82 3 40):=elemOf_mk (z:=.agg #[.string ⟨#[]⟩,.string ⟨#[]⟩,.bool false]) Tryz.underlying44 (by kernel_rfl) rfl (by omega)
theorem elemSpaces:Nonempty (ElemOf Tryz.prog 35 70 3 48):=elemOf_mk (z:=.agg #[.string ⟨#[]⟩,.slice none 0 0,.int .i64 0]) Tryz.underlying35 (by kernel_rfl) rfl (by omega)
theorem elemProps:Nonempty (ElemOf Tryz.prog 22 46 6 80):=elemOf_mk (z:=.agg #[.int .i64 0,.string ⟨#[]⟩,.string ⟨#[]⟩,.int .i64 0,.int .i64 0,.slice none 0 0]) Tryz.underlying22 (by kernel_rfl) rfl (by omega)
theorem clMembers_any (v:Value) (n:Nat) (xs:List Value) (w:World) (h:RowsC w v 2 n xs) (h1:∀ u∈xs,u.oneCell' = true) (hn:n<=3000000):
 Calls Tryz.prog 36 #[v] w fun e w' => ∃ v',e=.returned v' /\ w'.ownsRow w.heap.size 73 2 v' n xs/\Below w.heap.size w w' :=by
 obtain⟨a,c,rfl⟩:=h.len
 have H:=zh h;have H1:=zh h1;clear h h1
 have q22:∀ (w:World) (a:Option Addr) (n c n' c' : Nat),(binOp .eql 68 (.slice a n c) (.slice none n' c')).run Tryz.prog w=.ok (.bool a.isNone) w:=fun w a n c n' c' => Lib.run_eql_slice_nil w _ _ a n c n' c' Tryz.underlying68
 go_enter Tryz.func36,Tryz.ntmps36
 cases a with
 | none =>
   have h0:n=0/\xs=[]:=by
    obtain⟨hl,a',c',he,h0 | ⟨b,o,hb,_⟩⟩:=H.out
    ·subst h0
     exact⟨rfl,List.eq_nil_of_length_eq_zero (by simpa using hl)⟩
    ·cases he;cases hb
   obtain⟨rfl,rfl⟩:=h0
   go_wp2_with fail
   go_ret
   exact⟨_,rfl,⟨rfl,.inl ⟨rfl,rfl⟩⟩,Below.refl _ _⟩
 | some p =>
   have hb1:Below w.heap.size w (w.alloc (.cells #[] 73)):=(Below.refl _ _).alloc (Nat.le_refl _) _
   have HO:=zh (own_new0 w 73 2 w.heap.size (Nat.le_refl _));have H2:=zh (H.out.below hb1);have HB1:=zh hb1
   clear hb1
   go_wp2_with (at_builtin;go_must (refine wp_append_rows elemMembers rfl _ _ rfl w.heap.size 0 _ [] rfl HO.out (.slice (some p) n c) n xs rfl H2.out H1.out (by omega) (by omega) HB1.out.size ?_);intro v5 w5 ho5 hg5 _;obtain⟨va,vm,vc,rfl⟩:=own_slice ho5;have HB5:=zh (below_own HB1.out HB1.out.size HO.out hg5);rw[Nat.zero_add,List.nil_append] at ho5;have HO5:=zh ho5;clear ho5 hg5)
   go_ret
   exact⟨_,rfl,HO5.out,HB5.out⟩
theorem clKeys_any (v:Value) (n:Nat) (xs:List Value) (w:World) (h:RowsC w v 2 n xs) (h1:∀ u∈xs,u.oneCell' = true) (hn:n<=3000000):
 Calls Tryz.prog 168 #[v] w fun e w' => ∃ v',e=.returned v' /\ w'.ownsRow w.heap.size 91 2 v' n xs/\Below w.heap.size w w' :=by
 obtain⟨a,c,rfl⟩:=h.len
 have H:=zh h;have H1:=zh h1;clear h h1
 have q22:∀ (w:World) (a:Option Addr) (n c n' c' : Nat),(binOp .eql 36 (.slice a n c) (.slice none n' c')).run Tryz.prog w=.ok (.bool a.isNone) w:=fun w a n c n' c' => Lib.run_eql_slice_nil w _ _ a n c n' c' Tryz.underlying36
 go_enter Tryz.func168,Tryz.ntmps168
 cases a with
 | none =>
   have h0:n=0/\xs=[]:=by
    obtain⟨hl,a',c',he,h0 | ⟨b,o,hb,_⟩⟩:=H.out
    ·subst h0
     exact⟨rfl,List.eq_nil_of_length_eq_zero (by simpa using hl)⟩
    ·cases he;cases hb
   obtain⟨rfl,rfl⟩:=h0
   go_wp2_with fail
   go_ret
   exact⟨_,rfl,⟨rfl,.inl ⟨rfl,rfl⟩⟩,Below.refl _ _⟩
 | some p =>
   have hb1:Below w.heap.size w (w.alloc (.cells #[] 91)):=(Below.refl _ _).alloc (Nat.le_refl _) _
   have HO:=zh (own_new0 w 91 2 w.heap.size (Nat.le_refl _));have H2:=zh (H.out.below hb1);have HB1:=zh hb1
   clear hb1
   go_wp2_with (at_builtin;go_must (refine wp_append_rows elemKeys rfl _ _ rfl w.heap.size 0 _ [] rfl HO.out (.slice (some p) n c) n xs rfl H2.out H1.out (by omega) (by omega) HB1.out.size ?_);intro v5 w5 ho5 hg5 _;obtain⟨va,vm,vc,rfl⟩:=own_slice ho5;have HB5:=zh (below_own HB1.out HB1.out.size HO.out hg5);rw[Nat.zero_add,List.nil_append] at ho5;have HO5:=zh ho5;clear ho5 hg5)
   go_ret
   exact⟨_,rfl,HO5.out,HB5.out⟩
theorem clVotes_any (v:Value) (n:Nat) (xs:List Value) (w:World) (h:RowsC w v 3 n xs) (h1:∀ u∈xs,u.oneCell' = true) (hn:n<=3000000):
 Calls Tryz.prog 111 #[v] w fun e w' => ∃ v',e=.returned v' /\ w'.ownsRow w.heap.size 82 3 v' n xs/\Below w.heap.size w w' :=by
 obtain⟨a,c,rfl⟩:=h.len
 have H:=zh h;have H1:=zh h1;clear h h1
 have q22:∀ (w:World) (a:Option Addr) (n c n' c' : Nat),(binOp .eql 44 (.slice a n c) (.slice none n' c')).run Tryz.prog w=.ok (.bool a.isNone) w:=fun w a n c n' c' => Lib.run_eql_slice_nil w _ _ a n c n' c' Tryz.underlying44
 go_enter Tryz.func111,Tryz.ntmps111
 cases a with
 | none =>
   have h0:n=0/\xs=[]:=by
    obtain⟨hl,a',c',he,h0 | ⟨b,o,hb,_⟩⟩:=H.out
    ·subst h0
     exact⟨rfl,List.eq_nil_of_length_eq_zero (by simpa using hl)⟩
    ·cases he;cases hb
   obtain⟨rfl,rfl⟩:=h0
   go_wp2_with fail
   go_ret
   exact⟨_,rfl,⟨rfl,.inl ⟨rfl,rfl⟩⟩,Below.refl _ _⟩
 | some p =>
   have hb1:Below w.heap.size w (w.alloc (.cells #[] 82)):=(Below.refl _ _).alloc (Nat.le_refl _) _
   have HO:=zh (own_new0 w 82 3 w.heap.size (Nat.le_refl _));have H2:=zh (H.out.below hb1);have HB1:=zh hb1
   clear hb1
   go_wp2_with (at_builtin;go_must (refine wp_append_rows elemVotes rfl _ _ rfl w.heap.size 0 _ [] rfl HO.out (.slice (some p) n c) n xs rfl H2.out H1.out (by omega) (by omega) HB1.out.size ?_);intro v5 w5 ho5 hg5 _;obtain⟨va,vm,vc,rfl⟩:=own_slice ho5;have HB5:=zh (below_own HB1.out HB1.out.size HO.out hg5);rw[Nat.zero_add,List.nil_append] at ho5;have HO5:=zh ho5;clear ho5 hg5)
   go_ret
   exact⟨_,rfl,HO5.out,HB5.out⟩
theorem clSpaces_any (v:Value) (n:Nat) (xs:List Value) (w:World) (h:RowsC w v 3 n xs) (h1:∀ u∈xs,u.oneCell' = true) (hn:n<=3000000):
 Calls Tryz.prog 98 #[v] w fun e w' => ∃ v',e=.returned v' /\ w'.ownsRow w.heap.size 70 3 v' n xs/\Below w.heap.size w w' :=by
 obtain⟨a,c,rfl⟩:=h.len
 have H:=zh h;have H1:=zh h1;clear h h1
 have q22:∀ (w:World) (a:Option Addr) (n c n' c' : Nat),(binOp .eql 35 (.slice a n c) (.slice none n' c')).run Tryz.prog w=.ok (.bool a.isNone) w:=fun w a n c n' c' => Lib.run_eql_slice_nil w _ _ a n c n' c' Tryz.underlying35
 go_enter Tryz.func98,Tryz.ntmps98
 cases a with
 | none =>
   have h0:n=0/\xs=[]:=by
    obtain⟨hl,a',c',he,h0 | ⟨b,o,hb,_⟩⟩:=H.out
    ·subst h0
     exact⟨rfl,List.eq_nil_of_length_eq_zero (by simpa using hl)⟩
    ·cases he;cases hb
   obtain⟨rfl,rfl⟩:=h0
   go_wp2_with fail
   go_ret
   exact⟨_,rfl,⟨rfl,.inl ⟨rfl,rfl⟩⟩,Below.refl _ _⟩
 | some p =>
   have hb1:Below w.heap.size w (w.alloc (.cells #[] 70)):=(Below.refl _ _).alloc (Nat.le_refl _) _
   have HO:=zh (own_new0 w 70 3 w.heap.size (Nat.le_refl _));have H2:=zh (H.out.below hb1);have HB1:=zh hb1
   clear hb1
   go_wp2_with (at_builtin;go_must (refine wp_append_rows elemSpaces rfl _ _ rfl w.heap.size 0 _ [] rfl HO.out (.slice (some p) n c) n xs rfl H2.out H1.out (by omega) (by omega) HB1.out.size ?_);intro v5 w5 ho5 hg5 _;obtain⟨va,vm,vc,rfl⟩:=own_slice ho5;have HB5:=zh (below_own HB1.out HB1.out.size HO.out hg5);rw[Nat.zero_add,List.nil_append] at ho5;have HO5:=zh ho5;clear ho5 hg5)
   go_ret
   exact⟨_,rfl,HO5.out,HB5.out⟩
end
section
open Go Go.RowKit Go.Maps
namespace Own
def longer (b:Option Space) (x:Space):Bool:=match b with
 | none=>true
 | some y=>decide (y.pre.size<x.pre.size)
def stepB (s:ByteArray) (b:Option Space) (x:Space):Option Space:=if belongs s x.pre&&longer b x then some x else b
theorem bestF_cons (s:ByteArray) (b:Option Space) (x:Space) (l:List Space):bestF s b (x::l)=bestF s (stepB s b x) l:=by
 cases b <;> rfl
theorem bestF_snoc (s:ByteArray) (x:Space):∀ (l:List Space) (b:Option Space),bestF s b (l++[x])=stepB s (bestF s b l) x
 | [],b=>by rw[List.nil_append,bestF_cons];rfl
 | y::l,b=>by rw[List.cons_append,bestF_cons,bestF_snoc s x l,bestF_cons]
theorem bestF_take (s:ByteArray) (l:List Space) (k:Nat) (hk:k<l.length):bestF s none (l.take (k+1))=stepB s (bestF s none (l.take k)) l[k]:=by
 rw[List.take_succ_eq_append_getElem hk,bestF_snoc]
def BestAt (l:List Space) (b:Option Space) (i:Int):Prop:=(i = -1/\b=none)\/∃ j:Nat,i=(j:Int)/\∃ h:j<l.length,b=some l[j]
end Own
theorem owAuthority_any (o:Own.Owners) (s:ByteArray) (sv kv:Value) (w:World) (hS:Own.SpacesC w sv o.spaces) (hls:o.spaces.length<=64) (hp:∀ x∈o.spaces,x.pre.size<=64):
 Calls Tryz.prog 93 #[.agg #[.int .i64 o.count,sv,kv],.string s] w fun e w' => (∃ i,e=.returned (.int .i64 i)/\Own.BestAt o.spaces (Own.bestF s none o.spaces) i)/\Below w.heap.size w w' :=by
 obtain⟨sa,sc,rfl⟩:=hS.len
 obtain⟨cnt,S,K⟩:=o
 dsimp only at*
 have ha:=At.new w 38 #[.int .i64 cnt,.slice sa S.length sc,kv]
 have hb1:Below w.heap.size w (w.alloc (.cells #[.int .i64 cnt,.slice sa S.length sc,kv] 38)):=(Below.refl _ _).alloc (Nat.le_refl _) _
 have HS:=zh (hS.below hb1);have HB:=zh hb1;have HA:=zh ha;have HP:=zh hp
 have c0:=ha.cell 0;have c1:=ha.cell 1;have c2:=ha.cell 2
 simp only[List.getElem?_toArray,List.getElem?_cons_zero,List.getElem?_cons_succ] at c0 c1 c2
 obtain⟨B,hB⟩:∃ B:List Own.Space->Option Own.Space,B=Own.bestF s none:=⟨_,rfl⟩
 have hB0:B []=none:=by rw[hB];rfl
 have hBs:∀ k (hk:k<S.length),B (S.take (k+1))=Own.stepB s (B (S.take k)) S[k]:=fun k hk=>by rw[hB];exact Own.bestF_take s S k hk
 rw[<- hB]
 have HBS:=zh hBs
 clear hS ha hb1 hp hB hBs
 go_enter Tryz.func93,Tryz.ntmps93
 go_wp2_with fail
 generalize w.alloc (.cells #[.int .i64 cnt,.slice sa S.length sc,kv] 38)=w1 at*
 go_loopw [5,11] (fun r i wr=>∃ k:Nat,k<=S.length/\i=.int .i64 k/\(∃ b,r=.int .i64 b/\Own.BestAt S (B (S.take k)) b)/\Below w1.heap.size w1 wr) (fun _ i _=>S.length - (intOf i).toNat)
 case atStart=>exact⟨0,by omega,rfl,⟨-1,rfl,.inl ⟨rfl,hB0⟩⟩,Below.refl _ _⟩
 case round=>
  obtain⟨k,hk,rfl,⟨bi,rfl,hbi⟩,hb⟩:=hrel
  have HBW:=zh hb
  have hz1:=HA.out.lt
  have hbs:=hb.size
  have ha2:=HA.out.below hb hz1
  have d1:=ha2.cell 1
  simp only[List.getElem?_toArray,List.getElem?_cons_zero,List.getElem?_cons_succ] at d1
  clear ha2
  by_cases hlt:k<S.length
  case neg=>
   have hke:k=S.length:=by omega
   have dk:decide ((k:Int)<S.length)=false:=decide_eq_false (by omega)
   rw[hke,List.take_length] at hbi
   have HBI:=zh hbi
   clear hbi hb hke
   go_wp2_with fail
   go_ret
   exact⟨⟨_,rfl,HBI.out⟩,HB.out.trans (HBW.out.mono HB.out.size)⟩
  have dk:decide ((k:Int)<S.length)=true:=decide_eq_true (by omega)
  have hlk:=HS.out.below hb
  obtain⟨b,o,mv,ha,hbl,e0,e1,e2,hmv⟩:=Own.SpacesC.cells hlk hlt
  have hpk:=HP.out S[k] (List.getElem_mem hlt)
  have hst:=HBS.out k hlt
  have hprev:∀ j (hj:j<S.length),wr.cell? ⟨b,o+j*3,none⟩=some (.string S[j].pre):=by
   intro j hj
   obtain⟨b',o',_,ha',_,e0,_⟩:=Own.SpacesC.cells hlk hj
   rw[ha] at ha'
   cases ha'
   exact e0
  subst ha
  obtain⟨ma,mc,rfl⟩:=hmv.len
  obtain⟨pre,hpre⟩:∃ x,x=S[k].pre:=⟨_,rfl⟩
  obtain⟨mm,hmm⟩:∃ x,x=S[k].members:=⟨_,rfl⟩
  obtain⟨th,hth⟩:∃ x,x=S[k].threshold:=⟨_,rfl⟩
  rw[<- hpre] at e0 hpk
  rw[<- hmm] at e1
  rw[<- hth] at e2
  have hb5:Below w1.heap.size w1 (wr.alloc (.cells #[.string pre,.slice ma mm.length mc,.int .i64 th] 70)).drew:=(hb.alloc hb.size _).drew
  have hb56:Below wr.heap.size wr (wr.alloc (.cells #[.string pre,.slice ma mm.length mc,.int .i64 th] 70)):=((Below.refl _ _).alloc (Nat.le_refl _) _)
  have f1:=(HA.out.below (hb5) hz1).cell 1
  simp only[List.getElem?_toArray,List.getElem?_cons_zero,List.getElem?_cons_succ] at f1
  have HPRE:=zh hpre;have HST:=zh hst;have HBI:=zh hbi;have HB5:=zh hb5;have HPREV:=zh hprev
  have hbel:=fun W=>owBelongs_any s pre W (by omega)
  have HBEL:=zh hbel
  clear hb hlk hprev hmv hb5 hbel hpre hmm hth hst hbi
  cases hbg:Own.belongs s pre with
  | false =>
    have hn:B (S.take (k+1))=B (S.take k):=by rw[HST.out];unfold Own.stepB;rw[<- HPRE.out,hbg];rfl
    have HN:=zh hn
    clear hn
    go_wp2_with fail
    refine Lex.wp_region_lex (by kernel_rfl) (by kernel_rfl) ?_
    go_wp2_with fail
    refine(HBEL.out _).mono ?_
    rintro e3 w7 ⟨rfl,rfl⟩
    rw[hbg]
    go_wp2_with fail
    refine Lex.Ends.intro (by kernel_rfl) ?_
    go_wp2_with fail
    go_round
    case measure=>simp[intOf];omega
    case rel=>exact⟨k+1,by omega,by go_num,⟨bi,rfl,by rw[HN.out];exact HBI.out⟩,HB5.out⟩
  | true=>
  rcases HBI.out with ⟨h1,h2⟩ | ⟨j,h1,hj,h2⟩
  ·have hn:B (S.take (k+1))=some S[k]:=by rw[HST.out,h2];unfold Own.stepB;rw[<- HPRE.out,hbg];rfl
   have HN:=zh hn
   subst h1
   clear hn h2
   go_wp2_with fail
   refine Lex.wp_region_lex (by kernel_rfl) (by kernel_rfl) ?_
   go_wp2_with fail
   refine(HBEL.out _).mono ?_
   rintro e3 w7 ⟨rfl,rfl⟩
   rw[hbg]
   go_wp2_with fail
   refine Lex.Ends.intro (by kernel_rfl) ?_
   go_wp2_with fail
   go_round
   case measure=>simp[intOf];omega
   case rel=>exact⟨k+1,by omega,by go_num,⟨k,rfl,.inr ⟨k,rfl,hlt,HN.out⟩⟩,HB5.out⟩
  ·have g0:=HPREV.out j hj
   obtain⟨pn,hpn⟩:∃ x,x=S[j].pre:=⟨_,rfl⟩
   rw[<- hpn] at g0
   have g1:(wr.alloc (.cells #[.string pre,.slice ma mm.length mc,.int .i64 th] 70)).cell? ⟨b,o+j*3,none⟩=some (.string pn):=(hb56.cell (p:=⟨b,o+j*3,none⟩) hbl).trans g0
   have hn:B (S.take (k+1))=if decide (pn.size<pre.size) then some S[k] else some S[j]:=by
    rw[HST.out,h2,hpn,HPRE.out];unfold Own.stepB;rw[<- HPRE.out,hbg,HPRE.out];rfl
   have HN:=zh hn
   subst h1
   have dj:decide ((j:Int)<0)=false:=decide_eq_false (by omega)
   clear hn h2 g0 hpn
   by_cases hlg:pn.size<pre.size
   ·have dl:decide ((pn.size:Int)<(pre.size:Int))=true:=decide_eq_true (by omega)
    have dl' : decide (pn.size<pre.size)=true:=decide_eq_true hlg
    go_wp2_with fail
    refine Lex.wp_region_lex (by kernel_rfl) (by kernel_rfl) ?_
    go_wp2_with fail
    refine(HBEL.out _).mono ?_
    rintro e3 w7 ⟨rfl,rfl⟩
    rw[hbg]
    go_wp2_with fail
    refine Lex.Ends.intro (by kernel_rfl) ?_
    go_wp2_with fail
    go_round
    case measure=>simp[intOf];omega
    case rel=>exact⟨k+1,by omega,by go_num,⟨k,rfl,.inr ⟨k,rfl,hlt,by rw[HN.out,dl'];rfl⟩⟩,HB5.out⟩
   ·have dl:decide ((pn.size:Int)<(pre.size:Int))=false:=decide_eq_false (by omega)
    have dl' : decide (pn.size<pre.size)=false:=decide_eq_false hlg
    go_wp2_with fail
    refine Lex.wp_region_lex (by kernel_rfl) (by kernel_rfl) ?_
    go_wp2_with fail
    refine(HBEL.out _).mono ?_
    rintro e3 w7 ⟨rfl,rfl⟩
    rw[hbg]
    go_wp2_with fail
    refine Lex.Ends.intro (by kernel_rfl) ?_
    go_wp2_with fail
    go_round
    case measure=>simp[intOf];omega
    case rel=>exact⟨k+1,by omega,by go_num,⟨j,rfl,.inr ⟨j,rfl,hj,by rw[HN.out,dl'];rfl⟩⟩,HB5.out⟩
theorem info_Space:(Tryz.prog.info? 70).map (·.size)=some 3:=by kernel_rfl
theorem info_Owners:(Tryz.prog.info? 38).map (·.size)=some 3:=by kernel_rfl
theorem info_Member:(Tryz.prog.info? 73).map (·.size)=some 2:=by kernel_rfl
theorem owCopiedSpace_any (pre:ByteArray) (th:Int) (v:Value) (l:List Own.Member) (w:World) (h:Own.MembersC w v l) (hl:l.length<=3000000):
 Calls Tryz.prog 94 #[.agg #[.string pre,v,.int .i64 th]] w fun e w' => ∃ v',e=.returned (.agg #[.string pre,v',.int .i64 th])/\w'.ownsRow w.heap.size 73 2 v' l.length (l.flatMap Own.encM)/\Below w.heap.size w w' :=by
 have ha1:=(At.new w 70 #[.string pre,v,.int .i64 th]).alloc (.cells #[.string ⟨#[]⟩,.slice none 0 0,.int .i64 0] 70)
 have ha2:=At.new1 w (.cells #[.string pre,v,.int .i64 th] 70) 70 #[.string ⟨#[]⟩,.slice none 0 0,.int .i64 0]
 have hb1:Below w.heap.size w ((w.alloc (.cells #[.string pre,v,.int .i64 th] 70)).alloc (.cells #[.string ⟨#[]⟩,.slice none 0 0,.int .i64 0] 70)):=((Below.refl _ _).alloc (Nat.le_refl _) _).alloc (by simp) _
 obtain⟨a,c,rfl⟩:=h.len
 have H:=zh (h.below hb1);have HA1:=zh ha1;have HA2:=zh ha2;have HB1:=zh hb1
 have c1:=ha1.cell 1
 simp only[List.getElem?_toArray,List.getElem?_cons_zero,List.getElem?_cons_succ] at c1
 clear h ha1 ha2 hb1
 go_enter Tryz.func94,Tryz.ntmps94
 go_wp2_with fail
 have hz:((w.alloc (.cells #[.string pre,.slice a l.length c,.int .i64 th] 70)).alloc (.cells #[.string ⟨#[]⟩,.slice none 0 0,.int .i64 0] 70)).heap.size=w.heap.size+2:=by simp
 generalize (w.alloc (.cells #[.string pre,.slice a l.length c,.int .i64 th] 70)).alloc (.cells #[.string ⟨#[]⟩,.slice none 0 0,.int .i64 0] 70)=w1 at*
 refine(clMembers_any _ l.length _ w1 (Own.MembersC.rows H.out) (Own.one_M l) hl).mono ?_
 rintro e w2 ⟨v',rfl,ho,hb⟩
 have ha1:=HA1.out.below hb (by omega)
 have ha2:=HA2.out.below hb (by omega)
 have hne1:=ha1.own_ne ho (by decide)
 have hne2:=ha2.own_ne ho (by decide)
 have hb2:=HB1.out.trans (hb.mono HB1.out.size)
 have z1:=ha1.free 1;have y0:=ha1.cell 0;have y1:=ha1.cell 1;have y2:=ha1.cell 2
 have x0:=ha2.cell 0;have x1:=ha2.cell 1;have x2:=ha2.cell 2;have x3:=ha2.free 0;have x4:=ha2.free 1;have x5:=ha2.free 2
 simp only[List.getElem?_toArray,List.getElem?_cons_zero,List.getElem?_cons_succ] at y0 y1 y2 x0 x1 x2
 obtain⟨va,vm,vc,rfl⟩:=own_slice ho
 have HO:=zh ho;have G1:=zh ha1;have G2:=zh ha2;have HB2:=zh hb2
 clear ho hb ha1 ha2 hb2 c1
 go_wp2_with fail
 have F2:=(((G2.out.far (p:=⟨w.heap.size,1,none⟩) (by simp) (.slice va vm vc)).set 0 (.string pre)).set 1 (.slice va vm vc)).set 2 (.int .i64 th)
 refine done_c rfl rfl (load_row F2 Tryz.underlying70 rfl info_Space) ⟨_,rfl,?_,?_⟩
 ·refine own_base (own_keep HO.out (fun k hk=>?_)) (by omega)
  have k1:k≠w.heap.size:=by rintro rfl;exact hne1 hk
  have k2:k≠w.heap.size+1:=by rintro rfl;exact hne2 hk
  rw[heap_setCell_other _ _ _ _ k2,heap_setCell_other _ _ _ _ k2,heap_setCell_other _ _ _ _ k2,heap_setCell_other _ _ _ _ k1]
 ·exact(((HB2.out.setCell (p:=⟨w.heap.size,1,none⟩) (Nat.le_refl _) _).setCell (p:=⟨w.heap.size+1,0,none⟩) (by simp) _).setCell (p:=⟨w.heap.size+1,1,none⟩) (by simp) _).setCell (p:=⟨w.heap.size+1,2,none⟩) (by simp) _
end
section
open Go Go.RowKit Go.Maps
namespace Own
theorem chainOK_mem {α : Type} {ok : α -> Bool} {lt : α -> α -> Bool} : ∀ {l:List α} {p:Option α},chainOK ok lt p l=true->∀ x∈l,ok x=true
 | [],_,_,x,hx=>by cases hx
 | y :: l,p,h,x,hx => by
   have h' : ((ok y&&(match p with | none=>true | some z=>lt z y))&&chainOK ok lt (some y) l)=true:=by cases p <;> exact h
   obtain⟨h1,h2⟩:=Bool.and_eq_true_iff.1 h'
   rcases List.mem_cons.1 hx with rfl | hx
   ·exact(Bool.and_eq_true_iff.1 h1).1
   ·exact chainOK_mem h2 x hx
structure OK (o:Owners):Prop where
 c0:0<=o.count
 c1:o.count<=1099511627776
 ls:o.spaces.length<=64
 sp:∀ s∈o.spaces,spaceOK s=true
 ks:∀ k∈o.keys,keyOK k=true
theorem OK.of {o:Owners} (h:ownersOK o=true):OK o:=by
 unfold ownersOK late at h
 simp only[Bool.and_eq_true,decide_eq_true_eq] at h
 obtain⟨⟨⟨⟨h1,h2⟩,h3⟩,h4⟩,h5⟩:=h
 exact⟨h1,h2,h3,chainOK_mem h4,chainOK_mem h5⟩
structure SpOK (s:Space):Prop where
 path:pathOK s.pre=true
 pre:s.pre.size<=64
 len0:1<=s.members.length
 len:s.members.length<=8
 mem:membersFrom [] s.members=true
 t0:1<=s.threshold
 t1:s.threshold<=s.members.length
theorem SpOK.of {s:Space} (h:spaceOK s=true):SpOK s:=by
 unfold spaceOK membersOK at h
 simp only[Bool.and_eq_true,decide_eq_true_eq] at h
 obtain⟨⟨⟨h1,⟨h2,h3⟩,h4⟩,h5⟩,h6⟩:=h
 refine⟨h1,?_,h2,h3,h4,h5,h6⟩
 unfold pathOK at h1
 simp only[Bool.and_eq_true,decide_eq_true_eq] at h1
 exact h1.1.2
theorem bestF_mem (s:ByteArray):∀ (l:List Space) (b:Option Space) (x:Space),bestF s b l=some x->x∈l\/b=some x
 | [],b,x,h=>.inr h
 | y :: l,b,x,h => by
   rw[bestF_cons] at h
   rcases bestF_mem s l _ x h with h | h
   ·exact .inl (List.mem_cons_of_mem _ h)
   ·unfold stepB at h
    split at h
    ·cases h;exact .inl List.mem_cons_self
    ·exact .inr h
theorem authority_mem {o:Owners} {s:ByteArray} {x:Space} (h:authority o s=some x):x∈o.spaces:=by
 unfold authority at h
 split at h
 ·rcases bestF_mem s _ _ x h with h | h
  ·exact h
  ·cases h
 ·cases h
end Own
def AuthPost (w:World) (r:Option Own.Space) (e:Ending) (w' : World):Prop:=
 (match r with
   | none=>e=.returned (.tuple #[.agg #[.string ⟨#[]⟩,.slice none 0 0,.int .i64 0],.bool false])
   | some sp=>∃ v',e=.returned (.tuple #[.agg #[.string sp.pre,v',.int .i64 sp.threshold],.bool true])/\w'.ownsRow w.heap.size 73 2 v' sp.members.length (sp.members.flatMap Own.encM))/\Below w.heap.size w w'
theorem owAuthorityX_any (o:Own.Owners) (s:ByteArray) (sv kv:Value) (w:World) (hM:MaxL w) (hS:Own.SpacesC w sv o.spaces) (hK:Own.KeysC w kv o.keys) (hls:o.spaces.length<=140737488355328) (hlk:o.keys.length<=140737488355328) (hlm:∀ s∈o.spaces,s.members.length<=140737488355328):
 Calls Tryz.prog 61 #[.agg #[.int .i64 o.count,sv,kv],.string s] w (AuthPost w (Own.authority o s)):=by
 obtain⟨R,hR⟩:∃ R,R=AuthPost w (Own.authority o s):=⟨_,rfl⟩
 rw[<- hR]
 have HR:=zh hR;clear hR
 obtain⟨sa,sc,rfl⟩:=hS.len
 obtain⟨ka,kc,rfl⟩:=hK.len
 have ha1:=(At.new w 38 #[.int .i64 o.count,.slice sa o.spaces.length sc,.slice ka o.keys.length kc]).alloc (.cells #[.string ⟨#[]⟩,.slice none 0 0,.int .i64 0] 70)
 have ha2:=At.new1 w (.cells #[.int .i64 o.count,.slice sa o.spaces.length sc,.slice ka o.keys.length kc] 38) 70 #[.string ⟨#[]⟩,.slice none 0 0,.int .i64 0]
 have hb1:Below w.heap.size w ((w.alloc (.cells #[.int .i64 o.count,.slice sa o.spaces.length sc,.slice ka o.keys.length kc] 38)).alloc (.cells #[.string ⟨#[]⟩,.slice none 0 0,.int .i64 0] 70)):=((Below.refl _ _).alloc (Nat.le_refl _) _).alloc (by simp) _
 have hs1:=hS.below hb1;have hk1:=hK.below hb1;have hm1:=hM.below hb1
 have hz1:((w.alloc (.cells #[.int .i64 o.count,.slice sa o.spaces.length sc,.slice ka o.keys.length kc] 38)).alloc (.cells #[.string ⟨#[]⟩,.slice none 0 0,.int .i64 0] 70)).heap.size=w.heap.size+2:=by simp
 obtain⟨c0,c1,c2⟩:=ha1.c3
 have HS:=zh hs1;have HK:=zh hk1;have HM:=zh hm1;have HA1:=zh ha1;have HA2:=zh ha2;have HB1:=zh hb1;have HLM:=zh hlm
 clear hS hK hM hs1 hk1 hm1 ha1 ha2 hb1 hlm
 go_enter Tryz.func61,Tryz.ntmps61
 go_wp2_with fail
 generalize (w.alloc (.cells #[.int .i64 o.count,.slice sa o.spaces.length sc,.slice ka o.keys.length kc] 38)).alloc (.cells #[.string ⟨#[]⟩,.slice none 0 0,.int .i64 0] 70)=w1 at*
 refine(owValid_any o _ _ w1 HM.out HS.out HK.out hls hlk HLM.out).mono ?_
 rintro e w2 ⟨rfl,hb2⟩
 have HM2:=zh (HM.out.below hb2);have HS2:=zh (HS.out.below hb2);have HK2:=zh (HK.out.below hb2);have A1:=zh (HA1.out.below hb2 (by omega));have A2:=zh (HA2.out.below hb2 (by omega));have B2:=zh (HB1.out.trans (hb2.mono HB1.out.size))
 have hz2:=hb2.size
 clear hb2 HM HS HK HA1 HA2 HB1 c0 c1 c2
 cases hv:Own.ownersOK o with
 | false =>
   have e:Own.authority o s=none:=by unfold Own.authority;rw[hv];rfl
   have T2:=A2;have TB:=B2
   have x0:=A2.out.cell 0;have x1:=A2.out.cell 1;have x2:=A2.out.cell 2;have x3:=A2.out.free 0;have x4:=A2.out.free 1;have x5:=A2.out.free 2
   simp only[List.getElem?_toArray,List.getElem?_cons_zero,List.getElem?_cons_succ] at x0 x1 x2
   have HE:=zh e
   clear e
   go_wp2_with fail
   have F2:=((T2.out.set 0 (.string ⟨#[]⟩)).set 1 (.slice none 0 0)).set 2 (.int .i64 0)
   rw[HR.out,HE.out]
   refine done_ct rfl rfl rfl (load_row F2 Tryz.underlying70 rfl info_Space) ⟨rfl,((TB.out.setCell (p:=⟨w.heap.size+1,0,none⟩) (by simp) _).setCell (p:=⟨w.heap.size+1,1,none⟩) (by simp) _).setCell (p:=⟨w.heap.size+1,2,none⟩) (by simp) _⟩
 | true=>
 have hok:=Own.OK.of hv
 go_wp2_with fail
 refine(owPath_any s w2 HM2.out).mono ?_
 rintro e w3 ⟨rfl,hb3⟩
 have HS3:=zh (HS2.out.below hb3);have A13:=zh (A1.out.below hb3 (by omega));have A23:=zh (A2.out.below hb3 (by omega));have B3:=zh (B2.out.trans (hb3.mono B2.out.size))
 have hz3:=hb3.size
 clear hb3 HM2 HS2 HK2 A1 A2 B2
 cases hp:Own.pathOK s with
 | false =>
   have e:Own.authority o s=none:=by unfold Own.authority;rw[hv,hp];rfl
   have T2:=A23;have TB:=B3
   have x0:=A23.out.cell 0;have x1:=A23.out.cell 1;have x2:=A23.out.cell 2;have x3:=A23.out.free 0;have x4:=A23.out.free 1;have x5:=A23.out.free 2
   simp only[List.getElem?_toArray,List.getElem?_cons_zero,List.getElem?_cons_succ] at x0 x1 x2
   have HE:=zh e
   clear e
   go_wp2_with fail
   have F2:=((T2.out.set 0 (.string ⟨#[]⟩)).set 1 (.slice none 0 0)).set 2 (.int .i64 0)
   rw[HR.out,HE.out]
   refine done_ct rfl rfl rfl (load_row F2 Tryz.underlying70 rfl info_Space) ⟨rfl,((TB.out.setCell (p:=⟨w.heap.size+1,0,none⟩) (by simp) _).setCell (p:=⟨w.heap.size+1,1,none⟩) (by simp) _).setCell (p:=⟨w.heap.size+1,2,none⟩) (by simp) _⟩
 | true=>
 have hau:Own.authority o s=Own.bestF s none o.spaces:=by unfold Own.authority;rw[hv,hp];rfl
 have hpre:∀ x∈o.spaces,x.pre.size<=64:=fun x hx=>(Own.SpOK.of (hok.sp x hx)).pre
 obtain⟨y0,y1,y2⟩:=A13.out.c3
 have HAU:=zh hau;have HOK:=zh hok;have HPRE:=zh hpre
 clear hau hok hpre hv hp
 go_wp2_with fail
 refine(owAuthority_any o s _ _ w3 HS3.out HOK.out.ls HPRE.out).mono ?_
 rintro e w4 ⟨⟨i,rfl,hbi⟩,hb4⟩
 have HS4:=zh (HS3.out.below hb4);have A14:=zh (A13.out.below hb4 (by omega));have A24:=zh (A23.out.below hb4 (by omega));have B4:=zh (B3.out.trans (hb4.mono B3.out.size))
 have hz4:=hb4.size
 clear hb4 HS3 A13 A23 B3 y0 y1 y2
 rcases hbi with ⟨rfl,hnone⟩ | ⟨j,rfl,hj,hsome⟩
 ·have e:Own.authority o s=none:=by rw[HAU.out,hnone]
  have T2:=A24;have TB:=B4
  have x0:=A24.out.cell 0;have x1:=A24.out.cell 1;have x2:=A24.out.cell 2;have x3:=A24.out.free 0;have x4:=A24.out.free 1;have x5:=A24.out.free 2
  simp only[List.getElem?_toArray,List.getElem?_cons_zero,List.getElem?_cons_succ] at x0 x1 x2
  clear hnone
  have HE:=zh e
  clear e
  go_wp2_with fail
  have F2:=((T2.out.set 0 (.string ⟨#[]⟩)).set 1 (.slice none 0 0)).set 2 (.int .i64 0)
  rw[HR.out,HE.out]
  refine done_ct rfl rfl rfl (load_row F2 Tryz.underlying70 rfl info_Space) ⟨rfl,((TB.out.setCell (p:=⟨w.heap.size+1,0,none⟩) (by simp) _).setCell (p:=⟨w.heap.size+1,1,none⟩) (by simp) _).setCell (p:=⟨w.heap.size+1,2,none⟩) (by simp) _⟩
 ·have hau2:Own.authority o s=some o.spaces[j]:=by rw[HAU.out,hsome]
  obtain⟨y0,y1,y2⟩:=A14.out.c3
  obtain⟨b,q,mv,ha,hbl,e0,e1,e2,hmv⟩:=Own.SpacesC.cells HS4.out hj
  subst ha
  have hspok:=Own.SpOK.of (HOK.out.sp _ (List.getElem_mem hj))
  obtain⟨sp,hsp⟩:∃ x,x=o.spaces[j]:=⟨_,rfl⟩
  rw[<- hsp] at hau2 e0 e2 hmv hspok
  have hcp:=owCopiedSpace_any sp.pre sp.threshold mv sp.members w4 hmv (by have:=hspok.len;omega)
  have HCP:=zh hcp;have HAU2:=zh hau2
  obtain⟨ma,mc,rfl⟩:=hmv.len
  have dj:decide ((j:Int)<0)=false:=decide_eq_false (by omega)
  have hjl:j<o.spaces.length:=hj
  clear hcp hau2 hsp hspok hmv hsome
  go_wp2_with fail
  refine HCP.out.mono ?_
  rintro e w5 ⟨v',rfl,ho,hb5⟩
  have A25:=zh (A24.out.below hb5 (by omega));have B5:=zh (B4.out.trans (hb5.mono B4.out.size))
  have x0:=A25.out.cell 0;have x1:=A25.out.cell 1;have x2:=A25.out.cell 2;have x3:=A25.out.free 0;have x4:=A25.out.free 1;have x5:=A25.out.free 2
  simp only[List.getElem?_toArray,List.getElem?_cons_zero,List.getElem?_cons_succ] at x0 x1 x2
  obtain⟨va,vm,vc,rfl⟩:=own_slice ho
  have HO:=zh ho
  clear ho hb5 e0 e1 e2 y0 y1 y2
  go_wp2_with fail
  have F2:=((A25.out.set 0 (.string sp.pre)).set 1 (.slice va vm vc)).set 2 (.int .i64 sp.threshold)
  rw[HR.out,HAU2.out]
  refine done_ct rfl rfl rfl (load_row F2 Tryz.underlying70 rfl info_Space) ⟨⟨_,rfl,?_⟩,((B5.out.setCell (p:=⟨w.heap.size+1,0,none⟩) (by simp) _).setCell (p:=⟨w.heap.size+1,1,none⟩) (by simp) _).setCell (p:=⟨w.heap.size+1,2,none⟩) (by simp) _⟩
  refine own_base (own_keep HO.out (fun k hk=>?_)) (by omega)
  have k2:k≠w.heap.size+1:=by have:=own_up HO.out k hk;omega
  rw[heap_setCell_other _ _ _ _ k2,heap_setCell_other _ _ _ _ k2,heap_setCell_other _ _ _ _ k2]
end
section
open Go Go.RowKit Go.Maps
namespace Own
def Idx {α : Type} (p : α -> Bool) (l:List α) (i:Int):Prop:=(i = -1/\l.find? p=none/\∀ x∈l,p x=false)\/∃ j:Nat,∃ h:j<l.length,i=(j:Int)/\l.find? p=some l[j]/\p l[j]=true/\∀ k (hk:k<j),p l[k]=false
theorem Idx.hit {α : Type} {p : α -> Bool} {l:List α} {k:Nat} (hk:k<l.length) (h:p l[k]=true) (hn:∀ j (hj:j<k),p l[j]=false):Idx p l (k:Int):=by
 refine .inr ⟨k,hk,rfl,?_,h,hn⟩
 rw[List.find?_eq_some_iff_getElem]
 exact⟨h,k,hk,rfl,fun j hj=>by rw[hn j hj];rfl⟩
theorem Idx.miss {α : Type} {p : α -> Bool} {l:List α} (hn:∀ j (hj:j<l.length),p l[j]=false):Idx p l (-1):=by
 have:∀ x∈l,p x=false:=fun x hx=>by
  obtain⟨j,hj,rfl⟩:=List.getElem_of_mem hx
  exact hn j hj
 exact .inl ⟨rfl,List.find?_eq_none.2 fun x hx=>by rw[this x hx];simp,this⟩
theorem Idx.any {α : Type} {p : α -> Bool} {l:List α} {i:Int} (h:Idx p l i):decide (0<=i)=l.any p:=by
 rcases h with ⟨rfl,_,h⟩ | ⟨j,hj,rfl,_,h,_⟩
 ·rw[Bool.eq_iff_iff,List.any_eq_true]
  constructor
  ·intro h;simp at h
  ·rintro⟨x,hx,hp⟩;rw[h x hx] at hp;cases hp
 ·rw[Bool.eq_iff_iff,List.any_eq_true]
  exact⟨fun _=>⟨_,List.getElem_mem hj,h⟩,fun _=>decide_eq_true (by omega)⟩
end Own
theorem ifMembers_any (g:Nat) (lb:Array Value) (eg:∀ args w,(callFunc g args).run Tryz.prog w=.ok (.enter g args) w) (p:Own.Member->Bool) (v:Value) (l:List Own.Member) (w:World) (h:Own.MembersC w v l) (hl:l.length<=140737488355328)
 (hp:∀ (W:World) (x:Own.Member),Below w.heap.size w W->Calls Tryz.prog g (#[.agg #[.string x.name,.string x.pub]]++lb) W fun e w' => e=.returned (.bool (p x))/\Below W.heap.size W w'):
 Calls Tryz.prog 95 #[v,.func (.func g) #[] lb] w fun e w' => (∃ i,e=.returned (.int .i64 i)/\Own.Idx p l i)/\Below w.heap.size w w' :=by
 obtain⟨a,c,rfl⟩:=h.len
 have HL:=zh h;have HP:=zh hp;clear h hp
 go_enter Tryz.func95,Tryz.ntmps95
 go_wp2_with fail
 go_loopw [8] (fun i wr=>∃ k:Nat,∃ hk:k<=l.length,i=.int .i64 k/\(∀ j (hj:j<k),p (l[j]'(by omega))=false)/\Below w.heap.size w wr) (fun i _=>l.length - (intOf i).toNat)
 case atStart=>exact⟨0,by omega,rfl,(fun j hj=>absurd hj (by omega)),Below.refl _ _⟩
 case round=>
  obtain⟨k,hk,rfl,hn,hb⟩:=hrel
  have HBW:=zh hb;have HN:=zh hn
  by_cases hlt:k<l.length
  case neg=>
   have hke:k=l.length:=by omega
   have dk:decide ((k:Int)<l.length)=false:=decide_eq_false (by omega)
   have hix:=Own.Idx.miss (p:=p) (l:=l) (fun j hj=>hn j (by omega))
   have HIX:=zh hix
   clear hix hke hb hn
   go_wp2_with fail
   go_ret
   exact⟨⟨_,rfl,HIX.out⟩,HBW.out⟩
  have dk:decide ((k:Int)<l.length)=true:=decide_eq_true (by omega)
  obtain⟨b,o,ha,hbl,e0,e1⟩:=Own.MembersC.cells (HL.out.below hb) hlt
  subst ha
  have hcall:=HP.out wr l[k] hb
  obtain⟨nm,hnm⟩:∃ x,x=l[k].name:=⟨_,rfl⟩
  obtain⟨pb,hpb⟩:∃ x,x=l[k].pub:=⟨_,rfl⟩
  rw[<- hnm] at e0 hcall
  rw[<- hpb] at e1 hcall
  clear hb hn hnm hpb
  cases hq:p l[k] with
  | true =>
    rw[hq] at hcall
    have hix:=Own.Idx.hit hlt hq (HN.out)
    have HIX:=zh hix
    clear hix hq
    go_wp2_with (go_at_fn g;refine hcall.mono ?_;rintro e w' ⟨rfl,hb'⟩)
    go_ret
    exact⟨⟨_,rfl,HIX.out⟩,HBW.out.trans (hb'.mono HBW.out.size)⟩
  | false =>
    rw[hq] at hcall
    have hn2:∀ j (hj:j<k+1),p (l[j]'(by omega))=false:=fun j hj=>by
     by_cases e:j=k
     ·subst e;exact hq
     ·exact HN.out j (by omega)
    have HN2:=zh hn2
    clear hn2 hq
    go_wp2_with (go_at_fn g;refine hcall.mono ?_;rintro e w' ⟨rfl,hb'⟩)
    go_round
    case measure=>simp[intOf];omega
    case rel=>exact⟨k+1,by omega,by go_num,HN2.out,HBW.out.trans (hb'.mono HBW.out.size)⟩
theorem ifProposals_any (g:Nat) (lb:Array Value) (eg:∀ args w,(callFunc g args).run Tryz.prog w=.ok (.enter g args) w) (p:Own.Proposal->Bool) (v:Value) (l:List Own.Proposal) (w:World) (h:Own.PropsC w v l) (hl:l.length<=140737488355328)
 (hp:∀ (W:World) (x:Own.Proposal) (u:Value),Below w.heap.size w W->Calls Tryz.prog g (#[.agg #[.int .i64 x.id,.string x.path,.string x.digest,.int .i64 x.opened,.int .i64 x.expires,u]]++lb) W fun e w' => e=.returned (.bool (p x))/\Below W.heap.size W w'):
 Calls Tryz.prog 81 #[v,.func (.func g) #[] lb] w fun e w' => (∃ i,e=.returned (.int .i64 i)/\Own.Idx p l i)/\Below w.heap.size w w' :=by
 obtain⟨a,c,rfl⟩:=h.len
 have HL:=zh h;have HP:=zh hp;clear h hp
 go_enter Tryz.func81,Tryz.ntmps81
 go_wp2_with fail
 go_loopw [8] (fun i wr=>∃ k:Nat,∃ hk:k<=l.length,i=.int .i64 k/\(∀ j (hj:j<k),p (l[j]'(by omega))=false)/\Below w.heap.size w wr) (fun i _=>l.length - (intOf i).toNat)
 case atStart=>exact⟨0,by omega,rfl,(fun j hj=>absurd hj (by omega)),Below.refl _ _⟩
 case round=>
  obtain⟨k,hk,rfl,hn,hb⟩:=hrel
  have HBW:=zh hb;have HN:=zh hn
  by_cases hlt:k<l.length
  case neg=>
   have hke:k=l.length:=by omega
   have dk:decide ((k:Int)<l.length)=false:=decide_eq_false (by omega)
   have hix:=Own.Idx.miss (p:=p) (l:=l) (fun j hj=>hn j (by omega))
   have HIX:=zh hix
   clear hix hke hb hn
   go_wp2_with fail
   go_ret
   exact⟨⟨_,rfl,HIX.out⟩,HBW.out⟩
  have dk:decide ((k:Int)<l.length)=true:=decide_eq_true (by omega)
  obtain⟨b,o,u,ha,hbl,e0,e1,e2,e3,e4,e5,_⟩:=Own.PropsC.cells (HL.out.below hb) hlt
  subst ha
  have hcall:=HP.out wr l[k] u hb
  obtain⟨q0,hq0⟩:∃ x,x=l[k].id:=⟨_,rfl⟩
  obtain⟨q1,hq1⟩:∃ x,x=l[k].path:=⟨_,rfl⟩
  obtain⟨q2,hq2⟩:∃ x,x=l[k].digest:=⟨_,rfl⟩
  obtain⟨q3,hq3⟩:∃ x,x=l[k].opened:=⟨_,rfl⟩
  obtain⟨q4,hq4⟩:∃ x,x=l[k].expires:=⟨_,rfl⟩
  rw[<- hq0,<- hq1,<- hq2,<- hq3,<- hq4] at hcall
  rw[<- hq0] at e0
  rw[<- hq1] at e1
  rw[<- hq2] at e2
  rw[<- hq3] at e3
  rw[<- hq4] at e4
  clear hb hn hq0 hq1 hq2 hq3 hq4
  cases hq:p l[k] with
  | true =>
    rw[hq] at hcall
    have hix:=Own.Idx.hit hlt hq (HN.out)
    have HIX:=zh hix
    clear hix hq
    go_wp2_with (go_at_fn g;refine hcall.mono ?_;rintro e w' ⟨rfl,hb'⟩)
    go_ret
    exact⟨⟨_,rfl,HIX.out⟩,HBW.out.trans (hb'.mono HBW.out.size)⟩
  | false =>
    rw[hq] at hcall
    have hn2:∀ j (hj:j<k+1),p (l[j]'(by omega))=false:=fun j hj=>by
     by_cases e:j=k
     ·subst e;exact hq
     ·exact HN.out j (by omega)
    have HN2:=zh hn2
    clear hn2 hq
    go_wp2_with (go_at_fn g;refine hcall.mono ?_;rintro e w' ⟨rfl,hb'⟩)
    go_round
    case measure=>simp[intOf];omega
    case rel=>exact⟨k+1,by omega,by go_num,HN2.out,HBW.out.trans (hb'.mono HBW.out.size)⟩
theorem cfProposals_any (g:Nat) (lb:Array Value) (eg:∀ args w,(callFunc g args).run Tryz.prog w=.ok (.enter g args) w) (p:Own.Proposal->Bool) (v:Value) (l:List Own.Proposal) (w:World) (h:Own.PropsC w v l) (hl:l.length<=140737488355328)
 (hp:∀ (W:World) (x:Own.Proposal) (u:Value),Below w.heap.size w W->Calls Tryz.prog g (#[.agg #[.int .i64 x.id,.string x.path,.string x.digest,.int .i64 x.opened,.int .i64 x.expires,u]]++lb) W fun e w' => e=.returned (.bool (p x))/\Below W.heap.size W w'):
 Calls Tryz.prog 40 #[v,.func (.func g) #[] lb] w fun e w' => e=.returned (.bool (l.any p))/\Below w.heap.size w w' :=by
 have HI:=zh (ifProposals_any g lb eg p v l w h hl hp);clear h hp
 go_enter Tryz.func40,Tryz.ntmps40
 go_wp2_with fail
 refine HI.out.mono ?_
 rintro e w2 ⟨⟨i,rfl,hi⟩,hb⟩
 have HB:=zh hb;have HJ:=zh hi.any;clear hb hi
 go_wp2_with fail
 go_ret
 exact⟨by rw[<- HJ.out];rfl,HB.out⟩
end
section
open Go Go.RowKit Go.Maps
theorem owMember1_any (x:Own.Member) (g:Nat) (nm:ByteArray) (w:World) (hc:w.cell? ⟨g,0,none⟩=some (.string nm)):
 Calls Tryz.prog 169 (#[.agg #[.string x.name,.string x.pub]]++#[.pointer (some ⟨g,0,none⟩)]) w fun e w' => e=.returned (.bool (decide (x.name=nm)))/\Below w.heap.size w w' :=by
 obtain⟨R,hR⟩:∃ R,R=decide (x.name=nm):=⟨_,rfl⟩
 rw[<- hR]
 rw[<- bytes_beq] at hR
 have hb1:Below w.heap.size w (w.alloc (.cells #[.string x.name,.string x.pub] 73)):=(Below.refl _ _).alloc (Nat.le_refl _) _
 have q:=(hb1.cell (p:=⟨g,0,none⟩) (block_lt hc)).trans hc
 have HB:=zh hb1;have HR:=zh hR
 clear hb1 hc hR
 show Calls Tryz.prog 169 #[.agg #[.string x.name,.string x.pub],.pointer (some ⟨g,0,none⟩)] w _
 go_enter Tryz.func169,Tryz.ntmps169
 go_wp2_with fail
 go_ret
 exact⟨by rw[HR.out];rfl,HB.out⟩
def MemPost (w:World) (r:Option Own.Member) (e:Ending) (w' : World):Prop:=
 (match r with
   | none=>e=.returned (.tuple #[.agg #[.string ⟨#[]⟩,.string ⟨#[]⟩],.bool false])
   | some m=>e=.returned (.tuple #[.agg #[.string m.name,.string m.pub],.bool true]))/\Below w.heap.size w w'
theorem owMember_any (pre:ByteArray) (th:Int) (v:Value) (l:List Own.Member) (nm:ByteArray) (w:World) (h:Own.MembersC w v l) (hl:l.length<=140737488355328):
 Calls Tryz.prog 152 #[.agg #[.string pre,v,.int .i64 th],.string nm] w (MemPost w (Own.find l nm)):=by
 obtain⟨R,hR⟩:∃ R,R=MemPost w (Own.find l nm):=⟨_,rfl⟩
 rw[<- hR]
 have HR:=zh hR;clear hR
 obtain⟨a,c,rfl⟩:=h.len
 have ha0:=((At.new w 70 #[.string pre,.slice a l.length c,.int .i64 th]).alloc (.cells #[.string nm] 9)).alloc (.cells #[.string ⟨#[]⟩,.string ⟨#[]⟩] 73)
 have ha1:=(At.new1 w (.cells #[.string pre,.slice a l.length c,.int .i64 th] 70) 9 #[.string nm]).alloc (.cells #[.string ⟨#[]⟩,.string ⟨#[]⟩] 73)
 have ha2:=At.new ((w.alloc (.cells #[.string pre,.slice a l.length c,.int .i64 th] 70)).alloc (.cells #[.string nm] 9)) 73 #[.string ⟨#[]⟩,.string ⟨#[]⟩]
 rw[World.size_alloc,World.size_alloc] at ha2
 have hb1:Below w.heap.size w (((w.alloc (.cells #[.string pre,.slice a l.length c,.int .i64 th] 70)).alloc (.cells #[.string nm] 9)).alloc (.cells #[.string ⟨#[]⟩,.string ⟨#[]⟩] 73)):=(((Below.refl _ _).alloc (Nat.le_refl _) _).alloc (by simp) _).alloc (by simp;omega) _
 have hz1:(((w.alloc (.cells #[.string pre,.slice a l.length c,.int .i64 th] 70)).alloc (.cells #[.string nm] 9)).alloc (.cells #[.string ⟨#[]⟩,.string ⟨#[]⟩] 73)).heap.size=w.heap.size+3:=by simp
 have hl1:=h.below hb1
 have c1:=ha0.cell 1
 simp only[List.getElem?_toArray,List.getElem?_cons_zero,List.getElem?_cons_succ] at c1
 have HL:=zh hl1;have A0:=zh ha0;have A1:=zh ha1;have A2:=zh ha2;have B1:=zh hb1
 clear h hl1 ha0 ha1 ha2 hb1
 go_enter Tryz.func152,Tryz.ntmps152
 go_wp2_with fail
 generalize ((w.alloc (.cells #[.string pre,.slice a l.length c,.int .i64 th] 70)).alloc (.cells #[.string nm] 9)).alloc (.cells #[.string ⟨#[]⟩,.string ⟨#[]⟩] 73)=w1 at*
 refine(ifMembers_any 169 #[.pointer (some ⟨w.heap.size+1,0,none⟩)] Tryz.call169 (fun m=>decide (m.name=nm)) _ l w1 HL.out hl (fun W x hW=>owMember1_any x _ nm W ((hW.cell (p:=⟨w.heap.size+1,0,none⟩) (by show w.heap.size+1<w1.heap.size;omega)).trans (A1.out.cell 0)))).mono ?_
 rintro e w2 ⟨⟨i,rfl,hi⟩,hb2⟩
 have A02:=zh (A0.out.below hb2 (by omega));have A22:=zh (A2.out.below hb2 (by omega));have B2:=zh (B1.out.trans (hb2.mono B1.out.size));have HL2:=zh (HL.out.below hb2)
 have y1:=A02.out.cell 1
 have x0:=A22.out.cell 0;have x1:=A22.out.cell 1;have x3:=A22.out.free 0;have x4:=A22.out.free 1
 simp only[List.getElem?_toArray,List.getElem?_cons_zero,List.getElem?_cons_succ] at y1 x0 x1
 clear hb2 c1 HL A0 A1 A2 B1
 rcases hi with ⟨rfl,hnone,_⟩ | ⟨j,hj,rfl,hsome,_,_⟩
 ·have e:Own.find l nm=none:=hnone
  have HE:=zh e
  clear e hnone
  go_wp2_with fail
  have F2:=(A22.out.set 0 (.string ⟨#[]⟩)).set 1 (.string ⟨#[]⟩)
  rw[HR.out,HE.out]
  exact done_ct rfl rfl rfl (load_row F2 Tryz.underlying73 rfl info_Member) ⟨rfl,(B2.out.setCell (p:=⟨w.heap.size+1+1,0,none⟩) (by show w.heap.size<=w.heap.size+1+1;omega) _).setCell (p:=⟨w.heap.size+1+1,1,none⟩) (by show w.heap.size<=w.heap.size+1+1;omega) _⟩
 ·have e:Own.find l nm=some l[j]:=hsome
  obtain⟨b,o,ha,hbl,e0,e1⟩:=Own.MembersC.cells HL2.out hj
  subst ha
  obtain⟨m,hm⟩:∃ x,x=l[j]:=⟨_,rfl⟩
  rw[<- hm] at e e0 e1
  have HE:=zh e
  have dj:decide ((j:Int)<0)=false:=decide_eq_false (by omega)
  have hjl:j<l.length:=hj
  clear e hsome hm
  go_wp2_with fail
  have F2:=(A22.out.set 0 (.string m.name)).set 1 (.string m.pub)
  rw[HR.out,HE.out]
  exact done_ct rfl rfl rfl (load_row F2 Tryz.underlying73 rfl info_Member) ⟨rfl,(B2.out.setCell (p:=⟨w.heap.size+1+1,0,none⟩) (by show w.heap.size<=w.heap.size+1+1;omega) _).setCell (p:=⟨w.heap.size+1+1,1,none⟩) (by show w.heap.size<=w.heap.size+1+1;omega) _⟩
def cmpB (a b:ByteArray):Int:=if Own.lessB a b then -1 else if a=b then 0 else 1
theorem isNaN_any (a:ByteArray) (w:World):Calls Tryz.prog 99 #[.string a] w fun e w' => e=.returned (.bool false)/\w' = w:=by
 go_enter Tryz.func99,Tryz.ntmps99
 go_wp2_with fail
 go_ret
 exact⟨by simp,rfl⟩
theorem cmpStr_any (a b:ByteArray) (w:World):Calls Tryz.prog 65 #[.string a,.string b] w fun e w' => e=.returned (.int .i64 (cmpB a b))/\w' = w:=by
 obtain⟨R,hR⟩:∃ R,R=cmpB a b:=⟨_,rfl⟩
 rw[<- hR]
 unfold cmpB Own.lessB at hR
 have HR:=zh hR;clear hR
 go_enter Tryz.func65,Tryz.ntmps65
 go_wp2_with fail
 refine(isNaN_any a w).mono ?_
 rintro e w1 ⟨rfl,rfl⟩
 go_wp2_with fail
 refine(isNaN_any b w1).mono ?_
 rintro e w1 ⟨rfl,rfl⟩
 cases h1:Op.bytesLess a.toList b.toList with
 | true =>
   have e:R = -1:=by rw[HR.out,h1];rfl
   have HE:=zh e;clear e
   go_wp2_with fail
   go_ret
   exact⟨by rw[HE.out];rfl,rfl⟩
 | false=>
 by_cases h2:a=b
 ·have d:(a.toList==b.toList)=true:=by rw[bytes_beq];exact decide_eq_true h2
  have e:R=0:=by rw[HR.out,h1,if_pos h2];rfl
  have HE:=zh e;clear e
  have H2:=zh h2;clear h2
  go_wp2_with fail
  go_ret
  exact⟨by rw[HE.out];rfl,rfl⟩
 ·have d:(a.toList==b.toList)=false:=by rw[bytes_beq];exact decide_eq_false h2
  have e:R=1:=by rw[HR.out,h1,if_neg h2];rfl
  have HE:=zh e;clear e
  go_wp2_with fail
  go_ret
  exact⟨by rw[HE.out];rfl,rfl⟩
end
section
open Go Go.RowKit Go.Maps
namespace Own
def mem54 (b:Nat):Member:=⟨⟨#[109,(97+b%8).toUInt8]⟩,Sig.pubOf (Lane.seedB b)⟩
end Own
theorem seedB_size (b:Nat):(Lane.seedB b).size=32:=by
 show(List.replicate 32 b.toUInt8).toArray.size=32
 simp
theorem law54member_any (b:Nat) (w:World) (hb:b<256):Calls Tryz.prog 37 #[.int .u8 b] w fun e w' => e=.returned (.agg #[.string (Own.mem54 b).name,.string (Own.mem54 b).pub])/\Below w.heap.size w w' :=by
 have hk:=fun W=>law54key_any b W hb
 have hp:=fun W=>r47Public_any (Lane.seedB b) W (seedB_size b)
 have hcv:=fun W g=>convB W g (97+b%8) (by omega)
 have hpub:(Own.mem54 b).pub=Sig.pubOf (Lane.seedB b):=rfl
 have hname:(Own.mem54 b).name=⟨#[109]⟩++⟨#[(97+b%8).toUInt8]⟩:=rfl
 generalize Lane.seedB b=S at*
 generalize Sig.pubOf S=U at*
 generalize Own.mem54 b=m at*
 have HK:=zh hk;have HP:=zh hp;have HCV:=zh hcv;have HPU:=zh hpub;have HN:=zh hname
 clear hk hp hcv hpub hname
 have hm8:(97:Int)+(b:Int)%8=((97+b%8:Nat):Int):=by omega
 generalize 97+b%8=c at*
 have HM:=zh hm8;clear hm8
 go_enter Tryz.func37,Tryz.ntmps37
 go_wp2_with fail
 have ha1:At (w.alloc (.cells #[.string ⟨#[]⟩,.string ⟨#[]⟩] 73)) w.heap.size 73 #[.string ⟨#[]⟩,.string ⟨#[]⟩]:=At.new w _ _
 have hb1:Below w.heap.size w (w.alloc (.cells #[.string ⟨#[]⟩,.string ⟨#[]⟩] 73)):=(Below.refl _ _).alloc (Nat.le_refl _) _
 generalize w.alloc (.cells #[.string ⟨#[]⟩,.string ⟨#[]⟩] 73)=w1 at*
 refine(HK.out _).mono ?_
 rintro e w2 ⟨rfl,hb2⟩
 have hlt:=ha1.lt
 have ha2:=ha1.below hb2 hlt;have hb12:=hb1.trans (hb2.mono hb1.size)
 go_wp2_with fail
 refine(HP.out _).mono ?_
 rintro e w3 ⟨rfl,hb3⟩
 have hlt2:=ha2.lt
 have HA3:=zh (ha2.below hb3 hlt2);have HB3:=zh (hb12.trans (hb3.mono hb12.size))
 clear ha1 hb1 hb2 ha2 hb12 hb3
 have z0:w3.frozen? ⟨w.heap.size,0,none⟩=false:=HA3.out.free 0
 have z1:w3.frozen? ⟨w.heap.size,1,none⟩=false:=HA3.out.free 1
 obtain⟨c0,c1⟩:=HA3.out.c2
 go_wp2_with fail
 rw[HM.out,HCV.out _ _ (At.new _ _ _)]
 have hlt3:=HA3.out.lt
 have HA4:=zh (HA3.out.below ((Below.refl w3.heap.size w3).alloc (Nat.le_refl _) (.cells #[.int .u8 (c:Int)] 5)) hlt3)
 have HB4:=zh ((HB3.out).alloc HB3.out.size (.cells #[.int .u8 (c:Int)] 5))
 clear z0 z1 c0 c1
 generalize w3.alloc (.cells #[.int .u8 (c:Int)] 5)=w4 at*
 have z0:w4.frozen? ⟨w.heap.size,0,none⟩=false:=HA4.out.free 0
 have z1:w4.frozen? ⟨w.heap.size,1,none⟩=false:=HA4.out.free 1
 obtain⟨c0,c1⟩:=HA4.out.c2
 go_wp2_with fail
 have F2:=(HA4.out.set 0 (.string (⟨#[109]⟩++⟨#[c.toUInt8]⟩))).set 1 (.string U)
 rw[HN.out,HPU.out]
 refine done_c rfl rfl (load_row F2 Tryz.underlying73 rfl info_Member) ⟨rfl,(HB4.out.setCell (p:=⟨w.heap.size,0,none⟩) (Nat.le_refl _) _).setCell (p:=⟨w.heap.size,1,none⟩) (Nat.le_refl _) _⟩
end
section
open Go Go.RowKit Go.Maps
structure Fresh (w0 w:World) (bs:List (TypeId × Array Value)):Prop where
 size:w.heap.size=w0.heap.size+bs.length
 under:Below w0.heap.size w0 w
 at_:∀ (i:Nat) (t:TypeId) (cs:Array Value),bs[i]? = some (t,cs)->At w (w0.heap.size+i) t cs
structure Boxes (w0 w:World) (bs:List (TypeId × Array Value)):Prop where
 size:w0.heap.size+bs.length<=w.heap.size
 under:Below w0.heap.size w0 w
 at_:∀ (i:Nat) (t:TypeId) (cs:Array Value),bs[i]? = some (t,cs)->At w (w0.heap.size+i) t cs
section
variable {w0 w w' : World} {bs:List (TypeId × Array Value)}
theorem Fresh.nil (w:World):Fresh w w []:=⟨by simp,Below.refl _ _,fun i t cs h=>by simp at h⟩
theorem Fresh.push (h:Fresh w0 w bs) (t:TypeId) (cs:Array Value):Fresh w0 (w.alloc (.cells cs t)) (bs++[(t,cs)]):=by
 refine⟨by rw[World.size_alloc,h.size,List.length_append];rfl,h.under.alloc h.under.size _,fun i t' cs' hi=>?_⟩
 by_cases hl:i<bs.length
 ·rw[List.getElem?_append_left hl] at hi
  exact(h.at_ i t' cs' hi).alloc _
 ·rw[List.getElem?_append_right (by omega)] at hi
  have:i - bs.length=0:=by
   have:=(List.getElem?_eq_some_iff.1 hi).1
   simp at this
   omega
  rw[this] at hi
  cases hi
  have e:w0.heap.size+i=w.heap.size:=by rw[h.size];omega
  rw[e]
  exact At.new _ _ _
theorem Fresh.boxes (h:Fresh w0 w bs):Boxes w0 w bs:=⟨Nat.le_of_eq h.size.symm,h.under,h.at_⟩
theorem Boxes.step (h:Boxes w0 w bs) (hb:Below w.heap.size w w'):Boxes w0 w' bs:=
 ⟨Nat.le_trans h.size hb.size,h.under.trans (hb.mono h.under.size),fun i t cs hi=>(h.at_ i t cs hi).below hb (h.at_ i t cs hi).lt⟩
theorem Boxes.cell (h:Boxes w0 w bs) (i j:Nat) {t:TypeId} {cs:Array Value} {v:Value} (hi:bs[i]? = some (t,cs)) (hj:cs[j]? = some v):w.cell? ⟨w0.heap.size+i,j,none⟩=some v:=((h.at_ i t cs hi).cell j).trans hj
theorem Boxes.free (h:Boxes w0 w bs) (i j:Nat) {t:TypeId} {cs:Array Value} (hi:bs[i]? = some (t,cs)):w.frozen? ⟨w0.heap.size+i,j,none⟩=false:=(h.at_ i t cs hi).free j
theorem Boxes.at1 (h:Boxes w0 w bs) (i:Nat) {t:TypeId} {cs:Array Value} (hi:bs[i]? = some (t,cs)):At w (w0.heap.size+i) t cs:=h.at_ i t cs hi
theorem Boxes.lt (h:Boxes w0 w bs) {i:Nat} (hi:i<bs.length):w0.heap.size+i<w.heap.size:=by have:=h.size;omega
theorem Boxes.put (h:Boxes w0 w bs) (i j:Nat) (u:Value) {t:TypeId} {cs:Array Value} (hi:bs[i]? = some (t,cs)):Boxes w0 (w.setCell ⟨w0.heap.size+i,j,none⟩ u) (bs.set i (t,cs.setIfInBounds j u)):=by
 refine⟨by rw[List.length_set];exact Nat.le_trans h.size (by simp[World.setCell]),h.under.setCell (by show w0.heap.size<=w0.heap.size+i;omega) _,fun k t' cs' hk=>?_⟩
 have hl:=(List.getElem?_eq_some_iff.1 hi).1
 by_cases hki:k=i
 ·subst hki
  rw[List.getElem?_set_self hl] at hk
  cases hk
  exact(h.at_ k t cs hi).set j u
 ·rw[List.getElem?_set_ne (fun e=>hki e.symm)] at hk
  exact(h.at_ k t' cs' hk).far (p:=⟨w0.heap.size+i,j,none⟩) (by show w0.heap.size+k≠w0.heap.size+i;omega) _
theorem Boxes.drew (h:Boxes w0 w bs):Boxes w0 w.drew bs:=⟨h.size,h.under.drew,fun i t cs hi=>(h.at_ i t cs hi).drew⟩
end
theorem Boxes.d0_2{u w:World}{l:List (TypeId×Array Value)}{t:TypeId}{a b:Value}(h:Boxes u w l)(r:l[0]?=some (t,#[a,b])):w.cell? ⟨u.heap.size,0,none⟩=some a/\w.cell? ⟨u.heap.size,1,none⟩=some b:=⟨h.cell 0 0 r rfl,h.cell 0 1 r rfl⟩
theorem Boxes.d0_3{u w:World}{l:List (TypeId×Array Value)}{t:TypeId}{a b c:Value}(h:Boxes u w l)(r:l[0]?=some (t,#[a,b,c])):w.cell? ⟨u.heap.size,0,none⟩=some a/\w.cell? ⟨u.heap.size,1,none⟩=some b/\w.cell? ⟨u.heap.size,2,none⟩=some c:=⟨h.cell 0 0 r rfl,h.cell 0 1 r rfl,h.cell 0 2 r rfl⟩
theorem Boxes.d0_6{u w:World}{l:List (TypeId×Array Value)}{t:TypeId}{a b c d e f:Value}(h:Boxes u w l)(r:l[0]?=some (t,#[a,b,c,d,e,f])):w.cell? ⟨u.heap.size,0,none⟩=some a/\w.cell? ⟨u.heap.size,1,none⟩=some b/\w.cell? ⟨u.heap.size,2,none⟩=some c/\w.cell? ⟨u.heap.size,3,none⟩=some d/\w.cell? ⟨u.heap.size,4,none⟩=some e/\w.cell? ⟨u.heap.size,5,none⟩=some f:=⟨h.cell 0 0 r rfl,h.cell 0 1 r rfl,h.cell 0 2 r rfl,h.cell 0 3 r rfl,h.cell 0 4 r rfl,h.cell 0 5 r rfl⟩
theorem Boxes.e1_2{u w:World}{l:List (TypeId×Array Value)}{t:TypeId}{a b:Value}(h:Boxes u w l)(r:l[1]?=some (t,#[a,b])):w.cell? ⟨u.heap.size+1,0,none⟩=some a/\w.cell? ⟨u.heap.size+1,1,none⟩=some b/\w.frozen? ⟨u.heap.size+1,0,none⟩=false/\w.frozen? ⟨u.heap.size+1,1,none⟩=false:=⟨h.cell 1 0 r rfl,h.cell 1 1 r rfl,h.free 1 0 r,h.free 1 1 r⟩
theorem Boxes.d1_3{u w:World}{l:List (TypeId×Array Value)}{t:TypeId}{a b c:Value}(h:Boxes u w l)(r:l[1]?=some (t,#[a,b,c])):w.cell? ⟨u.heap.size+1,0,none⟩=some a/\w.cell? ⟨u.heap.size+1,1,none⟩=some b/\w.cell? ⟨u.heap.size+1,2,none⟩=some c:=⟨h.cell 1 0 r rfl,h.cell 1 1 r rfl,h.cell 1 2 r rfl⟩
theorem Boxes.e1_4{u w:World}{l:List (TypeId×Array Value)}{t:TypeId}{a b c d:Value}(h:Boxes u w l)(r:l[1]?=some (t,#[a,b,c,d])):w.cell? ⟨u.heap.size+1,0,none⟩=some a/\w.cell? ⟨u.heap.size+1,1,none⟩=some b/\w.cell? ⟨u.heap.size+1,2,none⟩=some c/\w.cell? ⟨u.heap.size+1,3,none⟩=some d/\w.frozen? ⟨u.heap.size+1,0,none⟩=false/\w.frozen? ⟨u.heap.size+1,1,none⟩=false/\w.frozen? ⟨u.heap.size+1,2,none⟩=false/\w.frozen? ⟨u.heap.size+1,3,none⟩=false:=⟨h.cell 1 0 r rfl,h.cell 1 1 r rfl,h.cell 1 2 r rfl,h.cell 1 3 r rfl,h.free 1 0 r,h.free 1 1 r,h.free 1 2 r,h.free 1 3 r⟩
theorem Boxes.d2_2{u w:World}{l:List (TypeId×Array Value)}{t:TypeId}{a b:Value}(h:Boxes u w l)(r:l[2]?=some (t,#[a,b])):w.cell? ⟨u.heap.size+1+1,0,none⟩=some a/\w.cell? ⟨u.heap.size+1+1,1,none⟩=some b:=⟨h.cell 2 0 r rfl,h.cell 2 1 r rfl⟩
theorem Boxes.e2_2{u w:World}{l:List (TypeId×Array Value)}{t:TypeId}{a b:Value}(h:Boxes u w l)(r:l[2]?=some (t,#[a,b])):w.cell? ⟨u.heap.size+1+1,0,none⟩=some a/\w.cell? ⟨u.heap.size+1+1,1,none⟩=some b/\w.frozen? ⟨u.heap.size+1+1,0,none⟩=false/\w.frozen? ⟨u.heap.size+1+1,1,none⟩=false:=⟨h.cell 2 0 r rfl,h.cell 2 1 r rfl,h.free 2 0 r,h.free 2 1 r⟩
theorem Boxes.d2_4{u w:World}{l:List (TypeId×Array Value)}{t:TypeId}{a b c d:Value}(h:Boxes u w l)(r:l[2]?=some (t,#[a,b,c,d])):w.cell? ⟨u.heap.size+1+1,0,none⟩=some a/\w.cell? ⟨u.heap.size+1+1,1,none⟩=some b/\w.cell? ⟨u.heap.size+1+1,2,none⟩=some c/\w.cell? ⟨u.heap.size+1+1,3,none⟩=some d:=⟨h.cell 2 0 r rfl,h.cell 2 1 r rfl,h.cell 2 2 r rfl,h.cell 2 3 r rfl⟩
theorem Boxes.e3_2{u w:World}{l:List (TypeId×Array Value)}{t:TypeId}{a b:Value}(h:Boxes u w l)(r:l[3]?=some (t,#[a,b])):w.cell? ⟨u.heap.size+1+1+1,0,none⟩=some a/\w.cell? ⟨u.heap.size+1+1+1,1,none⟩=some b/\w.frozen? ⟨u.heap.size+1+1+1,0,none⟩=false/\w.frozen? ⟨u.heap.size+1+1+1,1,none⟩=false:=⟨h.cell 3 0 r rfl,h.cell 3 1 r rfl,h.free 3 0 r,h.free 3 1 r⟩
theorem Boxes.e4_3{u w:World}{l:List (TypeId×Array Value)}{t:TypeId}{a b c:Value}(h:Boxes u w l)(r:l[4]?=some (t,#[a,b,c])):w.cell? ⟨u.heap.size+1+1+1+1,0,none⟩=some a/\w.cell? ⟨u.heap.size+1+1+1+1,1,none⟩=some b/\w.cell? ⟨u.heap.size+1+1+1+1,2,none⟩=some c/\w.frozen? ⟨u.heap.size+1+1+1+1,0,none⟩=false/\w.frozen? ⟨u.heap.size+1+1+1+1,1,none⟩=false/\w.frozen? ⟨u.heap.size+1+1+1+1,2,none⟩=false:=⟨h.cell 4 0 r rfl,h.cell 4 1 r rfl,h.cell 4 2 r rfl,h.free 4 0 r,h.free 4 1 r,h.free 4 2 r⟩
theorem Boxes.e4_6{u w:World}{l:List (TypeId×Array Value)}{t:TypeId}{a b c d e f:Value}(h:Boxes u w l)(r:l[4]?=some (t,#[a,b,c,d,e,f])):w.cell? ⟨u.heap.size+1+1+1+1,0,none⟩=some a/\w.cell? ⟨u.heap.size+1+1+1+1,1,none⟩=some b/\w.cell? ⟨u.heap.size+1+1+1+1,2,none⟩=some c/\w.cell? ⟨u.heap.size+1+1+1+1,3,none⟩=some d/\w.cell? ⟨u.heap.size+1+1+1+1,4,none⟩=some e/\w.cell? ⟨u.heap.size+1+1+1+1,5,none⟩=some f/\w.frozen? ⟨u.heap.size+1+1+1+1,0,none⟩=false/\w.frozen? ⟨u.heap.size+1+1+1+1,1,none⟩=false/\w.frozen? ⟨u.heap.size+1+1+1+1,2,none⟩=false/\w.frozen? ⟨u.heap.size+1+1+1+1,3,none⟩=false/\w.frozen? ⟨u.heap.size+1+1+1+1,4,none⟩=false/\w.frozen? ⟨u.heap.size+1+1+1+1,5,none⟩=false:=⟨h.cell 4 0 r rfl,h.cell 4 1 r rfl,h.cell 4 2 r rfl,h.cell 4 3 r rfl,h.cell 4 4 r rfl,h.cell 4 5 r rfl,h.free 4 0 r,h.free 4 1 r,h.free 4 2 r,h.free 4 3 r,h.free 4 4 r,h.free 4 5 r⟩
end
section
open Go Go.RowKit Go.Maps
section
variable {P:Program} (w:World)
theorem run_append_grow_zeros (t tn ty e:TypeId) (i:TypeInfo) (z:Value) (kn:IntKind) (ht:P.underlying t=some (.slice e)) (htn:P.underlying tn=some (.int kn)) (hi:P.info? e=some i) (hz:i.zero=some z)
 (b:Addr) (sLen sCap:Nat) (olds:List Value) (hlo:olds.length=sLen*i.size) (holds:∀ j v,olds[j]? = some v->w.cell? (b.add j)=some v)
 (n:Nat) (k:IntKind) (h0:0<n) (hsz:0<i.size) (hg:sCap<sLen+n) (h63:((sLen+n:Nat):Int)<=9223372036854775807) (h48n:n*i.bytes<=281474976710656) (hfit:Builtin.nextslicecap (sLen+n) sCap*i.bytes<=281474976710656):
 (Builtin.append_ #[t,tn] ty #[.slice (some b) sLen sCap,.int k n]).run P w =
   .ok (.slice (some ⟨w.heap.size,0,none⟩) (sLen+n) (grownCap w (sLen+n) sCap e))
    (w.drew.alloc (.cells (olds.toArray++Builtin.zeroCells z.cells n++Builtin.zeroCells z.cells (grownCap w (sLen+n) sCap e - (sLen+n))) e)):=by
 have hn:¬ (sLen+n<=sCap):=by omega
 have hn0:n≠0:=by omega
 have hw:IntKind.i64.wrap (n:Int)=n:=by rw[IntKind.wrap_i64];omega
 have h63' : ¬ (9223372036854775807<((sLen:Int)+(n:Int))):=by omega
 have h48' : ¬ (281474976710656<Builtin.nextslicecap (sLen+n) sCap*i.bytes):=by omega
 have h48i:¬ (281474976710656<(n:Int)*(i.bytes:Int)):=by
  rw[<- Int.natCast_mul]
  omega
 have hneg:¬ ((n:Int)<0):=by omega
 have hns:¬ (n*i.size=0):=Nat.mul_ne_zero hn0 (by omega)
 have hfo:=run_firstCells_some (P:=P) w.drew i.size sLen b sLen sCap olds hlo (by simpa using holds)
 simp[Builtin.append_,run_underlying ht,run_underlying htn,sizeOf,typeInfo,zeroValue,hi,hz,asInt,asIntOf,hw,hn,hn0,hneg,hns,h63',h48',h48i,Question.forced,hfo,newRow,grownCap]
theorem run_copy_rowk (dT sT ty elem:TypeId) (size g o dLen dCap:Nat) (a:Addr) (sLen sCap:Nat) (cur:Array Value) (t:TypeId) (cs:List Value)
 (hu:P.underlying dT=some (.slice elem)) (hs:(P.info? elem).map (·.size)=some size)
 (hg:w.heap[g]? = some (.cells cur t (0,0))) (hn:cs.length=Nat.min sLen dLen*size)
 (hsrc:∀ j v,cs[j]? = some v->w.cell? (a.add j)=some v) (hfit:o+cs.length<=cur.size) (h1:∀ v∈cs,v.oneCell' = true):
 (Builtin.copy_ #[dT,sT] ty #[.slice (some ⟨g,o,none⟩) dLen dCap,.slice (some a) sLen sCap]).run P w =
   .ok (goInt (Nat.min sLen dLen)) (w.setRow g (cur.toList.take o++cs++cur.toList.drop (o+cs.length)).toArray):=by
 have hl:=run_loadCells_list (P:=P) w a cs hsrc
 have hst:=run_storeCells_at P g o t cs 0 cur w hg (by simpa using hfit) h1
 cases hq:P.info? elem with
 | none=>simp[hq] at hs
 | some i =>
   have hi:i.size=size:=by simpa [hq] using hs
   simp[Builtin.copy_,run_underlying hu,Builtin.lenOf,Builtin.firstCells,sizeOf,typeInfo,hq,hi,<- hn,hl,hst]
end
section
variable {P:Program} {w:World} {ops:Array Oper} {rest:List Oper} {o:Oper} {a:Act} {Q:Exit->Act->World->Prop}
theorem wp_append_make {t tn e:TypeId} {size bytes:Nat} {kn:IntKind} (T:Nonempty (ElemOf P t e size bytes)) (htn:P.underlying tn=some (.int kn)) (hgd:o.guard=none) (s x:Operand) (ho:o.op=.call { callee:=.builtin .append,args:=#[s,x],argTypes:=#[t,tn] })
 (g i m cap:Nat) (k:IntKind) (xs:List Value) (hs:a.eval s=.slice (some ⟨g,0,none⟩) i cap) (mi:Int) (hmi:mi=(m:Int)) (hx:a.eval x=.int k mi) (hl:xs.length=i*size) (hxs:∀ (j:Nat) (v:Value),xs[j]? = some v->w.cell? ⟨g,j,none⟩=some v)
 (h0:0<m) (hcap:cap<i+m) (hn:i+m<=4000000) (hbs:bytes<=1000)
 (h:∀ (nc:Nat) (w' : World) (zs:List Value),i+m<=nc->nc<=maxLen->At w' w.heap.size e (xs++zs).toArray->(xs++zs).length=nc*size->Below w.heap.size w w' -> wpList P ops Q rest (a.put o.dst (.slice (some ⟨w.heap.size,0,none⟩) (i+m) nc)) w'):
 wpList P ops Q (o::rest) a w:=by
 obtain⟨T⟩:=T
 subst hmi
 have hmul:(i+m)*bytes<=4000000000:=Nat.mul_le_mul hn hbs
 have hmm:m*bytes<=4000000000:=Nat.le_trans (Nat.mul_le_mul_right _ (by omega)) hmul
 have hr:=run_append_grow_zeros (P:=P) w t tn o.type e T.i T.z kn T.under htn T.info T.zero ⟨g,0,none⟩ i cap xs (by rw[T.size_];exact hl) (fun j v hj=>by
  have hadd:(⟨g,0,none⟩:Addr).add j=⟨g,j,none⟩:=by unfold Addr.add;split <;> simp_all
  rw[hadd];exact hxs j v hj) m k h0 (by rw[T.size_];exact T.pos) hcap (by omega) (by rw[T.bytes_];omega)
  (growslice_fits (by omega) (by rw[T.bytes_];omega))
 have hge:=grownCap_ge w (i+m) cap e
 have hle:=grownCap_le_maxLen w (i+m) cap e (by unfold maxLen;omega)
 refine Lib.wpList_append_run w hgd s x t tn ho _ _ hs hx _ _ hr ?_
 refine h _ _ ((Builtin.zeroCells T.z.cells m++Builtin.zeroCells T.z.cells (grownCap w (i+m) cap e - (i+m))).toList) hge hle ?_ ?_ ?_
 ·have:=At.new w.drew e (xs.toArray++Builtin.zeroCells T.z.cells m++Builtin.zeroCells T.z.cells (grownCap w (i+m) cap e - (i+m)))
  have e2:(xs++(Builtin.zeroCells T.z.cells m++Builtin.zeroCells T.z.cells (grownCap w (i+m) cap e - (i+m))).toList).toArray=xs.toArray++Builtin.zeroCells T.z.cells m++Builtin.zeroCells T.z.cells (grownCap w (i+m) cap e - (i+m)):=by
   apply Array.ext'
   simp[List.append_assoc]
  rw[e2]
  exact this
 ·simp only[List.length_append,Array.toList_append,Array.length_toList,size_zeroCells,T.zsize,hl,<- Nat.add_mul]
  congr 1
  omega
 ·exact(Below.refl w.heap.size w).drew.alloc (Nat.le_refl _) _
theorem wp_copy_k {dT sT elem:TypeId} {size:Nat} (hgd:o.guard=none) (d s:Operand) (ho:o.op=.call { callee:=.builtin .copy,args:=#[d,s],argTypes:=#[dT,sT] })
 (hu:P.underlying dT=some (.slice elem)) (hsz:(P.info? elem).map (·.size)=some size)
 (g off dLen dCap:Nat) (sb so sLen sCap:Nat) (hd:a.eval d=.slice (some ⟨g,off,none⟩) dLen dCap) (hs:a.eval s=.slice (some ⟨sb,so,none⟩) sLen sCap)
 (cur:List Value) (t:TypeId) (hg:At w g t cur.toArray) (cs:List Value) (hn:cs.length=Nat.min sLen dLen*size)
 (hsrc:∀ (j:Nat) (v:Value),cs[j]? = some v->w.cell? ⟨sb,so+j,none⟩=some v) (hfit:off+cs.length<=cur.length) (h1:∀ v∈cs,v.oneCell' = true)
 (h:∀ w',At w' g t (cur.take off++(cs++cur.drop (off+cs.length))).toArray->w.grownBy w' (some g)->w'.heap.size=w.heap.size->wpList P ops Q rest (a.put o.dst (goInt (Nat.min sLen dLen))) w'):wpList P ops Q (o::rest) a w:=by
 have hrun:=run_copy_rowk (P:=P) w dT sT o.type elem size g off dLen dCap ⟨sb,so,none⟩ sLen sCap cur.toArray t cs hu hsz hg hn (fun j v hj=>by
  have hadd:(⟨sb,so,none⟩:Addr).add j=⟨sb,so+j,none⟩:=by unfold Addr.add;split <;> simp_all
  rw[hadd];exact hsrc j v hj) (by simpa using hfit) h1
 refine wpList_plain hgd fun K hK=>?_
 unfold Oper.wp
 simp[execOp,ho,resolve,invoke,builtin,hd,hs,hrun,Result.andThen]
 refine hK _ _ (h _ ?_ ⟨rfl,rfl,rfl,by simp[World.setRow],fun k _ hne=>setRow_other w g k _ (fun e=>hne (by rw[e]))⟩ (by simp[World.setRow]))
 have:=At.setRow hg (cur.take off++(cs++cur.drop (off+cs.length))).toArray
 simpa [List.append_assoc] using this
end
end
section
open Go
theorem bl_irrefl:∀ x:List UInt8,Op.bytesLess x x=false
 | []=>rfl
 | a :: x => by
   unfold Op.bytesLess
   rw[bl_irrefl x]
   simp
theorem bl_trans:∀ x y z:List UInt8,Op.bytesLess x y=true->Op.bytesLess y z=true->Op.bytesLess x z=true
 | _,[],_,h,_=>by unfold Op.bytesLess at h;cases h
 | _,_::_,[],_,h=>by unfold Op.bytesLess at h;cases h
 | [],_::_,_::_,_,_=>rfl
 | a :: x,b :: y,c :: z,h1,h2 => by
   unfold Op.bytesLess at h1 h2 ⊢
   simp only[Bool.or_eq_true,Bool.and_eq_true,decide_eq_true_eq,beq_iff_eq] at h1 h2 ⊢
   rcases h1 with h1 | ⟨rfl,h1⟩
   ·rcases h2 with h2 | ⟨rfl,h2⟩
    ·exact .inl (UInt8.lt_trans h1 h2)
    ·exact .inl h1
   ·rcases h2 with h2 | ⟨rfl,h2⟩
    ·exact .inl h2
    ·exact .inr ⟨rfl,bl_trans x y z h1 h2⟩
theorem bl_tri:∀ x y:List UInt8,Op.bytesLess x y=false->Op.bytesLess y x=false->x=y
 | [],[],_,_=>rfl
 | [],_::_,h,_=>by unfold Op.bytesLess at h;cases h
 | _::_,[],_,h=>by unfold Op.bytesLess at h;cases h
 | a :: x,b :: y,h1,h2 => by
   unfold Op.bytesLess at h1 h2
   simp only[Bool.or_eq_false_iff,Bool.and_eq_false_iff,decide_eq_false_iff_not,beq_eq_false_iff_ne] at h1 h2
   obtain⟨h1a,h1b⟩:=h1
   obtain⟨h2a,h2b⟩:=h2
   have e:a=b:=UInt8.le_antisymm (UInt8.not_lt.1 h2a) (UInt8.not_lt.1 h1a)
   subst e
   rw[bl_tri x y (h1b.resolve_left (fun h=>h rfl)) (h2b.resolve_left (fun h=>h rfl))]
namespace Own
theorem lessB_irrefl (x:ByteArray):lessB x x=false:=bl_irrefl _
theorem lessB_trans {x y z:ByteArray} (h1:lessB x y=true) (h2:lessB y z=true):lessB x z=true:=bl_trans _ _ _ h1 h2
theorem toList_inj {x y:ByteArray} (h:x.toList=y.toList):x=y:=by
 rw[ByteArray.toList_eq,ByteArray.toList_eq] at h
 exact Sha.ba_ext h
theorem lessB_tri {x y:ByteArray} (h1:lessB x y=false) (h2:lessB y x=false):x=y:=toList_inj (bl_tri _ _ h1 h2)
theorem lessB_asymm {x y:ByteArray} (h:lessB x y=true):lessB y x=false:=by
 cases h2:lessB y x with
 | false=>rfl
 | true=>have:=lessB_trans h h2;rw[lessB_irrefl] at this;cases this
section
variable {α : Type} (f : α -> ByteArray)
def Srt (l:List α):Prop:=l.Pairwise fun x y=>lessB (f x) (f y)=true
def posB (t:ByteArray):List α -> Nat
 | []=>0
 | x::l=>if lessB (f x) t then posB t l+1 else 0
def putB (x : α):List α -> List α
 | []=>[x]
 | y::l=>if lessB (f y) (f x) then y::putB x l else if f y=f x then x::l else x::y::l
variable {f}
theorem posB_le (t:ByteArray):∀ l:List α,posB f t l<=l.length
 | []=>Nat.le_refl _
 | x :: l => by
   unfold posB
   split
   ·have:=posB_le t l;simp;omega
   ·simp
theorem posB_less (t:ByteArray):∀ (l:List α) (k:Nat) (_:k<posB f t l) (h:k<l.length),lessB (f l[k]) t=true
 | [],k,hk,h=>by cases h
 | x :: l,k,hk,h => by
   unfold posB at hk
   split at hk
   ·rename_i hx
    cases k with
    | zero=>exact hx
    | succ k=>exact posB_less t l k (by omega) (by simpa using h)
   ·omega
theorem posB_unique (t:ByteArray) {l:List α} {i:Nat} (hi:i<=l.length) (h1:∀ k (h:k<l.length),k<i->lessB (f l[k]) t=true) (h2:∀ k (h:k<l.length),i<=k->lessB (f l[k]) t=false):i=posB f t l:=by
 have hp:=posB_le (f:=f) t l
 rcases Nat.lt_trichotomy i (posB f t l) with h | h | h
 ·have a:=posB_less t l i h (by omega)
  have b:=h2 i (by omega) (Nat.le_refl _)
  rw[a] at b;cases b
 ·exact h
 ·have a:=h1 (posB f t l) (by omega) h
  exfalso
  have key:∀ (l:List α),posB f t l<l.length->∀ (hh:posB f t l<l.length),lessB (f l[posB f t l]) t=false:=by
   intro l
   induction l with
   | nil=>intro h;cases h
   | cons x l ih =>
     intro hlt hh
     by_cases hx:lessB (f x) t=true
     ·have e:posB f t (x::l)=posB f t l+1:=by rw[posB,if_pos hx]
      have hl2:posB f t l<l.length:=by rw[e] at hlt;simpa using hlt
      have:=ih hl2 hl2
      simp only[e,List.getElem_cons_succ]
      exact this
     ·have e:posB f t (x::l)=0:=by rw[posB,if_neg hx]
      simp only[e,List.getElem_cons_zero]
      simpa using hx
  have b:=key l (by omega) (by omega)
  rw[a] at b
  cases b
def hitB (f : α -> ByteArray) (t:ByteArray) (l:List α):Bool:=match l[posB f t l]? with
 | none=>false
 | some y=>decide (f y=t)
theorem putB_eq (x : α):∀ l:List α,putB f x l=l.take (posB f (f x) l)++x::l.drop (posB f (f x) l+if hitB f (f x) l then 1 else 0)
 | []=>rfl
 | y :: l => by
   by_cases h:lessB (f y) (f x)=true
   ·have e:posB f (f x) (y::l)=posB f (f x) l+1:=by rw[posB,if_pos h]
    have eh:hitB f (f x) (y::l)=hitB f (f x) l:=by unfold hitB;rw[e];rfl
    rw[putB,if_pos h,putB_eq x l,e,eh,List.take_succ_cons,Nat.add_right_comm,List.drop_succ_cons]
    rfl
   ·have e:posB f (f x) (y::l)=0:=by rw[posB,if_neg h]
    have eh:hitB f (f x) (y::l)=decide (f y=f x):=by unfold hitB;rw[e];rfl
    rw[putB,if_neg h,e,eh]
    by_cases h2:f y=f x
    ·rw[if_pos h2,decide_eq_true h2];rfl
    ·rw[if_neg h2,decide_eq_false h2];rfl
theorem putB_mem (x : α):∀ (l:List α) (y : α),y∈putB f x l->y=x\/y∈l
 | [],y,h=>.inl (by simpa [putB] using h)
 | z :: l,y,h => by
   unfold putB at h
   split at h
   ·rcases List.mem_cons.1 h with rfl | h
    ·exact .inr List.mem_cons_self
    ·exact(putB_mem x l y h).imp id (List.mem_cons_of_mem _)
   ·split at h
    ·exact(List.mem_cons.1 h).imp id (List.mem_cons_of_mem _)
    ·exact List.mem_cons.1 h
theorem Srt.put (x : α):∀ {l:List α},Srt f l->Srt f (putB f x l)
 | [],_=>List.pairwise_singleton _ _
 | y :: l,h => by
   obtain⟨h1,h2⟩:=List.pairwise_cons.1 h
   unfold putB
   split
   ·rename_i hy
    refine List.pairwise_cons.2 ⟨fun z hz=>?_,Srt.put x h2⟩
    rcases putB_mem x l z hz with rfl | hz
    ·exact hy
    ·exact h1 z hz
   ·rename_i hy
    have hy' : lessB (f y) (f x)=false:=by simpa using hy
    split
    ·rename_i he
     exact List.pairwise_cons.2 ⟨fun z hz=>by rw[<- he];exact h1 z hz,h2⟩
    ·rename_i he
     have hxy:lessB (f x) (f y)=true:=by
      cases hc:lessB (f x) (f y) with
      | true=>rfl
      | false=>exact absurd (lessB_tri hy' hc) he
     refine List.pairwise_cons.2 ⟨fun z hz=>?_,h⟩
     rcases List.mem_cons.1 hz with rfl | hz
     ·exact hxy
     ·exact lessB_trans hxy (h1 z hz)
theorem srt_of_chain {ok : α -> Bool} : ∀ {l:List α} {p:Option α},chainOK ok (fun x y=>lessB (f x) (f y)) p l=true->Srt f l/\∀ q,p=some q->∀ x∈l,lessB (f q) (f x)=true
 | [],_,_=>⟨List.Pairwise.nil,fun _ _ _ h=>by cases h⟩
 | y :: l,p,h => by
   have h' : ((ok y&&(match p with | none=>true | some z=>lessB (f z) (f y)))&&chainOK ok (fun x y=>lessB (f x) (f y)) (some y) l)=true:=by cases p <;> exact h
   obtain⟨h1,h2⟩:=Bool.and_eq_true_iff.1 h'
   obtain⟨hs,hq⟩:=srt_of_chain h2
   refine⟨List.pairwise_cons.2 ⟨hq y rfl,hs⟩,?_⟩
   rintro q rfl x hx
   have hqy:lessB (f q) (f y)=true:=(Bool.and_eq_true_iff.1 h1).2
   rcases List.mem_cons.1 hx with rfl | hx
   ·exact hqy
   ·exact lessB_trans hqy (hq y rfl x hx)
end
theorem use_put:∀ (l:List KeyUse) (x:KeyUse),use l x=putB KeyUse.pub x l
 | [],_=>rfl
 | y::l,x=>by unfold use putB;rw[use_put l x]
theorem putVote_put:∀ (l:List Vote) (x:Vote),putVote l x=putB Vote.name x l
 | [],_=>rfl
 | y::l,x=>by unfold putVote putB;rw[putVote_put l x]
theorem nextOf_pos (p:ByteArray):∀ {l:List KeyUse},Srt KeyUse.pub l->nextOf l p=if hitB KeyUse.pub p l then (match l[posB KeyUse.pub p l]? with | none=>0 | some k=>k.next) else 0
 | [],_=>rfl
 | y :: l,h => by
   obtain⟨h1,h2⟩:=List.pairwise_cons.1 h
   have ih:=nextOf_pos p h2
   by_cases hy:lessB y.pub p=true
   ·have e:posB KeyUse.pub p (y::l)=posB KeyUse.pub p l+1:=by rw[posB,if_pos hy]
    have eh:hitB KeyUse.pub p (y::l)=hitB KeyUse.pub p l:=by unfold hitB;rw[e];rfl
    have hn:¬ y.pub=p:=fun e=>by rw[e,lessB_irrefl] at hy;cases hy
    have e2:nextOf (y::l) p=nextOf l p:=by
     unfold nextOf
     rw[List.find?_cons_of_neg (by simpa using hn)]
    rw[e2,ih,eh,e]
    rfl
   ·have e:posB KeyUse.pub p (y::l)=0:=by rw[posB,if_neg hy]
    have eh:hitB KeyUse.pub p (y::l)=decide (y.pub=p):=by unfold hitB;rw[e];rfl
    rw[eh,e]
    by_cases he:y.pub=p
    ·rw[decide_eq_true he]
     unfold nextOf
     rw[List.find?_cons_of_pos (by simpa using he)]
     rfl
    ·rw[decide_eq_false he]
     have:l.find? (fun k=>decide (k.pub=p))=none:=by
      rw[List.find?_eq_none]
      intro z hz hp
      have hz2:z.pub=p:=of_decide_eq_true hp
      have h3:=h1 z hz
      rw[hz2] at h3
      exact hy h3
     unfold nextOf
     rw[List.find?_cons_of_neg (by simpa using he),this]
     rfl
end Own
end
section
open Go Go.RowKit Go.Maps
theorem owKey1_any (k:Own.KeyUse) (t:ByteArray) (w:World):Calls Tryz.prog 177 #[.agg #[.string k.pub,.int .i64 k.next],.string t] w fun e w' => e=.returned (.int .i64 (cmpB k.pub t))/\Below w.heap.size w w' :=by
 have HB:=zh ((Below.refl w.heap.size w).alloc (Nat.le_refl _) (.cells #[.string k.pub,.int .i64 k.next] 91))
 go_enter Tryz.func177,Tryz.ntmps177
 go_wp2_with fail
 refine(cmpStr_any k.pub t _).mono ?_
 rintro e w2 ⟨rfl,rfl⟩
 go_wp2_with fail
 go_ret
 exact⟨rfl,HB.out⟩
theorem bsKeys_any (v:Value) (l:List Own.KeyUse) (t:ByteArray) (w:World) (h:Own.KeysC w v l) (hs:Own.Srt Own.KeyUse.pub l) (hl:l.length<=1000000):
 Calls Tryz.prog 176 #[v,.string t,.func (.func 177) #[] #[]] w fun e w' => e=.returned (.tuple #[.int .i64 (Own.posB Own.KeyUse.pub t l:Nat),.bool (Own.hitB Own.KeyUse.pub t l)])/\Below w.heap.size w w' :=by
 obtain⟨a,c,rfl⟩:=h.len
 have HL:=zh h;have HS:=zh hs;clear h hs
 go_enter Tryz.func176,Tryz.ntmps176
 go_wp2_with fail
 go_loopw [9,10] (fun i j wr=>∃ p q:Nat,p<=q/\∃ hq:q<=l.length,i=.int .i64 p/\j=.int .i64 q/\(∀ k (h:k<l.length),k<p->Own.lessB l[k].pub t=true)/\(∀ k (h:k<l.length),q<=k->Own.lessB l[k].pub t=false)/\Below w.heap.size w wr) (fun i j _=>(intOf j).toNat - (intOf i).toNat)
 case atStart=>exact⟨0,l.length,by omega,Nat.le_refl _,rfl,rfl,fun _ _ h=>by omega,fun _ _ h=>by omega,Below.refl _ _⟩
 case round=>
  obtain⟨p,q,hpq,hq,rfl,rfl,h1,h2,hb⟩:=hrel
  have HB:=zh hb;have H1:=zh h1;have H2:=zh h2
  by_cases hlt:p<q
  ·have dk:decide ((p:Int)<(q:Int))=true:=decide_eq_true (by omega)
   obtain⟨m,hm⟩:∃ m,m=(p+q)/2:=⟨_,rfl⟩
   have em:((p:Int)+(q:Int))/2=(m:Int):=by omega
   have m1:p<=m:=by omega
   have m2:m<q:=by omega
   have hml:m<l.length:=by omega
   obtain⟨b,o,ha,hbl,e0,e1⟩:=Own.KeysC.cells (HL.out.below hb) hml
   subst ha
   have hlow:Own.lessB l[m].pub t=true->∀ k (h:k<l.length),k<m+1->Own.lessB l[k].pub t=true:=fun hx k hk hkm=>by
    by_cases e:k=m
    ·subst e;exact hx
    ·exact Own.lessB_trans ((List.pairwise_iff_getElem.1 HS.out) k m hk hml (by omega)) hx
   have hhigh:Own.lessB l[m].pub t=false->∀ k (h:k<l.length),m<=k->Own.lessB l[k].pub t=false:=fun hx k hk hkm=>by
    by_cases e:k=m
    ·subst e;exact hx
    ·cases hc:Own.lessB l[k].pub t with
     | false=>rfl
     | true =>
       have:=Own.lessB_trans ((List.pairwise_iff_getElem.1 HS.out) m k hml hk (by omega)) hc
       rw[hx] at this
       cases this
   obtain⟨ku,hku⟩:∃ x,x=l[m]:=⟨_,rfl⟩
   rw[<- hku] at hlow hhigh e0 e1
   have hcall:=owKey1_any ku t wr
   have HLOW:=zh hlow;have HHIGH:=zh hhigh
   clear hb h1 h2 hm hlow hhigh hku
   cases hc:Own.lessB ku.pub t with
   | true =>
     have ec:cmpB ku.pub t = -1:=by unfold cmpB;rw[hc];rfl
     rw[ec] at hcall
     clear ec
     go_wp2_with fail
     refine hcall.mono ?_
     rintro e w' ⟨rfl,hb'⟩
     go_wp2_with fail
     exact⟨⟨m+1,q,by omega,by omega,by go_num,rfl,HLOW.out hc,H2.out,HB.out.trans (hb'.mono HB.out.size)⟩,by simp[intOf];omega⟩
   | false =>
     obtain⟨r,hr⟩:∃ r,r=cmpB ku.pub t:=⟨_,rfl⟩
     have er:0<=r:=by rw[hr];unfold cmpB;rw[hc];simp;split <;> decide
     rw[<- hr] at hcall
     have dr:decide (r<0)=false:=decide_eq_false (by omega)
     clear hr
     go_wp2_with fail
     refine hcall.mono ?_
     rintro e w' ⟨rfl,hb'⟩
     go_wp2_with fail
     exact⟨⟨p,m,by omega,by omega,rfl,rfl,H1.out,HHIGH.out hc,HB.out.trans (hb'.mono HB.out.size)⟩,by simp[intOf];omega⟩
  ·obtain rfl:p=q:=by omega
   have dk:decide ((p:Int)<(p:Int))=false:=decide_eq_false (by omega)
   have hpos:=Own.posB_unique (f:=Own.KeyUse.pub) t hq (fun k h=>h1 k h) (fun k h=>h2 k h)
   have HPOS:=zh hpos
   by_cases hpl:p<l.length
   ·have dp:decide ((p:Int)<(l.length:Int))=true:=decide_eq_true (by omega)
    obtain⟨b,o,ha,hbl,e0,e1⟩:=Own.KeysC.cells (HL.out.below hb) hpl
    subst ha
    have hge:=h2 p hpl (Nat.le_refl _)
    have hhit:Own.hitB Own.KeyUse.pub t l=decide (l[p].pub=t):=by unfold Own.hitB;rw[<- hpos,List.getElem?_eq_getElem hpl]
    obtain⟨ku,hku⟩:∃ x,x=l[p]:=⟨_,rfl⟩
    rw[<- hku] at hhit hge e0 e1
    have hcall:=owKey1_any ku t wr
    obtain⟨r,hr⟩:∃ r,r=cmpB ku.pub t:=⟨_,rfl⟩
    have er:(r==0)=Own.hitB Own.KeyUse.pub t l:=by
     rw[hhit,hr];unfold cmpB;rw[hge]
     by_cases h:ku.pub=t
     ·simp[h]
     ·simp[h]
    rw[<- hr] at hcall
    have ER:=zh er
    clear hb h1 h2 hhit hge hku hr hpos er
    go_wp2_with fail
    refine hcall.mono ?_
    rintro e w' ⟨rfl,hb'⟩
    go_wp2_with fail
    go_ret2
    exact⟨by rw[<- ER.out,<- HPOS.out];rfl,HB.out.trans (hb'.mono HB.out.size)⟩
   ·have dp:decide ((p:Int)<(l.length:Int))=false:=decide_eq_false (by omega)
    have hhit:Own.hitB Own.KeyUse.pub t l=false:=by unfold Own.hitB;rw[<- hpos,List.getElem?_eq_none (by omega)]
    have HHIT:=zh hhit
    clear hb h1 h2 hhit hpos
    go_wp2_with fail
    go_ret2
    exact⟨by rw[HHIT.out,<- HPOS.out];rfl,HB.out⟩
theorem rvVote1_any (k:Own.Vote) (t:ByteArray) (w:World):Calls Tryz.prog 64 #[.agg #[.string k.name,.string k.pub,.bool k.agrees],.string t] w fun e w' => e=.returned (.int .i64 (cmpB k.name t))/\Below w.heap.size w w' :=by
 have HB:=zh ((Below.refl w.heap.size w).alloc (Nat.le_refl _) (.cells #[.string k.name,.string k.pub,.bool k.agrees] 82))
 go_enter Tryz.func64,Tryz.ntmps64
 go_wp2_with fail
 refine(cmpStr_any k.name t _).mono ?_
 rintro e w2 ⟨rfl,rfl⟩
 go_wp2_with fail
 go_ret
 exact⟨rfl,HB.out⟩
theorem bsVotes_any (v:Value) (l:List Own.Vote) (t:ByteArray) (w:World) (h:Own.VotesC w v l) (hs:Own.Srt Own.Vote.name l) (hl:l.length<=1000000):
 Calls Tryz.prog 63 #[v,.string t,.func (.func 64) #[] #[]] w fun e w' => e=.returned (.tuple #[.int .i64 (Own.posB Own.Vote.name t l:Nat),.bool (Own.hitB Own.Vote.name t l)])/\Below w.heap.size w w' :=by
 obtain⟨a,c,rfl⟩:=h.len
 have HL:=zh h;have HS:=zh hs;clear h hs
 go_enter Tryz.func63,Tryz.ntmps63
 go_wp2_with fail
 go_loopw [9,10] (fun i j wr=>∃ p q:Nat,p<=q/\∃ hq:q<=l.length,i=.int .i64 p/\j=.int .i64 q/\(∀ k (h:k<l.length),k<p->Own.lessB l[k].name t=true)/\(∀ k (h:k<l.length),q<=k->Own.lessB l[k].name t=false)/\Below w.heap.size w wr) (fun i j _=>(intOf j).toNat - (intOf i).toNat)
 case atStart=>exact⟨0,l.length,by omega,Nat.le_refl _,rfl,rfl,fun _ _ h=>by omega,fun _ _ h=>by omega,Below.refl _ _⟩
 case round=>
  obtain⟨p,q,hpq,hq,rfl,rfl,h1,h2,hb⟩:=hrel
  have HB:=zh hb;have H1:=zh h1;have H2:=zh h2
  by_cases hlt:p<q
  ·have dk:decide ((p:Int)<(q:Int))=true:=decide_eq_true (by omega)
   obtain⟨m,hm⟩:∃ m,m=(p+q)/2:=⟨_,rfl⟩
   have em:((p:Int)+(q:Int))/2=(m:Int):=by omega
   have m1:p<=m:=by omega
   have m2:m<q:=by omega
   have hml:m<l.length:=by omega
   obtain⟨b,o,ha,hbl,e0,e1,e2⟩:=Own.VotesC.cells (HL.out.below hb) hml
   subst ha
   have hlow:Own.lessB l[m].name t=true->∀ k (h:k<l.length),k<m+1->Own.lessB l[k].name t=true:=fun hx k hk hkm=>by
    by_cases e:k=m
    ·subst e;exact hx
    ·exact Own.lessB_trans ((List.pairwise_iff_getElem.1 HS.out) k m hk hml (by omega)) hx
   have hhigh:Own.lessB l[m].name t=false->∀ k (h:k<l.length),m<=k->Own.lessB l[k].name t=false:=fun hx k hk hkm=>by
    by_cases e:k=m
    ·subst e;exact hx
    ·cases hc:Own.lessB l[k].name t with
     | false=>rfl
     | true =>
       have:=Own.lessB_trans ((List.pairwise_iff_getElem.1 HS.out) m k hml hk (by omega)) hc
       rw[hx] at this
       cases this
   obtain⟨ku,hku⟩:∃ x,x=l[m]:=⟨_,rfl⟩
   rw[<- hku] at hlow hhigh e0 e1 e2
   have hcall:=rvVote1_any ku t wr
   have HLOW:=zh hlow;have HHIGH:=zh hhigh
   clear hb h1 h2 hm hlow hhigh hku
   cases hc:Own.lessB ku.name t with
   | true =>
     have ec:cmpB ku.name t = -1:=by unfold cmpB;rw[hc];rfl
     rw[ec] at hcall
     clear ec
     go_wp2_with fail
     refine hcall.mono ?_
     rintro e w' ⟨rfl,hb'⟩
     go_wp2_with fail
     exact⟨⟨m+1,q,by omega,by omega,by go_num,rfl,HLOW.out hc,H2.out,HB.out.trans (hb'.mono HB.out.size)⟩,by simp[intOf];omega⟩
   | false =>
     obtain⟨r,hr⟩:∃ r,r=cmpB ku.name t:=⟨_,rfl⟩
     have er:0<=r:=by rw[hr];unfold cmpB;rw[hc];simp;split <;> decide
     rw[<- hr] at hcall
     have dr:decide (r<0)=false:=decide_eq_false (by omega)
     clear hr
     go_wp2_with fail
     refine hcall.mono ?_
     rintro e w' ⟨rfl,hb'⟩
     go_wp2_with fail
     exact⟨⟨p,m,by omega,by omega,rfl,rfl,H1.out,HHIGH.out hc,HB.out.trans (hb'.mono HB.out.size)⟩,by simp[intOf];omega⟩
  ·obtain rfl:p=q:=by omega
   have dk:decide ((p:Int)<(p:Int))=false:=decide_eq_false (by omega)
   have hpos:=Own.posB_unique (f:=Own.Vote.name) t hq (fun k h=>h1 k h) (fun k h=>h2 k h)
   have HPOS:=zh hpos
   by_cases hpl:p<l.length
   ·have dp:decide ((p:Int)<(l.length:Int))=true:=decide_eq_true (by omega)
    obtain⟨b,o,ha,hbl,e0,e1,e2⟩:=Own.VotesC.cells (HL.out.below hb) hpl
    subst ha
    have hge:=h2 p hpl (Nat.le_refl _)
    have hhit:Own.hitB Own.Vote.name t l=decide (l[p].name=t):=by unfold Own.hitB;rw[<- hpos,List.getElem?_eq_getElem hpl]
    obtain⟨ku,hku⟩:∃ x,x=l[p]:=⟨_,rfl⟩
    rw[<- hku] at hhit hge e0 e1 e2
    have hcall:=rvVote1_any ku t wr
    obtain⟨r,hr⟩:∃ r,r=cmpB ku.name t:=⟨_,rfl⟩
    have er:(r==0)=Own.hitB Own.Vote.name t l:=by
     rw[hhit,hr];unfold cmpB;rw[hge]
     by_cases h:ku.name=t
     ·simp[h]
     ·simp[h]
    rw[<- hr] at hcall
    have ER:=zh er
    clear hb h1 h2 hhit hge hku hr hpos er
    go_wp2_with fail
    refine hcall.mono ?_
    rintro e w' ⟨rfl,hb'⟩
    go_wp2_with fail
    go_ret2
    exact⟨by rw[<- ER.out,<- HPOS.out];rfl,HB.out.trans (hb'.mono HB.out.size)⟩
   ·have dp:decide ((p:Int)<(l.length:Int))=false:=decide_eq_false (by omega)
    have hhit:Own.hitB Own.Vote.name t l=false:=by unfold Own.hitB;rw[<- hpos,List.getElem?_eq_none (by omega)]
    have HHIT:=zh hhit
    clear hb h1 h2 hhit hpos
    go_wp2_with fail
    go_ret2
    exact⟨by rw[HHIT.out,<- HPOS.out];rfl,HB.out⟩
end
section
open Go Go.RowKit Go.Maps
theorem run_ov {fn:Nat} {tS e:TypeId} {size:Nat} (w:World)
 (hf:∀ args,(callFunc fn args).run Tryz.prog w=((Extern.SlicesOverlaps.overlaps #[tS,tS] #[4] args).run Tryz.prog w).andThen fun v w' => .ok (.value v) w')
 (ht:Tryz.prog.underlying tS=some (.slice e)) (hz:∀ w,(Go.sizeOf e).run Tryz.prog w=.ok size w) (vb b o la ca lb cb:Nat) (hne:vb≠b) (cv cb' : Array Value) (hv:At w vb e cv) (hb:At w b e cb') (h0:cb'.size≠0):
 (callFunc fn #[.slice (some ⟨vb,0,none⟩) la ca,.slice (some ⟨b,o,none⟩) lb cb]).run Tryz.prog w=.ok (.value (.bool false)) w:=by
 rw[hf,Lib.run_overlaps_apart w tS 4 e ht size hz ⟨vb,0,none⟩ ⟨b,o,none⟩ la ca lb cb hne e e cv.size cb'.size ?_ ?_ h0 (hv.free 0) (hv.free _)]
 ·rfl
 ·unfold At at hv;simp[World.shape?,hv]
 ·unfold At at hb;simp[World.shape?,hb]
theorem sizeOf_of {P:Program} {e:TypeId} {k:Nat} (h:(P.info? e).map (·.size)=some k) (w:World):(Go.sizeOf e).run P w=.ok k w:=by
 cases hq:P.info? e with
 | none=>rw[hq] at h;cases h
 | some i =>
   have hi:i.size=k:=by simpa [hq] using h
   simp[Go.sizeOf,typeInfo,hq,hi]
theorem own_of_at {w:World} {base g n cap size:Nat} {e:TypeId} {cur xs:List Value} (hg:At w g e cur.toArray) (hb:base<=g) (hn:n<=cap) (hc:cap<=maxLen) (hs:cur.length=cap*size) (ht:cur.take (n*size)=xs):w.ownsRow base e size (.slice (some ⟨g,0,none⟩) n cap) n xs:=by
 refine⟨?_,.inr ⟨g,cap,cur.toArray,rfl,hb,hg,hn,hc,by simpa using hs,by simpa using ht⟩⟩
 rw[<- ht,List.length_take,hs]
 exact Nat.min_eq_left (Nat.mul_le_mul_right _ hn)
theorem own_cur {w:World} {base g n cap size:Nat} {e:TypeId} {xs:List Value} (h:w.ownsRow base e size (.slice (some ⟨g,0,none⟩) n cap) n xs):∃ ys:List Value,At w g e (xs++ys).toArray/\base<=g/\n<=cap/\cap<=maxLen/\(xs++ys).length=cap*size/\xs.length=n*size:=by
 obtain⟨hl,⟨h0,_⟩ | ⟨g',cap',cur,hv,hb,hg,h1,h2,h3,h4⟩⟩:=h
 ·cases h0
 ·cases hv
  have e1:xs++cur.toList.drop (n*size)=cur.toList:=by rw[<- h4,List.take_append_drop]
  refine⟨cur.toList.drop (n*size),by rw[e1];exact hg,hb,h1,h2,by rw[e1];simpa using h3,hl⟩
theorem sizeinsKeys:(Tryz.prog.info? 91).map (·.size)=some 2:=by kernel_rfl
theorem insKeys_any (base n i vb:Nat) (v:Value) (xs nw:List Value) (w:World) (ho:w.ownsRow base 91 2 v n xs) (h1:∀ u∈xs,u.oneCell' = true) (hi:i<=n) (hn:n<=3000000) (hnw:nw.length=2) (hnv:At w vb 91 nw.toArray) (h2:∀ u∈nw,u.oneCell' = true) (hvb:v.ownBlock≠some vb) (hbs:base<=w.heap.size):
 Calls Tryz.prog 155 #[v,.int .i64 i,.slice (some ⟨vb,0,none⟩) 1 1] w fun e w' => ∃ v',e=.returned v' /\ w'.ownsRow base 91 2 v' (n+1) (xs.take (i*2)++(nw++xs.drop (i*2)))/\w.grownBy w' v.ownBlock/\(v'.ownBlock=v.ownBlock\/v'.ownBlock=some w.heap.size):=by
 have hrows:RowsC w (.slice (some ⟨vb,0,none⟩) 1 1) 2 1 nw:=by
  refine⟨by rw[hnw],_,_,rfl,.inr ⟨vb,0,rfl,hnv.lt,fun j u hj=>?_⟩⟩
  rw[Nat.zero_add,hnv.cell]
  simpa using hj
 have HO:=zh ho;have H1:=zh h1;have H2:=zh h2;have HNV:=zh hnv;have HR:=zh hrows;have HVB:=zh hvb
 clear h1 h2 hnv hrows hvb
 go_enter Tryz.func155,Tryz.ntmps155
 obtain⟨a,m,c,rfl⟩:=own_slice ho
 obtain rfl:=own_len ho
 by_cases hie:i=m
 ·subst hie
  have hsl:i<=c:=by
   rcases ho.2 with ⟨h0,_⟩ | ⟨g,cap,cur,h0,_,_,h3,_⟩
   ·cases h0;exact Nat.le_refl _
   ·cases h0;exact h3
  have hcz:(a=none/\c=0/\i=0)\/∃ g,a=some ⟨g,0,none⟩:=by
   rcases ho.2 with ⟨h0,h5⟩ | ⟨g,cap,cur,h0,_⟩
   ·cases h0;exact .inl ⟨rfl,rfl,h5⟩
   ·cases h0;exact .inr ⟨g,rfl⟩
  have hxl:xs.take (i*2)=xs/\xs.drop (i*2)=[]:=by
   have:=ho.1
   exact⟨List.take_of_length_le (by omega),List.drop_eq_nil_of_le (by omega)⟩
  have HXL:=zh hxl
  clear ho hxl
  rcases hcz with ⟨rfl,rfl,rfl⟩ | ⟨g,rfl⟩
  ·go_wp2_with (at_builtin;go_must (refine wp_append_rows elemKeys rfl _ _ rfl base 0 _ xs rfl HO.out (.slice (some ⟨vb,0,none⟩) 1 1) 1 nw rfl HR.out H2.out (by omega) (by omega) hbs ?_);intro v5 w5 ho5 hg5 hx5;obtain⟨va,vm,vc,rfl⟩:=own_slice ho5;have HO5:=zh ho5;have HG5:=zh hg5;have HX5:=zh hx5;clear ho5 hg5 hx5)
   go_ret
   exact⟨_,rfl,by rw[HXL.out.1,HXL.out.2,List.append_nil];exact HO5.out,HG5.out,HX5.out⟩
  ·by_cases hci:c=i
   ·subst hci
    go_wp2_with (at_builtin;go_must (refine wp_append_rows elemKeys rfl _ _ rfl base c _ xs rfl HO.out (.slice (some ⟨vb,0,none⟩) 1 1) 1 nw rfl HR.out H2.out (by omega) (by omega) hbs ?_);intro v5 w5 ho5 hg5 hx5;obtain⟨va,vm,vc,rfl⟩:=own_slice ho5;have HO5:=zh ho5;have HG5:=zh hg5;have HX5:=zh hx5;clear ho5 hg5 hx5)
    go_ret
    exact⟨_,rfl,by rw[HXL.out.1,HXL.out.2,List.append_nil];exact HO5.out,HG5.out,HX5.out⟩
   ·go_wp2_with (at_builtin;go_must (refine wp_append_rows elemKeys rfl _ _ rfl base i _ xs rfl HO.out (.slice (some ⟨vb,0,none⟩) 1 1) 1 nw rfl HR.out H2.out (by omega) (by omega) hbs ?_);intro v5 w5 ho5 hg5 hx5;obtain⟨va,vm,vc,rfl⟩:=own_slice ho5;have HO5:=zh ho5;have HG5:=zh hg5;have HX5:=zh hx5;clear ho5 hg5 hx5)
    go_ret
    exact⟨_,rfl,by rw[HXL.out.1,HXL.out.2,List.append_nil];exact HO5.out,HG5.out,HX5.out⟩
 ·have him:i<m:=by omega
  obtain⟨g,rfl⟩:∃ g,a=some ⟨g,0,none⟩:=by
   rcases ho.2 with ⟨h0,h5⟩ | ⟨g,cap,cur,h0,_⟩
   ·omega
   ·cases h0;exact⟨g,rfl⟩
  obtain⟨ys,hat,hbg,hmc,hcm,hcl,hxl⟩:=own_cur ho
  have hne:vb≠g:=fun e=>HVB.out (by rw[e];rfl)
  have HAT:=zh hat
  have de:((i:Int)==(m:Int))=false:=by rw[beq_eq_false_iff_ne];omega
  have ci:¬ c=i:=by omega
  clear ho hat
  by_cases hroom:m+1<=c
  ·have dr:decide ((c:Int)<(m:Int)+1)=false:=decide_eq_false (by omega)
   have hov:∀ o lb cb,(callFunc 178 #[.slice (some ⟨vb,0,none⟩) 1 1,.slice (some ⟨g,o,none⟩) lb cb]).run Tryz.prog w=.ok (.value (.bool false)) w:=fun o lb cb=>
    run_ov w (run_callFunc_extern Tryz.func178 (by kernel_rfl) (by kernel_rfl) (by kernel_rfl) (e:=Extern.SlicesOverlaps.overlaps #[36,36] #[4]) (by kernel_rfl) · w) Tryz.underlying36 (sizeOf_of sizeinsKeys) vb g o 1 1 lb cb hne _ _ HNV.out HAT.out (by rw[List.size_toArray];omega)
   go_wp2_with (simp only[hov])
   refine Lex.wp_region_lex (by kernel_rfl) (by kernel_rfl) ?_
   clear hov
   have mn1:Nat.min (m+1 - i) (m - i)=m - i:=by simp only[Nat.min_def];split <;> omega
   have hcs:(xs.drop (i*2)).length=(m - i)*2:=by rw[List.length_drop,hxl,Nat.sub_mul]
   have hatd:At w.drew g 91 (xs++ys).toArray:=HAT.out
   have hsrc:∀ (j:Nat) (u:Value),(xs.drop (i*2))[j]? = some u->w.drew.cell? ⟨g,i*2+j,none⟩=some u:=fun j u hj=>by
    show w.cell? ⟨g,i*2+j,none⟩=some u
    rw[HAT.out.cell]
    rw[List.getElem?_drop] at hj
    simp[List.getElem?_append_left (List.getElem?_eq_some_iff.1 hj).1,hj]
   have HATD:=zh hatd;have HCS:=zh hcs;have MN1:=zh mn1;have HSRC:=zh hsrc
   clear hatd hcs mn1 hsrc
   go_wp2_with (refine wp_copy_k rfl _ _ rfl Tryz.underlying36 sizeinsKeys g ((i+1)*2) (m - i) (c - (i+1)) g (i*2) (m+1 - i) (c - i) (by rfl) (by rfl) (xs++ys) 91 HATD.out (xs.drop (i*2)) (by rw[HCS.out,MN1.out]) HSRC.out (by rw[HCS.out,hcl];omega) (fun u hu=>H1.out u (List.mem_of_mem_drop hu)) ?_;intro w5 hat5 hg5 hz5;have HAT5:=zh hat5;have HG5:=zh hg5;clear hat5 hg5)
   refine Lex.Ends.intro (by kernel_rfl) ?_
   have hnv5:At w5 vb 91 nw.toArray:=(HG5.out.block vb HNV.out.lt (fun e=>hne (Option.some.inj e))).trans HNV.out
   have HNV5:=zh hnv5
   have mn2:Nat.min 1 (m+1 - i)=1:=by simp only[Nat.min_def];split <;> omega
   have hcl5:((xs++ys).take ((i+1)*2)++(xs.drop (i*2)++(xs++ys).drop ((i+1)*2+(xs.drop (i*2)).length))).length=c*2:=by
    simp only[List.length_append,List.length_take,List.length_drop] at hcl ⊢
    omega
   have HCL5:=zh hcl5;have MN2:=zh mn2
   clear hnv5 mn2 hcl5
   obtain⟨C5,hC5⟩:∃ C5,C5=(xs++ys).take ((i+1)*2)++(xs.drop (i*2)++(xs++ys).drop ((i+1)*2+(xs.drop (i*2)).length)):=⟨_,rfl⟩
   rw[<- hC5] at HAT5 HCL5
   have hsrc2:∀ (j:Nat) (u:Value),nw[j]? = some u->w5.cell? ⟨vb,0+j,none⟩=some u:=fun j u hj=>by
    rw[Nat.zero_add,HNV5.out.cell]
    simpa using hj
   have HC5:=zh hC5;have HSRC2:=zh hsrc2
   clear hC5 hsrc2
   go_wp2_with (refine wp_copy_k rfl _ _ rfl Tryz.underlying36 sizeinsKeys g (i*2) (m+1 - i) (c - i) vb 0 1 1 (by rfl) (by rfl) C5 91 HAT5.out nw (by rw[hnw,MN2.out]) HSRC2.out (by rw[hnw,HCL5.out];omega) H2.out ?_;intro w6 hat6 hg6 hz6;have HAT6:=zh hat6;have HG6:=zh hg6;clear hat6 hg6)
   go_wp2_with fail
   go_ret
   refine⟨_,rfl,own_of_at HAT6.out hbg (by omega) hcm ?_ ?_,?_,.inl rfl⟩
   ·have:=HCL5.out
    simp only[List.length_append,List.length_take,List.length_drop,hnw] at this ⊢
    omega
   ·have hl:=HCL5.out
    have e1:C5.take (i*2)=xs.take (i*2):=by
     rw[HC5.out,List.take_append_of_le_length (by rw[List.length_take,hcl];omega),List.take_take,Nat.min_eq_left (by omega),List.take_append_of_le_length (by omega)]
    have e2:(C5.drop (i*2+nw.length)).take ((m - i)*2)=xs.drop (i*2):=by
     have e3:i*2+nw.length=((xs++ys).take ((i+1)*2)).length:=by rw[List.length_take,hcl,hnw];omega
     rw[HC5.out,e3,List.drop_left,List.take_append_of_le_length (by rw[HCS.out];omega),List.take_of_length_le (by rw[HCS.out];omega)]
    have e4:(m+1)*2=(C5.take (i*2)).length+(nw.length+(m - i)*2):=by rw[List.length_take,hl,hnw];omega
    rw[e4,List.take_length_add_append,List.take_length_add_append,e1,e2]
   ·exact⟨HG6.out.os.trans HG5.out.os,HG6.out.tape.trans HG5.out.tape,HG6.out.output.trans HG5.out.output,Nat.le_trans HG5.out.size HG6.out.size,fun k hk hk2=>(HG6.out.block k (Nat.lt_of_lt_of_le hk HG5.out.size) hk2).trans (HG5.out.block k hk hk2)⟩
  ·have dr:decide ((c:Int)<(m:Int)+1)=true:=decide_eq_true (by omega)
   have hxi:(xs.take (i*2)).length=i*2:=by rw[List.length_take,hxl];exact Nat.min_eq_left (Nat.mul_le_mul_right _ hi)
   have HXI:=zh hxi;clear hxi
   have hxs:∀ (j:Nat) (u:Value),(xs.take (i*2))[j]? = some u->w.cell? ⟨g,j,none⟩=some u:=fun j u hj=>by
    rw[HAT.out.cell]
    rw[List.getElem?_take] at hj
    split at hj
    ·simp[List.getElem?_append_left (List.getElem?_eq_some_iff.1 hj).1,hj]
    ·cases hj
   have HXS:=zh hxs;clear hxs
   go_upto_region 10 with (at_builtin;go_must (refine wp_append_make elemKeys Tryz.underlying3 rfl _ _ rfl g i (m+1 - i) c .i64 (xs.take (i*2)) rfl _ (show _=((m+1 - i:Nat):Int) by omega) rfl HXI.out HXS.out (by omega) (by omega) (by omega) (by omega) ?_);intro nc w5 zs hnc1 hnc2 hat5 hl5 hb5;rw[show i+(m+1 - i)=m+1 by omega] at hnc1 ⊢;have HL5:=zh hl5;have HAT5:=zh hat5;have HB5:=zh hb5;have cnc:¬ nc=i:=(by omega);have cnc1:¬ nc=i+1:=(by omega);(obtain⟨G,hG⟩:∃ G,G=w.heap.size:=⟨_,rfl⟩);rw[<- hG] at HAT5 ⊢;have HGG:=zh hG;clear hl5 hat5 hb5 hG)
   have hgl:g<w.heap.size:=HAT.out.lt
   have hgG:g≠G:=by have:=HGG.out;omega
   have hvl:vb<w.heap.size:=HNV.out.lt
   have hnv5:At w5 vb 91 nw.toArray:=HNV.out.below HB5.out hvl
   have hga5:At w5 g 91 (xs++ys).toArray:=HAT.out.below HB5.out hgl
   have HNV5:=zh hnv5;have HGA5:=zh hga5
   have mn2:Nat.min 1 (m+1 - i)=1:=by simp only[Nat.min_def];split <;> omega
   have MN2:=zh mn2
   clear hnv5 hga5 mn2
   obtain⟨C5,hC5⟩:∃ C5,C5=xs.take (i*2)++zs:=⟨_,rfl⟩
   have hl5:=HL5.out
   rw[<- hC5] at HAT5 hl5
   have HC5:=zh hC5;clear hC5 HL5
   have HL5:=zh hl5;clear hl5
   have hsrc2:∀ (j:Nat) (u:Value),nw[j]? = some u->w5.cell? ⟨vb,0+j,none⟩=some u:=fun j u hj=>by
    rw[Nat.zero_add,HNV5.out.cell]
    simpa using hj
   have HSRC2:=zh hsrc2
   clear hsrc2
   go_wp2_with (refine wp_copy_k rfl _ _ rfl Tryz.underlying36 sizeinsKeys G (i*2) (m+1 - i) (nc - i) vb 0 1 1 (by rfl) (by rfl) C5 91 HAT5.out nw (by rw[hnw,MN2.out]) HSRC2.out (by rw[hnw,HL5.out];omega) H2.out ?_;intro w6 hat6 hg6 hz6;have HAT6:=zh hat6;have HG6:=zh hg6;clear hat6 hg6)
   have hga6:At w6 g 91 (xs++ys).toArray:=(HG6.out.block g (Nat.lt_of_lt_of_le hgl HB5.out.size) (fun e=>hgG (Option.some.inj e))).trans HGA5.out
   have HGA6:=zh hga6
   have hl6:(C5.take (i*2)++(nw++C5.drop (i*2+nw.length))).length=nc*2:=by
    simp only[List.length_append,List.length_take,List.length_drop,hnw,HL5.out]
    omega
   obtain⟨C6,hC6⟩:∃ C6,C6=C5.take (i*2)++(nw++C5.drop (i*2+nw.length)):=⟨_,rfl⟩
   rw[<- hC6] at HAT6 hl6
   have HC6:=zh hC6;have HL6:=zh hl6
   clear hga6 hC6 hl6
   go_wp2_with fail
   refine Lex.wp_region_lex (by kernel_rfl) (by kernel_rfl) ?_
   have mn1:Nat.min (m - i) (m - i)=m - i:=Nat.min_self _
   have hcs:(xs.drop (i*2)).length=(m - i)*2:=by rw[List.length_drop,hxl,Nat.sub_mul]
   have hatd:At w6.drew G 91 C6.toArray:=HAT6.out
   have hsrc:∀ (j:Nat) (u:Value),(xs.drop (i*2))[j]? = some u->w6.drew.cell? ⟨g,i*2+j,none⟩=some u:=fun j u hj=>by
    show w6.cell? ⟨g,i*2+j,none⟩=some u
    rw[HGA6.out.cell]
    rw[List.getElem?_drop] at hj
    simp[List.getElem?_append_left (List.getElem?_eq_some_iff.1 hj).1,hj]
   have HATD:=zh hatd;have HCS:=zh hcs;have MN1:=zh mn1;have HSRC:=zh hsrc
   clear hatd hcs mn1 hsrc
   go_wp2_with (refine wp_copy_k rfl _ _ rfl Tryz.underlying36 sizeinsKeys G ((i+1)*2) (m - i) (nc - (i+1)) g (i*2) (m - i) (c - i) (by rfl) (by rfl) C6 91 HATD.out (xs.drop (i*2)) (by rw[HCS.out,MN1.out]) HSRC.out (by rw[HCS.out,HL6.out];omega) (fun u hu=>H1.out u (List.mem_of_mem_drop hu)) ?_;intro w7 hat7 hg7 hz7;have HAT7:=zh hat7;have HG7:=zh hg7;clear hat7 hg7)
   refine Lex.Ends.intro (by kernel_rfl) ?_
   go_wp2_with fail
   go_ret
   refine⟨_,rfl,own_of_at HAT7.out (by have:=HGG.out;omega) hnc1 hnc2 ?_ ?_,?_,.inr (by rw[HGG.out];rfl)⟩
   ·simp only[List.length_append,List.length_take,List.length_drop,HCS.out,HL6.out]
    omega
   ·have e1 : C6.take ((i + 1) * 2) = xs.take (i * 2) ++ nw :=by
     have e2:C5.take (i*2)=xs.take (i*2):=by rw[HC5.out,List.take_append_of_le_length (by rw[HXI.out];omega),List.take_of_length_le (by rw[HXI.out];omega)]
     have e3:(i+1)*2=(xs.take (i*2)).length+(nw.length+0):=by rw[HXI.out,hnw];omega
     rw[HC6.out,e2,e3,List.take_length_add_append,List.take_length_add_append,List.take_zero,List.append_nil]
    have e4:(m+1)*2=(xs.take (i*2)).length+(nw.length+((xs.drop (i*2)).length+0)):=by rw[HXI.out,hnw,HCS.out];omega
    rw[e1,List.append_assoc,e4,List.take_length_add_append,List.take_length_add_append,List.take_length_add_append,List.take_zero,List.append_nil]
   ·refine⟨?_,?_,?_,?_,fun k hk hk2=>?_⟩
    ·exact(HG7.out.os.trans HG6.out.os).trans HB5.out.os
    ·exact(HG7.out.tape.trans HG6.out.tape).trans HB5.out.tape
    ·exact(HG7.out.output.trans HG6.out.output).trans HB5.out.output
    ·exact Nat.le_trans HB5.out.size (Nat.le_trans HG6.out.size HG7.out.size)
    ·have hkG:some k≠some G:=fun e=>by have:=Option.some.inj e;have:=HGG.out;omega
     have k5:=HB5.out.block k hk
     have s5:=HB5.out.size
     exact((HG7.out.block k (by show k<w6.heap.size;have:=HG6.out.size;omega) hkG).trans (HG6.out.block k (by omega) hkG)).trans k5
theorem sizeinsVotes:(Tryz.prog.info? 82).map (·.size)=some 3:=by kernel_rfl
theorem insVotes_any (base n i vb:Nat) (v:Value) (xs nw:List Value) (w:World) (ho:w.ownsRow base 82 3 v n xs) (h1:∀ u∈xs,u.oneCell' = true) (hi:i<=n) (hn:n<=3000000) (hnw:nw.length=3) (hnv:At w vb 82 nw.toArray) (h2:∀ u∈nw,u.oneCell' = true) (hvb:v.ownBlock≠some vb) (hbs:base<=w.heap.size):
 Calls Tryz.prog 66 #[v,.int .i64 i,.slice (some ⟨vb,0,none⟩) 1 1] w fun e w' => ∃ v',e=.returned v' /\ w'.ownsRow base 82 3 v' (n+1) (xs.take (i*3)++(nw++xs.drop (i*3)))/\w.grownBy w' v.ownBlock/\(v'.ownBlock=v.ownBlock\/v'.ownBlock=some w.heap.size):=by
 have hrows:RowsC w (.slice (some ⟨vb,0,none⟩) 1 1) 3 1 nw:=by
  refine⟨by rw[hnw],_,_,rfl,.inr ⟨vb,0,rfl,hnv.lt,fun j u hj=>?_⟩⟩
  rw[Nat.zero_add,hnv.cell]
  simpa using hj
 have HO:=zh ho;have H1:=zh h1;have H2:=zh h2;have HNV:=zh hnv;have HR:=zh hrows;have HVB:=zh hvb
 clear h1 h2 hnv hrows hvb
 go_enter Tryz.func66,Tryz.ntmps66
 obtain⟨a,m,c,rfl⟩:=own_slice ho
 obtain rfl:=own_len ho
 by_cases hie:i=m
 ·subst hie
  have hsl:i<=c:=by
   rcases ho.2 with ⟨h0,_⟩ | ⟨g,cap,cur,h0,_,_,h3,_⟩
   ·cases h0;exact Nat.le_refl _
   ·cases h0;exact h3
  have hcz:(a=none/\c=0/\i=0)\/∃ g,a=some ⟨g,0,none⟩:=by
   rcases ho.2 with ⟨h0,h5⟩ | ⟨g,cap,cur,h0,_⟩
   ·cases h0;exact .inl ⟨rfl,rfl,h5⟩
   ·cases h0;exact .inr ⟨g,rfl⟩
  have hxl:xs.take (i*3)=xs/\xs.drop (i*3)=[]:=by
   have:=ho.1
   exact⟨List.take_of_length_le (by omega),List.drop_eq_nil_of_le (by omega)⟩
  have HXL:=zh hxl
  clear ho hxl
  rcases hcz with ⟨rfl,rfl,rfl⟩ | ⟨g,rfl⟩
  ·go_wp2_with (at_builtin;go_must (refine wp_append_rows elemVotes rfl _ _ rfl base 0 _ xs rfl HO.out (.slice (some ⟨vb,0,none⟩) 1 1) 1 nw rfl HR.out H2.out (by omega) (by omega) hbs ?_);intro v5 w5 ho5 hg5 hx5;obtain⟨va,vm,vc,rfl⟩:=own_slice ho5;have HO5:=zh ho5;have HG5:=zh hg5;have HX5:=zh hx5;clear ho5 hg5 hx5)
   go_ret
   exact⟨_,rfl,by rw[HXL.out.1,HXL.out.2,List.append_nil];exact HO5.out,HG5.out,HX5.out⟩
  ·by_cases hci:c=i
   ·subst hci
    go_wp2_with (at_builtin;go_must (refine wp_append_rows elemVotes rfl _ _ rfl base c _ xs rfl HO.out (.slice (some ⟨vb,0,none⟩) 1 1) 1 nw rfl HR.out H2.out (by omega) (by omega) hbs ?_);intro v5 w5 ho5 hg5 hx5;obtain⟨va,vm,vc,rfl⟩:=own_slice ho5;have HO5:=zh ho5;have HG5:=zh hg5;have HX5:=zh hx5;clear ho5 hg5 hx5)
    go_ret
    exact⟨_,rfl,by rw[HXL.out.1,HXL.out.2,List.append_nil];exact HO5.out,HG5.out,HX5.out⟩
   ·go_wp2_with (at_builtin;go_must (refine wp_append_rows elemVotes rfl _ _ rfl base i _ xs rfl HO.out (.slice (some ⟨vb,0,none⟩) 1 1) 1 nw rfl HR.out H2.out (by omega) (by omega) hbs ?_);intro v5 w5 ho5 hg5 hx5;obtain⟨va,vm,vc,rfl⟩:=own_slice ho5;have HO5:=zh ho5;have HG5:=zh hg5;have HX5:=zh hx5;clear ho5 hg5 hx5)
    go_ret
    exact⟨_,rfl,by rw[HXL.out.1,HXL.out.2,List.append_nil];exact HO5.out,HG5.out,HX5.out⟩
 ·have him:i<m:=by omega
  obtain⟨g,rfl⟩:∃ g,a=some ⟨g,0,none⟩:=by
   rcases ho.2 with ⟨h0,h5⟩ | ⟨g,cap,cur,h0,_⟩
   ·omega
   ·cases h0;exact⟨g,rfl⟩
  obtain⟨ys,hat,hbg,hmc,hcm,hcl,hxl⟩:=own_cur ho
  have hne:vb≠g:=fun e=>HVB.out (by rw[e];rfl)
  have HAT:=zh hat
  have de:((i:Int)==(m:Int))=false:=by rw[beq_eq_false_iff_ne];omega
  have ci:¬ c=i:=by omega
  clear ho hat
  by_cases hroom:m+1<=c
  ·have dr:decide ((c:Int)<(m:Int)+1)=false:=decide_eq_false (by omega)
   have hov:∀ o lb cb,(callFunc 100 #[.slice (some ⟨vb,0,none⟩) 1 1,.slice (some ⟨g,o,none⟩) lb cb]).run Tryz.prog w=.ok (.value (.bool false)) w:=fun o lb cb=>
    run_ov w (run_callFunc_extern Tryz.func100 (by kernel_rfl) (by kernel_rfl) (by kernel_rfl) (e:=Extern.SlicesOverlaps.overlaps #[44,44] #[4]) (by kernel_rfl) · w) Tryz.underlying44 (sizeOf_of sizeinsVotes) vb g o 1 1 lb cb hne _ _ HNV.out HAT.out (by rw[List.size_toArray];omega)
   go_wp2_with (simp only[hov])
   refine Lex.wp_region_lex (by kernel_rfl) (by kernel_rfl) ?_
   clear hov
   have mn1:Nat.min (m+1 - i) (m - i)=m - i:=by simp only[Nat.min_def];split <;> omega
   have hcs:(xs.drop (i*3)).length=(m - i)*3:=by rw[List.length_drop,hxl,Nat.sub_mul]
   have hatd:At w.drew g 82 (xs++ys).toArray:=HAT.out
   have hsrc:∀ (j:Nat) (u:Value),(xs.drop (i*3))[j]? = some u->w.drew.cell? ⟨g,i*3+j,none⟩=some u:=fun j u hj=>by
    show w.cell? ⟨g,i*3+j,none⟩=some u
    rw[HAT.out.cell]
    rw[List.getElem?_drop] at hj
    simp[List.getElem?_append_left (List.getElem?_eq_some_iff.1 hj).1,hj]
   have HATD:=zh hatd;have HCS:=zh hcs;have MN1:=zh mn1;have HSRC:=zh hsrc
   clear hatd hcs mn1 hsrc
   go_wp2_with (refine wp_copy_k rfl _ _ rfl Tryz.underlying44 sizeinsVotes g ((i+1)*3) (m - i) (c - (i+1)) g (i*3) (m+1 - i) (c - i) (by rfl) (by rfl) (xs++ys) 82 HATD.out (xs.drop (i*3)) (by rw[HCS.out,MN1.out]) HSRC.out (by rw[HCS.out,hcl];omega) (fun u hu=>H1.out u (List.mem_of_mem_drop hu)) ?_;intro w5 hat5 hg5 hz5;have HAT5:=zh hat5;have HG5:=zh hg5;clear hat5 hg5)
   refine Lex.Ends.intro (by kernel_rfl) ?_
   have hnv5:At w5 vb 82 nw.toArray:=(HG5.out.block vb HNV.out.lt (fun e=>hne (Option.some.inj e))).trans HNV.out
   have HNV5:=zh hnv5
   have mn2:Nat.min 1 (m+1 - i)=1:=by simp only[Nat.min_def];split <;> omega
   have hcl5:((xs++ys).take ((i+1)*3)++(xs.drop (i*3)++(xs++ys).drop ((i+1)*3+(xs.drop (i*3)).length))).length=c*3:=by
    simp only[List.length_append,List.length_take,List.length_drop] at hcl ⊢
    omega
   have HCL5:=zh hcl5;have MN2:=zh mn2
   clear hnv5 mn2 hcl5
   obtain⟨C5,hC5⟩:∃ C5,C5=(xs++ys).take ((i+1)*3)++(xs.drop (i*3)++(xs++ys).drop ((i+1)*3+(xs.drop (i*3)).length)):=⟨_,rfl⟩
   rw[<- hC5] at HAT5 HCL5
   have hsrc2:∀ (j:Nat) (u:Value),nw[j]? = some u->w5.cell? ⟨vb,0+j,none⟩=some u:=fun j u hj=>by
    rw[Nat.zero_add,HNV5.out.cell]
    simpa using hj
   have HC5:=zh hC5;have HSRC2:=zh hsrc2
   clear hC5 hsrc2
   go_wp2_with (refine wp_copy_k rfl _ _ rfl Tryz.underlying44 sizeinsVotes g (i*3) (m+1 - i) (c - i) vb 0 1 1 (by rfl) (by rfl) C5 82 HAT5.out nw (by rw[hnw,MN2.out]) HSRC2.out (by rw[hnw,HCL5.out];omega) H2.out ?_;intro w6 hat6 hg6 hz6;have HAT6:=zh hat6;have HG6:=zh hg6;clear hat6 hg6)
   go_wp2_with fail
   go_ret
   refine⟨_,rfl,own_of_at HAT6.out hbg (by omega) hcm ?_ ?_,?_,.inl rfl⟩
   ·have:=HCL5.out
    simp only[List.length_append,List.length_take,List.length_drop,hnw] at this ⊢
    omega
   ·have hl:=HCL5.out
    have e1:C5.take (i*3)=xs.take (i*3):=by
     rw[HC5.out,List.take_append_of_le_length (by rw[List.length_take,hcl];omega),List.take_take,Nat.min_eq_left (by omega),List.take_append_of_le_length (by omega)]
    have e2:(C5.drop (i*3+nw.length)).take ((m - i)*3)=xs.drop (i*3):=by
     have e3:i*3+nw.length=((xs++ys).take ((i+1)*3)).length:=by rw[List.length_take,hcl,hnw];omega
     rw[HC5.out,e3,List.drop_left,List.take_append_of_le_length (by rw[HCS.out];omega),List.take_of_length_le (by rw[HCS.out];omega)]
    have e4:(m+1)*3=(C5.take (i*3)).length+(nw.length+(m - i)*3):=by rw[List.length_take,hl,hnw];omega
    rw[e4,List.take_length_add_append,List.take_length_add_append,e1,e2]
   ·exact⟨HG6.out.os.trans HG5.out.os,HG6.out.tape.trans HG5.out.tape,HG6.out.output.trans HG5.out.output,Nat.le_trans HG5.out.size HG6.out.size,fun k hk hk2=>(HG6.out.block k (Nat.lt_of_lt_of_le hk HG5.out.size) hk2).trans (HG5.out.block k hk hk2)⟩
  ·have dr:decide ((c:Int)<(m:Int)+1)=true:=decide_eq_true (by omega)
   have hxi:(xs.take (i*3)).length=i*3:=by rw[List.length_take,hxl];exact Nat.min_eq_left (Nat.mul_le_mul_right _ hi)
   have HXI:=zh hxi;clear hxi
   have hxs:∀ (j:Nat) (u:Value),(xs.take (i*3))[j]? = some u->w.cell? ⟨g,j,none⟩=some u:=fun j u hj=>by
    rw[HAT.out.cell]
    rw[List.getElem?_take] at hj
    split at hj
    ·simp[List.getElem?_append_left (List.getElem?_eq_some_iff.1 hj).1,hj]
    ·cases hj
   have HXS:=zh hxs;clear hxs
   go_upto_region 10 with (at_builtin;go_must (refine wp_append_make elemVotes Tryz.underlying3 rfl _ _ rfl g i (m+1 - i) c .i64 (xs.take (i*3)) rfl _ (show _=((m+1 - i:Nat):Int) by omega) rfl HXI.out HXS.out (by omega) (by omega) (by omega) (by omega) ?_);intro nc w5 zs hnc1 hnc2 hat5 hl5 hb5;rw[show i+(m+1 - i)=m+1 by omega] at hnc1 ⊢;have HL5:=zh hl5;have HAT5:=zh hat5;have HB5:=zh hb5;have cnc:¬ nc=i:=(by omega);have cnc1:¬ nc=i+1:=(by omega);(obtain⟨G,hG⟩:∃ G,G=w.heap.size:=⟨_,rfl⟩);rw[<- hG] at HAT5 ⊢;have HGG:=zh hG;clear hl5 hat5 hb5 hG)
   have hgl:g<w.heap.size:=HAT.out.lt
   have hgG:g≠G:=by have:=HGG.out;omega
   have hvl:vb<w.heap.size:=HNV.out.lt
   have hnv5:At w5 vb 82 nw.toArray:=HNV.out.below HB5.out hvl
   have hga5:At w5 g 82 (xs++ys).toArray:=HAT.out.below HB5.out hgl
   have HNV5:=zh hnv5;have HGA5:=zh hga5
   have mn2:Nat.min 1 (m+1 - i)=1:=by simp only[Nat.min_def];split <;> omega
   have MN2:=zh mn2
   clear hnv5 hga5 mn2
   obtain⟨C5,hC5⟩:∃ C5,C5=xs.take (i*3)++zs:=⟨_,rfl⟩
   have hl5:=HL5.out
   rw[<- hC5] at HAT5 hl5
   have HC5:=zh hC5;clear hC5 HL5
   have HL5:=zh hl5;clear hl5
   have hsrc2:∀ (j:Nat) (u:Value),nw[j]? = some u->w5.cell? ⟨vb,0+j,none⟩=some u:=fun j u hj=>by
    rw[Nat.zero_add,HNV5.out.cell]
    simpa using hj
   have HSRC2:=zh hsrc2
   clear hsrc2
   go_wp2_with (refine wp_copy_k rfl _ _ rfl Tryz.underlying44 sizeinsVotes G (i*3) (m+1 - i) (nc - i) vb 0 1 1 (by rfl) (by rfl) C5 82 HAT5.out nw (by rw[hnw,MN2.out]) HSRC2.out (by rw[hnw,HL5.out];omega) H2.out ?_;intro w6 hat6 hg6 hz6;have HAT6:=zh hat6;have HG6:=zh hg6;clear hat6 hg6)
   have hga6:At w6 g 82 (xs++ys).toArray:=(HG6.out.block g (Nat.lt_of_lt_of_le hgl HB5.out.size) (fun e=>hgG (Option.some.inj e))).trans HGA5.out
   have HGA6:=zh hga6
   have hl6:(C5.take (i*3)++(nw++C5.drop (i*3+nw.length))).length=nc*3:=by
    simp only[List.length_append,List.length_take,List.length_drop,hnw,HL5.out]
    omega
   obtain⟨C6,hC6⟩:∃ C6,C6=C5.take (i*3)++(nw++C5.drop (i*3+nw.length)):=⟨_,rfl⟩
   rw[<- hC6] at HAT6 hl6
   have HC6:=zh hC6;have HL6:=zh hl6
   clear hga6 hC6 hl6
   go_wp2_with fail
   refine Lex.wp_region_lex (by kernel_rfl) (by kernel_rfl) ?_
   have mn1:Nat.min (m - i) (m - i)=m - i:=Nat.min_self _
   have hcs:(xs.drop (i*3)).length=(m - i)*3:=by rw[List.length_drop,hxl,Nat.sub_mul]
   have hatd:At w6.drew G 82 C6.toArray:=HAT6.out
   have hsrc:∀ (j:Nat) (u:Value),(xs.drop (i*3))[j]? = some u->w6.drew.cell? ⟨g,i*3+j,none⟩=some u:=fun j u hj=>by
    show w6.cell? ⟨g,i*3+j,none⟩=some u
    rw[HGA6.out.cell]
    rw[List.getElem?_drop] at hj
    simp[List.getElem?_append_left (List.getElem?_eq_some_iff.1 hj).1,hj]
   have HATD:=zh hatd;have HCS:=zh hcs;have MN1:=zh mn1;have HSRC:=zh hsrc
   clear hatd hcs mn1 hsrc
   go_wp2_with (refine wp_copy_k rfl _ _ rfl Tryz.underlying44 sizeinsVotes G ((i+1)*3) (m - i) (nc - (i+1)) g (i*3) (m - i) (c - i) (by rfl) (by rfl) C6 82 HATD.out (xs.drop (i*3)) (by rw[HCS.out,MN1.out]) HSRC.out (by rw[HCS.out,HL6.out];omega) (fun u hu=>H1.out u (List.mem_of_mem_drop hu)) ?_;intro w7 hat7 hg7 hz7;have HAT7:=zh hat7;have HG7:=zh hg7;clear hat7 hg7)
   refine Lex.Ends.intro (by kernel_rfl) ?_
   go_wp2_with fail
   go_ret
   refine⟨_,rfl,own_of_at HAT7.out (by have:=HGG.out;omega) hnc1 hnc2 ?_ ?_,?_,.inr (by rw[HGG.out];rfl)⟩
   ·simp only[List.length_append,List.length_take,List.length_drop,HCS.out,HL6.out]
    omega
   ·have e1 : C6.take ((i + 1) * 3) = xs.take (i * 3) ++ nw :=by
     have e2:C5.take (i*3)=xs.take (i*3):=by rw[HC5.out,List.take_append_of_le_length (by rw[HXI.out];omega),List.take_of_length_le (by rw[HXI.out];omega)]
     have e3:(i+1)*3=(xs.take (i*3)).length+(nw.length+0):=by rw[HXI.out,hnw];omega
     rw[HC6.out,e2,e3,List.take_length_add_append,List.take_length_add_append,List.take_zero,List.append_nil]
    have e4:(m+1)*3=(xs.take (i*3)).length+(nw.length+((xs.drop (i*3)).length+0)):=by rw[HXI.out,hnw,HCS.out];omega
    rw[e1,List.append_assoc,e4,List.take_length_add_append,List.take_length_add_append,List.take_length_add_append,List.take_zero,List.append_nil]
   ·refine⟨?_,?_,?_,?_,fun k hk hk2=>?_⟩
    ·exact(HG7.out.os.trans HG6.out.os).trans HB5.out.os
    ·exact(HG7.out.tape.trans HG6.out.tape).trans HB5.out.tape
    ·exact(HG7.out.output.trans HG6.out.output).trans HB5.out.output
    ·exact Nat.le_trans HB5.out.size (Nat.le_trans HG6.out.size HG7.out.size)
    ·have hkG:some k≠some G:=fun e=>by have:=Option.some.inj e;have:=HGG.out;omega
     have k5:=HB5.out.block k hk
     have s5:=HB5.out.size
     exact((HG7.out.block k (by show k<w6.heap.size;have:=HG6.out.size;omega) hkG).trans (HG6.out.block k (by omega) hkG)).trans k5
end
section
open Go Go.RowKit Go.Maps
theorem one_flat {css:List (List Value)} (h:∀ cs∈css,∀ u∈cs,u.oneCell' = true):∀ u∈css.flatten,u.oneCell' = true:=by
 intro u hu
 obtain⟨cs,h1,h2⟩:=List.mem_flatten.1 hu
 exact h cs h1 u h2
theorem flat_cell {css:List (List Value)} {k:Nat} (h:∀ cs∈css,cs.length=k):∀ (i j:Nat) (hi:i<css.length),j<k->css.flatten[i*k+j]? = (css[i])[j]? :=by
 induction css with
 | nil=>intro i j hi;cases hi
 | cons c css ih =>
   intro i j hi hj
   have hc:c.length=k:=h c List.mem_cons_self
   rw[List.flatten_cons]
   cases i with
   | zero=>rw[Nat.zero_mul,Nat.zero_add,List.getElem?_append_left (by omega)];rfl
   | succ i =>
     have hi2:i<css.length:=by simpa using hi
     rw[Nat.succ_mul,List.getElem?_append_right (by omega),hc,show i*k+k+j - k=i*k+j by omega,ih (fun cs hcs=>h cs (List.mem_cons_of_mem _ hcs)) i j hi2 hj]
     rfl
namespace Own
structure SpRow (w:World) (g:Nat) (F:Nat->Prop) (S:List Space):Prop where
 row:∃ (cur:Array Value) (vs:Nat->Value),At w g 70 cur/\∀ i (hi:i<S.length),cur[i*3]? = some (.string S[i].pre)/\cur[i*3+1]? = some (vs i)/\cur[i*3+2]? = some (.int .i64 S[i].threshold)/\ListF 2 RMember F w (vs i) S[i].members
theorem SpRow.mono {w:World} {g:Nat} {F G:Nat->Prop} {S:List Space} (h:SpRow w g F S) (hF:∀ k,F k->k<w.heap.size->G k):SpRow w g G S:=by
 obtain⟨cur,vs,h1,h2⟩:=h.row
 exact⟨cur,vs,h1,fun i hi=>by obtain⟨a,b,c,d⟩:=h2 i hi;exact⟨a,b,c,d.mono hF⟩⟩
theorem SpRow.keep {w w' : World} {g:Nat} {F:Nat->Prop} {S:List Space} (h:SpRow w g F S) (hs:w.heap.size<=w'.heap.size) (hk:∀ k,k=g\/F k->k<w.heap.size->w'.heap[k]? = w.heap[k]?):SpRow w' g F S:=by
 obtain⟨cur,vs,h1,h2⟩:=h.row
 exact⟨cur,vs,h1.keep (hk g (.inl rfl) h1.lt),fun i hi=>by obtain⟨a,b,c,d⟩:=h2 i hi;exact⟨a,b,c,d.keep hs fun k hf hl=>hk k (.inr hf) hl⟩⟩
theorem SpRow.below {w w' : World} {g:Nat} {F:Nat->Prop} {S:List Space} (h:SpRow w g F S) (hb:Below w.heap.size w w'):SpRow w' g F S:=h.keep hb.size fun k _ hl=>hb.block k hl
theorem SpRow.list {w:World} {g n c:Nat} {F G:Nat->Prop} {S:List Space} (h:SpRow w g F S) (hg:G g) (hF:∀ k,F k->k<w.heap.size->G k) (hn:n=S.length):ListF 3 RSpace G w (.slice (some ⟨g,0,none⟩) n c) S:=by
 obtain⟨cur,vs,h1,h2⟩:=h.row
 subst hn
 refine⟨_,c,rfl,.inr ⟨g,0,rfl,hg,h1.lt,fun i hi=>?_⟩⟩
 obtain⟨a,b,d,e⟩:=h2 i hi
 refine⟨[.string S[i].pre,vs i,.int .i64 S[i].threshold],rfl,fun j u hj=>?_,vs i,rfl,e.mono hF⟩
 rw[Nat.zero_add,h1.cell]
 match j,hj with
 | 0,hj=>rw[<- hj];exact a
 | 1,hj=>rw[<- hj];exact b
 | 2,hj=>rw[<- hj];exact d
theorem SpRow.set {w:World} {g k:Nat} {F:Nat->Prop} {S:List Space} (h:SpRow w g F S) (hF:∀ k,F k->k≠g) (hk:k<S.length) (v' : Value) (hv:ListF 2 RMember F w v' S[k].members):
 SpRow (((w.setCell ⟨g,k*3,none⟩ (.string S[k].pre)).setCell ⟨g,k*3+1,none⟩ v').setCell ⟨g,k*3+2,none⟩ (.int .i64 S[k].threshold)) g F S:=by
 obtain⟨cur,vs,h1,h2⟩:=h.row
 have keep:∀ (l:List Member) (v:Value),ListF 2 RMember F w v l->ListF 2 RMember F (((w.setCell ⟨g,k*3,none⟩ (.string S[k].pre)).setCell ⟨g,k*3+1,none⟩ v').setCell ⟨g,k*3+2,none⟩ (.int .i64 S[k].threshold)) v l:=fun l v hl=>
  hl.keep (by simp[World.setCell]) (fun j hj _=>by rw[heap_setCell_other _ _ _ _ (hF j hj),heap_setCell_other _ _ _ _ (hF j hj),heap_setCell_other _ _ _ _ (hF j hj)])
 refine⟨_,fun i=>if i=k then v' else vs i,((h1.set (k*3) _).set (k*3+1) _).set (k*3+2) _,fun i hi=>?_⟩
 obtain⟨a,b,d,e⟩:=h2 i hi
 by_cases hik:i=k
 ·subst hik
  have s0:=(Array.getElem?_eq_some_iff.1 a).1
  have s1:=(Array.getElem?_eq_some_iff.1 b).1
  have s2:=(Array.getElem?_eq_some_iff.1 d).1
  refine⟨?_,?_,?_,?_⟩
  ·rw[Array.getElem?_setIfInBounds_ne (by omega),Array.getElem?_setIfInBounds_ne (by omega),Array.getElem?_setIfInBounds_self_of_lt s0]
  ·show _=some (if i=i then v' else vs i)
   rw[Array.getElem?_setIfInBounds_ne (by omega),Array.getElem?_setIfInBounds_self_of_lt (by simpa using s1),if_pos rfl]
  ·rw[Array.getElem?_setIfInBounds_self_of_lt (by simpa using s2)]
  ·show ListF _ _ _ _ (if i=i then v' else vs i) _
   rw[if_pos rfl];exact keep _ _ hv
 ·refine⟨?_,?_,?_,?_⟩
  ·rw[Array.getElem?_setIfInBounds_ne (by omega),Array.getElem?_setIfInBounds_ne (by omega),Array.getElem?_setIfInBounds_ne (by omega)];exact a
  ·show _=some (if i=k then v' else vs i)
   rw[Array.getElem?_setIfInBounds_ne (by omega),Array.getElem?_setIfInBounds_ne (by omega),Array.getElem?_setIfInBounds_ne (by omega),if_neg hik];exact b
  ·rw[Array.getElem?_setIfInBounds_ne (by omega),Array.getElem?_setIfInBounds_ne (by omega),Array.getElem?_setIfInBounds_ne (by omega)];exact d
  ·show ListF _ _ _ _ (if i=k then v' else vs i) _
   rw[if_neg hik];exact keep _ _ e
end Own
theorem clSpaces2_any (F:Nat->Prop) (v:Value) (S:List Own.Space) (w:World) (h:ListF 3 Own.RSpace F w v S) (hn:S.length<=3000000):
 Calls Tryz.prog 98 #[v] w fun e w' => ∃ a c,e=.returned (.slice a S.length c)/\(S.length=0\/∃ g,a=some ⟨g,0,none⟩/\w.heap.size<=g/\Own.SpRow w' g F S)/\Below w.heap.size w w' :=by
 obtain⟨css,h1,h2,h3⟩:=ListF.cells h
 have hc3:∀ cs∈css,cs.length=3:=fun cs hcs=>by
  obtain⟨i,hi,rfl⟩:=List.getElem_of_mem hcs
  exact(h2 i (by omega) hi).1
 have hone:∀ u∈css.flatten,u.oneCell' = true:=one_flat fun cs hcs u hu=>by
  obtain⟨i,hi,rfl⟩:=List.getElem_of_mem hcs
  obtain⟨_,v,hv,hm⟩:=h2 i (by omega) hi
  rw[hv] at hu
  obtain⟨a,c,rfl⟩:=hm.len
  simp at hu
  rcases hu with rfl | rfl | rfl <;> rfl
 refine(clSpaces_any v S.length css.flatten w h3 hone hn).mono ?_
 rintro e w' ⟨v',rfl,ho,hb⟩
 obtain⟨a,m,c,rfl⟩:=own_slice ho
 obtain rfl:=own_len ho
 refine⟨a,c,rfl,?_,hb⟩
 by_cases h0:S.length=0
 ·exact .inl h0
 ·obtain⟨g,cap,hv,_⟩:=own_cell ho (by omega)
  cases hv
  obtain⟨ys,hat,hbg,_,_,_,hxl⟩:=own_cur ho
  refine .inr ⟨g,rfl,hbg,⟨_,fun i=>(css.getD i []).getD 1 undef,hat,fun i hi=>?_⟩⟩
  have hi' : i<css.length:=by omega
  obtain⟨h4,v,h5,h6⟩:=h2 i hi hi'
  have hcell:∀ j,j<3->(css.flatten++ys).toArray[i*3+j]? = (css[i])[j]? :=fun j hj=>by
   have:=flat_cell hc3 i j hi' hj
   rw[List.getElem?_toArray,List.getElem?_append_left (by rw[hxl];omega),this]
  have e1:(css.getD i []).getD 1 undef=v:=by
   have:css.getD i []=[.string S[i].pre,v,.int .i64 S[i].threshold]:=by rw[<- h5,List.getD_eq_getElem?_getD,List.getElem?_eq_getElem hi'];rfl
   rw[this]
   rfl
  refine⟨?_,?_,?_,?_⟩
  ·have:=hcell 0 (by omega);rw[h5] at this;exact this
  ·show _=some ((css.getD i []).getD 1 undef)
   rw[e1];have:=hcell 1 (by omega);rw[h5] at this;exact this
  ·have:=hcell 2 (by omega);rw[h5] at this;exact this
  ·show ListF _ _ _ _ ((css.getD i []).getD 1 undef) _
   rw[e1];exact h6.below hb
structure CopPost (X:Nat->Prop) (w:World) (o:Own.Owners) (sv kv:Value) (w' : World):Prop where
 ex:∃ B,w.heap.size<=B/\B<=w'.heap.size/\ListF 3 Own.RSpace (fun k=>k<B/\¬ X k) w' sv o.spaces/\w'.ownsRow B 91 2 kv o.keys.length (o.keys.flatMap Own.encK)
 bel:Below w.heap.size w w'
theorem owCopied_any (X:Nat->Prop) (o:Own.Owners) (sv kv:Value) (w:World) (hX:∀ k,X k->k<w.heap.size) (hS:ListF 3 Own.RSpace (fun k=>¬ X k) w sv o.spaces) (hK:Own.KeysC w kv o.keys) (hls:o.spaces.length<=3000000) (hlk:o.keys.length<=3000000) (hlm:∀ s∈o.spaces,s.members.length<=3000000):
 Calls Tryz.prog 151 #[.agg #[.int .i64 o.count,sv,kv]] w fun e w' => ∃ sv' kv',e=.returned (.agg #[.int .i64 o.count,sv',kv'])/\CopPost X w o sv' kv' w' :=by
 obtain⟨sa,sc,rfl⟩:=hS.len
 obtain⟨ka,kc,rfl⟩:=hK.len
 have ha1:=(At.new w 38 #[.int .i64 o.count,.slice sa o.spaces.length sc,.slice ka o.keys.length kc]).alloc (.cells #[.int .i64 0,.slice none 0 0,.slice none 0 0] 38)
 have ha2:=At.new1 w (.cells #[.int .i64 o.count,.slice sa o.spaces.length sc,.slice ka o.keys.length kc] 38) 38 #[.int .i64 0,.slice none 0 0,.slice none 0 0]
 have hb1:Below w.heap.size w ((w.alloc (.cells #[.int .i64 o.count,.slice sa o.spaces.length sc,.slice ka o.keys.length kc] 38)).alloc (.cells #[.int .i64 0,.slice none 0 0,.slice none 0 0] 38)):=((Below.refl _ _).alloc (Nat.le_refl _) _).alloc (by simp) _
 have hz1:((w.alloc (.cells #[.int .i64 o.count,.slice sa o.spaces.length sc,.slice ka o.keys.length kc] 38)).alloc (.cells #[.int .i64 0,.slice none 0 0,.slice none 0 0] 38)).heap.size=w.heap.size+2:=by simp
 have hs1:=(hS.mono (G:=fun k=>k<w.heap.size/\¬ X k) (fun k hx hk=>⟨hk,hx⟩)).below hb1;have hk1:=(hK.mono (G:=fun k=>k<w.heap.size) (fun k _ hk=>hk)).below hb1
 have c1:=ha1.cell 1
 simp only[List.getElem?_toArray,List.getElem?_cons_zero,List.getElem?_cons_succ] at c1
 have HS:=zh hs1;have HK:=zh hk1;have HA1:=zh ha1;have HA2:=zh ha2;have HB1:=zh hb1;have HLM:=zh hlm
 clear hS hK hs1 hk1 ha1 ha2 hb1 hlm
 go_enter Tryz.func151,Tryz.ntmps151
 go_wp2_with fail
 generalize (w.alloc (.cells #[.int .i64 o.count,.slice sa o.spaces.length sc,.slice ka o.keys.length kc] 38)).alloc (.cells #[.int .i64 0,.slice none 0 0,.slice none 0 0] 38)=w1 at*
 refine(clSpaces2_any _ _ o.spaces w1 HS.out hls).mono ?_
 rintro e w2 ⟨a,c,rfl,hsp,hb2⟩
 have A1:=zh (HA1.out.below hb2 (by omega));have A2:=zh (HA2.out.below hb2 (by omega));have B2:=zh (HB1.out.trans (hb2.mono HB1.out.size));have HK2:=zh (HK.out.below hb2)
 have hz2:=hb2.size
 have HSP:=zh hsp
 have z1:=A1.out.free 1;have y1:=A1.out.cell 1
 simp only[List.getElem?_toArray,List.getElem?_cons_zero,List.getElem?_cons_succ] at y1
 clear hb2 hsp HA1 HA2 HB1 HK HS c1
 go_upto_region 2 with fail
 have hat3:=A1.out.set 1 (.slice a o.spaces.length c)
 have hat4:At (w2.setCell ⟨w.heap.size,1,none⟩ (.slice a o.spaces.length c)) w.heap.size 38 #[.int .i64 o.count,.slice a o.spaces.length c,.slice ka o.keys.length kc]:=hat3
 have hrt4:=A2.out.far (p:=⟨w.heap.size,1,none⟩) (by simp) (.slice a o.spaces.length c)
 have hb4:=B2.out.setCell (p:=⟨w.heap.size,1,none⟩) (Nat.le_refl _) (.slice a o.spaces.length c)
 have hz4:(w2.setCell ⟨w.heap.size,1,none⟩ (.slice a o.spaces.length c)).heap.size=w2.heap.size:=by simp[World.setCell]
 have hk4:=HK2.out.keep (w' :=w2.setCell ⟨w.heap.size,1,none⟩ (.slice a o.spaces.length c)) (by simp[World.setCell]) (fun k hk _=>heap_setCell_other _ _ _ _ (by show k≠w.heap.size;omega))
 have hsp4:o.spaces.length=0\/∃ g,a=some ⟨g,0,none⟩/\w1.heap.size<=g/\Own.SpRow (w2.setCell ⟨w.heap.size,1,none⟩ (.slice a o.spaces.length c)) g (fun k=>k≠g/\k≠w.heap.size/\k≠w.heap.size+1/\¬ X k) o.spaces:=by
  rcases HSP.out with h0 | ⟨g,h1,h2,h3⟩
  ·exact .inl h0
  ·refine .inr ⟨g,h1,h2,?_⟩
   refine(h3.keep (by simp[World.setCell]) (fun k hk _=>heap_setCell_other _ _ _ _ (by show k≠w.heap.size;rcases hk with rfl | hk <;> omega))).mono (fun k hk _=>⟨by omega,by omega,by omega,hk.2⟩)
 have A4:=zh hat4;have R4:=zh hrt4;have B4:=zh hb4;have HK4:=zh hk4;have HSP4:=zh hsp4
 have c1:=hat4.cell 1
 simp only[List.getElem?_toArray,List.getElem?_cons_zero,List.getElem?_cons_succ] at c1
 clear hat3 hat4 hrt4 hb4 hk4 hsp4 HSP HK2 A1 A2 B2 z1 y1
 generalize w2.setCell ⟨w.heap.size,1,none⟩ (.slice a o.spaces.length c)=w4 at*
 go_wp2_with fail
 go_loopw [11] (fun i wr=>∃ k:Nat,k<=o.spaces.length/\i=.int .i64 k/\(o.spaces.length=0\/∃ g,a=some ⟨g,0,none⟩/\w1.heap.size<=g/\g<w4.heap.size/\Own.SpRow wr g (fun k=>k≠g/\k≠w.heap.size/\k≠w.heap.size+1/\¬ X k) o.spaces)/\Fr (fun k=>w1.heap.size<=k/\a=some ⟨k,0,none⟩) w4 wr) (fun i _=>o.spaces.length - (intOf i).toNat)
 case atStart=>
  refine⟨0,by omega,rfl,?_,Fr.refl _ _⟩
  rcases HSP4.out with h0 | ⟨g,h1,h2,h3⟩
  ·exact .inl h0
  ·obtain⟨cur,vs,h4,_⟩:=h3.row
   exact .inr ⟨g,h1,h2,h4.lt,h3⟩
 case round=>
  obtain⟨k,hk,rfl,hrow,hfr⟩:=hrel
  have hatr:=hfr.at A4.out (fun h=>by omega)
  have hrtr:=hfr.at R4.out (fun h=>by omega)
  have HROW:=zh hrow;have HFR:=zh hfr;have AR:=zh hatr;have RR:=zh hrtr
  have c1:=hatr.cell 1
  simp only[List.getElem?_toArray,List.getElem?_cons_zero,List.getElem?_cons_succ] at c1
  have hfz:=hfr.size
  have hbl:=hatr.lt
  clear hatr hrtr
  by_cases hlt:k<o.spaces.length
  ·have dk:decide ((k:Int)<o.spaces.length)=true:=decide_eq_true (by omega)
   obtain⟨g,rfl,hg1,hg2,hsr⟩:=hrow.resolve_left (by omega)
   obtain⟨cur,vs,q1,q2⟩:=hsr.row
   obtain⟨e0,e1,e2,e3⟩:=q2 k hlt
   have f0:=q1.cell (k*3);have f1:=q1.cell (k*3+1);have f2:=q1.cell (k*3+2)
   have z0:=q1.free (k*3);have z1:=q1.free (k*3+1);have z2:=q1.free (k*3+2)
   rw[e0] at f0
   rw[e1] at f1
   rw[e2] at f2
   have hlm:=HLM.out o.spaces[k] (List.getElem_mem hlt)
   obtain⟨ma,mc,hvk⟩:=e3.len
   rw[hvk] at e3 f1
   have Q1:=zh q1;have HSR:=zh hsr
   have hcp:=owCopiedSpace_any o.spaces[k].pre o.spaces[k].threshold _ o.spaces[k].members wr.drew ((e3.below ((Below.refl _ _).drew)).mono (fun _ _ _=>trivial)) hlm
   have HCP:=zh hcp
   obtain⟨pre,hpre⟩:∃ x,x=o.spaces[k].pre:=⟨_,rfl⟩
   obtain⟨th,hth⟩:∃ x,x=o.spaces[k].threshold:=⟨_,rfl⟩
   rw[<- hpre] at f0 HCP
   rw[<- hth] at f2 HCP
   have HPRE:=zh hpre;have HTH:=zh hth
   have hgl:g<wr.heap.size:=q1.lt
   clear hrow q1 q2 e0 e1 e2 e3 hvk hlm hcp hsr hpre hth
   go_wp2_with fail
   refine Lex.wp_region_lexN (fun j=>j=w.heap.size) [1] 9 [9] (by kernel_rfl) (by kernel_rfl) (by kernel_rfl) ?_
   simp only[Lex.wpCuts,List.take_succ_cons,List.take_zero,List.drop_succ_cons,List.drop_zero]
   go_wp2_with fail
   refine HCP.out.mono ?_
   rintro e w5 ⟨v',rfl,hov,hb5⟩
   have hb5' : Below wr.heap.size wr w5:=(Below.refl wr.heap.size wr).drew.trans hb5
   have hne:v'.ownBlock≠some g:=fun e=>by have:=own_up hov g e;have:wr.heap.size<=g:=this;omega
   have hup:=own_up hov
   obtain⟨va,vm,vc,rfl⟩:=own_slice hov
   have y0:=(hb5'.cell (p:=⟨g,k*3,none⟩) hgl).trans f0;have y1:=(hb5'.cell (p:=⟨g,k*3+1,none⟩) hgl).trans f1;have y2:=(hb5'.cell (p:=⟨g,k*3+2,none⟩) hgl).trans f2
   have q5:=Q1.out.below hb5' hgl
   have x0:=q5.free (k*3);have x1:=q5.free (k*3+1);have x2:=q5.free (k*3+2)
   have c5:=(hb5'.cell (p:=⟨w.heap.size,1,none⟩) hbl).trans c1
   have HB5:=zh hb5';have HOV:=zh hov;have HUP:=zh hup
   clear hb5 hb5' hov hup q5 f0 f1 f2 z0 z1 z2 Q1
   go_wp2_with fail
   refine Lex.Mid.intro (fun j hj _=>by rw[hj];exact HB5.out.block _ hbl) ?_
   go_wp2_with fail
   refine Lex.EndsN.intro (by kernel_rfl) ⟨⟨rfl,by show(wr.cell? ⟨w.heap.size,1,none⟩).isSome=true;rw[c1];rfl⟩,trivial⟩ ?_
   go_wp2_with fail
   go_round
   case measure=>simp[intOf];omega
   case rel=>
    have hm5:ListF 2 Own.RMember (fun k=>k≠g/\k≠w.heap.size/\k≠w.heap.size+1/\¬ X k) w5 (.slice va vm vc) o.spaces[k].members:=
     rows_flat (enc:=Own.encM) (fun _=>rfl) (fun _=>rfl) (RowsC.own HOV.out) rfl (fun j hj=>by have:wr.heap.size<=j:=HUP.out j hj;exact⟨by omega,by omega,by omega,fun hx=>by have:=hX j hx;omega⟩)
    have hs5:=(HSR.out.below HB5.out).set (fun k hk=>hk.1) hlt _ hm5
    rw[<- HPRE.out,<- HTH.out] at hs5
    refine⟨k+1,by omega,by go_num,.inr ⟨g,rfl,hg1,hg2,hs5⟩,?_⟩
    have f5:Fr (fun k=>w1.heap.size<=k/\(some ⟨g,0,none⟩:Option Addr)=some ⟨k,0,none⟩) w4 w5:=HFR.out.trans (Fr.of_below HB5.out) (fun _ h=>.inl h)
    exact((f5.setCell (p:=⟨g,k*3,none⟩) (.inl ⟨hg1,rfl⟩) _).setCell (p:=⟨g,k*3+1,none⟩) (.inl ⟨hg1,rfl⟩) _).setCell (p:=⟨g,k*3+2,none⟩) (.inl ⟨hg1,rfl⟩) _
  ·have dk:decide ((k:Int)<o.spaces.length)=false:=decide_eq_false (by omega)
   have hsl:ListF 3 Own.RSpace (fun k=>k<wr.heap.size/\k≠w.heap.size/\k≠w.heap.size+1/\¬ X k) wr (.slice a o.spaces.length c) o.spaces:=by
    rcases hrow with h0 | ⟨g,rfl,hg1,hg2,hsr⟩
    ·have:o.spaces=[]:=List.eq_nil_of_length_eq_zero h0
     rw[this]
     exact ListF.nil _ _
    ·obtain⟨cur,vs,q1,_⟩:=hsr.row
     exact hsr.list ⟨q1.lt,by omega,by omega,fun hx=>by have:=hX g hx;omega⟩ (fun k hk hl=>⟨hl,hk.2.1,hk.2.2.1,hk.2.2.2⟩) rfl
   have hkr:=HK4.out.fr hfr (fun k hk h=>by omega)
   have hkm:=Own.KeysC.rows (hkr.mono (G:=Own.anyF) (fun _ _ _=>trivial))
   have c2:=AR.out.cell 2
   simp only[List.getElem?_toArray,List.getElem?_cons_zero,List.getElem?_cons_succ] at c2
   have HSL:=zh hsl;have HKM:=zh hkm
   clear hrow hsl hkr hkm hfr
   go_wp2_with fail
   refine(clKeys_any _ o.keys.length _ wr HKM.out (Own.one_K _) hlk).mono ?_
   rintro e w5 ⟨v',rfl,hov,hb5⟩
   have hup:=own_up hov
   obtain⟨va,vm,vc,rfl⟩:=own_slice hov
   have q5:=AR.out.below hb5 hbl
   have r5:=RR.out.below hb5 RR.out.lt
   have x0:=q5.cell 0;have x1:=q5.cell 1;have x2:=q5.cell 2;have x3:=q5.free 2
   have y0:=r5.cell 0;have y1:=r5.cell 1;have y2:=r5.cell 2;have y3:=r5.free 0;have y4:=r5.free 1;have y5:=r5.free 2
   simp only[List.getElem?_toArray,List.getElem?_cons_zero,List.getElem?_cons_succ] at x0 x1 x2 y0 y1 y2
   have HB5:=zh hb5;have HOV:=zh hov;have HUP:=zh hup;have R5:=zh r5
   clear hb5 hov hup q5 r5 c1 c2
   go_wp2_with fail
   have F2:=(((R5.out.far (p:=⟨w.heap.size,2,none⟩) (by simp) (.slice va vm vc)).set 0 (.int .i64 o.count)).set 1 (.slice a o.spaces.length c)).set 2 (.slice va vm vc)
   have far:∀ k,k≠w.heap.size->k≠w.heap.size+1->((((w5.setCell ⟨w.heap.size,2,none⟩ (.slice va vm vc)).setCell ⟨w.heap.size+1,0,none⟩ (.int .i64 o.count)).setCell ⟨w.heap.size+1,1,none⟩ (.slice a o.spaces.length c)).setCell ⟨w.heap.size+1,2,none⟩ (.slice va vm vc)).heap[k]? = w5.heap[k]? :=fun k h1 h2=>by
    rw[heap_setCell_other _ _ _ _ h2,heap_setCell_other _ _ _ _ h2,heap_setCell_other _ _ _ _ h2,heap_setCell_other _ _ _ _ h1]
   have hrz:w.heap.size+1<wr.heap.size:=RR.out.lt
   refine done_c rfl rfl (load_row F2 Tryz.underlying38 rfl info_Owners) ⟨_,_,rfl,⟨wr.heap.size,by omega,by simpa [World.setCell] using HB5.out.size,?_,?_⟩,?_⟩
   ·refine ListF.mono (F:=fun k=>k<wr.heap.size/\k≠w.heap.size/\k≠w.heap.size+1/\¬ X k) ?_ (fun k hk _=>⟨hk.1,hk.2.2.2⟩)
    exact(HSL.out.below HB5.out).keep (by simp[World.setCell]) (fun k hk _=>far k hk.2.1 hk.2.2.1)
   ·exact own_keep HOV.out (fun k hk=>far k (by have:=HUP.out k hk;omega) (by have:=HUP.out k hk;omega))
   ·have hb45:Below w.heap.size w w5:=(B4.out.trans (HFR.out.below (B:=w.heap.size) (by omega) (fun k hk=>by omega))).trans (HB5.out.mono (by omega))
    exact(((hb45.setCell (p:=⟨w.heap.size,2,none⟩) (Nat.le_refl _) _).setCell (p:=⟨w.heap.size+1,0,none⟩) (by simp) _).setCell (p:=⟨w.heap.size+1,1,none⟩) (by simp) _).setCell (p:=⟨w.heap.size+1,2,none⟩) (by simp) _
end
section
open Go Go.RowKit Go.Maps
theorem owKey_any (cnt:Int) (sv kv:Value) (l:List Own.KeyUse) (p:ByteArray) (w:World) (h:Own.KeysC w kv l) (hs:Own.Srt Own.KeyUse.pub l) (hl:l.length<=1000000):
 Calls Tryz.prog 154 #[.agg #[.int .i64 cnt,sv,kv],.string p] w fun e w' => e=.returned (.tuple #[.int .i64 (Own.posB Own.KeyUse.pub p l:Nat),.bool (Own.hitB Own.KeyUse.pub p l)])/\Below w.heap.size w w' :=by
 obtain⟨ka,kc,rfl⟩:=h.len
 have hb1:Below w.heap.size w (w.alloc (.cells #[.int .i64 cnt,sv,.slice ka l.length kc] 38)):=(Below.refl _ _).alloc (Nat.le_refl _) _
 have hbs:=bsKeys_any _ l p _ (h.below hb1) hs hl
 have HB:=zh hb1;have HBS:=zh hbs
 obtain⟨q,hq⟩:∃ q:Nat,q=Own.posB Own.KeyUse.pub p l:=⟨_,rfl⟩
 obtain⟨r,hr⟩:∃ r,r=Own.hitB Own.KeyUse.pub p l:=⟨_,rfl⟩
 rw[<- hq,<- hr] at HBS ⊢
 clear hb1 hbs h hs hq hr
 go_enter Tryz.func154,Tryz.ntmps154
 go_wp2_with fail
 refine HBS.out.mono ?_
 rintro e w2 ⟨rfl,hb2⟩
 have HB2:=zh (HB.out.trans (hb2.mono HB.out.size));clear hb2
 go_wp2_with fail
 go_ret2
 exact⟨rfl,HB2.out⟩
namespace Own
theorem verify_lt {p m:ByteArray} {s:Sig.T} (h:Sig.verify p m s=true):0<=s.index/\s.index<64:=by
 unfold Sig.verify Sig.public_ at h
 simp only[Bool.and_eq_true,decide_eq_true_eq] at h
 obtain⟨⟨⟨⟨⟨⟨_,h1⟩,h2⟩,h3⟩,_⟩,_⟩,_⟩:=h
 refine⟨h2,Int.lt_of_lt_of_le h3 ?_⟩
 have:(2:Nat)^(p.get! 32).toNat<=2^6:=Nat.pow_le_pow_right (by omega) h1
 have e:((2:Int)^(p.get! 32).toNat)=((2^(p.get! 32).toNat:Nat):Int):=(Int.natCast_pow 2 _).symm
 rw[e]
 omega
def ApprC (w:World) (v:Value) (l:List Approval):Prop:=∃ a c,v=.slice a l.length c/\∀ i (hi:i<l.length),∃ b o cv pv,a=some ⟨b,o,none⟩/\b<w.heap.size/\w.cell? ⟨b,o+i*4,none⟩=some (.string l[i].name)/\w.cell? ⟨b,o+i*4+1,none⟩=some (.int .i64 l[i].sig.index)/\
 w.cell? ⟨b,o+i*4+2,none⟩=some cv/\w.cell? ⟨b,o+i*4+3,none⟩=some pv/\StrsC w cv l[i].sig.chains/\StrsC w pv l[i].sig.path/\CapOK pv
theorem ApprC.below {w w' : World} {v:Value} {l:List Approval} (h:ApprC w v l) (hb:Below w.heap.size w w'):ApprC w' v l:=by
 obtain⟨a,c,rfl,h⟩:=h
 refine⟨a,c,rfl,fun i hi=>?_⟩
 obtain⟨b,o,cv,pv,h1,h2,h3,h4,h5,h6,h7,h8,h9⟩:=h i hi
 exact⟨b,o,cv,pv,h1,Nat.lt_of_lt_of_le h2 hb.size,(hb.cell (p:=⟨b,_,none⟩) h2).trans h3,(hb.cell (p:=⟨b,_,none⟩) h2).trans h4,(hb.cell (p:=⟨b,_,none⟩) h2).trans h5,(hb.cell (p:=⟨b,_,none⟩) h2).trans h6,h7.below hb,h8.below hb,h9⟩
def seenMap (l:List ByteArray):ByteArray->Option Value:=fun p=>if l.any (fun x=>decide (x=p)) then some (.bool true) else none
theorem seenMap_cons (l:List ByteArray) (n:ByteArray):seenMap (n::l)=fput (seenMap l) n (.bool true):=by
 funext p
 unfold seenMap fput
 rw[List.any_cons]
 by_cases h:n=p
 ·simp[h]
 ·rw[decide_eq_false h,Bool.false_or,if_neg h]
def nobody:Value:=.agg #[.int .i64 0,.slice none 0 0,.slice none 0 0]
end Own
theorem keys_set:∀ (K:List Own.KeyUse) (p:Nat) (h:p<K.length) (v:Int),(K.flatMap Own.encK).set (p*2+1) (.int .i64 v)=(K.set p ⟨K[p].pub,v⟩).flatMap Own.encK
 | [],p,h,_=>by cases h
 | x :: K,0,_,v => by
   rw[List.flatMap_cons,List.set_cons_zero,List.flatMap_cons]
   rfl
 | x :: K,p + 1,h,v => by
   have ih:=keys_set K p (by simpa using h) v
   rw[List.flatMap_cons,List.set_cons_succ,List.flatMap_cons,show(p+1)*2+1=(p*2+1)+1+1 by omega]
   show Value.string x.pub::Value.int .i64 x.next::(K.flatMap Own.encK).set (p*2+1) _=_
   rw[ih]
   rfl
theorem keys_get (K:List Own.KeyUse) (p:Nat) (h:p<K.length):(K.flatMap Own.encK)[p*2+1]? = some (.int .i64 K[p].next):=by
 have e:K.flatMap Own.encK=(K.map Own.encK).flatten:=List.flatMap_def
 rw[e,flat_cell (k:=2) (fun cs hcs=>by obtain⟨x,_,rfl⟩:=List.mem_map.1 hcs;rfl) p 1 (by simpa using h) (by omega),List.getElem_map]
 rfl
namespace Own
theorem keys_flat_len (K:List KeyUse):(K.flatMap encK).length=K.length*2:=by
 induction K with
 | nil=>rfl
 | cons x K ih=>rw[List.flatMap_cons,List.length_append,ih,List.length_cons];show 2+_=_;omega
structure Placed (Kc K1:List KeyUse) (p:ByteArray):Prop where
 at_:∃ h:posB KeyUse.pub p Kc<K1.length,K1[posB KeyUse.pub p Kc].pub=p/\K1[posB KeyUse.pub p Kc].next=nextOf Kc p
 use:∀ x,use Kc ⟨p,x⟩=K1.set (posB KeyUse.pub p Kc) ⟨p,x⟩
 len:K1.length<=Kc.length+1
theorem placed_hit {Kc:List KeyUse} {p:ByteArray} (hs:Srt KeyUse.pub Kc) (h:hitB KeyUse.pub p Kc=true):Placed Kc Kc p:=by
 have hn:=nextOf_pos p hs
 rw[h,if_pos rfl] at hn
 have hh:=h
 unfold hitB at h
 cases hg:Kc[posB KeyUse.pub p Kc]? with
 | none=>rw[hg] at h;cases h
 | some k =>
   rw[hg] at h hn
   obtain⟨hl,he⟩:=List.getElem?_eq_some_iff.1 hg
   refine⟨⟨hl,?_,?_⟩,fun x=>?_,by omega⟩
   ·rw[he];exact of_decide_eq_true h
   ·rw[he,hn]
   ·rw[use_put,putB_eq]
    show Kc.take (posB KeyUse.pub p Kc)++_::Kc.drop (posB KeyUse.pub p Kc+if hitB KeyUse.pub p Kc=true then 1 else 0)=_
    rw[hh,if_pos rfl,List.set_eq_take_append_cons_drop,if_pos hl]
theorem placed_miss {Kc:List KeyUse} {p:ByteArray} (hs:Srt KeyUse.pub Kc) (h:hitB KeyUse.pub p Kc=false):Placed Kc (Kc.take (posB KeyUse.pub p Kc)++(⟨p,0⟩::Kc.drop (posB KeyUse.pub p Kc))) p:=by
 have hn:=nextOf_pos p hs
 rw[h,if_neg (by simp)] at hn
 have hle:=posB_le (f:=KeyUse.pub) p Kc
 have hl:(Kc.take (posB KeyUse.pub p Kc)).length=posB KeyUse.pub p Kc:=by rw[List.length_take];omega
 have hg:(Kc.take (posB KeyUse.pub p Kc)++(⟨p,0⟩::Kc.drop (posB KeyUse.pub p Kc)))[posB KeyUse.pub p Kc]? = some ⟨p,0⟩:=by
  rw[List.getElem?_append_right (by omega),hl,Nat.sub_self]
  rfl
 obtain⟨hlt,he⟩:=List.getElem?_eq_some_iff.1 hg
 refine⟨⟨hlt,by rw[he],by rw[he,hn]⟩,fun x=>?_,by simp;omega⟩
 rw[use_put,putB_eq]
 show Kc.take (posB KeyUse.pub p Kc)++_::Kc.drop (posB KeyUse.pub p Kc+if hitB KeyUse.pub p Kc=true then 1 else 0)=_
 rw[h,if_neg (by simp),Nat.add_zero,List.set_append_right _ _ (by omega),hl,Nat.sub_self]
 rfl
end Own
def ApvPost (X:Nat->Prop) (w:World) (o:Own.Owners) (n th:Int) (R:Except Int (List Own.KeyUse)) (e:Ending) (w' : World):Prop:=
 (match R with
   | .error c=>e=.returned (.tuple #[Own.nobody,.int .i64 c])
   | .ok K=>if n<th then e=.returned (.tuple #[Own.nobody,.int .i64 20]) else ∃ sv kv,e=.returned (.tuple #[.agg #[.int .i64 o.count,sv,kv],.int .i64 0])/\ListF 3 Own.RSpace (fun k=>¬ X k) w' sv o.spaces/\ListF 2 Own.RKey (fun k=>¬ X k) w' kv K)/\Below w.heap.size w w'
theorem owApprove_any (X:Nat->Prop) (o:Own.Owners) (s:Own.Space) (msg:ByteArray) (l:List Own.Approval) (sv kv mv lv:Value) (w:World) (hX:∀ k,X k->k<w.heap.size) (hS:ListF 3 Own.RSpace (fun k=>¬ X k) w sv o.spaces) (hK:Own.KeysC w kv o.keys) (hm:Own.MembersC w mv s.members) (hA:Own.ApprC w lv l)
 (hsrt:Own.Srt Own.KeyUse.pub o.keys) (hls:o.spaces.length<=3000000) (hlk:o.keys.length+l.length<=900000) (hlm:∀ s∈o.spaces,s.members.length<=3000000) (hml:s.members.length<=3000000) (hmsg:msg.size<=9223372036854775000)
 (hal:∀ a∈l,a.name.size<=140737488355328/\a.sig.chains.length<=140737488355328/\a.sig.path.length<=140737488355328):
 Calls Tryz.prog 129 #[.agg #[.int .i64 o.count,sv,kv],.agg #[.string s.pre,mv,.int .i64 s.threshold],.string msg,lv] w (ApvPost X w o l.length s.threshold (Own.approveF s msg [] o.keys l)):=by
 obtain⟨R,hR⟩:∃ R,R=Own.approveF s msg [] o.keys l:=⟨_,rfl⟩
 obtain⟨Q,hQ⟩:∃ Q,Q=ApvPost X w o l.length s.threshold R:=⟨_,rfl⟩
 rw[<- hR,<- hQ]
 have HQ:=zh hQ;have HR:=zh hR;clear hQ hR
 obtain⟨sa,sc,rfl⟩:=hS.len
 obtain⟨ka,kc,rfl⟩:=hK.len
 obtain⟨ma,mc,rfl⟩:=hm.len
 obtain⟨la,lc,rfl,hap⟩:=id hA
 clear hap
 have hb1:Below w.heap.size w (((w.alloc (.cells #[.int .i64 o.count,.slice sa o.spaces.length sc,.slice ka o.keys.length kc] 38)).alloc (.cells #[.string s.pre,.slice ma s.members.length mc,.int .i64 s.threshold] 70)).alloc (.cells #[.int .i64 0,.slice none 0 0,.slice none 0 0] 38)):=(((Below.refl _ _).alloc (Nat.le_refl _) _).alloc (by simp) _).alloc (by simp;omega) _
 have hz1:(((w.alloc (.cells #[.int .i64 o.count,.slice sa o.spaces.length sc,.slice ka o.keys.length kc] 38)).alloc (.cells #[.string s.pre,.slice ma s.members.length mc,.int .i64 s.threshold] 70)).alloc (.cells #[.int .i64 0,.slice none 0 0,.slice none 0 0] 38)).heap.size=w.heap.size+3:=by simp
 have ha0:=((At.new w 38 #[.int .i64 o.count,.slice sa o.spaces.length sc,.slice ka o.keys.length kc]).alloc (.cells #[.string s.pre,.slice ma s.members.length mc,.int .i64 s.threshold] 70)).alloc (.cells #[.int .i64 0,.slice none 0 0,.slice none 0 0] 38)
 have ha1:=(At.new1 w (.cells #[.int .i64 o.count,.slice sa o.spaces.length sc,.slice ka o.keys.length kc] 38) 70 #[.string s.pre,.slice ma s.members.length mc,.int .i64 s.threshold]).alloc (.cells #[.int .i64 0,.slice none 0 0,.slice none 0 0] 38)
 have ha2:=At.new ((w.alloc (.cells #[.int .i64 o.count,.slice sa o.spaces.length sc,.slice ka o.keys.length kc] 38)).alloc (.cells #[.string s.pre,.slice ma s.members.length mc,.int .i64 s.threshold] 70)) 38 #[.int .i64 0,.slice none 0 0,.slice none 0 0]
 rw[World.size_alloc,World.size_alloc] at ha2
 have hs1:=(hS.mono (G:=fun k=>¬ (X k\/(w.heap.size<=k/\k<w.heap.size+3))) (fun k hx hk h=>h.elim hx (fun h=>by omega))).below hb1;have hk1:=hK.below hb1
 obtain⟨c0,c1,c2⟩:=ha0.c3
 have HS:=zh hs1;have HK:=zh hk1;have HM:=zh hm;have HA:=zh hA;have A0:=zh ha0;have A1:=zh ha1;have A2:=zh ha2;have B1:=zh hb1;have HLM:=zh hlm;have HAL:=zh hal;have HSRT:=zh hsrt
 clear hS hK hm hA hs1 hk1 ha0 ha1 ha2 hb1 hlm hal hsrt
 go_enter Tryz.func129,Tryz.ntmps129
 go_wp2_with fail
 generalize ((w.alloc (.cells #[.int .i64 o.count,.slice sa o.spaces.length sc,.slice ka o.keys.length kc] 38)).alloc (.cells #[.string s.pre,.slice ma s.members.length mc,.int .i64 s.threshold] 70)).alloc (.cells #[.int .i64 0,.slice none 0 0,.slice none 0 0] 38)=w1 at*
 refine(owCopied_any (fun k=>X k\/(w.heap.size<=k/\k<w.heap.size+3)) o _ _ w1 (fun k hk=>by rcases hk with hk | hk;have:=hX k hk;omega;omega) HS.out HK.out hls (by omega) HLM.out).mono ?_
 rintro e w2 ⟨sv',kv',rfl,⟨B,hB1,hB2,hsp,hkr⟩,hb2⟩
 obtain⟨sa',ss',hsv'⟩:=hsp.len
 subst hsv'
 obtain⟨ka',km',kc',rfl⟩:=own_slice hkr
 obtain rfl:=own_len hkr
 have a1:=A1.out.below hb2 (by omega);have a2:=A2.out.below hb2 (by omega)
 have hbw2:=B1.out.trans (hb2.mono B1.out.size)
 have hz2:=hb2.size
 have A12:=zh a1;have A22:=zh a2;have BW2:=zh hbw2;have HSP:=zh hsp;have HKR:=zh hkr
 clear hb2 a1 a2 hbw2 hsp hkr HS HK A0 A1 A2 B1 HLM c0 c1 c2
 have hmm :=@run_makeMap Tryz.prog
 go_wp2_with fail
 clear hmm
 obtain⟨OB,hOB⟩:∃ OB,OB=w2.heap.size:=⟨_,rfl⟩
 have hat0:At ((w2.alloc (.cells #[.int .i64 o.count,.slice sa' o.spaces.length ss',.slice ka' o.keys.length kc'] 38)).alloc (.map #[] 0)) OB 38 #[.int .i64 o.count,.slice sa' o.spaces.length ss',.slice ka' o.keys.length kc']:=by rw[hOB];exact(At.new _ _ _).alloc _
 have hsm0:Smap ((w2.alloc (.cells #[.int .i64 o.count,.slice sa' o.spaces.length ss',.slice ka' o.keys.length kc'] 38)).alloc (.map #[] 0)) (OB+1) 0 (Own.seenMap []):=by
  have h:=Smap.made (w2.alloc (.cells #[.int .i64 o.count,.slice sa' o.spaces.length ss',.slice ka' o.keys.length kc'] 38))
  rw[World.size_alloc,<- hOB] at h
  exact h
 have hb3:Below B w2 ((w2.alloc (.cells #[.int .i64 o.count,.slice sa' o.spaces.length ss',.slice ka' o.keys.length kc'] 38)).alloc (.map #[] 0)):=((Below.refl B w2).alloc hB2 _).alloc (by simp;omega) _
 have hkr0:=own_below HKR.out ((((Below.refl w2.heap.size w2).alloc (Nat.le_refl _) (.cells #[.int .i64 o.count,.slice sa' o.spaces.length ss',.slice ka' o.keys.length kc'] 38)).alloc (by simp) (.map #[] 0)))
 have HAT0:=zh hat0;have HSM0:=zh hsm0;have HB3:=zh hb3;have HKR0:=zh hkr0
 have hOBB:B<=OB:=by omega
 have hBw:w.heap.size+3<=B:=by omega
 rw[<- hOB]
 clear hat0 hsm0 hb3 hkr0 HKR hOB
 generalize (w2.alloc (.cells #[.int .i64 o.count,.slice sa' o.spaces.length ss',.slice ka' o.keys.length kc'] 38)).alloc (.map #[] 0)=w3 at*
 go_loopw [23] (fun i wr=>∃ k:Nat,k<=l.length/\i=.int .i64 k/\∃ (seen:List ByteArray) (Kc:List Own.KeyUse) (kvc:Value),R=Own.approveF s msg seen Kc (l.drop k)/\Own.Srt Own.KeyUse.pub Kc/\Kc.length<=o.keys.length+k/\At wr OB 38 #[.int .i64 o.count,.slice sa' o.spaces.length ss',kvc]/\wr.ownsRow B 91 2 kvc Kc.length (Kc.flatMap Own.encK)/\Smap wr (OB+1) k (Own.seenMap seen)/\Below B w2 wr) (fun i _=>l.length - (intOf i).toNat)
 case atStart=>exact⟨0,by omega,rfl,[],o.keys,_,by rw[HR.out];rfl,HSRT.out,by omega,HAT0.out,HKR0.out,HSM0.out,HB3.out⟩
 case round=>
  obtain⟨k,hk,rfl,seen,Kc,kvc,hR,hsr,hkl,hat,hown,hsm,hb⟩:=hrel
  have HRR:=zh hR;have HSR:=zh hsr;have HAT:=zh hat;have HOWN:=zh hown;have HSM:=zh hsm;have HB:=zh hb
  have hbs:=hb.size
  have hOBl:OB<wr.heap.size:=hat.lt
  have hMBl:OB+1<wr.heap.size:=hsm.lt
  have TWR:=zh (A22.out.below hb (by omega))
  have SWR:=zh (A12.out.below hb (by omega))
  have hbwr:=BW2.out.trans (hb.mono (by omega))
  have MWR:=zh (HM.out.below hbwr)
  have BWR:=zh hbwr
  clear hR hsr hat hown hsm hb hbwr
  by_cases hlt:k<l.length
  case neg=>
   have hke:k=l.length:=by omega
   have dk:decide ((k:Int)<l.length)=false:=decide_eq_false (by omega)
   have hR2:R=.ok Kc:=by rw[HRR.out,hke,List.drop_length];rfl
   have HR2:=zh hR2
   have s2:=SWR.out.cell 2
   have q0:=HAT.out.cell 0;have q1:=HAT.out.cell 1;have q2:=HAT.out.cell 2
   have x0:=TWR.out.cell 0;have x1:=TWR.out.cell 1;have x2:=TWR.out.cell 2;have x3:=TWR.out.free 0;have x4:=TWR.out.free 1;have x5:=TWR.out.free 2
   simp only[List.getElem?_toArray,List.getElem?_cons_zero,List.getElem?_cons_succ] at s2 q0 q1 q2 x0 x1 x2
   clear hR2 hke
   by_cases hth:(l.length:Int)<s.threshold
   ·have dt:decide ((l.length:Int)<s.threshold)=true:=decide_eq_true hth
    go_wp2_with fail
    have F2:=((TWR.out.set 0 (.int .i64 0)).set 1 (.slice none 0 0)).set 2 (.slice none 0 0)
    refine done_ct rfl rfl rfl (load_row F2 Tryz.underlying38 rfl info_Owners) ?_
    rw[HQ.out,HR2.out]
    refine⟨?_,((BWR.out.setCell (p:=⟨w.heap.size+1+1,0,none⟩) (by show w.heap.size<=w.heap.size+1+1;omega) _).setCell (p:=⟨w.heap.size+1+1,1,none⟩) (by show w.heap.size<=w.heap.size+1+1;omega) _).setCell (p:=⟨w.heap.size+1+1,2,none⟩) (by show w.heap.size<=w.heap.size+1+1;omega) _⟩
    show if _ then _ else _
    rw[if_pos hth]
    rfl
   ·have dt:decide ((l.length:Int)<s.threshold)=false:=decide_eq_false hth
    obtain⟨va,vm,vc,rfl⟩:=own_slice HOWN.out
    go_wp2_with fail
    have F2:=((TWR.out.set 0 (.int .i64 o.count)).set 1 (.slice sa' o.spaces.length ss')).set 2 (.slice va vm vc)
    refine done_ct rfl rfl rfl (load_row F2 Tryz.underlying38 rfl info_Owners) ?_
    rw[HQ.out,HR2.out]
    have hfar:∀ j,j≠w.heap.size+1+1->(((wr.setCell ⟨w.heap.size+1+1,0,none⟩ (.int .i64 o.count)).setCell ⟨w.heap.size+1+1,1,none⟩ (.slice sa' o.spaces.length ss')).setCell ⟨w.heap.size+1+1,2,none⟩ (.slice va vm vc)).heap[j]? = wr.heap[j]? :=fun j hj=>by
     rw[heap_setCell_other _ _ _ _ hj,heap_setCell_other _ _ _ _ hj,heap_setCell_other _ _ _ _ hj]
    refine⟨?_,((BWR.out.setCell (p:=⟨w.heap.size+1+1,0,none⟩) (by show w.heap.size<=w.heap.size+1+1;omega) _).setCell (p:=⟨w.heap.size+1+1,1,none⟩) (by show w.heap.size<=w.heap.size+1+1;omega) _).setCell (p:=⟨w.heap.size+1+1,2,none⟩) (by show w.heap.size<=w.heap.size+1+1;omega) _⟩
    show if _ then _ else _
    rw[if_neg (by omega)]
    refine⟨_,_,rfl,?_,?_⟩
    ·have h1:=HSP.out.keep (w' :=wr) HB.out.size (fun k hk _=>HB.out.block k hk.1)
     exact(h1.keep (by simp[World.setCell]) (fun k hk _=>hfar k (by rintro rfl;exact hk.2 (.inr ⟨by omega,by omega⟩)))).mono (fun k hk _ hx=>hk.2 (.inl hx))
    ·exact rows_flat (enc:=Own.encK) (fun _=>rfl) (fun _=>rfl) (RowsC.own (own_keep HOWN.out (fun j hj=>hfar j (by have:=own_up HOWN.out j hj;omega)))) rfl (fun j hj hx=>by have h1:=own_up HOWN.out j hj;have h2:=hX j hx;omega)
  have dk:decide ((k:Int)<l.length)=true:=decide_eq_true (by omega)
  obtain⟨_,_,he,hap⟩:=HA.out.below BWR.out
  cases he
  obtain⟨b,q,cv,pv,ha,hbl,e0,e1,e2,e3,hcs,hps,hcap⟩:=hap k hlt
  subst ha
  obtain⟨al1,al2,al3⟩:=HAL.out l[k] (List.getElem_mem hlt)
  have hdr:l.drop k=l[k]::l.drop (k+1):=List.drop_eq_getElem_cons hlt
  have hR1:=HRR.out
  rw[hdr] at hR1
  obtain⟨ap,hap2⟩:∃ x,x=l[k]:=⟨_,rfl⟩
  rw[<- hap2] at e0 e1 hcs hps al1 al2 al3 hR1
  obtain⟨ca,cc,rfl⟩:=hcs.len
  obtain⟨pa,pc,rfl⟩:=hps.len
  have HR1:=zh hR1
  obtain⟨nm,⟨ix,chs,pth⟩⟩:=ap
  dsimp only at e0 e1 e2 e3 hcs hps al1 al2 al3
  have hb5:Below wr.heap.size wr (wr.alloc (.cells #[.string nm,.int .i64 ix,.slice ca chs.length cc,.slice pa pth.length pc] 43)):=(Below.refl _ _).alloc (Nat.le_refl _) _
  have hz5:(wr.alloc (.cells #[.string nm,.int .i64 ix,.slice ca chs.length cc,.slice pa pth.length pc] 43)).heap.size=wr.heap.size+1:=World.size_alloc _ _
  have n5:=At.new wr 43 #[.string nm,.int .i64 ix,.slice ca chs.length cc,.slice pa pth.length pc]
  have s5:=SWR.out.below hb5 (by omega)
  obtain⟨s0,s1,s2⟩:=s5.c3
  have hcall:=fun(W:World) (hW:Own.MembersC W (.slice ma s.members.length mc) s.members)=>owMember_any s.pre s.threshold (.slice ma s.members.length mc) s.members nm W hW (by omega)
  have HC5:=zh (hcs.below hb5);have HP5:=zh (hps.below hb5);have HB5:=zh hb5;have N5:=zh n5;have HCALL:=zh hcall;have HCAP:=zh hcap;have HAP2:=zh hap2
  have hMW5:Own.MembersC (wr.alloc (.cells #[.string nm,.int .i64 ix,.slice ca chs.length cc,.slice pa pth.length pc] 43)) (.slice ma s.members.length mc) s.members:=MWR.out.below hb5
  have MW5:=zh hMW5
  clear hap hdr hR1 hcs hps hb5 n5 s5 hcall hMW5 hap2 hcap HRR
  go_wp2_with fail
  refine(HCALL.out _ MW5.out).mono ?_
  intro e w6 hpost
  obtain⟨hval,hb6⟩:=hpost
  have hb56:=HB5.out.trans (hb6.mono HB5.out.size)
  have n6:=N5.out.below hb6 (by omega)
  have HB6:=zh hb56
  have N6:=zh n6
  have HC6:=zh (HC5.out.below hb6);have HP6:=zh (HP5.out.below hb6)
  have TW6:=zh (TWR.out.below hb56 TWR.out.lt)
  have BW6:=zh (BWR.out.trans (hb56.mono BWR.out.size))
  have hz6:=hb6.size
  clear hb6 hb56 n6 HC5 HP5 HB5 N5 MW5 HCALL s0 s1 s2
  cases hf:Own.find s.members nm with
  | none =>
    rw[hf] at hval
    have hval2:e=.returned (.tuple #[.agg #[.string ⟨#[]⟩,.string ⟨#[]⟩],.bool false]):=hval
    subst hval2
    have e:R=.error 6:=by rw[HR1.out,Own.approveF,hf]
    have HE:=zh e
    have TW:=zh (TW6.out.alloc (.cells #[.string ⟨#[]⟩,.string ⟨#[]⟩] 73))
    have TB:=zh (BW6.out.alloc BW6.out.size (.cells #[.string ⟨#[]⟩,.string ⟨#[]⟩] 73))
    have x0:=TW.out.cell 0;have x1:=TW.out.cell 1;have x2:=TW.out.cell 2;have x3:=TW.out.free 0;have x4:=TW.out.free 1;have x5:=TW.out.free 2
    simp only[List.getElem?_toArray,List.getElem?_cons_zero,List.getElem?_cons_succ] at x0 x1 x2
    clear e hf hval
    go_wp2_with fail
    have F2:=((TW.out.set 0 (.int .i64 0)).set 1 (.slice none 0 0)).set 2 (.slice none 0 0)
    refine done_ct rfl rfl rfl (load_row F2 Tryz.underlying38 rfl info_Owners) ?_
    rw[HQ.out,HE.out]
    exact⟨rfl,((TB.out.setCell (p:=⟨w.heap.size+1+1,0,none⟩) (by show w.heap.size<=w.heap.size+1+1;omega) _).setCell (p:=⟨w.heap.size+1+1,1,none⟩) (by show w.heap.size<=w.heap.size+1+1;omega) _).setCell (p:=⟨w.heap.size+1+1,2,none⟩) (by show w.heap.size<=w.heap.size+1+1;omega) _⟩
  | some m=>
  rw[hf] at hval
  have hval2:e=.returned (.tuple #[.agg #[.string m.name,.string m.pub],.bool true]):=hval
  subst hval2
  have hR2:R=if seen.any (fun x=>decide (x=nm)) then .error 5 else if Sig.verify m.pub msg ⟨ix,chs,pth⟩ then (if ix<Own.nextOf Kc m.pub then .error 8 else Own.approveF s msg (nm::seen) (Own.use Kc ⟨m.pub,ix+1⟩) (l.drop (k+1))) else .error 18:=by rw[HR1.out,Own.approveF,hf]
  have HR2:=zh hR2
  have hb7:Below w6.heap.size w6 (w6.alloc (.cells #[.string m.name,.string m.pub] 73)):=(Below.refl _ _).alloc (Nat.le_refl _) _
  have hz7:(w6.alloc (.cells #[.string m.name,.string m.pub] 73)).heap.size=w6.heap.size+1:=World.size_alloc _ _
  have m7:=At.new w6 73 #[.string m.name,.string m.pub]
  have n7:=N6.out.below hb7 (by omega)
  have hsm7:=(HSM.out.below HB6.out hMBl).below hb7 (by omega)
  have TW:=zh (TW6.out.below hb7 (by omega))
  have TB:=zh (BW6.out.trans (hb7.mono BW6.out.size))
  have hb07:=HB6.out.trans (hb7.mono HB6.out.size)
  have hlook:=hsm7.run_look (t:=174) (e:=4) Tryz.underlying174 (.bool false) (bool_zero _) nm (by unfold maxLen;omega)
  have HC7:=zh (HC6.out.below hb7);have HP7:=zh (HP6.out.below hb7);have HB7:=zh hb07;have N7:=zh n7;have M7:=zh m7;have SM7:=zh hsm7
  clear hR2 hval hf HR1 hb7 m7 n7 hsm7 hb07 HC6 HP6 N6 TW6 BW6
  obtain⟨y0,y1,y2,y3⟩:=N7.out.c4;obtain⟨p0,p1⟩:=M7.out.c2
  cases hsn:seen.any fun x=>decide (x=nm) with
  | true =>
    have e:R=.error 5:=by rw[HR2.out,hsn];rfl
    have hv:(Own.seenMap seen nm).getD (.bool false)=.bool true:=by unfold Own.seenMap;rw[hsn];rfl
    rw[hv] at hlook
    have HE:=zh e
    have x0:=TW.out.cell 0;have x1:=TW.out.cell 1;have x2:=TW.out.cell 2;have x3:=TW.out.free 0;have x4:=TW.out.free 1;have x5:=TW.out.free 2
    simp only[List.getElem?_toArray,List.getElem?_cons_zero,List.getElem?_cons_succ] at x0 x1 x2
    clear e hv hsn
    go_wp2_with fail
    have F2:=((TW.out.set 0 (.int .i64 0)).set 1 (.slice none 0 0)).set 2 (.slice none 0 0)
    refine done_ct rfl rfl rfl (load_row F2 Tryz.underlying38 rfl info_Owners) ?_
    rw[HQ.out,HE.out]
    exact⟨rfl,((TB.out.setCell (p:=⟨w.heap.size+1+1,0,none⟩) (by show w.heap.size<=w.heap.size+1+1;omega) _).setCell (p:=⟨w.heap.size+1+1,1,none⟩) (by show w.heap.size<=w.heap.size+1+1;omega) _).setCell (p:=⟨w.heap.size+1+1,2,none⟩) (by show w.heap.size<=w.heap.size+1+1;omega) _⟩
  | false=>
  have hv:(Own.seenMap seen nm).getD (.bool false)=.bool false:=by unfold Own.seenMap;rw[hsn];rfl
  rw[hv] at hlook
  have hR3:R=if Sig.verify m.pub msg ⟨ix,chs,pth⟩ then (if ix<Own.nextOf Kc m.pub then .error 8 else Own.approveF s msg (nm::seen) (Own.use Kc ⟨m.pub,ix+1⟩) (l.drop (k+1))) else .error 18:=by rw[HR2.out,hsn];rfl
  have HR3:=zh hR3
  have hver:=sVerify_any m.pub msg ⟨ix,chs,pth⟩ (.slice ca chs.length cc) (.slice pa pth.length pc) _ HC7.out HP7.out HCAP.out al2 al3 hmsg
  have HVER:=zh hver
  clear hv hsn hR3 HR2 hver
  go_wp2_with fail
  refine HVER.out.mono ?_
  rintro e w8 ⟨rfl,hb8⟩
  have hb08:=HB7.out.trans (hb8.mono HB7.out.size)
  have TW8:=zh (TW.out.below hb8 TW.out.lt)
  have TB8:=zh (TB.out.trans (hb8.mono TB.out.size))
  have N8:=zh (N7.out.below hb8 N7.out.lt)
  have M8:=zh (M7.out.below hb8 M7.out.lt)
  have SM8:=zh (SM7.out.below hb8 SM7.out.lt)
  have HB8:=zh hb08
  have hz8:=hb8.size
  clear hb8 hb08 TW TB N7 M7 SM7 HB7 HVER HC7 HP7 hlook y0 y1 y2 y3 p0 p1
  cases hvf:Sig.verify m.pub msg ⟨ix,chs,pth⟩ with
  | false =>
    have e:R=.error 18:=by rw[HR3.out,hvf];rfl
    have HE:=zh e
    have TW:=TW8;have TB:=TB8
    have x0:=TW.out.cell 0;have x1:=TW.out.cell 1;have x2:=TW.out.cell 2;have x3:=TW.out.free 0;have x4:=TW.out.free 1;have x5:=TW.out.free 2
    simp only[List.getElem?_toArray,List.getElem?_cons_zero,List.getElem?_cons_succ] at x0 x1 x2
    clear e hvf
    go_wp2_with fail
    have F2:=((TW.out.set 0 (.int .i64 0)).set 1 (.slice none 0 0)).set 2 (.slice none 0 0)
    refine done_ct rfl rfl rfl (load_row F2 Tryz.underlying38 rfl info_Owners) ?_
    rw[HQ.out,HE.out]
    exact⟨rfl,((TB.out.setCell (p:=⟨w.heap.size+1+1,0,none⟩) (by show w.heap.size<=w.heap.size+1+1;omega) _).setCell (p:=⟨w.heap.size+1+1,1,none⟩) (by show w.heap.size<=w.heap.size+1+1;omega) _).setCell (p:=⟨w.heap.size+1+1,2,none⟩) (by show w.heap.size<=w.heap.size+1+1;omega) _⟩
  | true=>
  obtain⟨hix0,hix64⟩:=Own.verify_lt hvf
  dsimp only at hix0 hix64
  have hR4:R=if ix<Own.nextOf Kc m.pub then .error 8 else Own.approveF s msg (nm::seen) (Own.use Kc ⟨m.pub,ix+1⟩) (l.drop (k+1)):=by rw[HR3.out,hvf];rfl
  have HR4:=zh hR4
  obtain⟨y0,y1,y2,y3⟩:=N8.out.c4;obtain⟨p0,p1⟩:=M8.out.c2
  clear hvf hR4 HR3
  go_upto_region 13 with fail
  go_upto_region 14 with (at_mapUpdate;go_must (refine wp_upd rfl _ _ _ 174 4 rfl Tryz.underlying174 SM8.out (by unfold maxLen;omega) rfl nm (.bool true) rfl rfl (by unfold maxLen;omega) ?_);intro w9 hm9 hg9;have HM9:=zh hm9;have HG9:=zh hg9;clear hm9 hg9)
  have ne1:OB≠OB+1:=by omega
  have hbl8:=HB8.out
  have hat8:=HAT.out.below hbl8 hOBl
  have hown8:=own_below HOWN.out hbl8
  have hrne:∀ j,kvc.ownBlock=some j->j≠OB+1:=fun j hj=>by
   obtain⟨cur,hc⟩:=own_at hown8 hj
   exact SM8.out.ne_at hc
  have hkeep9:∀ j,j<w8.heap.size->j≠OB+1->w9.heap[j]? = w8.heap[j]? :=fun j hj hne=>HG9.out.block j hj (fun e=>hne (Option.some.inj e))
  have hat9:=hat8.keep (hkeep9 OB hat8.lt ne1)
  have hown9:=own_keep hown8 (fun j hj=>hkeep9 j (by obtain⟨cur,hc⟩:=own_at hown8 hj;exact hc.lt) (hrne j hj))
  have n9:=N8.out.keep (hkeep9 _ N8.out.lt (by omega))
  have m9:=M8.out.keep (hkeep9 _ M8.out.lt (by omega))
  have tw9:=TW8.out.keep (hkeep9 _ TW8.out.lt (by omega))
  have hsm9:Smap w9 (OB+1) (k+1) (Own.seenMap (nm::seen)):=by rw[Own.seenMap_cons];exact HM9.out
  have hb29:Below B w2 w9:=(HB.out.trans (hbl8.mono (by omega))).grown HG9.out (by have:=hbl8.size;omega) (fun j hj=>by cases hj;omega)
  obtain⟨o0,o1,o2⟩:=hat9.c3;obtain⟨p0,p1⟩:=m9.c2
  have hz9:=HG9.out.size
  obtain⟨va,vm,vc,rfl⟩:=own_slice hown9
  obtain rfl:=own_len hown9
  have hkey:=owKey_any o.count (.slice sa' o.spaces.length ss') (.slice va Kc.length vc) Kc m.pub w9 (Own.KeysC.of (RowsC.own hown9) rfl) HSR.out (by omega)
  obtain⟨P,hP⟩:∃ P:Nat,P=Own.posB Own.KeyUse.pub m.pub Kc:=⟨_,rfl⟩
  rw[<- hP] at hkey
  have HP:=zh hP;have HKEY:=zh hkey;have HAT9:=zh hat9;have HOWN9:=zh hown9;have N9:=zh n9;have M9:=zh m9;have TW9:=zh tw9;have SM9:=zh hsm9;have HB29:=zh hb29
  clear hbl8 hat8 hown8 hrne hkeep9 hat9 hown9 n9 m9 tw9 hsm9 hb29 hP hkey HM9 HG9 HAT HOWN N8 M8 TW8 SM8 TWR SWR MWR HSM HB HB6 y0 y1 y2 y3
  go_wp2_with fail
  refine HKEY.out.mono ?_
  rintro e w10 ⟨rfl,hb10⟩
  have HAT10:=zh (HAT9.out.below hb10 HAT9.out.lt);have HOWN10:=zh (own_below HOWN9.out hb10);have N10:=zh (N9.out.below hb10 N9.out.lt);have M10:=zh (M9.out.below hb10 M9.out.lt);have TW10:=zh (TW9.out.below hb10 TW9.out.lt);have SM10:=zh (SM9.out.below hb10 SM9.out.lt)
  have hz10:=hb10.size
  have HB210:=zh (HB29.out.trans (hb10.mono (by omega)))
  clear hb10 HKEY HAT9 HOWN9 N9 M9 TW9 SM9 HB29 o0 o1 o2 p0 p1
  cases hh:Own.hitB Own.KeyUse.pub m.pub Kc with
  | true =>
    obtain⟨K1,hK1⟩:∃ K1,K1=Kc:=⟨_,rfl⟩
    have hpl:Own.Placed Kc K1 m.pub:=by rw[hK1];exact Own.placed_hit HSR.out hh
    have PL:=zh hpl
    have own1:=HOWN10.out
    have at1:=HAT10.out
    rw[<- hK1] at own1 at1
    have OWN:=zh own1;have AT:=zh at1;have NN:=N10;have TWW:=TW10;have SMW:=SM10;have HB2W:=HB210
    clear hpl own1 at1 hK1 hh HOWN10 HAT10
    go_wp2_with fail
    obtain⟨hPl,hPp,hPn⟩:=PL.out.at_
    have hPu:=PL.out.use (ix+1)
    have hPlen:=PL.out.len
    rw[<- HP.out] at hPu
    have hPl' : P<K1.length:=by rw[HP.out];exact hPl
    have hPp' : K1[P].pub=m.pub:=by rw[<- hPp];congr 2
    have hPn' : K1[P].next=Own.nextOf Kc m.pub:=by rw[<- hPn];congr 2
    clear hPl hPp hPn
    obtain⟨g,cap,hv,_⟩:=own_cell OWN.out (by omega)
    cases hv
    obtain⟨ys,hatg,hbg,hnc,hcm,hcl,hxl⟩:=own_cur OWN.out
    have gcell:w10.cell? ⟨g,P*2+1,none⟩=some (.int .i64 (Own.nextOf Kc m.pub)):=by
     rw[hatg.cell]
     have h:=keys_get K1 P hPl'
     rw[hPn'] at h
     rw[List.getElem?_toArray,List.getElem?_append_left (List.getElem?_eq_some_iff.1 h).1,h]
    have gfree:=hatg.free (P*2+1)
    obtain⟨o0,o1,o2⟩:=AT.out.c3;obtain⟨y0,y1,y2,y3⟩:=NN.out.c4
    obtain⟨nx,hnx⟩:∃ nx,nx=Own.nextOf Kc m.pub:=⟨_,rfl⟩
    rw[<- hnx] at gcell
    have HR5:=HR4.out
    rw[<- hnx,hPu] at HR5
    have HPU:=zh hPu
    have HATG:=zh hatg
    have HXL:=zh hxl
    clear hatg hnx hPu hxl
    by_cases hix:ix<nx
    ·have dx:decide (ix<nx)=true:=decide_eq_true hix
     have e:R=.error 8:=by rw[HR5,if_pos hix]
     have HE:=zh e
     have TW:Hid (At w10.drew (w.heap.size+1+1) 38 #[.int .i64 0,.slice none 0 0,.slice none 0 0]):=zh TWW.out.drew
     have TB:=zh (BW2.out.trans (HB2W.out.mono (by omega))).drew
     have x0:=TWW.out.cell 0;have x1:=TWW.out.cell 1;have x2:=TWW.out.cell 2;have x3:=TWW.out.free 0;have x4:=TWW.out.free 1;have x5:=TWW.out.free 2
     simp only[List.getElem?_toArray,List.getElem?_cons_zero,List.getElem?_cons_succ] at x0 x1 x2
     clear e HR5
     go_wp2_with fail
     refine Lex.wp_region_lex (by kernel_rfl) (by kernel_rfl) ?_
     go_wp2_with fail
     refine Lex.Ends.intro (by kernel_rfl) ?_
     go_wp2_with fail
     have F2:=((TW.out.set 0 (.int .i64 0)).set 1 (.slice none 0 0)).set 2 (.slice none 0 0)
     refine done_ct rfl rfl rfl (load_row F2 Tryz.underlying38 rfl info_Owners) ?_
     rw[HQ.out,HE.out]
     exact⟨rfl,((TB.out.setCell (p:=⟨w.heap.size+1+1,0,none⟩) (by show w.heap.size<=w.heap.size+1+1;omega) _).setCell (p:=⟨w.heap.size+1+1,1,none⟩) (by show w.heap.size<=w.heap.size+1+1;omega) _).setCell (p:=⟨w.heap.size+1+1,2,none⟩) (by show w.heap.size<=w.heap.size+1+1;omega) _⟩
    ·have dx:decide (ix<nx)=false:=decide_eq_false hix
     have e:R=Own.approveF s msg (nm::seen) (K1.set P ⟨m.pub,ix+1⟩) (l.drop (k+1)):=by rw[HR5,if_neg hix]
     have HE:=zh e
     have hw:wrap64 (ix+1)=ix+1:=by unfold wrap64;omega
     clear e HR5
     go_wp2_with fail
     refine Lex.wp_region_lex (by kernel_rfl) (by kernel_rfl) ?_
     go_wp2_with fail
     refine Lex.Ends.intro (by kernel_rfl) ?_
     go_wp2_with fail
     have hgo:OB≠g:=AT.out.ne HATG.out (by decide)
     have hgm:g≠OB+1:=SMW.out.ne_at HATG.out
     refine⟨⟨k+1,by omega,by go_num,nm::seen,K1.set P ⟨m.pub,ix+1⟩,_,HE.out,?_,by rw[List.length_set];omega,(AT.out.far (p:=⟨g,P*2+1,none⟩) hgo _).drew,?_,?_,?_⟩,by simp[intOf];omega⟩
     ·rw[<- HPU.out,Own.use_put]
      exact Own.Srt.put _ HSR.out
     ·rw[List.length_set]
      have h1:=HATG.out.set (P*2+1) (.int .i64 (ix+1))
      have h2:=keys_set K1 P hPl' (ix+1)
      rw[hPp'] at h2
      rw[<- h2]
      have e1:((K1.flatMap Own.encK++ys).toArray.setIfInBounds (P*2+1) (.int .i64 (ix+1)))=((K1.flatMap Own.encK).set (P*2+1) (.int .i64 (ix+1))++ys).toArray:=by
       rw[List.setIfInBounds_toArray,List.set_append_left _ _ (by rw[HXL.out];omega)]
      rw[e1] at h1
      exact own_of_at h1.drew hbg hnc hcm (by simpa using hcl) (by rw[List.take_append_of_le_length (by rw[List.length_set,HXL.out];exact Nat.le_refl _),List.take_of_length_le (by rw[List.length_set,HXL.out];exact Nat.le_refl _)])
     ·exact SMW.out.keep (heap_setCell_other _ _ _ _ (by show OB+1≠g;exact fun e=>hgm e.symm))
     ·exact(HB2W.out.setCell (p:=⟨g,P*2+1,none⟩) hbg _).drew
  | false =>
    obtain⟨K1,hK1⟩:∃ K1,K1=Kc.take P++(⟨m.pub,0⟩::Kc.drop P):=⟨_,rfl⟩
    have hpl:Own.Placed Kc K1 m.pub:=by rw[hK1,HP.out];exact Own.placed_miss HSR.out hh
    have PL:=zh hpl
    have hPle:P<=Kc.length:=by rw[HP.out];exact Own.posB_le _ _
    have hb11:Below w10.heap.size w10 (w10.alloc (.cells #[.string m.pub,.int .i64 0] 91)):=(Below.refl _ _).alloc (Nat.le_refl _) _
    have hz11:(w10.alloc (.cells #[.string m.pub,.int .i64 0] 91)).heap.size=w10.heap.size+1:=World.size_alloc _ _
    have n11:=At.new w10 91 #[.string m.pub,.int .i64 0]
    have own11:=own_below HOWN10.out hb11
    have hins:=insKeys_any B Kc.length P w10.heap.size _ (Kc.flatMap Own.encK) [.string m.pub,.int .i64 0] _ own11 (Own.one_K _) hPle (by omega) rfl n11 (by intro u hu;simp at hu;rcases hu with rfl | rfl <;> rfl) (fun e=>by obtain⟨cur,hc⟩:=own_at HOWN10.out e;have:=hc.lt;omega) (by omega)
    have hK1f:(Kc.flatMap Own.encK).take (P*2)++([.string m.pub,.int .i64 0]++(Kc.flatMap Own.encK).drop (P*2))=K1.flatMap Own.encK:=by
     have e1:Kc.flatMap Own.encK=(Kc.take P).flatMap Own.encK++(Kc.drop P).flatMap Own.encK:=by rw[<- List.flatMap_append,List.take_append_drop]
     have e2:((Kc.take P).flatMap Own.encK).length=P*2:=by rw[Own.keys_flat_len,List.length_take,Nat.min_eq_left hPle]
     rw[hK1,List.flatMap_append,List.flatMap_cons,e1,<- e2,List.take_left,List.drop_left]
     rfl
    have hK1l:K1.length=Kc.length+1:=by rw[hK1];simp;omega
    have HINS:=zh hins;have HB11:=zh hb11;have HK1F:=zh hK1f;have HK1L:=zh hK1l
    have o0:=(HAT10.out.below hb11 HAT10.out.lt).cell 0;have o1:=(HAT10.out.below hb11 HAT10.out.lt).cell 1
    have o2' :=HAT10.out.cell 2
    have p1:=M10.out.cell 1
    simp only[List.getElem?_toArray,List.getElem?_cons_zero,List.getElem?_cons_succ] at o0 o1 o2' p1
    clear hpl hK1 hh hb11 n11 own11 hins hK1f hK1l
    go_wp2_with fail
    refine HINS.out.mono ?_
    rintro e w11 ⟨v',rfl,ho',hg11,hx11⟩
    rw[HK1F.out] at ho'
    have hkeep:∀ j (t:TypeId) (cs:Array Value),At w10 j t cs->t≠91->At w11 j t cs:=fun j t cs h ht=>by
     have h1:=h.alloc (.cells #[.string m.pub,.int .i64 0] 91)
     exact h1.grown hg11 (fun e=>by
      obtain⟨cur,hc⟩:=own_at HOWN10.out e.symm
      exact h.ne hc ht rfl)
    have at11:=hkeep _ _ _ HAT10.out (by decide)
    have nn11:=hkeep _ _ _ N10.out (by decide)
    have tw11:=hkeep _ _ _ TW10.out (by decide)
    have sm11:Smap w11 (OB+1) (k+1) (Own.seenMap (nm::seen)):=(SM10.out.below HB11.out SM10.out.lt).keep (hg11.block (OB+1) (by rw[hz11];have:=SM10.out.lt;omega) (fun e=>by
     obtain⟨cur,hc⟩:=own_at HOWN10.out e.symm
     exact SM10.out.ne_at hc rfl))
    have hb11' : Below B w2 w11:=(HB210.out.trans (HB11.out.mono (by omega))).grown hg11 (by rw[hz11];omega) (fun j hj=>own_up HOWN10.out j hj)
    have hz11' :=hg11.size
    obtain⟨xa,xm,xc,rfl⟩:=own_slice ho'
    rw[<- HK1L.out] at ho'
    obtain rfl:=own_len ho'
    have hne12:OB≠OB+1:=by omega
    have hobne:(Value.slice xa K1.length xc).ownBlock≠some OB:=at11.own_ne ho' (by decide)
    have q0:=at11.cell 0;have q1:=at11.cell 1;have q2:=at11.cell 2;have q3:=at11.free 2
    simp only[List.getElem?_toArray,List.getElem?_cons_zero,List.getElem?_cons_succ] at q0 q1 q2
    have AT11:=zh at11;have NN11:=zh nn11;have TW11:=zh tw11;have SM11:=zh sm11;have HB11' :=zh hb11';have HO11:=zh ho'
    clear hkeep at11 nn11 tw11 sm11 hb11' ho' hg11 hx11 HINS HB11 HK1F HOWN10 HAT10 N10 TW10 SM10 HB210 M10 o0 o1 o2' p1
    go_upto_region 17 with fail
    have atw:At (w11.setCell ⟨OB,2,none⟩ (.slice xa K1.length xc)) OB 38 #[.int .i64 o.count,.slice sa' o.spaces.length ss',.slice xa K1.length xc]:=AT11.out.set 2 (.slice xa K1.length xc)
    have ownw:(w11.setCell ⟨OB,2,none⟩ (.slice xa K1.length xc)).ownsRow B 91 2 (.slice xa K1.length xc) K1.length (K1.flatMap Own.encK):=own_keep HO11.out (fun j hj=>heap_setCell_other _ _ _ _ (by rintro rfl;exact hobne hj))
    have nnw:=NN11.out.far (p:=⟨OB,2,none⟩) (by show wr.heap.size≠OB;omega) (.slice xa K1.length xc)
    have tww:=TW11.out.far (p:=⟨OB,2,none⟩) (by show w.heap.size+1+1≠OB;omega) (.slice xa K1.length xc)
    have smw:Smap (w11.setCell ⟨OB,2,none⟩ (.slice xa K1.length xc)) (OB+1) (k+1) (Own.seenMap (nm::seen)):=SM11.out.keep (heap_setCell_other _ _ _ _ (by show OB+1≠OB;omega))
    have hb2w:=HB11'.out.setCell (p:=⟨OB,2,none⟩) hOBB (.slice xa K1.length xc)
    have OWN:=zh ownw;have AT:=zh atw;have NN:=zh nnw;have TWW:=zh tww;have SMW:=zh smw;have HB2W:=zh hb2w
    clear atw ownw nnw tww smw hb2w q0 q1 q2 q3 hobne AT11 NN11 TW11 SM11 HB11' HO11 hne12
    generalize w11.setCell ⟨OB,2,none⟩ (.slice xa K1.length xc)=w12 at*
    obtain⟨hPl,hPp,hPn⟩:=PL.out.at_
    have hPu:=PL.out.use (ix+1)
    have hPlen:=PL.out.len
    rw[<- HP.out] at hPu
    have hPl' : P<K1.length:=by rw[HP.out];exact hPl
    have hPp' : K1[P].pub=m.pub:=by rw[<- hPp];congr 2
    have hPn' : K1[P].next=Own.nextOf Kc m.pub:=by rw[<- hPn];congr 2
    clear hPl hPp hPn
    obtain⟨g,cap,hv,_⟩:=own_cell OWN.out (by omega)
    cases hv
    obtain⟨ys,hatg,hbg,hnc,hcm,hcl,hxl⟩:=own_cur OWN.out
    have gcell:w12.cell? ⟨g,P*2+1,none⟩=some (.int .i64 (Own.nextOf Kc m.pub)):=by
     rw[hatg.cell]
     have h:=keys_get K1 P hPl'
     rw[hPn'] at h
     rw[List.getElem?_toArray,List.getElem?_append_left (List.getElem?_eq_some_iff.1 h).1,h]
    have gfree:=hatg.free (P*2+1)
    obtain⟨o0,o1,o2⟩:=AT.out.c3;obtain⟨y0,y1,y2,y3⟩:=NN.out.c4
    obtain⟨nx,hnx⟩:∃ nx,nx=Own.nextOf Kc m.pub:=⟨_,rfl⟩
    rw[<- hnx] at gcell
    have HR5:=HR4.out
    rw[<- hnx,hPu] at HR5
    have HPU:=zh hPu
    have HATG:=zh hatg
    have HXL:=zh hxl
    clear hatg hnx hPu hxl
    by_cases hix:ix<nx
    ·have dx:decide (ix<nx)=true:=decide_eq_true hix
     have e:R=.error 8:=by rw[HR5,if_pos hix]
     have HE:=zh e
     have TW:Hid (At w12.drew (w.heap.size+1+1) 38 #[.int .i64 0,.slice none 0 0,.slice none 0 0]):=zh TWW.out.drew
     have TB:=zh (BW2.out.trans (HB2W.out.mono (by omega))).drew
     have x0:=TWW.out.cell 0;have x1:=TWW.out.cell 1;have x2:=TWW.out.cell 2;have x3:=TWW.out.free 0;have x4:=TWW.out.free 1;have x5:=TWW.out.free 2
     simp only[List.getElem?_toArray,List.getElem?_cons_zero,List.getElem?_cons_succ] at x0 x1 x2
     clear e HR5
     go_wp2_with fail
     refine Lex.wp_region_lex (by kernel_rfl) (by kernel_rfl) ?_
     go_wp2_with fail
     refine Lex.Ends.intro (by kernel_rfl) ?_
     go_wp2_with fail
     have F2:=((TW.out.set 0 (.int .i64 0)).set 1 (.slice none 0 0)).set 2 (.slice none 0 0)
     refine done_ct rfl rfl rfl (load_row F2 Tryz.underlying38 rfl info_Owners) ?_
     rw[HQ.out,HE.out]
     exact⟨rfl,((TB.out.setCell (p:=⟨w.heap.size+1+1,0,none⟩) (by show w.heap.size<=w.heap.size+1+1;omega) _).setCell (p:=⟨w.heap.size+1+1,1,none⟩) (by show w.heap.size<=w.heap.size+1+1;omega) _).setCell (p:=⟨w.heap.size+1+1,2,none⟩) (by show w.heap.size<=w.heap.size+1+1;omega) _⟩
    ·have dx:decide (ix<nx)=false:=decide_eq_false hix
     have e:R=Own.approveF s msg (nm::seen) (K1.set P ⟨m.pub,ix+1⟩) (l.drop (k+1)):=by rw[HR5,if_neg hix]
     have HE:=zh e
     have hw:wrap64 (ix+1)=ix+1:=by unfold wrap64;omega
     clear e HR5
     go_wp2_with fail
     refine Lex.wp_region_lex (by kernel_rfl) (by kernel_rfl) ?_
     go_wp2_with fail
     refine Lex.Ends.intro (by kernel_rfl) ?_
     go_wp2_with fail
     have hgo:OB≠g:=AT.out.ne HATG.out (by decide)
     have hgm:g≠OB+1:=SMW.out.ne_at HATG.out
     refine⟨⟨k+1,by omega,by go_num,nm::seen,K1.set P ⟨m.pub,ix+1⟩,_,HE.out,?_,by rw[List.length_set];omega,(AT.out.far (p:=⟨g,P*2+1,none⟩) hgo _).drew,?_,?_,?_⟩,by simp[intOf];omega⟩
     ·rw[<- HPU.out,Own.use_put]
      exact Own.Srt.put _ HSR.out
     ·rw[List.length_set]
      have h1:=HATG.out.set (P*2+1) (.int .i64 (ix+1))
      have h2:=keys_set K1 P hPl' (ix+1)
      rw[hPp'] at h2
      rw[<- h2]
      have e1:((K1.flatMap Own.encK++ys).toArray.setIfInBounds (P*2+1) (.int .i64 (ix+1)))=((K1.flatMap Own.encK).set (P*2+1) (.int .i64 (ix+1))++ys).toArray:=by
       rw[List.setIfInBounds_toArray,List.set_append_left _ _ (by rw[HXL.out];omega)]
      rw[e1] at h1
      exact own_of_at h1.drew hbg hnc hcm (by simpa using hcl) (by rw[List.take_append_of_le_length (by rw[List.length_set,HXL.out];exact Nat.le_refl _),List.take_of_length_le (by rw[List.length_set,HXL.out];exact Nat.le_refl _)])
     ·exact SMW.out.keep (heap_setCell_other _ _ _ _ (by show OB+1≠g;exact fun e=>hgm e.symm))
     ·exact(HB2W.out.setCell (p:=⟨g,P*2+1,none⟩) hbg _).drew
end
section
open Go Go.RowKit Go.Maps
namespace Own
theorem ownersOK_srt {o:Owners} (h:ownersOK o=true):Srt KeyUse.pub o.keys:=by
 unfold ownersOK at h
 simp only[Bool.and_eq_true] at h
 exact(srt_of_chain (f:=KeyUse.pub) h.2).1
def approveO (o:Owners) (s msg:ByteArray) (l:List Approval):Except Int (List KeyUse):=
 if ownersOK o then
  match authority o s with
  | none=>.error 6
  | some x => match approveF x msg [] o.keys l with
    | .error c=>.error c
    | .ok K=>if (l.length:Int)<x.threshold then .error 20 else .ok K
 else .error 1
end Own
def ApxPost (X:Nat->Prop) (w:World) (o:Own.Owners) (R:Except Int (List Own.KeyUse)) (e:Ending) (w' : World):Prop:=
 (match R with
   | .error c=>e=.returned (.tuple #[Own.nobody,.int .i64 c])
   | .ok K=>∃ sv kv,e=.returned (.tuple #[.agg #[.int .i64 o.count,sv,kv],.int .i64 0])/\ListF 3 Own.RSpace (fun k=>¬ X k) w' sv o.spaces/\ListF 2 Own.RKey (fun k=>¬ X k) w' kv K)/\Below w.heap.size w w'
theorem owApproveX_any (X:Nat->Prop) (o:Own.Owners) (s msg:ByteArray) (l:List Own.Approval) (sv kv lv:Value) (w:World) (hX:∀ k,X k->k<w.heap.size) (hMx:MaxL w) (hSx:ListF 3 Own.RSpace (fun k=>¬ X k) w sv o.spaces) (hK:Own.KeysC w kv o.keys) (hA:Own.ApprC w lv l)
 (hls:o.spaces.length<=3000000) (hlk:o.keys.length+l.length<=900000) (hlm:∀ s∈o.spaces,s.members.length<=3000000) (hmsg:msg.size<=9223372036854775000)
 (hal:∀ a∈l,a.name.size<=140737488355328/\a.sig.chains.length<=140737488355328/\a.sig.path.length<=140737488355328):
 Calls Tryz.prog 97 #[.agg #[.int .i64 o.count,sv,kv],.string s,.string msg,lv] w (ApxPost X w o (Own.approveO o s msg l)):=by
 obtain⟨R,hR⟩:∃ R,R=Own.approveO o s msg l:=⟨_,rfl⟩
 obtain⟨Q,hQ⟩:∃ Q,Q=ApxPost X w o R:=⟨_,rfl⟩
 rw[<- hR,<- hQ]
 have HQ:=zh hQ;have HR:=zh hR;clear hQ hR
 obtain⟨sa,sc,rfl⟩:=hSx.len
 have hS:Own.SpacesC w (.slice sa o.spaces.length sc) o.spaces:=hSx.mono (fun _ _ _=>trivial)
 have HSX:=zh hSx;clear hSx
 obtain⟨ka,kc,rfl⟩:=hK.len
 obtain⟨la,lc,rfl,hap⟩:=id hA
 clear hap
 have ha0:=(At.new w 38 #[.int .i64 o.count,.slice sa o.spaces.length sc,.slice ka o.keys.length kc]).alloc (.cells #[.int .i64 0,.slice none 0 0,.slice none 0 0] 38)
 have ha1:=At.new1 w (.cells #[.int .i64 o.count,.slice sa o.spaces.length sc,.slice ka o.keys.length kc] 38) 38 #[.int .i64 0,.slice none 0 0,.slice none 0 0]
 have hb1:Below w.heap.size w ((w.alloc (.cells #[.int .i64 o.count,.slice sa o.spaces.length sc,.slice ka o.keys.length kc] 38)).alloc (.cells #[.int .i64 0,.slice none 0 0,.slice none 0 0] 38)):=((Below.refl _ _).alloc (Nat.le_refl _) _).alloc (by simp) _
 have hz1:((w.alloc (.cells #[.int .i64 o.count,.slice sa o.spaces.length sc,.slice ka o.keys.length kc] 38)).alloc (.cells #[.int .i64 0,.slice none 0 0,.slice none 0 0] 38)).heap.size=w.heap.size+2:=by simp
 obtain⟨c0,c1,c2⟩:=ha0.c3
 have HS:=zh hS;have HK:=zh hK;have HA:=zh hA;have HMX:=zh hMx;have A0:=zh ha0;have A1:=zh ha1;have B1:=zh hb1;have HLM:=zh hlm;have HAL:=zh hal
 clear hS hK hA hMx ha0 ha1 hb1 hlm hal
 go_enter Tryz.func97,Tryz.ntmps97
 go_wp2_with fail
 generalize (w.alloc (.cells #[.int .i64 o.count,.slice sa o.spaces.length sc,.slice ka o.keys.length kc] 38)).alloc (.cells #[.int .i64 0,.slice none 0 0,.slice none 0 0] 38)=w1 at*
 refine(owValid_any o _ _ w1 (HMX.out.below B1.out) (HS.out.below B1.out) (HK.out.below B1.out) (by omega) (by omega) (fun s hs=>by have:=HLM.out s hs;omega)).mono ?_
 rintro e w2 ⟨rfl,hb2⟩
 have A02:=zh (A0.out.below hb2 (by omega));have A12:=zh (A1.out.below hb2 (by omega));have B2:=zh (B1.out.trans (hb2.mono B1.out.size))
 have hz2:=hb2.size
 obtain⟨y0,y1,y2⟩:=A02.out.c3
 clear hb2 A0 A1 B1 c0 c1 c2
 cases hv:Own.ownersOK o with
 | false =>
   have e:R=.error 1:=by rw[HR.out,Own.approveO,if_neg (by rw[hv];simp)]
   have HE:=zh e
   have TW:=A12;have TB:=B2
   have x0:=TW.out.cell 0;have x1:=TW.out.cell 1;have x2:=TW.out.cell 2;have x3:=TW.out.free 0;have x4:=TW.out.free 1;have x5:=TW.out.free 2
   simp only[List.getElem?_toArray,List.getElem?_cons_zero,List.getElem?_cons_succ] at x0 x1 x2
   clear e hv
   go_wp2_with fail
   have F2:=((TW.out.set 0 (.int .i64 0)).set 1 (.slice none 0 0)).set 2 (.slice none 0 0)
   refine done_ct rfl rfl rfl (load_row F2 Tryz.underlying38 rfl info_Owners) ?_
   rw[HQ.out,HE.out]
   exact⟨rfl,((TB.out.setCell (p:=⟨w.heap.size+1,0,none⟩) (by simp) _).setCell (p:=⟨w.heap.size+1,1,none⟩) (by simp) _).setCell (p:=⟨w.heap.size+1,2,none⟩) (by simp) _⟩
 | true=>
 have hR2:R=(match Own.authority o s with
  | none=>.error 6
  | some x => match Own.approveF x msg [] o.keys l with
    | .error c=>.error c
    | .ok K=>if (l.length:Int)<x.threshold then .error 20 else .ok K):=by rw[HR.out,Own.approveO,if_pos hv]
 have HR2:=zh hR2;have HSRT:=zh (Own.ownersOK_srt hv);have HOK:=zh (Own.OK.of hv)
 clear hR2 hv
 go_wp2_with fail
 refine(owAuthorityX_any o s _ _ w2 (HMX.out.below B2.out) (HS.out.below B2.out) (HK.out.below B2.out) (by omega) (by omega) (fun s hs=>by have:=HLM.out s hs;omega)).mono ?_
 intro e w3 hpost
 obtain⟨hval,hb3⟩:=hpost
 have A03:=zh (A02.out.below hb3 (by omega));have A13:=zh (A12.out.below hb3 (by omega));have B3:=zh (B2.out.trans (hb3.mono B2.out.size))
 have hz3:=hb3.size
 clear hb3 A02 A12 B2 y0 y1 y2
 cases hau:Own.authority o s with
 | none =>
   rw[hau] at hval
   have hval2:e=.returned (.tuple #[.agg #[.string ⟨#[]⟩,.slice none 0 0,.int .i64 0],.bool false]):=hval
   subst hval2
   have e:R=.error 6:=by rw[HR2.out,hau]
   have HE:=zh e
   have TW:=zh (A13.out.alloc (.cells #[.string ⟨#[]⟩,.slice none 0 0,.int .i64 0] 70));have TB:=zh (B3.out.alloc B3.out.size (.cells #[.string ⟨#[]⟩,.slice none 0 0,.int .i64 0] 70))
   have x0:=TW.out.cell 0;have x1:=TW.out.cell 1;have x2:=TW.out.cell 2;have x3:=TW.out.free 0;have x4:=TW.out.free 1;have x5:=TW.out.free 2
   simp only[List.getElem?_toArray,List.getElem?_cons_zero,List.getElem?_cons_succ] at x0 x1 x2
   clear e hau hval
   go_wp2_with fail
   have F2:=((TW.out.set 0 (.int .i64 0)).set 1 (.slice none 0 0)).set 2 (.slice none 0 0)
   refine done_ct rfl rfl rfl (load_row F2 Tryz.underlying38 rfl info_Owners) ?_
   rw[HQ.out,HE.out]
   exact⟨rfl,((TB.out.setCell (p:=⟨w.heap.size+1,0,none⟩) (by simp) _).setCell (p:=⟨w.heap.size+1,1,none⟩) (by simp) _).setCell (p:=⟨w.heap.size+1,2,none⟩) (by simp) _⟩
 | some sp=>
 rw[hau] at hval
 obtain⟨mv,rfl,hom⟩:=hval
 have hmem:=Own.authority_mem hau
 have hR3:R=(match Own.approveF sp msg [] o.keys l with
  | .error c=>.error c
  | .ok K=>if (l.length:Int)<sp.threshold then .error 20 else .ok K):=by rw[HR2.out,hau]
 obtain⟨ma,mm,mc,rfl⟩:=own_slice hom
 obtain rfl:=own_len hom
 have hb4:Below w3.heap.size w3 (w3.alloc (.cells #[.string sp.pre,.slice ma sp.members.length mc,.int .i64 sp.threshold] 70)):=(Below.refl _ _).alloc (Nat.le_refl _) _
 have hz4:(w3.alloc (.cells #[.string sp.pre,.slice ma sp.members.length mc,.int .i64 sp.threshold] 70)).heap.size=w3.heap.size+1:=World.size_alloc _ _
 have hmc:Own.MembersC (w3.alloc (.cells #[.string sp.pre,.slice ma sp.members.length mc,.int .i64 sp.threshold] 70)) (.slice ma sp.members.length mc) sp.members:=(Own.MembersC.of (RowsC.own hom) rfl).below hb4
 have B4:=zh (B3.out.trans (hb4.mono B3.out.size));have A04:=zh (A03.out.below hb4 (by omega));have A14:=zh (A13.out.below hb4 (by omega))
 have hap:=owApprove_any (fun k=>X k\/(w.heap.size<=k/\k<w.heap.size+2)) o sp msg l (.slice sa o.spaces.length sc) (.slice ka o.keys.length kc) (.slice ma sp.members.length mc) (.slice la l.length lc) _ (fun k hk=>by rcases hk with hk | hk;have:=hX k hk;omega;omega) ((HSX.out.mono (G:=fun k=>¬ (X k\/(w.heap.size<=k/\k<w.heap.size+2))) (fun k hx hk h=>h.elim hx (fun h=>by omega))).below B4.out) (HK.out.below B4.out) hmc (HA.out.below B4.out) HSRT.out hls hlk HLM.out (HLM.out sp hmem) hmsg HAL.out
 obtain⟨y0,y1,y2⟩:=A04.out.c3
 have HAP:=zh hap;have HR3:=zh hR3
 clear hap hR3 hau hmem hom hb4 hmc HR2 A03 A13 B3
 go_wp2_with fail
 refine HAP.out.mono ?_
 intro e w5 hpost
 obtain⟨hval,hb5⟩:=hpost
 have TW:=zh (A14.out.below hb5 (by omega));have TB:=zh (B4.out.trans (hb5.mono B4.out.size))
 have hz5:=hb5.size
 clear hb5 A04 A14 B4 y0 y1 y2 HAP
 have x0:=TW.out.cell 0;have x1:=TW.out.cell 1;have x2:=TW.out.cell 2;have x3:=TW.out.free 0;have x4:=TW.out.free 1;have x5:=TW.out.free 2
 simp only[List.getElem?_toArray,List.getElem?_cons_zero,List.getElem?_cons_succ] at x0 x1 x2
 cases hf:Own.approveF sp msg [] o.keys l with
 | error c =>
   rw[hf] at hval
   have hval2:e=.returned (.tuple #[Own.nobody,.int .i64 c]):=hval
   subst hval2
   have e:R=.error c:=by rw[HR3.out,hf]
   have HE:=zh e
   unfold Own.nobody
   clear e hf hval
   go_wp2_with fail
   have F2:=((TW.out.set 0 (.int .i64 0)).set 1 (.slice none 0 0)).set 2 (.slice none 0 0)
   refine done_ct rfl rfl rfl (load_row F2 Tryz.underlying38 rfl info_Owners) ?_
   rw[HQ.out,HE.out]
   exact⟨rfl,((TB.out.setCell (p:=⟨w.heap.size+1,0,none⟩) (by simp) _).setCell (p:=⟨w.heap.size+1,1,none⟩) (by simp) _).setCell (p:=⟨w.heap.size+1,2,none⟩) (by simp) _⟩
 | ok K =>
   rw[hf] at hval
   by_cases hth:(l.length:Int)<sp.threshold
   ·have hval2 : e = .returned (.tuple #[Own.nobody,.int .i64 20]) :=by
     have h:if (l.length:Int)<sp.threshold then e=.returned (.tuple #[Own.nobody,.int .i64 20]) else _:=hval
     rw[if_pos hth] at h
     exact h
    subst hval2
    have e:R=.error 20:=by rw[HR3.out,hf];exact if_pos hth
    have HE:=zh e
    unfold Own.nobody
    clear e hf hval
    go_wp2_with fail
    have F2:=((TW.out.set 0 (.int .i64 0)).set 1 (.slice none 0 0)).set 2 (.slice none 0 0)
    refine done_ct rfl rfl rfl (load_row F2 Tryz.underlying38 rfl info_Owners) ?_
    rw[HQ.out,HE.out]
    exact⟨rfl,((TB.out.setCell (p:=⟨w.heap.size+1,0,none⟩) (by simp) _).setCell (p:=⟨w.heap.size+1,1,none⟩) (by simp) _).setCell (p:=⟨w.heap.size+1,2,none⟩) (by simp) _⟩
   ·have hval2 : ∃ sv kv,e = .returned (.tuple #[.agg #[.int .i64 o.count,sv,kv],.int .i64 0]) ∧ ListF 3 Own.RSpace (fun k => ¬ (X k ∨ (w.heap.size ≤ k ∧ k < w.heap.size + 2))) w5 sv o.spaces ∧ ListF 2 Own.RKey (fun k => ¬ (X k ∨ (w.heap.size ≤ k ∧ k < w.heap.size + 2))) w5 kv K :=by
     have h:if (l.length:Int)<sp.threshold then _ else ∃ sv kv,e=.returned (.tuple #[.agg #[.int .i64 o.count,sv,kv],.int .i64 0])/\ListF 3 Own.RSpace (fun k=>¬ (X k\/(w.heap.size<=k/\k<w.heap.size+2))) w5 sv o.spaces/\ListF 2 Own.RKey (fun k=>¬ (X k\/(w.heap.size<=k/\k<w.heap.size+2))) w5 kv K:=hval
     rw[if_neg hth] at h
     exact h
    obtain⟨sv2,kv2,rfl,hs2,hk2⟩:=hval2
    have e:R=.ok K:=by rw[HR3.out,hf];exact if_neg hth
    have HE:=zh e;have HS2:=zh hs2;have HK2:=zh hk2
    obtain⟨va,vc,rfl⟩:=hs2.len
    obtain⟨ua,uc,rfl⟩:=hk2.len
    clear e hf hval hs2 hk2
    go_wp2_with fail
    have F2:=((TW.out.set 0 (.int .i64 o.count)).set 1 (.slice va o.spaces.length vc)).set 2 (.slice ua K.length uc)
    have hfar:∀ j,¬ (X j\/(w.heap.size<=j/\j<w.heap.size+2))->(((w5.setCell ⟨w.heap.size+1,0,none⟩ (.int .i64 o.count)).setCell ⟨w.heap.size+1,1,none⟩ (.slice va o.spaces.length vc)).setCell ⟨w.heap.size+1,2,none⟩ (.slice ua K.length uc)).heap[j]? = w5.heap[j]? :=fun j hj=>by
     have hne:j≠w.heap.size+1:=by rintro rfl;exact hj (.inr ⟨by omega,by omega⟩)
     rw[heap_setCell_other _ _ _ _ hne,heap_setCell_other _ _ _ _ hne,heap_setCell_other _ _ _ _ hne]
    refine done_ct rfl rfl rfl (load_row F2 Tryz.underlying38 rfl info_Owners) ?_
    rw[HQ.out,HE.out]
    refine⟨⟨_,_,rfl,?_,?_⟩,((TB.out.setCell (p:=⟨w.heap.size+1,0,none⟩) (by simp) _).setCell (p:=⟨w.heap.size+1,1,none⟩) (by simp) _).setCell (p:=⟨w.heap.size+1,2,none⟩) (by simp) _⟩
    ·exact(HS2.out.keep (by simp[World.setCell]) (fun k hk _=>hfar k hk)).mono (fun k hk _ hx=>hk (.inl hx))
    ·exact(HK2.out.keep (by simp[World.setCell]) (fun k hk _=>hfar k hk)).mono (fun k hk _ hx=>hk (.inl hx))
end
end Go.Proofs.YtnijhlphcjjpbaaGreatDoor
