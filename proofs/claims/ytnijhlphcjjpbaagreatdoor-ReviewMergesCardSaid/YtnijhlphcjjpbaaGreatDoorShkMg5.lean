/- The program's owners: Approve; The program's reviews: one member's vote is used up; The program's reviews: which proposals and queues are valid; what is looked for; The program's reviews: valid queues, what is found, a copy; The program's reviews: a copy of a proposal; The references of owners and reviews: looking up, and what is few; The references of owners and reviews: what is few; The reference's reviews: which proposals and queues are valid; The program's reviews: the proposals that are kept; The program's reviews: what is withdrawn, what expires; The reference's reviews: copies of proposals, queues without one, what expires; The reference's reviews: queues without a proposal, what expi. -/
import Derived.Test.YtnijhlphcjjpbaaGreatDoorShkMg4
set_option linter.unusedVariables false
set_option linter.unusedSimpArgs false
set_option maxRecDepth 100000
set_option maxHeartbeats 8000000
namespace Go.Proofs.YtnijhlphcjjpbaaGreatDoor
section
open Go Go.RowKit Go.Maps
namespace Own
theorem ownersOK_srt {o:Owners} (h:ownersOK o=true):Srt KeyUse.pub o.keys:=by
 unfold ownersOK at h
 simp only[Bool.and_eq_true] at h
 exact(srt_of_chain (f:=KeyUse.pub) h.2).1
def approveO (o:Owners) (s msg:ByteArray) (l:List Approval):Except Int (List KeyUse):=
 if ownersOK o then
  match authority o s with
  | none=>.error 6
  | some x => match approveF x msg [] o.keys l with
    | .error c=>.error c
    | .ok K=>if (l.length:Int)<x.threshold then .error 20 else .ok K
 else .error 1
end Own
def ApxPost (X:Nat->Prop) (w:World) (o:Own.Owners) (R:Except Int (List Own.KeyUse)) (e:Ending) (w' : World):Prop:=
 (match R with
   | .error c=>e=.returned (.tuple #[Own.nobody,.int .i64 c])
   | .ok K=>∃ sv kv,e=.returned (.tuple #[.agg #[.int .i64 o.count,sv,kv],.int .i64 0])/\ListF 3 Own.RSpace (fun k=>¬ X k) w' sv o.spaces/\ListF 2 Own.RKey (fun k=>¬ X k) w' kv K)/\Below w.heap.size w w'
theorem owApproveX_any (X:Nat->Prop) (o:Own.Owners) (s msg:ByteArray) (l:List Own.Approval) (sv kv lv:Value) (w:World) (hX:∀ k,X k->k<w.heap.size) (hMx:MaxL w) (hSx:ListF 3 Own.RSpace (fun k=>¬ X k) w sv o.spaces) (hK:Own.KeysC w kv o.keys) (hA:Own.ApprC w lv l)
 (hls:o.spaces.length<=3000000) (hlk:o.keys.length+l.length<=900000) (hlm:∀ s∈o.spaces,s.members.length<=3000000) (hmsg:msg.size<=9223372036854775000)
 (hal:∀ a∈l,a.name.size<=140737488355328/\a.sig.chains.length<=140737488355328/\a.sig.path.length<=140737488355328):
 Calls Tryz.prog 97 #[.agg #[.int .i64 o.count,sv,kv],.string s,.string msg,lv] w (ApxPost X w o (Own.approveO o s msg l)):=by
 obtain⟨R,hR⟩:∃ R,R=Own.approveO o s msg l:=⟨_,rfl⟩
 obtain⟨Q,hQ⟩:∃ Q,Q=ApxPost X w o R:=⟨_,rfl⟩
 rw[<- hR,<- hQ]
 have HQ:=zh hQ;have HR:=zh hR;clear hQ hR
 obtain⟨sa,sc,rfl⟩:=hSx.len
 have hS:Own.SpacesC w (.slice sa o.spaces.length sc) o.spaces:=hSx.mono (fun _ _ _=>trivial)
 have HSX:=zh hSx;clear hSx
 obtain⟨ka,kc,rfl⟩:=hK.len
 obtain⟨la,lc,rfl,hap⟩:=id hA
 clear hap
 have ha0:=(At.new w 38 #[.int .i64 o.count,.slice sa o.spaces.length sc,.slice ka o.keys.length kc]).alloc (.cells #[.int .i64 0,.slice none 0 0,.slice none 0 0] 38)
 have ha1:=At.new1 w (.cells #[.int .i64 o.count,.slice sa o.spaces.length sc,.slice ka o.keys.length kc] 38) 38 #[.int .i64 0,.slice none 0 0,.slice none 0 0]
 have hb1:Below w.heap.size w ((w.alloc (.cells #[.int .i64 o.count,.slice sa o.spaces.length sc,.slice ka o.keys.length kc] 38)).alloc (.cells #[.int .i64 0,.slice none 0 0,.slice none 0 0] 38)):=((Below.refl _ _).alloc (Nat.le_refl _) _).alloc (by simp) _
 have hz1:((w.alloc (.cells #[.int .i64 o.count,.slice sa o.spaces.length sc,.slice ka o.keys.length kc] 38)).alloc (.cells #[.int .i64 0,.slice none 0 0,.slice none 0 0] 38)).heap.size=w.heap.size+2:=by simp
 obtain⟨c0,c1,c2⟩:=ha0.c3
 have HS:=zh hS;have HK:=zh hK;have HA:=zh hA;have HMX:=zh hMx;have A0:=zh ha0;have A1:=zh ha1;have B1:=zh hb1;have HLM:=zh hlm;have HAL:=zh hal
 clear hS hK hA hMx ha0 ha1 hb1 hlm hal
 go_enter Tryz.func97,Tryz.ntmps97
 go_wp2_with fail
 generalize (w.alloc (.cells #[.int .i64 o.count,.slice sa o.spaces.length sc,.slice ka o.keys.length kc] 38)).alloc (.cells #[.int .i64 0,.slice none 0 0,.slice none 0 0] 38)=w1 at*
 refine(owValid_any o _ _ w1 (HMX.out.below B1.out) (HS.out.below B1.out) (HK.out.below B1.out) (by omega) (by omega) (fun s hs=>by have:=HLM.out s hs;omega)).mono ?_
 rintro e w2 ⟨rfl,hb2⟩
 have A02:=zh (A0.out.below hb2 (by omega));have A12:=zh (A1.out.below hb2 (by omega));have B2:=zh (B1.out.trans (hb2.mono B1.out.size))
 have hz2:=hb2.size
 obtain⟨y0,y1,y2⟩:=A02.out.c3
 clear hb2 A0 A1 B1 c0 c1 c2
 cases hv:Own.ownersOK o with
 | false =>
   have e:R=.error 1:=by rw[HR.out,Own.approveO,if_neg (by rw[hv];simp)]
   have HE:=zh e
   have TW:=A12;have TB:=B2
   have x0:=TW.out.cell 0;have x1:=TW.out.cell 1;have x2:=TW.out.cell 2;have x3:=TW.out.free 0;have x4:=TW.out.free 1;have x5:=TW.out.free 2
   simp only[List.getElem?_toArray,List.getElem?_cons_zero,List.getElem?_cons_succ] at x0 x1 x2
   clear e hv
   go_wp2_with fail
   have F2:=((TW.out.set 0 (.int .i64 0)).set 1 (.slice none 0 0)).set 2 (.slice none 0 0)
   refine done_ct rfl rfl rfl (load_row F2 Tryz.underlying38 rfl info_Owners) ?_
   rw[HQ.out,HE.out]
   exact⟨rfl,((TB.out.setCell (p:=⟨w.heap.size+1,0,none⟩) (by simp) _).setCell (p:=⟨w.heap.size+1,1,none⟩) (by simp) _).setCell (p:=⟨w.heap.size+1,2,none⟩) (by simp) _⟩
 | true=>
 have hR2:R=(match Own.authority o s with
  | none=>.error 6
  | some x => match Own.approveF x msg [] o.keys l with
    | .error c=>.error c
    | .ok K=>if (l.length:Int)<x.threshold then .error 20 else .ok K):=by rw[HR.out,Own.approveO,if_pos hv]
 have HR2:=zh hR2;have HSRT:=zh (Own.ownersOK_srt hv);have HOK:=zh (Own.OK.of hv)
 clear hR2 hv
 go_wp2_with fail
 refine(owAuthorityX_any o s _ _ w2 (HMX.out.below B2.out) (HS.out.below B2.out) (HK.out.below B2.out) (by omega) (by omega) (fun s hs=>by have:=HLM.out s hs;omega)).mono ?_
 intro e w3 hpost
 obtain⟨hval,hb3⟩:=hpost
 have A03:=zh (A02.out.below hb3 (by omega));have A13:=zh (A12.out.below hb3 (by omega));have B3:=zh (B2.out.trans (hb3.mono B2.out.size))
 have hz3:=hb3.size
 clear hb3 A02 A12 B2 y0 y1 y2
 cases hau:Own.authority o s with
 | none =>
   rw[hau] at hval
   have hval2:e=.returned (.tuple #[.agg #[.string ⟨#[]⟩,.slice none 0 0,.int .i64 0],.bool false]):=hval
   subst hval2
   have e:R=.error 6:=by rw[HR2.out,hau]
   have HE:=zh e
   have TW:=zh (A13.out.alloc (.cells #[.string ⟨#[]⟩,.slice none 0 0,.int .i64 0] 70));have TB:=zh (B3.out.alloc B3.out.size (.cells #[.string ⟨#[]⟩,.slice none 0 0,.int .i64 0] 70))
   have x0:=TW.out.cell 0;have x1:=TW.out.cell 1;have x2:=TW.out.cell 2;have x3:=TW.out.free 0;have x4:=TW.out.free 1;have x5:=TW.out.free 2
   simp only[List.getElem?_toArray,List.getElem?_cons_zero,List.getElem?_cons_succ] at x0 x1 x2
   clear e hau hval
   go_wp2_with fail
   have F2:=((TW.out.set 0 (.int .i64 0)).set 1 (.slice none 0 0)).set 2 (.slice none 0 0)
   refine done_ct rfl rfl rfl (load_row F2 Tryz.underlying38 rfl info_Owners) ?_
   rw[HQ.out,HE.out]
   exact⟨rfl,((TB.out.setCell (p:=⟨w.heap.size+1,0,none⟩) (by simp) _).setCell (p:=⟨w.heap.size+1,1,none⟩) (by simp) _).setCell (p:=⟨w.heap.size+1,2,none⟩) (by simp) _⟩
 | some sp=>
 rw[hau] at hval
 obtain⟨mv,rfl,hom⟩:=hval
 have hmem:=Own.authority_mem hau
 have hR3:R=(match Own.approveF sp msg [] o.keys l with
  | .error c=>.error c
  | .ok K=>if (l.length:Int)<sp.threshold then .error 20 else .ok K):=by rw[HR2.out,hau]
 obtain⟨ma,mm,mc,rfl⟩:=own_slice hom
 obtain rfl:=own_len hom
 have hb4:Below w3.heap.size w3 (w3.alloc (.cells #[.string sp.pre,.slice ma sp.members.length mc,.int .i64 sp.threshold] 70)):=(Below.refl _ _).alloc (Nat.le_refl _) _
 have hz4:(w3.alloc (.cells #[.string sp.pre,.slice ma sp.members.length mc,.int .i64 sp.threshold] 70)).heap.size=w3.heap.size+1:=World.size_alloc _ _
 have hmc:Own.MembersC (w3.alloc (.cells #[.string sp.pre,.slice ma sp.members.length mc,.int .i64 sp.threshold] 70)) (.slice ma sp.members.length mc) sp.members:=(Own.MembersC.of (RowsC.own hom) rfl).below hb4
 have B4:=zh (B3.out.trans (hb4.mono B3.out.size));have A04:=zh (A03.out.below hb4 (by omega));have A14:=zh (A13.out.below hb4 (by omega))
 have hap:=owApprove_any (fun k=>X k\/(w.heap.size<=k/\k<w.heap.size+2)) o sp msg l (.slice sa o.spaces.length sc) (.slice ka o.keys.length kc) (.slice ma sp.members.length mc) (.slice la l.length lc) _ (fun k hk=>by rcases hk with hk | hk;have:=hX k hk;omega;omega) ((HSX.out.mono (G:=fun k=>¬ (X k\/(w.heap.size<=k/\k<w.heap.size+2))) (fun k hx hk h=>h.elim hx (fun h=>by omega))).below B4.out) (HK.out.below B4.out) hmc (HA.out.below B4.out) HSRT.out hls hlk HLM.out (HLM.out sp hmem) hmsg HAL.out
 obtain⟨y0,y1,y2⟩:=A04.out.c3
 have HAP:=zh hap;have HR3:=zh hR3
 clear hap hR3 hau hmem hom hb4 hmc HR2 A03 A13 B3
 go_wp2_with fail
 refine HAP.out.mono ?_
 intro e w5 hpost
 obtain⟨hval,hb5⟩:=hpost
 have TW:=zh (A14.out.below hb5 (by omega));have TB:=zh (B4.out.trans (hb5.mono B4.out.size))
 have hz5:=hb5.size
 clear hb5 A04 A14 B4 y0 y1 y2 HAP
 have x0:=TW.out.cell 0;have x1:=TW.out.cell 1;have x2:=TW.out.cell 2;have x3:=TW.out.free 0;have x4:=TW.out.free 1;have x5:=TW.out.free 2
 simp only[List.getElem?_toArray,List.getElem?_cons_zero,List.getElem?_cons_succ] at x0 x1 x2
 cases hf:Own.approveF sp msg [] o.keys l with
 | error c =>
   rw[hf] at hval
   have hval2:e=.returned (.tuple #[Own.nobody,.int .i64 c]):=hval
   subst hval2
   have e:R=.error c:=by rw[HR3.out,hf]
   have HE:=zh e
   unfold Own.nobody
   clear e hf hval
   go_wp2_with fail
   have F2:=((TW.out.set 0 (.int .i64 0)).set 1 (.slice none 0 0)).set 2 (.slice none 0 0)
   refine done_ct rfl rfl rfl (load_row F2 Tryz.underlying38 rfl info_Owners) ?_
   rw[HQ.out,HE.out]
   exact⟨rfl,((TB.out.setCell (p:=⟨w.heap.size+1,0,none⟩) (by simp) _).setCell (p:=⟨w.heap.size+1,1,none⟩) (by simp) _).setCell (p:=⟨w.heap.size+1,2,none⟩) (by simp) _⟩
 | ok K =>
   rw[hf] at hval
   by_cases hth:(l.length:Int)<sp.threshold
   ·have hval2 : e = .returned (.tuple #[Own.nobody,.int .i64 20]) :=by
     have h:if (l.length:Int)<sp.threshold then e=.returned (.tuple #[Own.nobody,.int .i64 20]) else _:=hval
     rw[if_pos hth] at h
     exact h
    subst hval2
    have e:R=.error 20:=by rw[HR3.out,hf];exact if_pos hth
    have HE:=zh e
    unfold Own.nobody
    clear e hf hval
    go_wp2_with fail
    have F2:=((TW.out.set 0 (.int .i64 0)).set 1 (.slice none 0 0)).set 2 (.slice none 0 0)
    refine done_ct rfl rfl rfl (load_row F2 Tryz.underlying38 rfl info_Owners) ?_
    rw[HQ.out,HE.out]
    exact⟨rfl,((TB.out.setCell (p:=⟨w.heap.size+1,0,none⟩) (by simp) _).setCell (p:=⟨w.heap.size+1,1,none⟩) (by simp) _).setCell (p:=⟨w.heap.size+1,2,none⟩) (by simp) _⟩
   ·have hval2 : ∃ sv kv,e = .returned (.tuple #[.agg #[.int .i64 o.count,sv,kv],.int .i64 0]) ∧ ListF 3 Own.RSpace (fun k => ¬ (X k ∨ (w.heap.size ≤ k ∧ k < w.heap.size + 2))) w5 sv o.spaces ∧ ListF 2 Own.RKey (fun k => ¬ (X k ∨ (w.heap.size ≤ k ∧ k < w.heap.size + 2))) w5 kv K :=by
     have h:if (l.length:Int)<sp.threshold then _ else ∃ sv kv,e=.returned (.tuple #[.agg #[.int .i64 o.count,sv,kv],.int .i64 0])/\ListF 3 Own.RSpace (fun k=>¬ (X k\/(w.heap.size<=k/\k<w.heap.size+2))) w5 sv o.spaces/\ListF 2 Own.RKey (fun k=>¬ (X k\/(w.heap.size<=k/\k<w.heap.size+2))) w5 kv K:=hval
     rw[if_neg hth] at h
     exact h
    obtain⟨sv2,kv2,rfl,hs2,hk2⟩:=hval2
    have e:R=.ok K:=by rw[HR3.out,hf];exact if_neg hth
    have HE:=zh e;have HS2:=zh hs2;have HK2:=zh hk2
    obtain⟨va,vc,rfl⟩:=hs2.len
    obtain⟨ua,uc,rfl⟩:=hk2.len
    clear e hf hval hs2 hk2
    go_wp2_with fail
    have F2:=((TW.out.set 0 (.int .i64 o.count)).set 1 (.slice va o.spaces.length vc)).set 2 (.slice ua K.length uc)
    have hfar:∀ j,¬ (X j\/(w.heap.size<=j/\j<w.heap.size+2))->(((w5.setCell ⟨w.heap.size+1,0,none⟩ (.int .i64 o.count)).setCell ⟨w.heap.size+1,1,none⟩ (.slice va o.spaces.length vc)).setCell ⟨w.heap.size+1,2,none⟩ (.slice ua K.length uc)).heap[j]? = w5.heap[j]? :=fun j hj=>by
     have hne:j≠w.heap.size+1:=by rintro rfl;exact hj (.inr ⟨by omega,by omega⟩)
     rw[heap_setCell_other _ _ _ _ hne,heap_setCell_other _ _ _ _ hne,heap_setCell_other _ _ _ _ hne]
    refine done_ct rfl rfl rfl (load_row F2 Tryz.underlying38 rfl info_Owners) ?_
    rw[HQ.out,HE.out]
    refine⟨⟨_,_,rfl,?_,?_⟩,((TB.out.setCell (p:=⟨w.heap.size+1,0,none⟩) (by simp) _).setCell (p:=⟨w.heap.size+1,1,none⟩) (by simp) _).setCell (p:=⟨w.heap.size+1,2,none⟩) (by simp) _⟩
    ·exact(HS2.out.keep (by simp[World.setCell]) (fun k hk _=>hfar k hk)).mono (fun k hk _ hx=>hk (.inl hx))
    ·exact(HK2.out.keep (by simp[World.setCell]) (fun k hk _=>hfar k hk)).mono (fun k hk _ hx=>hk (.inl hx))
end
section
open Go Go.RowKit Go.Maps
namespace Own
theorem bestF_belongs (s:ByteArray):∀ (l:List Space) (b:Option Space) (x:Space),bestF s b l=some x->belongs s x.pre=true\/b=some x
 | [],b,x,h=>.inr h
 | y :: l,b,x,h => by
   rw[bestF_cons] at h
   rcases bestF_belongs s l _ x h with h | h
   ·exact .inl h
   ·unfold stepB at h
    split at h
    ·rename_i hc
     cases h
     exact .inl (Bool.and_eq_true_iff.1 hc).1
    ·exact .inr h
theorem authority_some {o:Owners} {s:ByteArray} {x:Space} (h:authority o s=some x):ownersOK o=true/\pathOK s=true/\belongs s x.pre=true/\x∈o.spaces:=by
 have hm:=authority_mem h
 unfold authority at h
 split at h
 ·rename_i hc
  obtain⟨h1,h2⟩:=Bool.and_eq_true_iff.1 hc
  rcases bestF_belongs s _ _ x h with h3 | h3
  ·exact⟨h1,h2,h3,hm⟩
  ·cases h3
 ·cases h
theorem membersFrom_each:∀ (pre l:List Member),membersFrom pre l=true->∀ m∈l,nameOK m.name=true/\Sig.public_ m.pub=true
 | _,[],_,m,hm=>by cases hm
 | pre,x :: l,h,m,hm => by
   have h' : (memberOK pre x&&membersFrom (pre++[x]) l)=true:=h
   obtain⟨h1,h2⟩:=Bool.and_eq_true_iff.1 h'
   rcases List.mem_cons.1 hm with rfl | hm
   ·unfold memberOK at h1
    simp only[Bool.and_eq_true] at h1
    exact⟨h1.1.1.1,h1.1.1.2⟩
   ·exact membersFrom_each _ l h2 m hm
def alone (o:Owners) (s:Space) (m:Member):Owners :={ o with spaces:=[⟨s.pre,[m],1⟩] }
theorem alone_ok {o:Owners} {s:Space} {m:Member} (ho:ownersOK o=true) (hs:spaceOK s=true) (hm:m∈s.members):ownersOK (alone o s m)=true:=by
 have hp:=SpOK.of hs
 obtain⟨h1,h2⟩:=membersFrom_each _ _ hp.mem m hm
 have hsp:spaceOK ⟨s.pre,[m],1⟩=true:=by
  unfold spaceOK membersOK membersFrom membersFrom memberOK
  simp[hp.path,h1,h2]
 unfold ownersOK alone at*
 simp only[Bool.and_eq_true] at ho ⊢
 obtain⟨⟨⟨⟨a1,a2⟩,a3⟩,a4⟩,a5⟩:=ho
 refine⟨⟨⟨⟨a1,a2⟩,by simp⟩,?_⟩,a5⟩
 simp[chainOK,hsp]
theorem alone_authority {o:Owners} {s:Space} {m:Member} {p:ByteArray} (ho:ownersOK o=true) (hs:spaceOK s=true) (hm:m∈s.members) (hp:pathOK p=true) (hb:belongs p s.pre=true):authority (alone o s m) p=some ⟨s.pre,[m],1⟩:=by
 unfold authority
 rw[alone_ok ho hs hm,hp]
 show bestF p none [⟨s.pre,[m],1⟩]=_
 rw[bestF_cons]
 unfold stepB
 rw[show belongs p (⟨s.pre,[m],1⟩:Space).pre=true from hb]
 rfl
theorem alone_approve {o:Owners} {s:Space} {m:Member} {p msg:ByteArray} {a:Approval} (ho:ownersOK o=true) (hs:spaceOK s=true) (hm:m∈s.members) (hp:pathOK p=true) (hb:belongs p s.pre=true) (hn:m.name=a.name):
 approveO (alone o s m) p msg [a]=if Sig.verify m.pub msg a.sig then (if a.sig.index<nextOf o.keys m.pub then .error 8 else .ok (use o.keys ⟨m.pub,a.sig.index+1⟩)) else .error 18:=by
 unfold approveO
 rw[if_pos (alone_ok ho hs hm),alone_authority ho hs hm hp hb]
 have hf:find [m] a.name=some m:=by unfold find;rw[List.find?_cons_of_pos (by simpa using hn)]
 have hA:approveF ⟨s.pre,[m],1⟩ msg [] (alone o s m).keys [a]=if Sig.verify m.pub msg a.sig then (if a.sig.index<nextOf o.keys m.pub then .error 8 else .ok (use o.keys ⟨m.pub,a.sig.index+1⟩)) else .error 18:=by
  unfold approveF
  rw[hf]
  rfl
 dsimp only
 rw[hA]
 cases Sig.verify m.pub msg a.sig with
 | false=>rfl
 | true =>
   by_cases h:a.sig.index<nextOf o.keys m.pub
   ·rw[if_pos rfl,if_pos h]
   ·rw[if_pos rfl,if_neg h];rfl
def usedR (o:Owners) (s:Space) (msg:ByteArray) (a:Approval):Except Int (Member × List KeyUse):=match find s.members a.name with
 | none=>.error 6
 | some m=>if Sig.verify m.pub msg a.sig then (if a.sig.index<nextOf o.keys m.pub then .error 8 else .ok (m,use o.keys ⟨m.pub,a.sig.index+1⟩)) else .error 18
theorem SpRow.setM {w:World} {g k:Nat} {F:Nat->Prop} {S:List Space} (h:SpRow w g F S) (hF:∀ k,F k->k≠g) (hk:k<S.length) (v' : Value) (hv:ListF 2 RMember F w v' S[k].members):
 SpRow (w.setCell ⟨g,k*3+1,none⟩ v') g F S:=by
 obtain⟨cur,vs,h1,h2⟩:=h.row
 have keep:∀ (l:List Member) (v:Value),ListF 2 RMember F w v l->ListF 2 RMember F (w.setCell ⟨g,k*3+1,none⟩ v') v l:=fun l v hl=>
  hl.keep (by simp[World.setCell]) (fun j hj _=>heap_setCell_other _ _ _ _ (hF j hj))
 refine⟨_,fun i=>if i=k then v' else vs i,h1.set (k*3+1) _,fun i hi=>?_⟩
 obtain⟨a,b,d,e⟩:=h2 i hi
 by_cases hik:i=k
 ·subst hik
  have s1:=(Array.getElem?_eq_some_iff.1 b).1
  refine⟨?_,?_,?_,?_⟩
  ·rw[Array.getElem?_setIfInBounds_ne (by omega)];exact a
  ·show _=some (if i=i then v' else vs i)
   rw[Array.getElem?_setIfInBounds_self_of_lt s1,if_pos rfl]
  ·rw[Array.getElem?_setIfInBounds_ne (by omega)];exact d
  ·show ListF _ _ _ _ (if i=i then v' else vs i) _
   rw[if_pos rfl];exact keep _ _ hv
 ·refine⟨?_,?_,?_,?_⟩
  ·rw[Array.getElem?_setIfInBounds_ne (by omega)];exact a
  ·show _=some (if i=k then v' else vs i)
   rw[Array.getElem?_setIfInBounds_ne (by omega),if_neg hik];exact b
  ·rw[Array.getElem?_setIfInBounds_ne (by omega)];exact d
  ·show ListF _ _ _ _ (if i=k then v' else vs i) _
   rw[if_neg hik];exact keep _ _ e
end Own
theorem rvUsed1_any (x:Own.Member) (g:Nat) (nm:ByteArray) (w:World) (hc:w.cell? ⟨g,0,none⟩=some (.string nm)):
 Calls Tryz.prog 96 (#[.agg #[.string x.name,.string x.pub]]++#[.pointer (some ⟨g,0,none⟩)]) w fun e w' => e=.returned (.bool (decide (x.name=nm)))/\Below w.heap.size w w' :=by
 obtain⟨R,hR⟩:∃ R,R=decide (x.name=nm):=⟨_,rfl⟩
 rw[<- hR]
 rw[<- bytes_beq] at hR
 have hb1:Below w.heap.size w (w.alloc (.cells #[.string x.name,.string x.pub] 73)):=(Below.refl _ _).alloc (Nat.le_refl _) _
 have q:=(hb1.cell (p:=⟨g,0,none⟩) (block_lt hc)).trans hc
 have HB:=zh hb1;have HR:=zh hR
 clear hb1 hc hR
 show Calls Tryz.prog 96 #[.agg #[.string x.name,.string x.pub],.pointer (some ⟨g,0,none⟩)] w _
 go_enter Tryz.func96,Tryz.ntmps96
 go_wp2_with fail
 go_ret
 exact⟨by rw[HR.out];rfl,HB.out⟩
theorem MembersF.cells {F:Nat->Prop} {w:World} {a:Option Addr} {n c:Nat} {l:List Own.Member} (h:ListF 2 Own.RMember F w (.slice a n c) l) {i:Nat} (hi:i<l.length):∃ b o,a=some ⟨b,o,none⟩/\F b/\b<w.heap.size/\w.cell? ⟨b,o+i*2,none⟩=some (.string l[i].name)/\w.cell? ⟨b,o+i*2+1,none⟩=some (.string l[i].pub):=by
 obtain⟨b,o,ha,hF,hb,cs,h1,h2,h3⟩:=h.at_ hi
 have h3:cs=_:=h3
 subst h3
 exact⟨b,o,ha,hF,hb,h2 0 _ rfl,h2 1 _ rfl⟩
theorem MembersF.one {F:Nat->Prop} {w:World} {mb mo n c c' j:Nat} {l:List Own.Member} (h:ListF 2 Own.RMember F w (.slice (some ⟨mb,mo,none⟩) n c) l) (hj:j<l.length):ListF 2 Own.RMember F w (.slice (some ⟨mb,mo+j*2,none⟩) 1 c') [l[j]]:=by
 obtain⟨b,o,ha,hF,hb,h1,h2⟩:=MembersF.cells h hj
 cases ha
 refine⟨_,c',rfl,.inr ⟨mb,_,rfl,hF,hb,fun i hi=>?_⟩⟩
 have:i=0:=by simpa using hi
 subst this
 refine⟨_,rfl,fun k u hk=>?_,rfl⟩
 rw[Nat.zero_mul,Nat.add_zero]
 match k,hk with
 | 0,hk=>cases hk;exact h1
 | 1,hk=>cases hk;exact h2
def UsedPost (X:Nat->Prop) (w:World) (o:Own.Owners) (R:Except Int (Own.Member × List Own.KeyUse)) (e:Ending) (w' : World):Prop:=
 (match R with
   | .error c=>e=.returned (.tuple #[Own.nobody,.string ⟨#[]⟩,.int .i64 c])
   | .ok (m,K)=>∃ sv kv,e=.returned (.tuple #[.agg #[.int .i64 o.count,sv,kv],.string m.pub,.int .i64 0])/\ListF 3 Own.RSpace (fun k=>¬ X k) w' sv o.spaces/\ListF 2 Own.RKey (fun k=>¬ X k) w' kv K)/\Below w.heap.size w w'
theorem rvUsed_any (X:Nat->Prop) (o:Own.Owners) (s:Own.Space) (path msg:ByteArray) (a:Own.Approval) (sv kv cv pv:Value) (ma:Option Addr) (mc:Nat) (w:World) (hX:∀ k,X k->k<w.heap.size) (hMx:MaxL w) (hS:ListF 3 Own.RSpace (fun k=>¬ X k) w sv o.spaces) (hK:Own.KeysC w kv o.keys)
 (hm:ListF 2 Own.RMember (fun k=>¬ X k) w (.slice ma s.members.length mc) s.members) (hmc:s.members.length<=mc) (hcs:StrsC w cv a.sig.chains) (hps:StrsC w pv a.sig.path) (hcap:CapOK pv) (hau:Own.authority o path=some s) (hlk:o.keys.length<=800000) (hmsg:msg.size<=9223372036854775000)
 (hal:a.name.size<=140737488355328/\a.sig.chains.length<=140737488355328/\a.sig.path.length<=140737488355328):
 Calls Tryz.prog 62 #[.agg #[.int .i64 o.count,sv,kv],.agg #[.string s.pre,.slice ma s.members.length mc,.int .i64 s.threshold],.string path,.string msg,.agg #[.string a.name,.int .i64 a.sig.index,cv,pv]] w (UsedPost X w o (Own.usedR o s msg a)):=by
 obtain⟨R,hR⟩:∃ R,R=Own.usedR o s msg a:=⟨_,rfl⟩
 obtain⟨Q,hQ⟩:∃ Q,Q=UsedPost X w o R:=⟨_,rfl⟩
 rw[<- hR,<- hQ]
 obtain⟨hok,hpath,hbel,hmem⟩:=Own.authority_some hau
 have hOK:=Own.OK.of hok
 have hsp:=hOK.sp s hmem
 have hSP:=Own.SpOK.of hsp
 obtain⟨nm,⟨ix,chs,pth⟩⟩:=a
 dsimp only at*
 obtain⟨ca,cc,rfl⟩:=hcs.len
 obtain⟨pa,pc,rfl⟩:=hps.len
 obtain⟨sa,sc,rfl⟩:=hS.len
 obtain⟨ka,kc,rfl⟩:=hK.len
 have hml:=hSP.len
 have hb1:Below w.heap.size w ((((w.alloc (.cells #[.int .i64 o.count,.slice sa o.spaces.length sc,.slice ka o.keys.length kc] 38)).alloc (.cells #[.string s.pre,.slice ma s.members.length mc,.int .i64 s.threshold] 70)).alloc (.cells #[.string nm,.int .i64 ix,.slice ca chs.length cc,.slice pa pth.length pc] 43)).alloc (.cells #[.int .i64 0,.slice none 0 0,.slice none 0 0] 38)):=((((Below.refl _ _).alloc (Nat.le_refl _) _).alloc (by simp) _).alloc (by simp;omega) _).alloc (by simp;omega) _
 have hz1:((((w.alloc (.cells #[.int .i64 o.count,.slice sa o.spaces.length sc,.slice ka o.keys.length kc] 38)).alloc (.cells #[.string s.pre,.slice ma s.members.length mc,.int .i64 s.threshold] 70)).alloc (.cells #[.string nm,.int .i64 ix,.slice ca chs.length cc,.slice pa pth.length pc] 43)).alloc (.cells #[.int .i64 0,.slice none 0 0,.slice none 0 0] 38)).heap.size=w.heap.size+4:=by simp
 have ha0:=(((At.new w 38 #[.int .i64 o.count,.slice sa o.spaces.length sc,.slice ka o.keys.length kc]).alloc (.cells #[.string s.pre,.slice ma s.members.length mc,.int .i64 s.threshold] 70)).alloc (.cells #[.string nm,.int .i64 ix,.slice ca chs.length cc,.slice pa pth.length pc] 43)).alloc (.cells #[.int .i64 0,.slice none 0 0,.slice none 0 0] 38)
 have ha1:=((At.new1 w (.cells #[.int .i64 o.count,.slice sa o.spaces.length sc,.slice ka o.keys.length kc] 38) 70 #[.string s.pre,.slice ma s.members.length mc,.int .i64 s.threshold]).alloc (.cells #[.string nm,.int .i64 ix,.slice ca chs.length cc,.slice pa pth.length pc] 43)).alloc (.cells #[.int .i64 0,.slice none 0 0,.slice none 0 0] 38)
 have ha2:=(At.new ((w.alloc (.cells #[.int .i64 o.count,.slice sa o.spaces.length sc,.slice ka o.keys.length kc] 38)).alloc (.cells #[.string s.pre,.slice ma s.members.length mc,.int .i64 s.threshold] 70)) 43 #[.string nm,.int .i64 ix,.slice ca chs.length cc,.slice pa pth.length pc]).alloc (.cells #[.int .i64 0,.slice none 0 0,.slice none 0 0] 38)
 have ha3:=At.new (((w.alloc (.cells #[.int .i64 o.count,.slice sa o.spaces.length sc,.slice ka o.keys.length kc] 38)).alloc (.cells #[.string s.pre,.slice ma s.members.length mc,.int .i64 s.threshold] 70)).alloc (.cells #[.string nm,.int .i64 ix,.slice ca chs.length cc,.slice pa pth.length pc] 43)) 38 #[.int .i64 0,.slice none 0 0,.slice none 0 0]
 rw[World.size_alloc,World.size_alloc] at ha2
 rw[World.size_alloc,World.size_alloc,World.size_alloc] at ha3
 have c1:=ha1.cell 1
 simp only[List.getElem?_toArray,List.getElem?_cons_zero,List.getElem?_cons_succ] at c1
 have HQ:=zh hQ;have HR:=zh hR;have HS:=zh hS;have HK:=zh hK;have HMX:=zh hMx;have HM:=zh hm;have HCS:=zh hcs;have HPS:=zh hps;have HCAP:=zh hcap
 have A0:=zh ha0;have A1:=zh ha1;have A2:=zh ha2;have A3:=zh ha3;have B1:=zh hb1
 have HOKO:=zh hok;have HPATH:=zh hpath;have HBEL:=zh hbel;have HSPO:=zh hsp;have HOK:=zh hOK
 clear hQ hR hS hK hMx hm hcs hps hcap ha0 ha1 ha2 ha3 hb1 hok hpath hbel hmem hOK hsp hSP hau
 go_enter Tryz.func62,Tryz.ntmps62
 go_wp2_with fail
 generalize (((w.alloc (.cells #[.int .i64 o.count,.slice sa o.spaces.length sc,.slice ka o.keys.length kc] 38)).alloc (.cells #[.string s.pre,.slice ma s.members.length mc,.int .i64 s.threshold] 70)).alloc (.cells #[.string nm,.int .i64 ix,.slice ca chs.length cc,.slice pa pth.length pc] 43)).alloc (.cells #[.int .i64 0,.slice none 0 0,.slice none 0 0] 38)=w1 at*
 refine(ifMembers_any 96 #[.pointer (some ⟨w.heap.size+1+1,0,none⟩)] Tryz.call96 (fun m=>decide (m.name=nm)) _ s.members w1 ((HM.out.below B1.out).mono (fun _ _ _=>trivial)) (by omega) (fun W x hW=>rvUsed1_any x _ nm W ((hW.cell (p:=⟨w.heap.size+1+1,0,none⟩) (by show w.heap.size+1+1<w1.heap.size;omega)).trans (A2.out.cell 0)))).mono ?_
 rintro e w2 ⟨⟨i,rfl,hi⟩,hb2⟩
 have A02:=zh (A0.out.below hb2 (by omega));have A12:=zh (A1.out.below hb2 (by omega));have A22:=zh (A2.out.below hb2 (by omega));have A32:=zh (A3.out.below hb2 (by omega));have B2:=zh (B1.out.trans (hb2.mono B1.out.size))
 have hz2:=hb2.size
 clear hb2 A0 A1 A2 A3 B1 c1
 rcases hi with ⟨rfl,hnone,_⟩ | ⟨j,hj,rfl,hsome,hpj,_⟩
 ·have hf:Own.find s.members nm=none:=hnone
  have e:R=.error 6:=by rw[HR.out,Own.usedR];dsimp only;rw[hf]
  have HE:=zh e
  have TW:=A32;have TB:=B2
  have x0:=TW.out.cell 0;have x1:=TW.out.cell 1;have x2:=TW.out.cell 2;have x3:=TW.out.free 0;have x4:=TW.out.free 1;have x5:=TW.out.free 2
  simp only[List.getElem?_toArray,List.getElem?_cons_zero,List.getElem?_cons_succ] at x0 x1 x2
  clear e hf hnone
  go_wp2_with fail
  have F2:=((TW.out.set 0 (.int .i64 0)).set 1 (.slice none 0 0)).set 2 (.slice none 0 0)
  refine done_ctt rfl rfl rfl rfl (load_row F2 Tryz.underlying38 rfl info_Owners) ?_
  rw[HQ.out,HE.out]
  exact⟨rfl,((TB.out.setCell (p:=⟨w.heap.size+3,0,none⟩) (by simp) _).setCell (p:=⟨w.heap.size+3,1,none⟩) (by simp) _).setCell (p:=⟨w.heap.size+3,2,none⟩) (by simp) _⟩
 have hnm:s.members[j].name=nm:=of_decide_eq_true hpj
 have hR2:R=if Sig.verify s.members[j].pub msg ⟨ix,chs,pth⟩ then (if ix<Own.nextOf o.keys s.members[j].pub then .error 8 else .ok (s.members[j],Own.use o.keys ⟨s.members[j].pub,ix+1⟩)) else .error 18:=by
  have hf:Own.find s.members nm=some s.members[j]:=hsome
  rw[HR.out,Own.usedR];dsimp only;rw[hf]
 obtain⟨mb,mo,hma,_,hmbl,mcell0,mcell1⟩:=MembersF.cells HM.out hj
 subst hma
 have dj:decide ((j:Int)<0)=false:=decide_eq_false (by omega)
 have hap:=Own.alone_approve (msg:=msg) (a:=⟨nm,⟨ix,chs,pth⟩⟩) HOKO.out HSPO.out (List.getElem_mem hj) HPATH.out HBEL.out hnm
 obtain⟨AB,hAB⟩:∃ AB,AB=w2.heap.size:=⟨_,rfl⟩
 have hmcj:¬ mc=j:=by omega
 obtain⟨m,hmj⟩:∃ m,m=s.members[j]:=⟨_,rfl⟩
 have hone:=MembersF.one (c' :=mc - j) HM.out hj
 rw[<- hmj] at hap hR2 hone hnm
 have HAP:=zh hap;have HR2:=zh hR2;have HONE:=zh hone;have HMJ:=zh hmj
 have y0:=A02.out.cell 0;have y1:=A02.out.cell 1;have y2:=A02.out.cell 2
 have u0:=(A12.out.alloc (.cells #[.int .i64 o.count,.slice sa o.spaces.length sc,.slice ka o.keys.length kc] 38)).cell 0
 have u1:=(A12.out.alloc (.cells #[.int .i64 o.count,.slice sa o.spaces.length sc,.slice ka o.keys.length kc] 38)).cell 1
 simp only[List.getElem?_toArray,List.getElem?_cons_zero,List.getElem?_cons_succ] at y0 y1 y2 u0 u1
 clear hap hR2 hone hsome hpj hmj
 rw[<- hAB] at hz2
 go_wp2_with fail
 refine Lex.wp_region_lex (by kernel_rfl) (by kernel_rfl) ?_
 go_wp2_with fail
 refine Lex.Ends.intro (by kernel_rfl) ?_
 have hb24:Below w2.heap.size w2 (((w2.alloc (.cells #[.int .i64 o.count,.slice (some ⟨w2.heap.size+1,0,none⟩) 1 1,.slice ka o.keys.length kc] 38)).alloc (.cells #[.string s.pre,.slice (some ⟨mb,mo+j*2,none⟩) 1 (mc - j),.int .i64 1] 70)).drew):=(((Below.refl _ _).alloc (Nat.le_refl _) _).alloc (by simp) _).drew
 have hz4:(((w2.alloc (.cells #[.int .i64 o.count,.slice (some ⟨w2.heap.size+1,0,none⟩) 1 1,.slice ka o.keys.length kc] 38)).alloc (.cells #[.string s.pre,.slice (some ⟨mb,mo+j*2,none⟩) 1 (mc - j),.int .i64 1] 70)).drew).heap.size=w2.heap.size+2:=by rw[drew_heap];simp
 have a4:=((At.new w2 38 #[.int .i64 o.count,.slice (some ⟨w2.heap.size+1,0,none⟩) 1 1,.slice ka o.keys.length kc]).alloc (.cells #[.string s.pre,.slice (some ⟨mb,mo+j*2,none⟩) 1 (mc - j),.int .i64 1] 70)).drew
 have s4:=(At.new1 w2 (.cells #[.int .i64 o.count,.slice (some ⟨w2.heap.size+1,0,none⟩) 1 1,.slice ka o.keys.length kc] 38) 70 #[.string s.pre,.slice (some ⟨mb,mo+j*2,none⟩) 1 (mc - j),.int .i64 1]).drew
 generalize ((w2.alloc (.cells #[.int .i64 o.count,.slice (some ⟨w2.heap.size+1,0,none⟩) 1 1,.slice ka o.keys.length kc] 38)).alloc (.cells #[.string s.pre,.slice (some ⟨mb,mo+j*2,none⟩) 1 (mc - j),.int .i64 1] 70)).drew=w4 at*
 have A04:=zh (A02.out.below hb24 (by omega));have A14:=zh (A12.out.below hb24 (by omega));have A24:=zh (A22.out.below hb24 (by omega));have A34:=zh (A32.out.below hb24 (by omega));have B4:=zh (B2.out.trans (hb24.mono B2.out.size))
 have S4:=zh s4
 obtain⟨q0,q1,q2⟩:=a4.c3;obtain⟨v0,v1,v2,v3⟩:=A24.out.c4
 have hb45:Below w4.heap.size w4 (w4.alloc (.cells #[.string nm,.int .i64 ix,.slice ca chs.length cc,.slice pa pth.length pc] 43)):=(Below.refl _ _).alloc (Nat.le_refl _) _
 have n5:=At.new w4 43 #[.string nm,.int .i64 ix,.slice ca chs.length cc,.slice pa pth.length pc]
 have hz5:(w4.alloc (.cells #[.string nm,.int .i64 ix,.slice ca chs.length cc,.slice pa pth.length pc] 43)).heap.size=w4.heap.size+1:=World.size_alloc _ _
 have B5:=zh (B4.out.trans (hb45.mono B4.out.size))
 have s5:=S4.out.below hb45 (by omega)
 have hsp5:ListF 3 Own.RSpace (fun k=>¬ (X k\/k=w.heap.size\/k=w.heap.size+3)) (w4.alloc (.cells #[.string nm,.int .i64 ix,.slice ca chs.length cc,.slice pa pth.length pc] 43)) (.slice (some ⟨w2.heap.size+1,0,none⟩) 1 1) [⟨s.pre,[m],1⟩]:=by
  refine⟨_,1,rfl,.inr ⟨w2.heap.size+1,0,rfl,?_,s5.lt,fun i hi=>?_⟩⟩
  ·rintro(h | h | h)
   ·have:=hX _ h;omega
   ·omega
   ·omega
  ·have:i=0:=by simpa using hi
   subst this
   refine⟨[.string s.pre,.slice (some ⟨mb,mo+j*2,none⟩) 1 (mc - j),.int .i64 1],rfl,fun k u hk=>?_,_,rfl,?_⟩
   ·rw[Nat.zero_mul,Nat.add_zero,Nat.zero_add,s5.cell];simpa using hk
   ·exact(HONE.out.mono (G:=fun k=>¬ (X k\/k=w.heap.size\/k=w.heap.size+3)) (fun k hk hl h=>by rcases h with h | h | h;exact hk h;omega;omega)).below B5.out
 have hap5:Own.ApprC (w4.alloc (.cells #[.string nm,.int .i64 ix,.slice ca chs.length cc,.slice pa pth.length pc] 43)) (.slice (some ⟨w4.heap.size,0,none⟩) 1 1) [⟨nm,⟨ix,chs,pth⟩⟩]:=by
  refine⟨_,1,rfl,fun i hi=>?_⟩
  have:i=0:=by simpa using hi
  subst this
  refine⟨w4.heap.size,0,_,_,rfl,n5.lt,n5.cell 0,n5.cell 1,n5.cell 2,n5.cell 3,HCS.out.below B5.out,HPS.out.below B5.out,HCAP.out⟩
 have happ:=owApproveX_any (fun k=>X k\/k=w.heap.size\/k=w.heap.size+3) (Own.alone o s m) path msg [⟨nm,⟨ix,chs,pth⟩⟩] (.slice (some ⟨w2.heap.size+1,0,none⟩) 1 1) (.slice ka o.keys.length kc) (.slice (some ⟨w4.heap.size,0,none⟩) 1 1) _ (fun k hk=>by rcases hk with hk | hk | hk;have:=hX k hk;omega;omega;omega) (HMX.out.below B5.out) hsp5 (HK.out.below B5.out) hap5 (by show 1<=3000000;omega) (by show o.keys.length+1<=900000;omega) (fun z hz=>by
  have e:z=⟨s.pre,[m],1⟩:=by simpa [Own.alone] using hz
  subst e
  show 1<=3000000
  omega) hmsg (fun z hz=>by
  have e:z=⟨nm,⟨ix,chs,pth⟩⟩:=by simpa using hz
  subst e
  exact hal)
 rw[HAP.out] at happ
 have HAPP:=zh happ
 have HB45:=zh hb45
 clear happ hsp5 hap5 s5 n5 hb45 hb24 a4 s4 A02 A12 A22 A32 B2 y0 y1 y2 u0 u1
 have hz4' : w2.heap.size+2<=w4.heap.size:=by omega
 have hz2' : w1.heap.size<=w2.heap.size:=by omega
 clear hz4 hz5 hz2 hAB
 go_wp2_with fail
 refine HAPP.out.mono ?_
 intro e w6 hpost
 obtain⟨hval,hb6⟩:=hpost
 have hb46:=HB45.out.trans (hb6.mono HB45.out.size)
 have A06:=zh (A04.out.below hb46 A04.out.lt);have A16:=zh (A14.out.below hb46 A14.out.lt);have A36:=zh (A34.out.below hb46 A34.out.lt);have B6:=zh (B4.out.trans (hb46.mono B4.out.size))
 have hz6:w4.heap.size<=w6.heap.size:=hb46.size
 clear hb6 hb46 HB45 A04 A14 A24 A34 B4 S4 HAPP q0 q1 q2 v0 v1 v2 v3 B5
 cases hvf:Sig.verify m.pub msg ⟨ix,chs,pth⟩ with
 | false =>
   rw[hvf] at hval
   have hval2:e=.returned (.tuple #[Own.nobody,.int .i64 18]):=hval
   subst hval2
   have e:R=.error 18:=by rw[HR2.out,hvf];rfl
   have HE:=zh e
   have TW:=zh (A36.out.alloc (.cells #[.int .i64 0,.slice none 0 0,.slice none 0 0] 38));have TB:=zh (B6.out.alloc B6.out.size (.cells #[.int .i64 0,.slice none 0 0,.slice none 0 0] 38))
   have x0:=TW.out.cell 0;have x1:=TW.out.cell 1;have x2:=TW.out.cell 2;have x3:=TW.out.free 0;have x4:=TW.out.free 1;have x5:=TW.out.free 2
   simp only[List.getElem?_toArray,List.getElem?_cons_zero,List.getElem?_cons_succ] at x0 x1 x2
   unfold Own.nobody
   clear e hvf hval
   go_wp2_with fail
   have F2:=((TW.out.set 0 (.int .i64 0)).set 1 (.slice none 0 0)).set 2 (.slice none 0 0)
   refine done_ctt rfl rfl rfl rfl (load_row F2 Tryz.underlying38 rfl info_Owners) ?_
   rw[HQ.out,HE.out]
   exact⟨rfl,((TB.out.setCell (p:=⟨w.heap.size+3,0,none⟩) (by simp) _).setCell (p:=⟨w.heap.size+3,1,none⟩) (by simp) _).setCell (p:=⟨w.heap.size+3,2,none⟩) (by simp) _⟩
 | true=>
 rw[hvf,if_pos rfl] at hval
 have hR3:R=if ix<Own.nextOf o.keys m.pub then .error 8 else .ok (m,Own.use o.keys ⟨m.pub,ix+1⟩):=by rw[HR2.out,hvf];rfl
 by_cases hix:ix<Own.nextOf o.keys m.pub
 ·rw[if_pos hix] at hval hR3
  have hval2:e=.returned (.tuple #[Own.nobody,.int .i64 8]):=hval
  subst hval2
  have HE:=zh hR3
  have TW:=zh (A36.out.alloc (.cells #[.int .i64 0,.slice none 0 0,.slice none 0 0] 38));have TB:=zh (B6.out.alloc B6.out.size (.cells #[.int .i64 0,.slice none 0 0,.slice none 0 0] 38))
  have x0:=TW.out.cell 0;have x1:=TW.out.cell 1;have x2:=TW.out.cell 2;have x3:=TW.out.free 0;have x4:=TW.out.free 1;have x5:=TW.out.free 2
  simp only[List.getElem?_toArray,List.getElem?_cons_zero,List.getElem?_cons_succ] at x0 x1 x2
  unfold Own.nobody
  clear hR3 hvf hval hix HR2 HAP
  go_wp2_with fail
  have F2:=((TW.out.set 0 (.int .i64 0)).set 1 (.slice none 0 0)).set 2 (.slice none 0 0)
  refine done_ctt rfl rfl rfl rfl (load_row F2 Tryz.underlying38 rfl info_Owners) ?_
  rw[HQ.out,HE.out]
  exact⟨rfl,((TB.out.setCell (p:=⟨w.heap.size+3,0,none⟩) (by simp) _).setCell (p:=⟨w.heap.size+3,1,none⟩) (by simp) _).setCell (p:=⟨w.heap.size+3,2,none⟩) (by simp) _⟩
 rw[if_neg hix] at hval hR3
 have hval2:∃ sv kv,e=.returned (.tuple #[.agg #[.int .i64 o.count,sv,kv],.int .i64 0])/\ListF 3 Own.RSpace (fun k=>¬ (X k\/k=w.heap.size\/k=w.heap.size+3)) w6 sv [⟨s.pre,[m],1⟩]/\ListF 2 Own.RKey (fun k=>¬ (X k\/k=w.heap.size\/k=w.heap.size+3)) w6 kv (Own.use o.keys ⟨m.pub,ix+1⟩):=hval
 clear hval
 obtain⟨sv2,kv2,rfl,hs2,hk2⟩:=hval2
 obtain⟨K,hKe⟩:∃ K,K=Own.use o.keys ⟨m.pub,ix+1⟩:=⟨_,rfl⟩
 rw[<- hKe] at hR3 hk2
 have HE:=zh hR3;have HK2:=zh (hk2.mono (G:=fun k=>k<w6.heap.size/\¬ X k/\k≠w.heap.size+3) (fun k hk hl=>⟨hl,fun h=>hk (.inl h),fun h=>hk (.inr (.inr h))⟩))
 obtain⟨s2a,s2c,hs2v⟩:=hs2.len
 obtain⟨k2a,k2c,hk2v⟩:=hk2.len
 subst hs2v;subst hk2v
 clear hR3 hvf hix HR2 HAP hKe hs2 hk2
 have b6:Below w6.heap.size w6 (w6.alloc (.cells #[.int .i64 o.count,.slice s2a 1 s2c,.slice k2a K.length k2c] 38)):=(Below.refl _ _).alloc (Nat.le_refl _) _
 have hz7:w6.heap.size<(w6.alloc (.cells #[.int .i64 o.count,.slice s2a 1 s2c,.slice k2a K.length k2c] 38)).heap.size:=by simp
 have o7:=At.new w6 38 #[.int .i64 o.count,.slice s2a 1 s2c,.slice k2a K.length k2c]
 have A07:=zh (A06.out.below b6 A06.out.lt);have A17:=zh (A16.out.below b6 A16.out.lt);have A37:=zh (A36.out.below b6 A36.out.lt);have B7:=zh (B6.out.trans (b6.mono B6.out.size));have O7:=zh o7;have K7:=zh (HK2.out.below b6)
 have y1:=A07.out.cell 1
 simp only[List.getElem?_toArray,List.getElem?_cons_zero,List.getElem?_cons_succ] at y1
 have hcl:=clSpaces2_any (fun k=>k<w.heap.size/\¬ X k) _ o.spaces _ ((HS.out.mono (G:=fun k=>k<w.heap.size/\¬ X k) (fun k hk hl=>⟨hl,hk⟩)).below B7.out) (by have:=HOK.out.ls;omega)
 have HCL:=zh hcl
 have hls:=HOK.out.ls
 have h6w:w.heap.size+4<=w6.heap.size:=by omega
 clear b6 o7 hcl A06 A16 A36 B6 HK2
 go_wp2_with fail
 generalize w6.alloc (.cells #[.int .i64 o.count,.slice s2a 1 s2c,.slice k2a K.length k2c] 38)=w7 at*
 refine HCL.out.mono ?_
 rintro e w8 ⟨a8,c8,rfl,hsp,hb8⟩
 have A08:=zh (A07.out.below hb8 A07.out.lt);have A18:=zh (A17.out.below hb8 A17.out.lt);have A38:=zh (A37.out.below hb8 A37.out.lt);have B8:=zh (B7.out.trans (hb8.mono B7.out.size));have O8:=zh (O7.out.below hb8 O7.out.lt);have K8:=zh (K7.out.below hb8)
 have hz8:=hb8.size
 have HSP:=zh hsp
 have q0:=O8.out.cell 0;have q1:=O8.out.cell 1;have q2:=O8.out.cell 2;have q3:=O8.out.free 1
 simp only[List.getElem?_toArray,List.getElem?_cons_zero,List.getElem?_cons_succ] at q0 q1 q2
 clear hsp hb8 A07 A17 A37 B7 O7 K7 HCL y1
 go_upto_region 10 with fail
 have o9:At (w8.setCell ⟨w6.heap.size,1,none⟩ (.slice a8 o.spaces.length c8)) w6.heap.size 38 #[.int .i64 o.count,.slice a8 o.spaces.length c8,.slice k2a K.length k2c]:=O8.out.set 1 (.slice a8 o.spaces.length c8)
 have f9:∀ k,k≠w6.heap.size->(w8.setCell ⟨w6.heap.size,1,none⟩ (.slice a8 o.spaces.length c8)).heap[k]? = w8.heap[k]? :=fun k hk=>heap_setCell_other _ _ _ _ hk
 have z9:(w8.setCell ⟨w6.heap.size,1,none⟩ (.slice a8 o.spaces.length c8)).heap.size=w8.heap.size:=by simp[World.setCell]
 have A19:=zh (A18.out.keep (f9 _ (by omega)));have A39:=zh (A38.out.keep (f9 _ (by omega)))
 have B9:=zh (B8.out.setCell (p:=⟨w6.heap.size,1,none⟩) (by show w.heap.size<=w6.heap.size;omega) (.slice a8 o.spaces.length c8))
 have O9:=zh o9
 have hsp9:o.spaces.length=0\/∃ g,a8=some ⟨g,0,none⟩/\w7.heap.size<=g/\Own.SpRow (w8.setCell ⟨w6.heap.size,1,none⟩ (.slice a8 o.spaces.length c8)) g (fun k=>k≠g/\¬ X k/\k≠w.heap.size+3) o.spaces:=by
  rcases HSP.out with h0 | ⟨g,h1,h2,h3⟩
  ·exact .inl h0
  ·refine .inr ⟨g,h1,h2,?_⟩
   exact(h3.keep (Nat.le_of_eq z9.symm) (fun k hk _=>f9 k (by rcases hk with rfl | hk <;> omega))).mono (fun k hk _=>⟨by omega,hk.2,by omega⟩)
 have HSP9:=zh hsp9
 have hk9:ListF 2 Own.RKey (fun k=>k<w6.heap.size/\¬ X k/\k≠w.heap.size+3) (w8.setCell ⟨w6.heap.size,1,none⟩ (.slice a8 o.spaces.length c8)) (.slice k2a K.length k2c) K:=by
  exact K8.out.keep (Nat.le_of_eq z9.symm) (fun k hk _=>f9 k (by omega))
 have HK9:=zh hk9
 have z9' : w8.heap.size<=(w8.setCell ⟨w6.heap.size,1,none⟩ (.slice a8 o.spaces.length c8)).heap.size:=Nat.le_of_eq z9.symm
 clear o9 f9 z9 hsp9 hk9 HSP A08 A18 A38 B8 O8 K8 q0 q1 q2 q3
 generalize w8.setCell ⟨w6.heap.size,1,none⟩ (.slice a8 o.spaces.length c8)=w9 at*
 have c1:=O9.out.cell 1
 simp only[List.getElem?_toArray,List.getElem?_cons_zero,List.getElem?_cons_succ] at c1
 have hO9:=O9.out.lt
 go_wp2_with fail
 go_loopw [57] (fun i wr=>∃ k:Nat,k<=o.spaces.length/\i=.int .i64 k/\(o.spaces.length=0\/∃ g,a8=some ⟨g,0,none⟩/\w7.heap.size<=g/\g<w9.heap.size/\Own.SpRow wr g (fun k=>k≠g/\¬ X k/\k≠w.heap.size+3) o.spaces)/\Fr (fun k=>w7.heap.size<=k/\a8=some ⟨k,0,none⟩) w9 wr) (fun i _=>o.spaces.length - (intOf i).toNat)
 case atStart=>
  refine⟨0,by omega,rfl,?_,Fr.refl _ _⟩
  rcases HSP9.out with h0 | ⟨g,h1,h2,h3⟩
  ·exact .inl h0
  ·obtain⟨cur,vs,h4,_⟩:=h3.row
   exact .inr ⟨g,h1,h2,h4.lt,h3⟩
 case round=>
  obtain⟨k,hk,rfl,hrow,hfr⟩:=hrel
  have hatr:=hfr.at O9.out (fun h=>by omega)
  have hrtr:=hfr.at A39.out (fun h=>by omega)
  have hstr:=hfr.at A19.out (fun h=>by omega)
  have HFR:=zh hfr;have OR:=zh hatr;have RR:=zh hrtr;have SR:=zh hstr
  have c1r:=hatr.cell 1
  simp only[List.getElem?_toArray,List.getElem?_cons_zero,List.getElem?_cons_succ] at c1r
  have hfz:=hfr.size
  have hbl:=hatr.lt
  clear hatr hrtr hstr
  by_cases hlt:k<o.spaces.length
  ·have dk:decide ((k:Int)<o.spaces.length)=true:=decide_eq_true (by omega)
   obtain⟨g,rfl,hg1,hg2,hsr⟩:=hrow.resolve_left (by omega)
   obtain⟨cur,vs,q1,q2⟩:=hsr.row
   obtain⟨e0,e1,e2,e3⟩:=q2 k hlt
   have f1:=q1.cell (k*3+1)
   rw[e1] at f1
   have hlm:o.spaces[k].members.length<=8:=(Own.SpOK.of (HOK.out.sp _ (List.getElem_mem hlt))).len
   obtain⟨na,nc,hvk⟩:=e3.len
   rw[hvk] at e3 f1
   have Q1:=zh q1;have HSR:=zh hsr
   have hcp:=clMembers_any _ o.spaces[k].members.length _ wr.drew (Own.MembersC.rows ((e3.below ((Below.refl _ _).drew)).mono (G:=Own.anyF) (fun _ _ _=>trivial))) (Own.one_M _) (by omega)
   have HCP:=zh hcp
   have hgl:g<wr.heap.size:=q1.lt
   clear hrow q1 q2 e0 e1 e2 e3 hvk hlm hcp hsr
   go_wp2_with fail
   refine Lex.wp_region_lexN (fun j=>j=w6.heap.size) [1] 10 [10] (by kernel_rfl) (by kernel_rfl) (by kernel_rfl) ?_
   simp only[Lex.wpCuts,List.take_succ_cons,List.take_zero,List.drop_succ_cons,List.drop_zero]
   go_wp2_with fail
   refine HCP.out.mono ?_
   rintro e w5 ⟨v',rfl,hov,hb5⟩
   have hb5' : Below wr.heap.size wr w5:=(Below.refl wr.heap.size wr).drew.trans hb5
   have hup:=own_up hov
   have hne:v'.ownBlock≠some g:=fun e=>by have:=hup g e;have:wr.heap.size<=g:=this;omega
   obtain⟨va,vm,vc,rfl⟩:=own_slice hov
   have y1:=(hb5'.cell (p:=⟨g,k*3+1,none⟩) hgl).trans f1
   have q5:=Q1.out.below hb5' hgl
   have x1:=q5.free (k*3+1)
   have c5:=(hb5'.cell (p:=⟨w6.heap.size,1,none⟩) hbl).trans c1r
   have HB5:=zh hb5';have HOV:=zh hov;have HUP:=zh hup
   clear hb5 hb5' hov hup q5 f1 Q1
   go_wp2_with fail
   refine Lex.Mid.intro (fun j hj _=>by rw[hj];exact HB5.out.block _ hbl) ?_
   go_wp2_with fail
   refine Lex.EndsN.intro (by kernel_rfl) ⟨⟨rfl,by show(wr.cell? ⟨w6.heap.size,1,none⟩).isSome=true;rw[c1r];rfl⟩,trivial⟩ ?_
   go_wp2_with fail
   go_round
   case measure=>simp[intOf];omega
   case rel=>
    have hm5:ListF 2 Own.RMember (fun k=>k≠g/\¬ X k/\k≠w.heap.size+3) w5 (.slice va vm vc) o.spaces[k].members:=
     rows_flat (enc:=Own.encM) (fun _=>rfl) (fun _=>rfl) (RowsC.own HOV.out) rfl (fun j hj=>by have:wr.heap.size<=j:=HUP.out j hj;exact⟨by omega,fun hx=>by have:=hX j hx;omega,by omega⟩)
    have hs5:=(HSR.out.below HB5.out).setM (fun k hk=>hk.1) hlt _ hm5
    refine⟨k+1,by omega,by go_num,.inr ⟨g,rfl,hg1,hg2,hs5⟩,?_⟩
    have f5:Fr (fun k=>w7.heap.size<=k/\(some ⟨g,0,none⟩:Option Addr)=some ⟨k,0,none⟩) w9 w5:=HFR.out.trans (Fr.of_below HB5.out) (fun _ h=>.inl h)
    exact f5.setCell (p:=⟨g,k*3+1,none⟩) (.inl ⟨hg1,rfl⟩) _
  ·have dk:decide ((k:Int)<o.spaces.length)=false:=decide_eq_false (by omega)
   have hsl:ListF 3 Own.RSpace (fun k=>¬ X k/\k≠w.heap.size+3) wr (.slice a8 o.spaces.length c8) o.spaces:=by
    rcases hrow with h0 | ⟨g,rfl,hg1,hg2,hsr⟩
    ·have:o.spaces=[]:=List.eq_nil_of_length_eq_zero h0
     rw[this]
     exact ListF.nil _ _
    ·exact hsr.list ⟨fun hx=>by have:=hX g hx;omega,by omega⟩ (fun k hk hl=>⟨hk.2.1,hk.2.2⟩) rfl
   have hkr:=HK9.out.fr hfr (fun k hk h=>by omega)
   have hbr:Below w.heap.size w wr:=B9.out.trans (HFR.out.below (B:=w.heap.size) (by omega) (fun k hk=>by omega))
   have c0r:=OR.out.cell 0;have c2r:=OR.out.cell 2
   have s1r:=SR.out.cell 1
   have r0:=RR.out.cell 0;have r1:=RR.out.cell 1;have r2:=RR.out.cell 2;have r3:=RR.out.free 0;have r4:=RR.out.free 1;have r5:=RR.out.free 2
   simp only[List.getElem?_toArray,List.getElem?_cons_zero,List.getElem?_cons_succ] at c0r c2r s1r r0 r1 r2
   have HSL:=zh hsl;have HKR:=zh hkr;have HBR:=zh hbr
   obtain⟨mb',mo',hmb,_,hml,_,hmp⟩:=MembersF.cells HONE.out (i:=0) (by simp)
   cases hmb
   have p1:=(HBR.out.cell (p:=⟨mb,mo+j*2+1,none⟩) hml).trans hmp
   have p1:wr.cell? ⟨mb,mo+j*2+1,none⟩=some (.string m.pub):=p1
   clear hrow hsl hkr hfr hbr hmp
   go_wp2_with fail
   refine Lex.wp_region_lexN (fun k=>k=w.heap.size+1\/k=mb) [2,6] 8 [8] (by kernel_rfl) (by kernel_rfl) (by kernel_rfl) ?_
   simp only[Lex.wpCuts,List.take_succ_cons,List.take_zero,List.drop_succ_cons,List.drop_zero]
   go_wp2_with fail
   refine Lex.Mid.intro (fun k hk _=>by have hk3:k≠w.heap.size+1+1+1:=(by rcases hk with rfl | rfl <;> omega);rw[drew_heap,drew_heap,heap_setCell_other _ _ _ _ hk3,heap_setCell_other _ _ _ _ hk3,heap_setCell_other _ _ _ _ hk3]) ?_
   go_wp2_with fail
   refine Lex.EndsN.intro (by kernel_rfl) ⟨⟨.inl rfl,by show(wr.cell? ⟨w.heap.size+1,1,none⟩).isSome=true;rw[s1r];rfl⟩,⟨.inr rfl,by show(wr.cell? ⟨mb,mo+j*2+1,none⟩).isSome=true;rw[p1];rfl⟩,trivial⟩ ?_
   go_wp2_with fail
   have F2:=(((RR.out.set 0 (.int .i64 o.count)).set 1 (.slice a8 o.spaces.length c8)).set 2 (.slice k2a K.length k2c)).drew
   refine done_ctt rfl rfl rfl rfl (load_row F2 Tryz.underlying38 rfl info_Owners) ?_
   rw[HQ.out,HE.out]
   have far:∀ k,k≠w.heap.size+3->((((wr.setCell ⟨w.heap.size+3,0,none⟩ (.int .i64 o.count)).setCell ⟨w.heap.size+3,1,none⟩ (.slice a8 o.spaces.length c8)).setCell ⟨w.heap.size+3,2,none⟩ (.slice k2a K.length k2c)).drew).heap[k]? = wr.heap[k]? :=fun k h=>by
    rw[drew_heap,heap_setCell_other _ _ _ _ h,heap_setCell_other _ _ _ _ h,heap_setCell_other _ _ _ _ h]
   have hfz:wr.heap.size<=((((wr.setCell ⟨w.heap.size+3,0,none⟩ (.int .i64 o.count)).setCell ⟨w.heap.size+3,1,none⟩ (.slice a8 o.spaces.length c8)).setCell ⟨w.heap.size+3,2,none⟩ (.slice k2a K.length k2c)).drew).heap.size:=by
    rw[drew_heap];simp[World.setCell]
   refine⟨⟨_,_,rfl,?_,?_⟩,?_⟩
   ·exact(HSL.out.keep hfz (fun k hk _=>far k hk.2)).mono (fun k hk _=>hk.1)
   ·exact(HKR.out.keep hfz (fun k hk _=>far k hk.2.2)).mono (fun k hk _=>hk.2.1)
   ·exact(((HBR.out.setCell (p:=⟨w.heap.size+3,0,none⟩) (by simp) _).setCell (p:=⟨w.heap.size+3,1,none⟩) (by simp) _).setCell (p:=⟨w.heap.size+3,2,none⟩) (by simp) _).drew
end
section
open Go Go.RowKit Go.Maps
namespace Own
abbrev PAt (w:World) (g:Nat) (p:Proposal) (v:Value):Prop:=At w g 46 #[.int .i64 p.id,.string p.path,.string p.digest,.int .i64 p.opened,.int .i64 p.expires,v]
def rule1 (p:Proposal):Bool:=decide (0<=p.id)&&pathOK p.path&&Sig.digest p.digest
def rule2 (p:Proposal):Bool:=decide (0<=p.opened)&&decide (p.opened<=late)&&decide (p.opened<p.expires)&&decide (p.expires<=p.opened+256)
def rule3 (p:Proposal):Bool:=decide (p.votes.length<=1024)
def rule4 (p:Proposal):Bool:=chainOK (fun v:Vote=>nameOK v.name) (fun x y=>lessB x.name y.name) none p.votes
theorem proposalOK_rules (p:Proposal):proposalOK p=(rule1 p&&(rule2 p&&(rule3 p&&rule4 p))):=by
 unfold proposalOK rule1 rule2 rule3 rule4
 simp only[Bool.and_assoc]
end Own
theorem rvRule1_any (p:Own.Proposal) (v:Value) (g:Nat) (w:World) (hM:MaxL w) (hp:Own.PAt w g p v):
 Calls Tryz.prog 83 #[.pointer (some ⟨g,0,none⟩)] w fun e w' => e=.returned (.bool (Own.rule1 p))/\Below w.heap.size w w' :=by
 obtain⟨R,hR⟩:∃ R,R=Own.rule1 p:=⟨_,rfl⟩
 rw[<- hR]
 unfold Own.rule1 at hR
 obtain⟨id,pa,di,op,ex,vs⟩:=p
 dsimp only at*
 have c0:=hp.cell 0;have c1:=hp.cell 1;have c2:=hp.cell 2
 simp only[List.getElem?_toArray,List.getElem?_cons_zero,List.getElem?_cons_succ] at c0 c1 c2
 have HR:=zh hR;have HP:=zh hp;have HM:=zh hM
 clear hR hp hM
 go_enter Tryz.func83,Tryz.ntmps83
 by_cases h1:0<=id
 case neg=>
  have d1:decide (0<=id)=false:=decide_eq_false h1
  have e:R=false:=by rw[HR.out,d1];rfl
  have HE:=zh e;clear e
  go_wp2_with fail
  go_ret
  exact⟨by rw[HE.out];rfl,Below.refl _ _⟩
 have d1:decide (0<=id)=true:=decide_eq_true h1
 have e:R=(Own.pathOK pa&&Sig.digest di):=by rw[HR.out,d1];rfl
 have HE:=zh e;clear e
 go_wp2_with fail
 refine(rvPath_any pa w HM.out).mono ?_
 rintro e w2 ⟨rfl,hb2⟩
 have HB2:=zh hb2
 have q:=HP.out.below hb2 HP.out.lt
 have q0:=q.cell 0;have q1:=q.cell 1;have q2:=q.cell 2
 simp only[List.getElem?_toArray,List.getElem?_cons_zero,List.getElem?_cons_succ] at q0 q1 q2
 clear q hb2 c0 c1 c2
 cases hpa:Own.pathOK pa with
 | false =>
   have e:R=false:=by rw[HE.out,hpa];rfl
   have HE2:=zh e;clear e
   go_wp2_with fail
   go_ret
   exact⟨by rw[HE2.out];rfl,HB2.out⟩
 | true =>
   have e:R=((di.size:Int)==32):=by
    rw[HE.out,hpa]
    unfold Sig.digest
    rw[Bool.true_and]
    by_cases h:di.size=32
    ·rw[decide_eq_true h,h];rfl
    ·rw[decide_eq_false h];exact(beq_eq_false_iff_ne.2 (by omega)).symm
   have HE2:=zh e;clear e
   go_wp2_with fail
   go_ret
   exact⟨by rw[HE2.out];rfl,HB2.out⟩
theorem rvRule2_any (p:Own.Proposal) (v:Value) (g:Nat) (w:World) (hp:Own.PAt w g p v):
 Calls Tryz.prog 84 #[.pointer (some ⟨g,0,none⟩)] w fun e w' => e=.returned (.bool (Own.rule2 p))/\Below w.heap.size w w' :=by
 obtain⟨R,hR⟩:∃ R,R=Own.rule2 p:=⟨_,rfl⟩
 rw[<- hR]
 unfold Own.rule2 Own.late at hR
 obtain⟨id,pa,di,op,ex,vs⟩:=p
 dsimp only at*
 have c3:=hp.cell 3;have c4:=hp.cell 4
 simp only[List.getElem?_toArray,List.getElem?_cons_zero,List.getElem?_cons_succ] at c3 c4
 have HR:=zh hR
 clear hR hp
 go_enter Tryz.func84,Tryz.ntmps84
 by_cases h1:0<=op
 case neg=>
  have d1:decide (0<=op)=false:=decide_eq_false h1
  have e:R=false:=by rw[HR.out,d1];rfl
  have HE:=zh e;clear e
  go_wp2_with fail
  go_ret
  exact⟨by rw[HE.out];rfl,Below.refl _ _⟩
 have d1:decide (0<=op)=true:=decide_eq_true h1
 by_cases h2:op<=1099511627776
 case neg=>
  have d2:decide (op<=1099511627776)=false:=decide_eq_false h2
  have e:R=false:=by rw[HR.out,d2];simp
  have HE:=zh e;clear e
  go_wp2_with fail
  go_ret
  exact⟨by rw[HE.out];rfl,Below.refl _ _⟩
 have d2:decide (op<=1099511627776)=true:=decide_eq_true h2
 by_cases h3:op<ex
 case neg=>
  have d3:decide (op<ex)=false:=decide_eq_false h3
  have e:R=false:=by rw[HR.out,d3];simp
  have HE:=zh e;clear e
  go_wp2_with fail
  go_ret
  exact⟨by rw[HE.out];rfl,Below.refl _ _⟩
 have d3:decide (op<ex)=true:=decide_eq_true h3
 have e:R=decide (ex<=op+256):=by rw[HR.out,d1,d2,d3];rfl
 have HE:=zh e;clear e
 have hw:wrap64 (op+256)=op+256:=by unfold wrap64;omega
 have HW:=zh hw;clear hw
 go_wp2_with (rw[HW.out])
 go_ret
 exact⟨by rw[HE.out];rfl,Below.refl _ _⟩
theorem rvRule3_any (p:Own.Proposal) (v:Value) (g:Nat) (w:World) (hp:Own.PAt w g p v) (hv:Own.VotesC w v p.votes):
 Calls Tryz.prog 85 #[.pointer (some ⟨g,0,none⟩)] w fun e w' => e=.returned (.bool (Own.rule3 p))/\Below w.heap.size w w' :=by
 obtain⟨R,hR⟩:∃ R,R=Own.rule3 p:=⟨_,rfl⟩
 rw[<- hR]
 unfold Own.rule3 at hR
 obtain⟨id,pa,di,op,ex,vs⟩:=p
 dsimp only at*
 obtain⟨va,vc,rfl⟩:=hv.len
 have c5:=hp.cell 5
 simp only[List.getElem?_toArray,List.getElem?_cons_zero,List.getElem?_cons_succ] at c5
 have e:R=decide ((vs.length:Int)<=1024):=by
  rw[hR]
  by_cases h:vs.length<=1024
  ·rw[decide_eq_true h,decide_eq_true (by omega)]
  ·rw[decide_eq_false h,decide_eq_false (by omega)]
 have HR:=zh e
 clear hR hp hv e
 go_enter Tryz.func85,Tryz.ntmps85
 go_wp2_with fail
 go_ret
 exact⟨by rw[HR.out];rfl,Below.refl _ _⟩
theorem rvRule4_any (p:Own.Proposal) (v:Value) (g:Nat) (w:World) (hp:Own.PAt w g p v) (hv:Own.VotesC w v p.votes) (hl:p.votes.length<=140737488355328):
 Calls Tryz.prog 86 #[.pointer (some ⟨g,0,none⟩)] w fun e w' => e=.returned (.bool (Own.rule4 p))/\Below w.heap.size w w' :=by
 obtain⟨R,hR⟩:∃ R,R=Own.rule4 p:=⟨_,rfl⟩
 rw[<- hR]
 unfold Own.rule4 at hR
 obtain⟨id,pa,di,op,ex,V⟩:=p
 dsimp only at*
 obtain⟨va,vc,rfl⟩:=hv.len
 have c5:=hp.cell 5
 simp only[List.getElem?_toArray,List.getElem?_cons_zero,List.getElem?_cons_succ] at c5
 have HR:=zh hR;have HP:=zh hp;have HV:=zh hv
 clear hR hp hv
 go_enter Tryz.func86,Tryz.ntmps86
 go_wp2_with fail
 go_loopw [7] (fun i wr=>∃ k:Nat,k<=V.length/\i=.int .i64 k/\Own.chainOK (fun v:Own.Vote=>Own.nameOK v.name) (fun x y=>Own.lessB x.name y.name) none (V.take k)=true/\Below w.heap.size w wr) (fun i _=>V.length - (intOf i).toNat)
 case atStart=>exact⟨0,by omega,rfl,rfl,Below.refl _ _⟩
 case round=>
  obtain⟨k,hk,rfl,hok,hb⟩:=hrel
  have HBW:=zh hb
  by_cases hlt:k<V.length
  case neg=>
   have hke:k=V.length:=by omega
   have dk:decide ((k:Int)<V.length)=false:=decide_eq_false (by omega)
   have e:R=true:=by rw[HR.out,<- hok,hke,List.take_length]
   have HE:=zh e;clear e hok hke hb
   go_wp2_with fail
   go_ret
   exact⟨by rw[HE.out];rfl,HBW.out⟩
  have dk:decide ((k:Int)<V.length)=true:=decide_eq_true (by omega)
  have hra:R=((Own.nameOK V[k].name&&Own.ahead (fun x y:Own.Vote=>Own.lessB x.name y.name) (V.take k).getLast? V[k])&&Own.chainOK (fun v:Own.Vote=>Own.nameOK v.name) (fun x y=>Own.lessB x.name y.name) (some V[k]) (V.drop (k+1))):=by rw[HR.out,Own.chainOK_at _ _ V k hlt,hok,Bool.true_and]
  have htk:Own.chainOK (fun v:Own.Vote=>Own.nameOK v.name) (fun x y=>Own.lessB x.name y.name) none (V.take (k+1))=(Own.nameOK V[k].name&&Own.ahead (fun x y:Own.Vote=>Own.lessB x.name y.name) (V.take k).getLast? V[k]):=by rw[Own.chainOK_take _ _ V k hlt,hok,Bool.true_and]
  have hlk:=HV.out.below hb
  obtain⟨b,o,ha,hbl,e0,e1,e2⟩:=Own.VotesC.cells hlk hlt
  have hprev:∀ i,k=i+1->∃ x:Own.Vote,wr.cell? ⟨b,o+i*3,none⟩=some (.string x.name)/\(V.take k).getLast? = some x:=by
   intro i hi
   obtain⟨b',o',ha',_,e0,_⟩:=Own.VotesC.cells hlk (i:=i) (by omega)
   rw[ha] at ha'
   cases ha'
   have hg:=Own.getLast_take V i (by omega)
   rw[<- hi] at hg
   exact⟨_,e0,hg⟩
  subst ha
  obtain⟨vt,hvt⟩:∃ x,x=V[k]:=⟨_,rfl⟩
  rw[<- hvt] at hra htk e0 e1 e2
  obtain⟨rest,hrest⟩:∃ x,x=Own.chainOK (fun v:Own.Vote=>Own.nameOK v.name) (fun x y=>Own.lessB x.name y.name) (some vt) (V.drop (k+1)):=⟨_,rfl⟩
  rw[<- hrest] at hra
  obtain⟨nm,pb,ag⟩:=vt
  dsimp only at hra htk e0 e1 e2
  unfold Own.nameOK at hra htk
  have hb5:Below w.heap.size w (wr.alloc (.cells #[.string nm,.string pb,.bool ag] 82)).drew:=(hb.alloc hb.size _).drew
  have b5:=((HP.out.below hb HP.out.lt).alloc (.cells #[.string nm,.string pb,.bool ag] 82)).drew.cell 5
  have b5' :=((HP.out.below hb HP.out.lt).alloc (.cells #[.string nm,.string pb,.bool ag] 82)).cell 5
  simp only[List.getElem?_toArray,List.getElem?_cons_zero,List.getElem?_cons_succ] at b5 b5'
  have HPREV:=zh hprev;have HB5:=zh hb5
  clear hok hb hlk hprev hb5 hrest hvt c5
  by_cases n1:1<=nm.size
  case neg=>
   have dn1:decide ((nm.size:Int)<1)=true:=decide_eq_true (by omega)
   have e:R=false:=by rw[hra,decide_eq_false n1];rfl
   have HE:=zh e;clear e hra htk n1
   go_wp2_with fail
   refine Lex.wp_region_lex (by kernel_rfl) (by kernel_rfl) ?_
   go_wp2_with fail
   refine Lex.Ends.intro (by kernel_rfl) ?_
   go_wp2_with fail
   go_ret
   exact⟨by rw[HE.out];rfl,HB5.out⟩
  have dn1:decide ((nm.size:Int)<1)=false:=decide_eq_false (by omega)
  rw[decide_eq_true n1,Bool.true_and] at hra htk
  by_cases n2:nm.size<=32
  case neg=>
   have dn2:decide ((32:Int)<nm.size)=true:=decide_eq_true (by omega)
   have e:R=false:=by rw[hra,decide_eq_false n2];rfl
   have HE:=zh e;clear e hra htk n1 n2
   go_wp2_with fail
   refine Lex.wp_region_lex (by kernel_rfl) (by kernel_rfl) ?_
   go_wp2_with fail
   refine Lex.Ends.intro (by kernel_rfl) ?_
   go_wp2_with fail
   go_ret
   exact⟨by rw[HE.out];rfl,HB5.out⟩
  have dn2:decide ((32:Int)<nm.size)=false:=decide_eq_false (by omega)
  rw[decide_eq_true n2,Bool.true_and] at hra htk
  rcases Nat.eq_zero_or_pos k with hk0 | hkp
  ·have hl0:(V.take k).getLast? = none:=by rw[hk0];rfl
   rw[hl0] at htk
   have HT:=zh htk
   have HK0:=zh hk0
   have dz:decide ((0:Int)<(k:Int))=false:=decide_eq_false (by omega)
   have dz' : decide (0<k)=false:=decide_eq_false (by omega)
   clear hl0 hra htk hk0
   go_wp2_with fail
   refine Lex.wp_region_lex (by kernel_rfl) (by kernel_rfl) ?_
   go_wp2_with fail
   refine Lex.Ends.intro (by kernel_rfl) ?_
   go_wp2_with fail
   go_round
   case measure=>simp[intOf];omega
   case rel=>exact⟨k+1,by omega,by go_num,HT.out,HB5.out⟩
  ·obtain⟨i,hi⟩:∃ i,k=i+1:=⟨k - 1,by omega⟩
   obtain⟨x,f0,hx⟩:=HPREV.out i hi
   rw[hx] at hra htk
   have hra3:R=(Own.lessB x.name nm&&rest):=hra
   have htk3:Own.chainOK (fun v:Own.Vote=>Own.nameOK v.name) (fun x y=>Own.lessB x.name y.name) none (V.take (k+1))=Own.lessB x.name nm:=htk
   have dz:decide ((0:Int)<(k:Int))=true:=decide_eq_true (by omega)
   have dz' : decide (0<k)=true:=decide_eq_true (by omega)
   have ek:(k:Int) - 1=(i:Int):=by omega
   have hjl:i<V.length:=by omega
   have f1:(wr.alloc (.cells #[.string nm,.string pb,.bool ag] 82)).cell? ⟨b,o+i*3,none⟩=some (.string x.name):=(((Below.refl wr.heap.size wr).alloc (Nat.le_refl _) _).cell (p:=⟨b,o+i*3,none⟩) hbl).trans f0
   cases hlb:Own.lessB x.name nm with
   | false =>
     have e:R=false:=by rw[hra3,hlb];rfl
     have HE:=zh e
     have hlb' : Op.bytesLess x.name.toList nm.toList=false:=hlb
     clear e hra htk hra3 htk3 hx f0 hi hlb
     go_wp2_with fail
     refine Lex.wp_region_lex (by kernel_rfl) (by kernel_rfl) ?_
     go_wp2_with fail
     refine Lex.Ends.intro (by kernel_rfl) ?_
     go_wp2_with fail
     go_ret
     exact⟨by rw[HE.out];rfl,HB5.out⟩
   | true =>
     rw[hlb] at htk3
     have HT:=zh htk3
     have hlb' : Op.bytesLess x.name.toList nm.toList=true:=hlb
     clear hra htk hra3 htk3 hx f0 hi hlb
     go_wp2_with fail
     refine Lex.wp_region_lex (by kernel_rfl) (by kernel_rfl) ?_
     go_wp2_with fail
     refine Lex.Ends.intro (by kernel_rfl) ?_
     go_wp2_with fail
     go_round
     case measure=>simp[intOf];omega
     case rel=>exact⟨k+1,by omega,by go_num,HT.out,HB5.out⟩
theorem rvProposed_any (p:Own.Proposal) (v:Value) (w:World) (hM:MaxL w) (hv:Own.VotesC w v p.votes) (hl:p.votes.length<=140737488355328):
 Calls Tryz.prog 51 #[.agg #[.int .i64 p.id,.string p.path,.string p.digest,.int .i64 p.opened,.int .i64 p.expires,v]] w fun e w' => e=.returned (.bool (Own.proposalOK p))/\Below w.heap.size w w' :=by
 obtain⟨R,hR⟩:∃ R,R=Own.proposalOK p:=⟨_,rfl⟩
 rw[<- hR]
 rw[Own.proposalOK_rules] at hR
 have r1:=rvRule1_any p v;have r2:=rvRule2_any p v;have r3:=rvRule3_any p v;have r4:=rvRule4_any p v
 have hb1:Below w.heap.size w ((w.alloc (.cells #[.int .i64 p.id,.string p.path,.string p.digest,.int .i64 p.opened,.int .i64 p.expires,v] 46)).alloc (.cells #[.func (.func 83) #[] #[.pointer (some ⟨w.heap.size,0,none⟩)],.func (.func 84) #[] #[.pointer (some ⟨w.heap.size,0,none⟩)],.func (.func 85) #[] #[.pointer (some ⟨w.heap.size,0,none⟩)],.func (.func 86) #[] #[.pointer (some ⟨w.heap.size,0,none⟩)]] 25)):=((Below.refl _ _).alloc (Nat.le_refl _) _).alloc (by simp) _
 have ha:=(At.new w 46 #[.int .i64 p.id,.string p.path,.string p.digest,.int .i64 p.opened,.int .i64 p.expires,v]).alloc (.cells #[.func (.func 83) #[] #[.pointer (some ⟨w.heap.size,0,none⟩)],.func (.func 84) #[] #[.pointer (some ⟨w.heap.size,0,none⟩)],.func (.func 85) #[] #[.pointer (some ⟨w.heap.size,0,none⟩)],.func (.func 86) #[] #[.pointer (some ⟨w.heap.size,0,none⟩)]] 25)
 have hf:=At.new1 w (.cells #[.int .i64 p.id,.string p.path,.string p.digest,.int .i64 p.opened,.int .i64 p.expires,v] 46) 25 #[.func (.func 83) #[] #[.pointer (some ⟨w.heap.size,0,none⟩)],.func (.func 84) #[] #[.pointer (some ⟨w.heap.size,0,none⟩)],.func (.func 85) #[] #[.pointer (some ⟨w.heap.size,0,none⟩)],.func (.func 86) #[] #[.pointer (some ⟨w.heap.size,0,none⟩)]]
 have HR:=zh hR;have HA1:=zh ha;have HF1:=zh hf;have HB:=zh hb1;have HM1:=zh (hM.below hb1);have HV1:=zh (hv.below hb1)
 have R1:=zh r1;have R2:=zh r2;have R3:=zh r3;have R4:=zh r4
 clear hR ha hf hb1 hM hv r1 r2 r3 r4
 go_enter Tryz.func51,Tryz.ntmps51
 go_upto_region 2 with fail
 generalize (w.alloc (.cells #[.int .i64 p.id,.string p.path,.string p.digest,.int .i64 p.opened,.int .i64 p.expires,v] 46)).alloc (.cells #[.func (.func 83) #[] #[.pointer (some ⟨w.heap.size,0,none⟩)],.func (.func 84) #[] #[.pointer (some ⟨w.heap.size,0,none⟩)],.func (.func 85) #[] #[.pointer (some ⟨w.heap.size,0,none⟩)],.func (.func 86) #[] #[.pointer (some ⟨w.heap.size,0,none⟩)]] 25)=w1 at*
 go_wp2_with fail
 go_loopw [13] (fun i wr=>Below w1.heap.size w1 wr/\(i=.int .i64 0\/(i=.int .i64 1/\Own.rule1 p=true)\/(i=.int .i64 2/\Own.rule1 p=true/\Own.rule2 p=true)\/(i=.int .i64 3/\Own.rule1 p=true/\Own.rule2 p=true/\Own.rule3 p=true)\/(i=.int .i64 4/\R=true))) (fun i _=>4 - (intOf i).toNat)
 case atStart=>exact⟨Below.refl _ _,.inl rfl⟩
 case round=>
  obtain⟨hb,rfl | ⟨rfl,h1⟩ | ⟨rfl,h1,h2⟩ | ⟨rfl,h1,h2,h3⟩ | ⟨rfl,h4⟩⟩:=hrel
  ·
   have HP:=zh (HA1.out.below hb HA1.out.lt);have HF:=zh (HF1.out.below hb HF1.out.lt);have HMW:=zh (HM1.out.below hb);have HVW:=zh (HV1.out.below hb);have HBW:=zh hb
   obtain⟨c0,c1,c2,c3⟩:=HF.out.c4
   clear hb
   go_wp2_with fail
   refine Calls.mono (R1.out _ wr HMW.out HP.out) ?_
   rintro e w5 ⟨rfl,hb5⟩
   have HB5:=zh (HBW.out.trans (hb5.mono HBW.out.size));clear hb5
   cases hr:Own.rule1 p with
   | false =>
     have e:R=false:=by rw[HR.out];simp[hr]
     have HE:=zh e;clear e hr
     go_wp2_with fail
     go_ret
     exact⟨by rw[HE.out];rfl,HB.out.trans (HB5.out.mono HB.out.size)⟩
   | true =>
     have HH:=zh hr;clear hr
     go_wp2_with fail
     go_round
     case measure=>simp[intOf]
     case rel=>exact⟨HB5.out,.inr (.inl ⟨rfl,HH.out⟩)⟩
  ·have H1:=zh h1
   rw[h1,Bool.true_and] at HR
   clear h1
   have HP:=zh (HA1.out.below hb HA1.out.lt);have HF:=zh (HF1.out.below hb HF1.out.lt);have HMW:=zh (HM1.out.below hb);have HVW:=zh (HV1.out.below hb);have HBW:=zh hb
   obtain⟨c0,c1,c2,c3⟩:=HF.out.c4
   clear hb
   go_wp2_with fail
   refine Calls.mono (R2.out _ wr HP.out) ?_
   rintro e w5 ⟨rfl,hb5⟩
   have HB5:=zh (HBW.out.trans (hb5.mono HBW.out.size));clear hb5
   cases hr:Own.rule2 p with
   | false =>
     have e:R=false:=by rw[HR.out];simp[hr]
     have HE:=zh e;clear e hr
     go_wp2_with fail
     go_ret
     exact⟨by rw[HE.out];rfl,HB.out.trans (HB5.out.mono HB.out.size)⟩
   | true =>
     have HH:=zh hr;clear hr
     go_wp2_with fail
     go_round
     case measure=>simp[intOf]
     case rel=>exact⟨HB5.out,.inr (.inr (.inl ⟨rfl,H1.out,HH.out⟩))⟩
  ·have H1:=zh h1;have H2:=zh h2
   rw[h1,h2,Bool.true_and,Bool.true_and] at HR
   clear h1 h2
   have HP:=zh (HA1.out.below hb HA1.out.lt);have HF:=zh (HF1.out.below hb HF1.out.lt);have HMW:=zh (HM1.out.below hb);have HVW:=zh (HV1.out.below hb);have HBW:=zh hb
   obtain⟨c0,c1,c2,c3⟩:=HF.out.c4
   clear hb
   go_wp2_with fail
   refine Calls.mono (R3.out _ wr HP.out HVW.out) ?_
   rintro e w5 ⟨rfl,hb5⟩
   have HB5:=zh (HBW.out.trans (hb5.mono HBW.out.size));clear hb5
   cases hr:Own.rule3 p with
   | false =>
     have e:R=false:=by rw[HR.out];simp[hr]
     have HE:=zh e;clear e hr
     go_wp2_with fail
     go_ret
     exact⟨by rw[HE.out];rfl,HB.out.trans (HB5.out.mono HB.out.size)⟩
   | true =>
     have HH:=zh hr;clear hr
     go_wp2_with fail
     go_round
     case measure=>simp[intOf]
     case rel=>exact⟨HB5.out,.inr (.inr (.inr (.inl ⟨rfl,H1.out,H2.out,HH.out⟩)))⟩
  ·have H1:=zh h1;have H2:=zh h2;have H3:=zh h3
   rw[h1,h2,h3,Bool.true_and,Bool.true_and,Bool.true_and] at HR
   clear h1 h2 h3
   have HP:=zh (HA1.out.below hb HA1.out.lt);have HF:=zh (HF1.out.below hb HF1.out.lt);have HMW:=zh (HM1.out.below hb);have HVW:=zh (HV1.out.below hb);have HBW:=zh hb
   obtain⟨c0,c1,c2,c3⟩:=HF.out.c4
   clear hb
   go_wp2_with fail
   refine Calls.mono (R4.out _ wr HP.out HVW.out hl) ?_
   rintro e w5 ⟨rfl,hb5⟩
   have HB5:=zh (HBW.out.trans (hb5.mono HBW.out.size));clear hb5
   cases hr:Own.rule4 p with
   | false =>
     have e:R=false:=by rw[HR.out];simp[hr]
     have HE:=zh e;clear e hr
     go_wp2_with fail
     go_ret
     exact⟨by rw[HE.out];rfl,HB.out.trans (HB5.out.mono HB.out.size)⟩
   | true =>
     have HH:=zh hr;clear hr
     go_wp2_with fail
     go_round
     case measure=>simp[intOf]
     case rel=>exact⟨HB5.out,.inr (.inr (.inr (.inr ⟨rfl,by rw[HR.out];exact HH.out⟩)))⟩
  ·have H4:=zh h4;have HBW:=zh hb
   clear h4 hb
   go_wp2_with fail
   go_ret
   exact⟨by rw[H4.out];rfl,HB.out.trans (HBW.out.mono HB.out.size)⟩
end
section
open Go Go.RowKit Go.Maps
theorem rvFind1_any (x:Own.Proposal) (u:Value) (g:Nat) (id:Int) (w:World) (hc:w.cell? ⟨g,0,none⟩=some (.int .i64 id)):
 Calls Tryz.prog 82 (#[.agg #[.int .i64 x.id,.string x.path,.string x.digest,.int .i64 x.opened,.int .i64 x.expires,u]]++#[.pointer (some ⟨g,0,none⟩)]) w fun e w' => e=.returned (.bool (decide (x.id=id)))/\Below w.heap.size w w' :=by
 obtain⟨R,hR⟩:∃ R,R=decide (x.id=id):=⟨_,rfl⟩
 rw[<- hR]
 have hR2:R=(x.id==id):=hR
 obtain⟨i0,hi0⟩:∃ i,i=x.id:=⟨_,rfl⟩
 rw[<- hi0] at hR2 ⊢
 have hb1:Below w.heap.size w (w.alloc (.cells #[.int .i64 i0,.string x.path,.string x.digest,.int .i64 x.opened,.int .i64 x.expires,u] 46)):=(Below.refl _ _).alloc (Nat.le_refl _) _
 have q:=(hb1.cell (p:=⟨g,0,none⟩) (block_lt hc)).trans hc
 have HB:=zh hb1;have HR:=zh hR2
 clear hb1 hc hR hR2 hi0
 show Calls Tryz.prog 82 #[.agg #[.int .i64 i0,.string x.path,.string x.digest,.int .i64 x.opened,.int .i64 x.expires,u],.pointer (some ⟨g,0,none⟩)] w _
 go_enter Tryz.func82,Tryz.ntmps82
 go_wp2_with fail
 go_ret
 exact⟨by rw[HR.out];rfl,HB.out⟩
theorem rvFind_any (n id:Int) (pv:Value) (l:List Own.Proposal) (w:World) (hP:Own.PropsC w pv l) (hl:l.length<=140737488355328):
 Calls Tryz.prog 47 #[.agg #[.int .i64 n,pv],.int .i64 id] w fun e w' => (∃ i,e=.returned (.int .i64 i)/\Own.Idx (fun p:Own.Proposal=>decide (p.id=id)) l i)/\Below w.heap.size w w' :=by
 obtain⟨a,c,rfl⟩:=hP.len
 have hb1:Below w.heap.size w ((w.alloc (.cells #[.int .i64 n,.slice a l.length c] 24)).alloc (.cells #[.int .i64 id] 3)):=((Below.refl _ _).alloc (Nat.le_refl _) _).alloc (by simp) _
 have hi:=(At.new1 w (.cells #[.int .i64 n,.slice a l.length c] 24) 3 #[.int .i64 id])
 have c0:=hi.c1
 have hif:=ifProposals_any 82 #[.pointer (some ⟨w.heap.size+1,0,none⟩)] (by intros;rfl) (fun p:Own.Proposal=>decide (p.id=id)) _ l _ (hP.below hb1) hl (fun W x u hb=>rvFind1_any x u _ id W ((hb.cell (p:=⟨w.heap.size+1,0,none⟩) hi.lt).trans c0))
 have HIF:=zh hif;have HB:=zh hb1
 clear hif hb1 hi c0
 go_enter Tryz.func47,Tryz.ntmps47
 go_wp2_with fail
 refine HIF.out.mono ?_
 rintro e w2 ⟨⟨i,rfl,hi⟩,hb⟩
 have HI:=zh hi;have HB2:=zh (HB.out.trans (hb.mono HB.out.size))
 clear hi hb
 go_wp2_with fail
 go_ret
 exact⟨⟨_,rfl,HI.out⟩,HB2.out⟩
theorem rvAll_any (x:Own.Proposal) (u:Value) (w:World):
 Calls Tryz.prog 43 #[.agg #[.int .i64 x.id,.string x.path,.string x.digest,.int .i64 x.opened,.int .i64 x.expires,u]] w fun e w' => e=.returned (.bool true)/\Below w.heap.size w w' :=by
 have hb1:Below w.heap.size w (w.alloc (.cells #[.int .i64 x.id,.string x.path,.string x.digest,.int .i64 x.opened,.int .i64 x.expires,u] 46)):=(Below.refl _ _).alloc (Nat.le_refl _) _
 have HB:=zh hb1;clear hb1
 go_enter Tryz.func43,Tryz.ntmps43
 go_wp2_with fail
 go_ret
 exact⟨rfl,HB.out⟩
theorem rvValid_any (q:Own.Queue) (pv:Value) (w:World) (hM:MaxL w) (hS:Own.PropsC w pv q.props) (hls:q.props.length<=140737488355328) (hlm:∀ p∈q.props,p.votes.length<=140737488355328):
 Calls Tryz.prog 16 #[.agg #[.int .i64 q.next,pv]] w fun e w' => e=.returned (.bool (Own.queueOK q))/\Below w.heap.size w w' :=by
 obtain⟨R,hR⟩:∃ R,R=Own.queueOK q:=⟨_,rfl⟩
 rw[<- hR]
 unfold Own.queueOK Own.late at hR
 obtain⟨sa,sc,rfl⟩:=hS.len
 obtain⟨nxt,S⟩:=q
 dsimp only at*
 have ha:=At.new w 24 #[.int .i64 nxt,.slice sa S.length sc]
 have hb1:Below w.heap.size w (w.alloc (.cells #[.int .i64 nxt,.slice sa S.length sc] 24)):=(Below.refl _ _).alloc (Nat.le_refl _) _
 have HR:=zh hR;have HS:=zh (hS.below hb1);have HM:=zh (hM.below hb1);have HB:=zh hb1;have HA:=zh ha;have HLM:=zh hlm
 have c0:=ha.cell 0;have c1:=ha.cell 1
 simp only[List.getElem?_toArray,List.getElem?_cons_zero,List.getElem?_cons_succ] at c0 c1
 clear hR hS hM ha hb1 hlm
 go_enter Tryz.func16,Tryz.ntmps16
 by_cases h1:0<=nxt
 case neg=>
  have d1:decide (nxt<0)=true:=decide_eq_true (by omega)
  have e:R=false:=by rw[HR.out,decide_eq_false h1];rfl
  have HE:=zh e;clear e
  go_wp2_with fail
  go_ret
  exact⟨by rw[HE.out];rfl,HB.out⟩
 have d1:decide (nxt<0)=false:=decide_eq_false (by omega)
 by_cases h2:nxt<=1099511627776
 case neg=>
  have d2:decide (1099511627776<nxt)=true:=decide_eq_true (by omega)
  have e:R=false:=by rw[HR.out,decide_eq_false h2];simp
  have HE:=zh e;clear e
  go_wp2_with fail
  go_ret
  exact⟨by rw[HE.out];rfl,HB.out⟩
 have d2:decide (1099511627776<nxt)=false:=decide_eq_false (by omega)
 by_cases h3:S.length<=64
 case neg=>
  have d3:decide ((64:Int)<S.length)=true:=decide_eq_true (by omega)
  have e:R=false:=by rw[HR.out,decide_eq_false h3];simp
  have HE:=zh e;clear e
  go_wp2_with fail
  go_ret
  exact⟨by rw[HE.out];rfl,HB.out⟩
 have d3:decide ((64:Int)<S.length)=false:=decide_eq_false (by omega)
 obtain⟨OK,hOK⟩:∃ OK:Own.Proposal->Bool,OK=fun p=>Own.proposalOK p&&decide (p.id<nxt):=⟨_,rfl⟩
 obtain⟨LT,hLT⟩:∃ LT:Own.Proposal->Own.Proposal->Bool,LT=fun x y=>decide (x.id<y.id):=⟨_,rfl⟩
 have e:R=Own.chainOK OK LT none S:=by
  rw[HR.out,decide_eq_true h1,decide_eq_true h2,decide_eq_true h3,hOK,hLT];simp
 have HR2:=zh e;clear e HR
 have eOK:∀ p,OK p=(Own.proposalOK p&&decide (p.id<nxt)):=fun p=>by rw[hOK]
 have eLT:∀ x y,LT x y=decide (x.id<y.id):=fun x y=>by rw[hLT]
 have HEO:=zh eOK;have HEL:=zh eLT
 clear hOK hLT eOK eLT
 go_wp2_with fail
 generalize w.alloc (.cells #[.int .i64 nxt,.slice sa S.length sc] 24)=w1 at*
 clear d1 d2 d3 h1 h2
 go_loopw [22] (fun i wr=>∃ k:Nat,k<=S.length/\i=.int .i64 k/\Own.chainOK OK LT none (S.take k)=true/\Below w1.heap.size w1 wr) (fun i _=>S.length - (intOf i).toNat)
 case atStart=>exact⟨0,by omega,rfl,rfl,Below.refl _ _⟩
 case round=>
  obtain⟨k,hk,rfl,hok,hb⟩:=hrel
  have HBW:=zh hb
  have hz1:=HA.out.lt
  have hbs:=hb.size
  by_cases hlt:k<S.length
  case neg=>
   have hke:k=S.length:=by omega
   have dk:decide ((k:Int)<S.length)=false:=decide_eq_false (by omega)
   have e:R=true:=by rw[HR2.out,<- hok,hke,List.take_length]
   have HE:=zh e;clear e hok hke hb
   go_wp2_with fail
   go_ret
   exact⟨by rw[HE.out];rfl,HB.out.trans (HBW.out.mono HB.out.size)⟩
  have dk:decide ((k:Int)<S.length)=true:=decide_eq_true (by omega)
  have hra:R=((OK S[k]&&Own.ahead LT (S.take k).getLast? S[k])&&Own.chainOK OK LT (some S[k]) (S.drop (k+1))):=by rw[HR2.out,Own.chainOK_at _ _ S k hlt,hok,Bool.true_and]
  have htk:Own.chainOK OK LT none (S.take (k+1))=(OK S[k]&&Own.ahead LT (S.take k).getLast? S[k]):=by rw[Own.chainOK_take _ _ S k hlt,hok,Bool.true_and]
  have hlk:=HS.out.below hb
  obtain⟨b,o,mv,ha,hbl,e0,e1,e2,e3,e4,e5,hmv⟩:=Own.PropsC.cells hlk hlt
  have hprev:∀ i,k=i+1->∃ x:Own.Proposal,wr.cell? ⟨b,o+i*6,none⟩=some (.int .i64 x.id)/\(S.take k).getLast? = some x:=by
   intro i hi
   obtain⟨b',o',_,ha',_,e0,_⟩:=Own.PropsC.cells hlk (i:=i) (by omega)
   rw[ha] at ha'
   cases ha'
   have hg:=Own.getLast_take S i (by omega)
   rw[<- hi] at hg
   exact⟨_,e0,hg⟩
  subst ha
  have hml:=HLM.out S[k] (List.getElem_mem hlt)
  obtain⟨sp,hsp⟩:∃ x,x=S[k]:=⟨_,rfl⟩
  rw[<- hsp] at hra htk e0 e1 e2 e3 e4 hmv hml
  obtain⟨rest,hrest⟩:∃ x,x=Own.chainOK OK LT (some sp) (S.drop (k+1)):=⟨_,rfl⟩
  rw[<- hrest] at hra
  rw[HEO.out] at hra htk
  obtain⟨ma,mc,rfl⟩:=hmv.len
  have hsp5:∀ W,Below wr.heap.size wr W->_:=fun W hW=>rvProposed_any sp (.slice ma sp.votes.length mc) W ((HM.out.below hb).below hW) (hmv.below hW) hml
  obtain⟨id,pa,di,op,ex,vs⟩:=sp
  dsimp only at*
  have hb5:Below w1.heap.size w1 (wr.alloc (.cells #[.int .i64 id,.string pa,.string di,.int .i64 op,.int .i64 ex,.slice ma vs.length mc] 46)).drew:=(hb.alloc hb.size _).drew
  have hb56:Below wr.heap.size wr (wr.alloc (.cells #[.int .i64 id,.string pa,.string di,.int .i64 op,.int .i64 ex,.slice ma vs.length mc] 46)).drew:=((Below.refl _ _).alloc (Nat.le_refl _) _).drew
  have hn5:=(At.new wr 46 #[.int .i64 id,.string pa,.string di,.int .i64 op,.int .i64 ex,.slice ma vs.length mc]).drew
  have HSP5:=zh (hsp5 _ hb56);have HPREV:=zh hprev;have HB5:=zh hb5;have HB56:=zh hb56;have HN5:=zh hn5
  clear hok hb hlk hprev hb5 hb56 hn5 hsp5 hrest hsp hmv
  cases hs:Own.proposalOK ⟨id,pa,di,op,ex,vs⟩ with
  | false =>
    have e:R=false:=by rw[hra,hs];rfl
    have HE:=zh e;clear e hra htk
    have HHS:=zh hs;clear hs
    go_wp2_with fail
    refine Lex.wp_region_lex (by kernel_rfl) (by kernel_rfl) ?_
    go_wp2_with fail
    refine HSP5.out.mono ?_
    rintro e3 w7 ⟨rfl,hb7⟩
    rw[HHS.out]
    have hb17:=HB5.out.trans (hb7.mono HB5.out.size)
    have g0:=((HA.out.below hb17 hz1)).cell 0
    have g1:=((HA.out.below hb17 hz1)).cell 1
    have n0:=(HN5.out.below hb7 HN5.out.lt).cell 0
    simp only[List.getElem?_toArray,List.getElem?_cons_zero,List.getElem?_cons_succ] at g0 g1 n0
    try have f1:=((HB56.out.trans (hb7.mono HB56.out.size)).cell (p:=⟨b,o+i*6,none⟩) hbl).trans F0.out
    have HB7:=zh hb17;clear hb7 hb17
    go_wp2_with fail
    refine Lex.Ends.intro (by kernel_rfl) ?_
    go_wp2_with fail
    go_ret
    exact⟨by rw[HE.out];rfl,HB.out.trans (HB7.out.mono HB.out.size)⟩
  | true=>
  rw[hs,Bool.true_and] at hra htk
  have HHS:=zh hs;clear hs
  by_cases n1:id<nxt
  case neg=>
   have dn1:decide (nxt<=id)=true:=decide_eq_true (by omega)
   have e:R=false:=by rw[hra,decide_eq_false n1];rfl
   have HE:=zh e;clear e hra htk n1
   go_wp2_with fail
   refine Lex.wp_region_lex (by kernel_rfl) (by kernel_rfl) ?_
   go_wp2_with fail
   refine HSP5.out.mono ?_
   rintro e3 w7 ⟨rfl,hb7⟩
   rw[HHS.out]
   have hb17:=HB5.out.trans (hb7.mono HB5.out.size)
   have g0:=((HA.out.below hb17 hz1)).cell 0
   have g1:=((HA.out.below hb17 hz1)).cell 1
   have n0:=(HN5.out.below hb7 HN5.out.lt).cell 0
   simp only[List.getElem?_toArray,List.getElem?_cons_zero,List.getElem?_cons_succ] at g0 g1 n0
   try have f1:=((HB56.out.trans (hb7.mono HB56.out.size)).cell (p:=⟨b,o+i*6,none⟩) hbl).trans F0.out
   have HB7:=zh hb17;clear hb7 hb17
   go_wp2_with fail
   refine Lex.Ends.intro (by kernel_rfl) ?_
   go_wp2_with fail
   go_ret
   exact⟨by rw[HE.out];rfl,HB.out.trans (HB7.out.mono HB.out.size)⟩
  have dn1:decide (nxt<=id)=false:=decide_eq_false (by omega)
  rw[decide_eq_true n1,Bool.true_and] at hra htk
  rcases Nat.eq_zero_or_pos k with hk0 | hkp
  ·have hl0:(S.take k).getLast? = none:=by rw[hk0];rfl
   rw[hl0] at htk
   have htk' : Own.chainOK OK LT none (S.take (k+1))=true:=htk
   have HT:=zh htk'
   have HK0:=zh hk0
   have dz:decide ((0:Int)<(k:Int))=false:=decide_eq_false (by omega)
   have dz' : decide (0<k)=false:=decide_eq_false (by omega)
   clear hl0 hra htk htk' hk0
   go_wp2_with fail
   refine Lex.wp_region_lex (by kernel_rfl) (by kernel_rfl) ?_
   go_wp2_with fail
   refine HSP5.out.mono ?_
   rintro e3 w7 ⟨rfl,hb7⟩
   rw[HHS.out]
   have hb17:=HB5.out.trans (hb7.mono HB5.out.size)
   have g0:=((HA.out.below hb17 hz1)).cell 0
   have g1:=((HA.out.below hb17 hz1)).cell 1
   have n0:=(HN5.out.below hb7 HN5.out.lt).cell 0
   simp only[List.getElem?_toArray,List.getElem?_cons_zero,List.getElem?_cons_succ] at g0 g1 n0
   try have f1:=((HB56.out.trans (hb7.mono HB56.out.size)).cell (p:=⟨b,o+i*6,none⟩) hbl).trans F0.out
   have HB7:=zh hb17;clear hb7 hb17
   go_wp2_with fail
   refine Lex.Ends.intro (by kernel_rfl) ?_
   go_wp2_with fail
   go_round
   case measure=>simp[intOf];omega
   case rel=>exact⟨k+1,by omega,by go_num,HT.out,HB7.out⟩
  ·obtain⟨i,hi⟩:∃ i,k=i+1:=⟨k - 1,by omega⟩
   obtain⟨x,f0,hx⟩:=HPREV.out i hi
   rw[hx] at hra htk
   have hra3:R=(LT x ⟨id,pa,di,op,ex,vs⟩&&rest):=hra
   have htk3:Own.chainOK OK LT none (S.take (k+1))=LT x ⟨id,pa,di,op,ex,vs⟩:=htk
   rw[HEL.out] at hra3 htk3
   dsimp only at hra3 htk3
   obtain⟨xi,hxi⟩:∃ xi,xi=x.id:=⟨_,rfl⟩
   rw[<- hxi] at hra3 htk3 f0
   have dz:decide ((0:Int)<(k:Int))=true:=decide_eq_true (by omega)
   have dz' : decide (0<k)=true:=decide_eq_true (by omega)
   have ek:(k:Int) - 1=(i:Int):=by omega
   have hjl:i<S.length:=by omega
   have F0:=zh f0
   by_cases hlb:xi<id
   case neg=>
    have dn2:decide (id<=xi)=true:=decide_eq_true (by omega)
    have e:R=false:=by rw[hra3,decide_eq_false hlb];rfl
    have HE:=zh e
    clear e hra htk hra3 htk3 hx f0 hi hlb hxi
    go_wp2_with fail
    refine Lex.wp_region_lex (by kernel_rfl) (by kernel_rfl) ?_
    go_wp2_with fail
    refine HSP5.out.mono ?_
    rintro e3 w7 ⟨rfl,hb7⟩
    rw[HHS.out]
    have hb17:=HB5.out.trans (hb7.mono HB5.out.size)
    have g0:=((HA.out.below hb17 hz1)).cell 0
    have g1:=((HA.out.below hb17 hz1)).cell 1
    have n0:=(HN5.out.below hb7 HN5.out.lt).cell 0
    simp only[List.getElem?_toArray,List.getElem?_cons_zero,List.getElem?_cons_succ] at g0 g1 n0
    try have f1:=((HB56.out.trans (hb7.mono HB56.out.size)).cell (p:=⟨b,o+i*6,none⟩) hbl).trans F0.out
    have HB7:=zh hb17;clear hb7 hb17
    go_wp2_with fail
    refine Lex.Ends.intro (by kernel_rfl) ?_
    go_wp2_with fail
    go_ret
    exact⟨by rw[HE.out];rfl,HB.out.trans (HB7.out.mono HB.out.size)⟩
   case pos=>
    have dn2:decide (id<=xi)=false:=decide_eq_false (by omega)
    rw[decide_eq_true hlb] at htk3
    have HT:=zh htk3
    clear hra htk hra3 htk3 hx f0 hi hlb hxi
    go_wp2_with fail
    refine Lex.wp_region_lex (by kernel_rfl) (by kernel_rfl) ?_
    go_wp2_with fail
    refine HSP5.out.mono ?_
    rintro e3 w7 ⟨rfl,hb7⟩
    rw[HHS.out]
    have hb17:=HB5.out.trans (hb7.mono HB5.out.size)
    have g0:=((HA.out.below hb17 hz1)).cell 0
    have g1:=((HA.out.below hb17 hz1)).cell 1
    have n0:=(HN5.out.below hb7 HN5.out.lt).cell 0
    simp only[List.getElem?_toArray,List.getElem?_cons_zero,List.getElem?_cons_succ] at g0 g1 n0
    try have f1:=((HB56.out.trans (hb7.mono HB56.out.size)).cell (p:=⟨b,o+i*6,none⟩) hbl).trans F0.out
    have HB7:=zh hb17;clear hb7 hb17
    go_wp2_with fail
    refine Lex.Ends.intro (by kernel_rfl) ?_
    go_wp2_with fail
    go_round
    case measure=>simp[intOf];omega
    case rel=>exact⟨k+1,by omega,by go_num,HT.out,HB7.out⟩
end
section
open Go Go.RowKit Go.Maps
theorem info_Proposal:(Tryz.prog.info? 46).map (·.size)=some 6:=by kernel_rfl
theorem rvCopied_any (p:Own.Proposal) (v:Value) (w:World) (h:Own.VotesC w v p.votes) (hl:p.votes.length<=3000000):
 Calls Tryz.prog 74 #[.agg #[.int .i64 p.id,.string p.path,.string p.digest,.int .i64 p.opened,.int .i64 p.expires,v]] w fun e w' => ∃ v',e=.returned (.agg #[.int .i64 p.id,.string p.path,.string p.digest,.int .i64 p.opened,.int .i64 p.expires,v'])/\w'.ownsRow w.heap.size 82 3 v' p.votes.length (p.votes.flatMap Own.encV)/\Below w.heap.size w w' :=by
 obtain⟨id,pa,di,op,ex,l⟩:=p
 dsimp only at*
 have ha1:=(At.new w 46 #[.int .i64 id,.string pa,.string di,.int .i64 op,.int .i64 ex,v]).alloc (.cells #[.int .i64 0,.string ⟨#[]⟩,.string ⟨#[]⟩,.int .i64 0,.int .i64 0,.slice none 0 0] 46)
 have ha2:=At.new1 w (.cells #[.int .i64 id,.string pa,.string di,.int .i64 op,.int .i64 ex,v] 46) 46 #[.int .i64 0,.string ⟨#[]⟩,.string ⟨#[]⟩,.int .i64 0,.int .i64 0,.slice none 0 0]
 have hb1:Below w.heap.size w ((w.alloc (.cells #[.int .i64 id,.string pa,.string di,.int .i64 op,.int .i64 ex,v] 46)).alloc (.cells #[.int .i64 0,.string ⟨#[]⟩,.string ⟨#[]⟩,.int .i64 0,.int .i64 0,.slice none 0 0] 46)):=((Below.refl _ _).alloc (Nat.le_refl _) _).alloc (by simp) _
 obtain⟨a,c,rfl⟩:=h.len
 have H:=zh (h.below hb1);have HA1:=zh ha1;have HA2:=zh ha2;have HB1:=zh hb1
 have c1:=ha1.cell 5
 simp only[List.getElem?_toArray,List.getElem?_cons_zero,List.getElem?_cons_succ] at c1
 clear h ha1 ha2 hb1
 go_enter Tryz.func74,Tryz.ntmps74
 go_wp2_with fail
 have hz:((w.alloc (.cells #[.int .i64 id,.string pa,.string di,.int .i64 op,.int .i64 ex,.slice a l.length c] 46)).alloc (.cells #[.int .i64 0,.string ⟨#[]⟩,.string ⟨#[]⟩,.int .i64 0,.int .i64 0,.slice none 0 0] 46)).heap.size=w.heap.size+2:=by simp
 generalize (w.alloc (.cells #[.int .i64 id,.string pa,.string di,.int .i64 op,.int .i64 ex,.slice a l.length c] 46)).alloc (.cells #[.int .i64 0,.string ⟨#[]⟩,.string ⟨#[]⟩,.int .i64 0,.int .i64 0,.slice none 0 0] 46)=w1 at*
 refine(clVotes_any _ l.length _ w1 (Own.VotesC.rows H.out) (Own.one_V l) hl).mono ?_
 rintro e w2 ⟨v',rfl,ho,hb⟩
 have ha1:=HA1.out.below hb (by omega)
 have ha2:=HA2.out.below hb (by omega)
 have hne1:=ha1.own_ne ho (by decide)
 have hne2:=ha2.own_ne ho (by decide)
 have hb2:=HB1.out.trans (hb.mono HB1.out.size)
 have z5:=ha1.free 5;have y0:=ha1.cell 0;have y1:=ha1.cell 1;have y2:=ha1.cell 2;have y3:=ha1.cell 3;have y4:=ha1.cell 4;have y5:=ha1.cell 5
 have x0:=ha2.cell 0;have x1:=ha2.cell 1;have x2:=ha2.cell 2;have x3:=ha2.cell 3;have x4:=ha2.cell 4;have x5:=ha2.cell 5
 have f0:=ha2.free 0;have f1:=ha2.free 1;have f2:=ha2.free 2;have f3:=ha2.free 3;have f4:=ha2.free 4;have f5:=ha2.free 5
 simp only[List.getElem?_toArray,List.getElem?_cons_zero,List.getElem?_cons_succ] at y0 y1 y2 y3 y4 y5 x0 x1 x2 x3 x4 x5
 obtain⟨va,vm,vc,rfl⟩:=own_slice ho
 have HO:=zh ho;have G1:=zh ha1;have G2:=zh ha2;have HB2:=zh hb2
 clear ho hb ha1 ha2 hb2 c1
 go_wp2_with fail
 have F2:=((((((G2.out.far (p:=⟨w.heap.size,5,none⟩) (by simp) (.slice va vm vc)).set 0 (.int .i64 id)).set 1 (.string pa)).set 2 (.string di)).set 3 (.int .i64 op)).set 4 (.int .i64 ex)).set 5 (.slice va vm vc)
 refine done_c rfl rfl (load_row F2 Tryz.underlying46 rfl info_Proposal) ⟨_,rfl,?_,?_⟩
 ·refine own_base (own_keep HO.out (fun k hk=>?_)) (by omega)
  have k1:k≠w.heap.size:=by rintro rfl;exact hne1 hk
  have k2:k≠w.heap.size+1:=by rintro rfl;exact hne2 hk
  rw[heap_setCell_other _ _ _ _ k2,heap_setCell_other _ _ _ _ k2,heap_setCell_other _ _ _ _ k2,heap_setCell_other _ _ _ _ k2,heap_setCell_other _ _ _ _ k2,heap_setCell_other _ _ _ _ k2,heap_setCell_other _ _ _ _ k1]
 ·exact((((((HB2.out.setCell (p:=⟨w.heap.size,5,none⟩) (Nat.le_refl _) _).setCell (p:=⟨w.heap.size+1,0,none⟩) (by simp) _).setCell (p:=⟨w.heap.size+1,1,none⟩) (by simp) _).setCell (p:=⟨w.heap.size+1,2,none⟩) (by simp) _).setCell (p:=⟨w.heap.size+1,3,none⟩) (by simp) _).setCell (p:=⟨w.heap.size+1,4,none⟩) (by simp) _).setCell (p:=⟨w.heap.size+1,5,none⟩) (by simp) _
end
section
open Go Go.RowKit Go.Maps
theorem r54index_any (nx id:Int) (v:Value) (l:List Own.Proposal) (w:World) (h:Own.PropsC w v l) (hl:l.length<=140737488355328):
 Calls Tryz.prog 49 #[.agg #[.int .i64 nx,v],.int .i64 id] w fun e w' => (∃ i,e=.returned (.int .i64 i)/\Own.Idx (fun p:Own.Proposal=>decide (p.id=id)) l i)/\Below w.heap.size w w' :=by
 obtain⟨a,c,rfl⟩:=h.len
 have F1:=zh (show Boxes w (w.alloc (.cells #[.int .i64 nx,.slice a l.length c] 24)) [(24,#[.int .i64 nx,.slice a l.length c])] from((Fresh.nil w).push 24 #[.int .i64 nx,.slice a l.length c]).boxes)
 have HL:=zh (h.below F1.out.under);clear h
 go_enter Tryz.func49,Tryz.ntmps49
 go_upto_region 1 with fail
 generalize w.alloc (.cells #[.int .i64 nx,.slice a l.length c] 24)=w1 at*
 go_wp2_with fail
 go_loopw [5] (fun i wr=>∃ k:Nat,k<=l.length/\i=.int .i64 k/\(∀ j (h:j<l.length),j<k->decide (l[j].id=id)=false)/\Below w1.heap.size w1 wr) (fun i _=>l.length - (intOf i).toNat)
 case atStart=>exact⟨0,by omega,rfl,(fun j _ h=>absurd h (by omega)),Below.refl _ _⟩
 case round=>
  obtain⟨k,hk,rfl,hno,hb⟩:=hrel
  have HN:=zh hno
  have F2:=zh (F1.out.step hb)
  obtain⟨x00,x01⟩:=F2.out.d0_2 rfl
  by_cases hlt:k<l.length
  case neg=>
   have dk:decide ((k:Int)<l.length)=false:=decide_eq_false (by omega)
   have hix:=Own.Idx.miss (p:=fun m:Own.Proposal=>decide (m.id=id)) (l:=l) (fun j hj=>hno j hj (by omega))
   have HIX:=zh hix;clear hix hno hb
   go_wp2_with fail
   go_ret
   exact⟨⟨_,rfl,HIX.out⟩,F2.out.under⟩
  have dk:decide ((k:Int)<l.length)=true:=decide_eq_true (by omega)
  obtain⟨b,o,u,ha,hbl,e0,_⟩:=Own.PropsC.cells (HL.out.below hb) hlt
  subst ha
  obtain⟨x,hx⟩:∃ x,x=l[k].id:=⟨_,rfl⟩
  rw[<- hx] at e0
  have HX:=zh hx;have HB:=zh hb
  clear hx hno hb
  by_cases hc:x=id
  ·have dc:(x==id)=true:=beq_iff_eq.2 hc
   have hix:=Own.Idx.hit (p:=fun m:Own.Proposal=>decide (m.id=id)) hlt (by show decide (l[k].id=id)=true;rw[<- HX.out];exact decide_eq_true hc) (fun j hj=>HN.out j (by omega) hj)
   have HIX:=zh hix;clear hix
   have HC:=zh hc;clear hc
   go_wp2_with fail
   go_ret
   exact⟨⟨_,rfl,HIX.out⟩,F2.out.under⟩
  ·have dc:(x==id)=false:=beq_eq_false_iff_ne.2 hc
   have hn2:∀ j (h:j<l.length),j<k+1->decide (l[j].id=id)=false:=fun j h hj=>by
    rcases(by omega:j<k\/j=k) with h1 | rfl
    ·exact HN.out j h h1
    ·rw[<- HX.out];exact decide_eq_false hc
   have HN2:=zh hn2;clear hn2 hc
   go_wp2_with fail
   exact⟨⟨k+1,by omega,by go_num,HN2.out,HB.out⟩,by simp[intOf];omega⟩
end
section
open Go Go.RowKit Go.Maps
namespace Own
def FewM (l:List Member):Prop:=l.length<=12/\∀ m∈l,m.name.size<=100/\m.pub.size<=100
def FewO (o:Owners):Prop:=o.spaces.length<=70/\o.keys.length<=40/\(∀ s∈o.spaces,s.pre.size<=100/\FewM s.members)/\∀ k∈o.keys,k.pub.size<=100
def FewV (v:Vote):Prop:=v.name.size+v.pub.size<=200
def FewP (p:Proposal):Prop:=p.path.size+p.digest.size<=300/\p.votes.length<=20/\∀ v∈p.votes,FewV v
def FewQ (q:Queue):Prop:=q.props.length<=70/\∀ p∈q.props,FewP p
def FewPost (P:Prop) (w:World) (e:Ending) (w' : World):Prop:=∃ b,e=.returned (.bool b)/\(b=true->P)/\Below w.heap.size w w'
theorem each_of {α : Type} {P : α -> Prop} {l:List α} {k:Nat} (hk:l.length<=k) (h:∀ j (h:j<l.length),j<k->P l[j]):∀ x∈l,P x:=fun x hx=>by
 obtain⟨j,hj,rfl⟩:=List.getElem_of_mem hx
 exact h j hj (by omega)
theorem each_succ {α : Type} {P : α -> Prop} {l:List α} {k:Nat} (hk:k<l.length) (h:∀ j (h:j<l.length),j<k->P l[j]) (hp:P l[k]):∀ j (h:j<l.length),j<k+1->P l[j]:=fun j hj hjk=>by
 rcases(by omega:j<k\/j=k) with h1 | rfl
 ·exact h j hj h1
 ·exact hp
end Own
theorem r53fewMembers_any (v:Value) (l:List Own.Member) (w:World) (h:Own.MembersC w v l) (hl:l.length<=140737488355328):
 Calls Tryz.prog 54 #[v] w (Own.FewPost (Own.FewM l) w):=by
 obtain⟨Q,hQ⟩:∃ Q,Q=Own.FewPost (Own.FewM l) w:=⟨_,rfl⟩
 rw[<- hQ]
 have HQ:=zh hQ;clear hQ
 obtain⟨a,c,rfl⟩:=h.len
 have HL:=zh h;clear h
 go_enter Tryz.func54,Tryz.ntmps54
 go_wp2_with fail
 go_loopw [3] (fun i wr=>∃ k:Nat,k<=l.length/\i=.int .i64 k/\(∀ j (h:j<l.length),j<k->l[j].name.size<=100/\l[j].pub.size<=100)/\Below w.heap.size w wr) (fun i _=>l.length - (intOf i).toNat)
 case atStart=>exact⟨0,by omega,rfl,(fun j _ h=>absurd h (by omega)),Below.refl _ _⟩
 case round=>
  obtain⟨k,hk,rfl,hno,hb⟩:=hrel
  have HN:=zh hno;have HB:=zh hb
  by_cases hlt:k<l.length
  case neg=>
   have dk:decide ((k:Int)<l.length)=false:=decide_eq_false (by omega)
   have hall:=Own.each_of (P:=fun m:Own.Member=>m.name.size<=100/\m.pub.size<=100) (by omega) hno
   have HA:=zh hall;clear hall hno hb
   go_wp2_with fail
   (try go_ret)
   rw[HQ.out]
   exact⟨_,rfl,(fun h=>⟨by have:=of_decide_eq_true h;omega,HA.out⟩),HB.out⟩
  have dk:decide ((k:Int)<l.length)=true:=decide_eq_true (by omega)
  obtain⟨b,o,ha,hbl,c0,c1⟩:=Own.MembersC.cells (HL.out.below hb) hlt
  subst ha
  have hn2:=fun hp=>Own.each_succ (P:=fun m:Own.Member=>m.name.size<=100/\m.pub.size<=100) hlt hno hp
  obtain⟨x,hx⟩:∃ x,x=l[k].name:=⟨_,rfl⟩
  obtain⟨y,hy⟩:∃ x,x=l[k].pub:=⟨_,rfl⟩
  rw[<- hx] at c0
  rw[<- hy] at c1
  simp only[<- hx,<- hy] at hn2
  have HN2:=zh hn2
  clear hx hy hno hb hn2
  by_cases h1:100<(x.size:Int)
  ·have d1:decide (100<(x.size:Int))=true:=decide_eq_true h1
   have d1' : decide (100<x.size)=true:=decide_eq_true (by omega)
   go_wp2_with fail
   (try go_ret)
   rw[HQ.out]
   exact⟨false,rfl,(fun h=>by cases h),HB.out⟩
  have d1:decide (100<(x.size:Int))=false:=decide_eq_false h1
  have d1' : decide (100<x.size)=false:=decide_eq_false (by omega)
  by_cases h2:100<(y.size:Int)
  ·have d2:decide (100<(y.size:Int))=true:=decide_eq_true h2
   have d2' : decide (100<y.size)=true:=decide_eq_true (by omega)
   go_wp2_with fail
   (try go_ret)
   rw[HQ.out]
   exact⟨false,rfl,(fun h=>by cases h),HB.out⟩
  have d2:decide (100<(y.size:Int))=false:=decide_eq_false h2
  have d2' : decide (100<y.size)=false:=decide_eq_false (by omega)
  have hn:=HN2.out ⟨by omega,by omega⟩
  have HN3:=zh hn;clear hn
  go_wp2_with fail
  exact⟨⟨k+1,by omega,by go_num,HN3.out,HB.out⟩,by simp[intOf];omega⟩
theorem r53Few_any (o:Own.Owners) (sv kv:Value) (w:World) (hS:Own.SpacesC w sv o.spaces) (hK:Own.KeysC w kv o.keys) (hls:o.spaces.length<=140737488355328) (hlk:o.keys.length<=140737488355328) (hlm:∀ s∈o.spaces,s.members.length<=140737488355328):
 Calls Tryz.prog 21 #[.agg #[.int .i64 o.count,sv,kv]] w (Own.FewPost (Own.FewO o) w):=by
 obtain⟨Q,hQ⟩:∃ Q,Q=Own.FewPost (Own.FewO o) w:=⟨_,rfl⟩
 rw[<- hQ]
 have HQ:=zh hQ;clear hQ
 obtain⟨sa,sc,rfl⟩:=hS.len
 obtain⟨ka,kc,rfl⟩:=hK.len
 obtain⟨cnt,S,K⟩:=o
 dsimp only at*
 have F1:=zh (show Boxes w (w.alloc (.cells #[.int .i64 cnt,.slice sa S.length sc,.slice ka K.length kc] 38)) [(38,#[.int .i64 cnt,.slice sa S.length sc,.slice ka K.length kc])] from((Fresh.nil w).push 38 #[.int .i64 cnt,.slice sa S.length sc,.slice ka K.length kc]).boxes)
 have HS:=zh (hS.below F1.out.under);have HK:=zh (hK.below F1.out.under);have HLM:=zh hlm
 clear hS hK hlm
 go_enter Tryz.func21,Tryz.ntmps21
 go_upto_region 1 with fail
 generalize w.alloc (.cells #[.int .i64 cnt,.slice sa S.length sc,.slice ka K.length kc] 38)=w1 at*
 go_wp2_with fail
 go_loopw [3] (fun i wr=>∃ k:Nat,k<=S.length/\i=.int .i64 k/\(∀ j (h:j<S.length),j<k->S[j].pre.size<=100/\Own.FewM S[j].members)/\Below w1.heap.size w1 wr) (fun i _=>S.length - (intOf i).toNat)
 case atStart=>exact⟨0,by omega,rfl,(fun j _ h=>absurd h (by omega)),Below.refl _ _⟩
 case round=>
  obtain⟨k,hk,rfl,hno,hb⟩:=hrel
  have HN:=zh hno;have HB:=zh hb
  have F2:=zh (F1.out.step hb)
  obtain⟨x00,x01,x02⟩:=F2.out.d0_3 rfl
  by_cases hlt:k<S.length
  case neg=>
   have dk:decide ((k:Int)<S.length)=false:=decide_eq_false (by omega)
   have hall:=Own.each_of (P:=fun s:Own.Space=>s.pre.size<=100/\Own.FewM s.members) (by omega) hno
   have HA:=zh hall;clear hall hno hb
   go_wp2_with fail
   have HKR:=zh (HK.out.below HB.out)
   obtain⟨w5,hw5⟩:∃ w5,w5=wr:=⟨_,rfl⟩
   subst hw5
   (try clear x00);(try clear x01);(try clear x02)
   go_loopw [4] (fun i wr=>∃ k:Nat,k<=K.length/\i=.int .i64 k/\(∀ j (h:j<K.length),j<k->K[j].pub.size<=100)/\Below w5.heap.size w5 wr) (fun i _=>K.length - (intOf i).toNat)
   case atStart=>exact⟨0,by omega,rfl,(fun j _ h=>absurd h (by omega)),Below.refl _ _⟩
   case round=>
    obtain⟨j,hj,rfl,hno,hb⟩:=hrel
    have F3:=zh (F2.out.step hb)
    have HB3:=zh hb
    obtain⟨x00,x01,x02⟩:=F3.out.d0_3 rfl
    by_cases hlt:j<K.length
    case neg=>
     have dj:decide ((j:Int)<K.length)=false:=decide_eq_false (by omega)
     have hall:=Own.each_of (P:=fun k:Own.KeyUse=>k.pub.size<=100) (by omega) hno
     have HA2:=zh hall;clear hall hno hb
     by_cases h7:(S.length:Int)<=70
     ·have d7:decide ((S.length:Int)<=70)=true:=decide_eq_true h7
      have d7' : decide (S.length<=70)=true:=decide_eq_true (by omega)
      go_wp2_with fail
      (try go_ret)
      rw[HQ.out]
      exact⟨_,rfl,(fun h=>⟨by show S.length<=70;omega,by have:=of_decide_eq_true h;show K.length<=40;omega,HA.out,HA2.out⟩),F3.out.under⟩
     ·have d7:decide ((S.length:Int)<=70)=false:=decide_eq_false h7
      have d7' : decide (S.length<=70)=false:=decide_eq_false (by omega)
      go_wp2_with fail
      (try go_ret)
      rw[HQ.out]
      exact⟨false,rfl,(fun h=>by cases h),F3.out.under⟩
    have dj:decide ((j:Int)<K.length)=true:=decide_eq_true (by omega)
    obtain⟨b,o,ha,hbl,c0,c1⟩:=Own.KeysC.cells (HKR.out.below hb) hlt
    subst ha
    have hn2:=fun hp=>Own.each_succ (P:=fun k:Own.KeyUse=>k.pub.size<=100) hlt hno hp
    obtain⟨y,hy⟩:∃ x,x=K[j].pub:=⟨_,rfl⟩
    rw[<- hy] at c0
    simp only[<- hy] at hn2
    have HN2:=zh hn2
    clear hy hno hb hn2 c1
    by_cases h1:100<(y.size:Int)
    ·have d1:decide (100<(y.size:Int))=true:=decide_eq_true h1
     have d1' : decide (100<y.size)=true:=decide_eq_true (by omega)
     go_wp2_with fail
     (try go_ret)
     rw[HQ.out]
     exact⟨false,rfl,(fun h=>by cases h),F3.out.under⟩
    have d1:decide (100<(y.size:Int))=false:=decide_eq_false h1
    have d1' : decide (100<y.size)=false:=decide_eq_false (by omega)
    have hn:=HN2.out (by omega)
    have HN3:=zh hn;clear hn
    go_wp2_with fail
    exact⟨⟨j+1,by omega,by go_num,HN3.out,HB3.out⟩,by simp[intOf];omega⟩
  have dk:decide ((k:Int)<S.length)=true:=decide_eq_true (by omega)
  obtain⟨b,o,mv,ha,hbl,e0,e1,e2,hmv⟩:=Own.SpacesC.cells (HS.out.below hb) hlt
  subst ha
  have hml:=HLM.out S[k] (List.getElem_mem hlt)
  have hn2:=fun hp=>Own.each_succ (P:=fun s:Own.Space=>s.pre.size<=100/\Own.FewM s.members) hlt hno hp
  obtain⟨x,hx⟩:∃ x,x=S[k]:=⟨_,rfl⟩
  rw[<- hx] at e0 hmv hml
  simp only[<- hx] at hn2
  have HN2:=zh hn2;have HMV:=zh hmv
  obtain⟨ma,mc,rfl⟩:=hmv.len
  clear hx hno hb hn2 hmv e2
  by_cases h1:100<(x.pre.size:Int)
  ·have d1:decide (100<(x.pre.size:Int))=true:=decide_eq_true h1
   have d1' : decide (100<x.pre.size)=true:=decide_eq_true (by omega)
   go_wp2_with fail
   (try go_ret)
   rw[HQ.out]
   exact⟨false,rfl,(fun h=>by cases h),F2.out.under⟩
  have d1:decide (100<(x.pre.size:Int))=false:=decide_eq_false h1
  have d1' : decide (100<x.pre.size)=false:=decide_eq_false (by omega)
  go_wp2_with fail
  refine(r53fewMembers_any _ x.members _ HMV.out hml).mono ?_
  rintro e w6 ⟨q,rfl,hq,hb6⟩
  have F6:=zh (F2.out.step hb6);have HB6:=zh (HB.out.trans (hb6.mono HB.out.size))
  cases q with
  | false =>
    clear hb6
    go_wp2_with fail
    (try go_ret)
    rw[HQ.out]
    exact⟨false,rfl,(fun h=>by cases h),F6.out.under⟩
  | true =>
    have hn:=HN2.out ⟨by omega,hq rfl⟩
    have HN3:=zh hn;clear hn hq hb6
    go_wp2_with fail
    exact⟨⟨k+1,by omega,by go_num,HN3.out,HB6.out⟩,by simp[intOf];omega⟩
namespace Own
end Own
theorem r54Few_any (q:Own.Queue) (pv:Value) (w:World) (hP:Own.PropsC w pv q.props) (hl:q.props.length<=140737488355328) (hlv:∀ p∈q.props,p.votes.length<=140737488355328/\p.path.size<=140737488355328/\p.digest.size<=140737488355328/\∀ v∈p.votes,v.name.size<=140737488355328/\v.pub.size<=140737488355328):
 Calls Tryz.prog 11 #[.agg #[.int .i64 q.next,pv]] w (Own.FewPost (Own.FewQ q) w):=by
 obtain⟨Q,hQ⟩:∃ Q,Q=Own.FewPost (Own.FewQ q) w:=⟨_,rfl⟩
 rw[<- hQ]
 have HQ:=zh hQ;clear hQ
 obtain⟨a,c,rfl⟩:=hP.len
 obtain⟨nx,L⟩:=q
 dsimp only at*
 have F1:=zh (show Boxes w (w.alloc (.cells #[.int .i64 nx,.slice a L.length c] 24)) [(24,#[.int .i64 nx,.slice a L.length c])] from((Fresh.nil w).push 24 #[.int .i64 nx,.slice a L.length c]).boxes)
 have HP:=zh (hP.below F1.out.under);have HLV:=zh hlv
 clear hP hlv
 go_enter Tryz.func11,Tryz.ntmps11
 go_upto_region 1 with fail
 generalize w.alloc (.cells #[.int .i64 nx,.slice a L.length c] 24)=w1 at*
 go_wp2_with fail
 go_loopw [3] (fun i wr=>∃ k:Nat,k<=L.length/\i=.int .i64 k/\(∀ j (h:j<L.length),j<k->Own.FewP L[j])/\Below w1.heap.size w1 wr) (fun i _=>L.length - (intOf i).toNat)
 case atStart=>exact⟨0,by omega,rfl,(fun j _ h=>absurd h (by omega)),Below.refl _ _⟩
 case round=>
  obtain⟨k,hk,rfl,hno,hb⟩:=hrel
  have HN:=zh hno;have HB:=zh hb
  have F2:=zh (F1.out.step hb)
  obtain⟨x00,x01⟩:=F2.out.d0_2 rfl
  by_cases hlt:k<L.length
  case neg=>
   have dk:decide ((k:Int)<L.length)=false:=decide_eq_false (by omega)
   have hall:=Own.each_of (P:=Own.FewP) (by omega) hno
   have HA:=zh hall;clear hall hno hb
   go_wp2_with fail
   (try go_ret)
   rw[HQ.out]
   exact⟨_,rfl,(fun h=>⟨by have:=of_decide_eq_true h;show L.length<=70;omega,HA.out⟩),F2.out.under⟩
  have dk:decide ((k:Int)<L.length)=true:=decide_eq_true (by omega)
  obtain⟨b,o,u,ha,hbl,e0,e1,e2,e3,e4,e5,huv⟩:=Own.PropsC.cells (HP.out.below hb) hlt
  subst ha
  have hml:=HLV.out L[k] (List.getElem_mem hlt)
  have hn2:=fun hp=>Own.each_succ (P:=Own.FewP) hlt hno hp
  obtain⟨x,hx⟩:∃ x,x=L[k]:=⟨_,rfl⟩
  rw[<- hx] at e0 e1 e2 e3 e4 huv hml
  simp only[<- hx] at hn2
  obtain⟨ua,uc,rfl⟩:=huv.len
  obtain⟨pid,ppa,pdi,pop,pex,V⟩:=x
  dsimp only at*
  obtain⟨m1,m2,m3,m4⟩:=hml
  obtain⟨w4,hw4⟩:∃ w4,w4=wr:=⟨_,rfl⟩
  subst hw4
  have G1:=zh (show Boxes w4 (w4.alloc (.cells #[.int .i64 pid,.string ppa,.string pdi,.int .i64 pop,.int .i64 pex,.slice ua V.length uc] 46)) [(46,#[.int .i64 pid,.string ppa,.string pdi,.int .i64 pop,.int .i64 pex,.slice ua V.length uc])] from((Fresh.nil w4).push 46 #[.int .i64 pid,.string ppa,.string pdi,.int .i64 pop,.int .i64 pex,.slice ua V.length uc]).boxes)
  have HN2:=zh hn2;have HV:=zh (huv.below G1.out.under);have HM4:=zh m4
  clear hx hno hb hn2 huv m4
  go_upto_region 5 with fail
  (try clear x00);(try clear x01)
  clear e0 e1 e2 e3 e4 e5
  generalize w4.alloc (.cells #[.int .i64 pid,.string ppa,.string pdi,.int .i64 pop,.int .i64 pex,.slice ua V.length uc] 46)=w5 at*
  have F5:=zh (F2.out.step G1.out.under)
  obtain⟨y00,y01,y02,y03,y04,y05⟩:=G1.out.d0_6 rfl
  by_cases h1:300<(ppa.size:Int)+(pdi.size:Int)
  ·have d1:decide (300<(ppa.size:Int)+(pdi.size:Int))=true:=decide_eq_true h1
   have d1' : decide (300<ppa.size+pdi.size)=true:=decide_eq_true (by omega)
   go_wp2_with fail
   (try go_ret)
   rw[HQ.out]
   exact⟨false,rfl,(fun h=>by cases h),F5.out.under⟩
  have d1:decide (300<(ppa.size:Int)+(pdi.size:Int))=false:=decide_eq_false h1
  have d1' : decide (300<ppa.size+pdi.size)=false:=decide_eq_false (by omega)
  by_cases h2:20<(V.length:Int)
  ·have d2:decide (20<(V.length:Int))=true:=decide_eq_true h2
   have d2' : decide (20<V.length)=true:=decide_eq_true (by omega)
   go_wp2_with fail
   (try go_ret)
   rw[HQ.out]
   exact⟨false,rfl,(fun h=>by cases h),F5.out.under⟩
  have d2:decide (20<(V.length:Int))=false:=decide_eq_false h2
  have d2' : decide (20<V.length)=false:=decide_eq_false (by omega)
  go_wp2_with fail
  clear d1 d1' d2 d2' y00 y01 y02 y03 y04 y05
  have HB5:=zh (HB.out.trans (G1.out.under.mono HB.out.size))
  have HGN:=zh (show Own.FewP ⟨pid,ppa,pdi,pop,pex,V⟩↔∀ v∈V,Own.FewV v from⟨fun h=>h.2.2,fun h=>⟨by show ppa.size+pdi.size<=300;omega,by show V.length<=20;omega,h⟩⟩)
  go_loopw [5] (fun i wr=>∃ j:Nat,j<=V.length/\i=.int .i64 j/\(∀ q (h:q<V.length),q<j->Own.FewV V[q])/\Below w5.heap.size w5 wr) (fun i _=>V.length - (intOf i).toNat)
  case atStart=>exact⟨0,by omega,rfl,(fun j _ h=>absurd h (by omega)),Below.refl _ _⟩
  case round=>
   obtain⟨j,hj,rfl,hno,hb⟩:=hrel
   have G2:=zh (G1.out.step hb);have F6:=zh (F5.out.step hb)
   have HB6:=zh hb
   have y05:wr.cell? ⟨w4.heap.size,5,none⟩=some (.slice ua V.length uc):=G2.out.cell 0 5 rfl rfl
   by_cases hjt:j<V.length
   case neg=>
    have dj:decide ((j:Int)<V.length)=false:=decide_eq_false (by omega)
    have hall:=HN2.out (HGN.out.2 (Own.each_of (P:=Own.FewV) (by omega) hno))
    have HA2:=zh hall;clear hall hno hb
    go_wp2_with fail
    exact⟨⟨k+1,by omega,by go_num,HA2.out,HB5.out.trans (HB6.out.mono HB5.out.size)⟩,by simp[intOf];omega⟩
   have dj:decide ((j:Int)<V.length)=true:=decide_eq_true (by omega)
   obtain⟨b2,o2,ha,hbl2,c0,c1,c2⟩:=Own.VotesC.cells (HV.out.below hb) hjt
   subst ha
   have hm:=HM4.out V[j] (List.getElem_mem hjt)
   have hn3:=fun hp=>Own.each_succ (P:=Own.FewV) hjt hno hp
   obtain⟨y,hy⟩:∃ x,x=V[j]:=⟨_,rfl⟩
   rw[<- hy] at c0 c1 hm
   simp only[<- hy] at hn3
   have HN3:=zh hn3
   obtain⟨hm1,hm2⟩:=hm
   clear hy hno hb hn3 c2
   obtain⟨vn,vp,va⟩:=y
   dsimp only at*
   by_cases h3:200<(vn.size:Int)+(vp.size:Int)
   ·have d3:decide (200<(vn.size:Int)+(vp.size:Int))=true:=decide_eq_true h3
    have d3' : decide (200<vn.size+vp.size)=true:=decide_eq_true (by omega)
    go_wp2_with fail
    refine Lex.wp_region_lex (by kernel_rfl) (by kernel_rfl) ?_
    go_wp2_with fail
    refine Lex.Ends.intro (by kernel_rfl) ?_
    go_wp2_with fail
    (try go_ret)
    rw[HQ.out]
    exact⟨false,rfl,(fun h=>by cases h),F6.out.under.drew⟩
   have d3:decide (200<(vn.size:Int)+(vp.size:Int))=false:=decide_eq_false h3
   have d3' : decide (200<vn.size+vp.size)=false:=decide_eq_false (by omega)
   have hn:=HN3.out (by show vn.size+vp.size<=200;omega)
   have HN4:=zh hn;clear hn
   go_wp2_with fail
   refine Lex.wp_region_lex (by kernel_rfl) (by kernel_rfl) ?_
   go_wp2_with fail
   refine Lex.Ends.intro (by kernel_rfl) ?_
   go_wp2_with fail
   exact⟨⟨j+1,by omega,by go_num,HN4.out,HB6.out.drew⟩,by simp[intOf];omega⟩
end
section
open Go Go.RowKit Go.Maps
theorem r54validProposal_any (p:Own.Proposal) (v:Value) (w:World) (h:Own.VotesC w v p.votes) (hl:p.votes.length<=140737488355328) (hs:p.path.size<=140737488355328):
 Calls Tryz.prog 52 #[.agg #[.int .i64 p.id,.string p.path,.string p.digest,.int .i64 p.opened,.int .i64 p.expires,v]] w fun e w' => e=.returned (.bool (Own.proposalOK p))/\Below w.heap.size w w' :=by
 obtain⟨R,hR⟩:∃ R,R=Own.proposalOK p:=⟨_,rfl⟩
 rw[<- hR]
 unfold Own.proposalOK Sig.digest Own.late at hR
 obtain⟨a,c,rfl⟩:=h.len
 obtain⟨pid,ppa,pdi,pop,pex,V⟩:=p
 dsimp only at*
 have F1:=zh (show Boxes w (w.alloc (.cells #[.int .i64 pid,.string ppa,.string pdi,.int .i64 pop,.int .i64 pex,.slice a V.length c] 46)) [(46,#[.int .i64 pid,.string ppa,.string pdi,.int .i64 pop,.int .i64 pex,.slice a V.length c])] from((Fresh.nil w).push 46 #[.int .i64 pid,.string ppa,.string pdi,.int .i64 pop,.int .i64 pex,.slice a V.length c]).boxes)
 have HL:=zh (h.below F1.out.under)
 clear h
 go_enter Tryz.func52,Tryz.ntmps52
 go_upto_region 1 with fail
 generalize w.alloc (.cells #[.int .i64 pid,.string ppa,.string pdi,.int .i64 pop,.int .i64 pex,.slice a V.length c] 46)=w1 at*
 obtain⟨x00,x01,x02,x03,x04,x05⟩:=F1.out.d0_6 rfl
 by_cases h1:0<=pid
 case neg=>
  have d1:decide (pid<0)=true:=decide_eq_true (by omega)
  have e:R=false:=by rw[hR,decide_eq_false h1];rfl
  have HE:=zh e;clear e hR
  go_wp2_with fail
  go_ret
  exact⟨by rw[HE.out];rfl,F1.out.under⟩
 have d1:decide (pid<0)=false:=decide_eq_false (by omega)
 rw[decide_eq_true h1,Bool.true_and] at hR
 cases hp:Own.pathOK ppa with
 | false =>
   have e:R=false:=by rw[hR,hp];rfl
   have HE:=zh e;clear e hR
   go_wp2_with fail
   refine(r53Path_any ppa _ (by omega)).mono ?_
   rintro e w1 ⟨rfl,rfl⟩
   rw[hp]
   go_wp2_with fail
   go_ret
   exact⟨by rw[HE.out];rfl,F1.out.under⟩
 | true=>
 rw[hp,Bool.true_and] at hR
 by_cases h2:pdi.size=32
 case neg=>
  have d2:decide (pdi.size=32)=false:=decide_eq_false h2
  have e:R=false:=by rw[hR,d2];rfl
  have HE:=zh e;clear e hR
  go_wp2_with fail
  refine(r53Path_any ppa _ (by omega)).mono ?_
  rintro e w1 ⟨rfl,rfl⟩
  rw[hp]
  go_wp2_with fail
  refine(r46IsDigest_any pdi _).mono ?_
  rintro e w1 ⟨rfl,rfl⟩
  rw[d2]
  go_wp2_with fail
  go_ret
  exact⟨by rw[HE.out];rfl,F1.out.under⟩
 have d2:decide (pdi.size=32)=true:=decide_eq_true h2
 rw[d2,Bool.true_and] at hR
 have H2:=zh h2;have HD2:=zh d2;clear h2 d2
 by_cases h3:0<=pop
 case neg=>
  have d3:decide (pop<0)=true:=decide_eq_true (by omega)
  have e:R=false:=by rw[hR,decide_eq_false h3];rfl
  have HE:=zh e;clear e hR
  go_wp2_with fail
  refine(r53Path_any ppa _ (by omega)).mono ?_
  rintro e w1 ⟨rfl,rfl⟩
  rw[hp]
  go_wp2_with fail
  refine(r46IsDigest_any pdi _).mono ?_
  rintro e w1 ⟨rfl,rfl⟩
  rw[HD2.out]
  go_wp2_with fail
  go_ret
  exact⟨by rw[HE.out];rfl,F1.out.under⟩
 have d3:decide (pop<0)=false:=decide_eq_false (by omega)
 rw[decide_eq_true h3,Bool.true_and] at hR
 by_cases h4:pop<=1099511627776
 case neg=>
  have d4:decide (1099511627776<pop)=true:=decide_eq_true (by omega)
  have e:R=false:=by rw[hR,decide_eq_false h4];rfl
  have HE:=zh e;clear e hR
  go_wp2_with fail
  refine(r53Path_any ppa _ (by omega)).mono ?_
  rintro e w1 ⟨rfl,rfl⟩
  rw[hp]
  go_wp2_with fail
  refine(r46IsDigest_any pdi _).mono ?_
  rintro e w1 ⟨rfl,rfl⟩
  rw[HD2.out]
  go_wp2_with fail
  go_ret
  exact⟨by rw[HE.out];rfl,F1.out.under⟩
 have d4:decide (1099511627776<pop)=false:=decide_eq_false (by omega)
 rw[decide_eq_true h4,Bool.true_and] at hR
 by_cases h5:pop<pex
 case neg=>
  have d5:decide (pex<=pop)=true:=decide_eq_true (by omega)
  have e:R=false:=by rw[hR,decide_eq_false h5];rfl
  have HE:=zh e;clear e hR
  go_wp2_with fail
  refine(r53Path_any ppa _ (by omega)).mono ?_
  rintro e w1 ⟨rfl,rfl⟩
  rw[hp]
  go_wp2_with fail
  refine(r46IsDigest_any pdi _).mono ?_
  rintro e w1 ⟨rfl,rfl⟩
  rw[HD2.out]
  go_wp2_with fail
  go_ret
  exact⟨by rw[HE.out];rfl,F1.out.under⟩
 have d5:decide (pex<=pop)=false:=decide_eq_false (by omega)
 rw[decide_eq_true h5,Bool.true_and] at hR
 by_cases h6:pex<=pop+256
 case neg=>
  have d6:decide (pop+256<pex)=true:=decide_eq_true (by omega)
  have e:R=false:=by rw[hR,decide_eq_false h6];rfl
  have HE:=zh e;clear e hR
  go_wp2_with fail
  refine(r53Path_any ppa _ (by omega)).mono ?_
  rintro e w1 ⟨rfl,rfl⟩
  rw[hp]
  go_wp2_with fail
  refine(r46IsDigest_any pdi _).mono ?_
  rintro e w1 ⟨rfl,rfl⟩
  rw[HD2.out]
  go_wp2_with fail
  go_ret
  exact⟨by rw[HE.out];rfl,F1.out.under⟩
 have d6:decide (pop+256<pex)=false:=decide_eq_false (by omega)
 rw[decide_eq_true h6,Bool.true_and] at hR
 by_cases h7:V.length<=1024
 case neg=>
  have d7:decide ((1024:Int)<V.length)=true:=decide_eq_true (by omega)
  have d7' : decide (1024<V.length)=true:=decide_eq_true (by omega)
  have e:R=false:=by rw[hR,decide_eq_false h7];rfl
  have HE:=zh e;clear e hR
  go_wp2_with fail
  refine(r53Path_any ppa _ (by omega)).mono ?_
  rintro e w1 ⟨rfl,rfl⟩
  rw[hp]
  go_wp2_with fail
  refine(r46IsDigest_any pdi _).mono ?_
  rintro e w1 ⟨rfl,rfl⟩
  rw[HD2.out]
  go_wp2_with fail
  go_ret
  exact⟨by rw[HE.out];rfl,F1.out.under⟩
 have d7:decide ((1024:Int)<V.length)=false:=decide_eq_false (by omega)
 have d7' : decide (1024<V.length)=false:=decide_eq_false (by omega)
 rw[decide_eq_true h7,Bool.true_and] at hR
 have HR:=zh hR;clear hR
 go_wp2_with fail
 refine(r53Path_any ppa _ (by omega)).mono ?_
 rintro e w1 ⟨rfl,rfl⟩
 rw[hp]
 go_wp2_with fail
 refine(r46IsDigest_any pdi _).mono ?_
 rintro e w1 ⟨rfl,rfl⟩
 rw[HD2.out]
 go_wp2_with fail
 (try clear x00);(try clear x01);(try clear x02);(try clear x03);(try clear x04);(try clear x05)
 clear d1 d3 d4 d5 d6 d7 d7' h1 h3 h4 h5 h6 h7 hp
 go_loopw [3] (fun i wr=>∃ k:Nat,k<=V.length/\i=.int .i64 k/\Own.chainOK (fun v:Own.Vote=>Own.nameOK v.name) (fun x y=>Own.lessB x.name y.name) none (V.take k)=true/\wr=w1) (fun i _=>V.length - (intOf i).toNat)
 case atStart=>exact⟨0,by omega,rfl,rfl,rfl⟩
 case round=>
  obtain⟨k,hk,rfl,hok,rfl⟩:=hrel
  have x05:wr.cell? ⟨w.heap.size,5,none⟩=some (.slice a V.length c):=F1.out.cell 0 5 rfl rfl
  by_cases hlt:k<V.length
  case neg=>
   have hke:k=V.length:=by omega
   have dk:decide ((k:Int)<V.length)=false:=decide_eq_false (by omega)
   have e:R=true:=by rw[HR.out,<- hok,hke,List.take_length]
   have HE:=zh e;clear e hok hke
   go_wp2_with fail
   go_ret
   exact⟨by rw[HE.out];rfl,F1.out.under⟩
  have dk:decide ((k:Int)<V.length)=true:=decide_eq_true (by omega)
  have hra:(Own.nameOK V[k].name&&Own.ahead (fun x y:Own.Vote=>Own.lessB x.name y.name) (V.take k).getLast? V[k])=false->R=false:=fun hf=>by rw[HR.out,Own.chainOK_at _ _ V k hlt,hok,Bool.true_and,hf,Bool.false_and]
  have htk:Own.chainOK (fun v:Own.Vote=>Own.nameOK v.name) (fun x y=>Own.lessB x.name y.name) none (V.take (k+1))=(Own.nameOK V[k].name&&Own.ahead (fun x y:Own.Vote=>Own.lessB x.name y.name) (V.take k).getLast? V[k]):=by rw[Own.chainOK_take _ _ V k hlt,hok,Bool.true_and]
  obtain⟨b,o,ha,hbl,c0,_,_⟩:=Own.VotesC.cells HL.out hlt
  have hprev:∀ j,k=j+1->∃ x:Own.Vote,wr.cell? ⟨b,o+j*3,none⟩=some (.string x.name)/\(V.take k).getLast? = some x:=by
   intro j hj
   obtain⟨b',o',ha',_,e0,_,_⟩:=Own.VotesC.cells HL.out (i:=j) (by omega)
   rw[ha] at ha'
   cases ha'
   have hg:=Own.getLast_take V j (by omega)
   rw[<- hj] at hg
   exact⟨_,e0,hg⟩
  subst ha
  obtain⟨vk,hvk⟩:∃ x,x=V[k]:=⟨_,rfl⟩
  rw[<- hvk] at hra htk c0
  obtain⟨nm,vpb,vag⟩:=vk
  dsimp only at*
  have HRA:=zh hra;have HTK:=zh htk;have HPREV:=zh hprev
  clear hra htk hprev hvk hok hbl
  by_cases h1:(nm.size:Int)<1
  ·have d1:decide ((nm.size:Int)<1)=true:=decide_eq_true h1
   have d1' : decide (nm.size<1)=true:=decide_eq_true (by omega)
   have hn:Own.nameOK nm=false:=by unfold Own.nameOK;rw[decide_eq_false (by omega)];rfl
   have e:R=false:=HRA.out (by rw[hn];rfl)
   have HE:=zh e;clear e hn
   go_wp2_with fail
   go_ret
   exact⟨by rw[HE.out];rfl,F1.out.under⟩
  have d1:decide ((nm.size:Int)<1)=false:=decide_eq_false h1
  have d1' : decide (nm.size<1)=false:=decide_eq_false (by omega)
  by_cases h2:32<(nm.size:Int)
  ·have d2:decide (32<(nm.size:Int))=true:=decide_eq_true h2
   have d2' : decide (32<nm.size)=true:=decide_eq_true (by omega)
   have hn:Own.nameOK nm=false:=by unfold Own.nameOK;rw[decide_eq_false (show ¬ nm.size<=32 by omega),Bool.and_false]
   have e:R=false:=HRA.out (by rw[hn];rfl)
   have HE:=zh e;clear e hn
   go_wp2_with fail
   go_ret
   exact⟨by rw[HE.out];rfl,F1.out.under⟩
  have d2:decide (32<(nm.size:Int))=false:=decide_eq_false h2
  have d2' : decide (32<nm.size)=false:=decide_eq_false (by omega)
  have hn:Own.nameOK nm=true:=by unfold Own.nameOK;rw[decide_eq_true (show 1<=nm.size by omega),decide_eq_true (show nm.size<=32 by omega)];rfl
  have hra:=HRA.out;have htk:=HTK.out
  rw[hn,Bool.true_and] at hra htk
  clear HRA HTK hn
  rcases Nat.eq_zero_or_pos k with hk0 | hkp
  ·have hl0:(V.take k).getLast? = none:=by rw[hk0];rfl
   rw[hl0] at hra htk
   have HTK:=zh htk
   have dz:decide ((0:Int)<(k:Int))=false:=decide_eq_false (by omega)
   have dz' : decide (0<k)=false:=decide_eq_false (by omega)
   have HK0:=zh hk0
   clear hl0 hra htk hk0
   go_wp2_with fail
   exact⟨⟨k+1,by omega,by go_num,HTK.out,(by first | rfl | trivial)⟩,by simp[intOf];omega⟩
  obtain⟨j0,hj0⟩:∃ j,k=j+1:=⟨k - 1,by omega⟩
  obtain⟨x,e0,hx⟩:=HPREV.out j0 hj0
  rw[hx] at hra htk
  have hra3:Own.lessB x.name nm=false->R=false:=hra
  have htk3:Own.chainOK (fun v:Own.Vote=>Own.nameOK v.name) (fun x y=>Own.lessB x.name y.name) none (V.take (k+1))=Own.lessB x.name nm:=htk
  unfold Own.lessB at hra3
  have dz:decide ((0:Int)<(k:Int))=true:=decide_eq_true (by omega)
  have dz' : decide (0<k)=true:=decide_eq_true (by omega)
  have ek:(k:Int) - 1=(j0:Int):=by omega
  have hjl:j0<V.length:=by omega
  obtain⟨xn,xpb,xag⟩:=x
  dsimp only at*
  cases hlb:Op.bytesLess xn.toList nm.toList with
  | false =>
    have e:R=false:=hra3 hlb
    have HE:=zh e;clear e hra htk hra3 htk3 hx hj0
    go_wp2_with fail
    go_ret
    exact⟨by rw[HE.out];rfl,F1.out.under⟩
  | true =>
    have htk4:Own.chainOK (fun v:Own.Vote=>Own.nameOK v.name) (fun x y=>Own.lessB x.name y.name) none (V.take (k+1))=true:=by rw[htk3];exact hlb
    have HTK:=zh htk4
    clear hra htk hra3 htk3 htk4 hx
    have HJ0:=zh hj0;clear hj0
    go_wp2_with fail
    exact⟨⟨k+1,by omega,by go_num,HTK.out,(by first | rfl | trivial)⟩,by simp[intOf];omega⟩
theorem r54Valid_any (q:Own.Queue) (pv:Value) (w:World) (hP:Own.PropsC w pv q.props) (hl:q.props.length<=140737488355328) (hlv:∀ p∈q.props,p.votes.length<=140737488355328/\p.path.size<=140737488355328):
 Calls Tryz.prog 17 #[.agg #[.int .i64 q.next,pv]] w fun e w' => e=.returned (.bool (Own.queueOK q))/\Below w.heap.size w w' :=by
 obtain⟨R,hR⟩:∃ R,R=Own.queueOK q:=⟨_,rfl⟩
 rw[<- hR]
 unfold Own.queueOK Own.late at hR
 obtain⟨a,c,rfl⟩:=hP.len
 obtain⟨nx,L⟩:=q
 dsimp only at*
 have F1:=zh (show Boxes w (w.alloc (.cells #[.int .i64 nx,.slice a L.length c] 24)) [(24,#[.int .i64 nx,.slice a L.length c])] from((Fresh.nil w).push 24 #[.int .i64 nx,.slice a L.length c]).boxes)
 have HP:=zh (hP.below F1.out.under);have HLV:=zh hlv;have HR:=zh hR
 clear hP hlv hR
 obtain⟨C,hC⟩:∃ C:Option Own.Proposal->List Own.Proposal->Bool,C=Own.chainOK (fun p=>Own.proposalOK p&&decide (p.id<nx)) (fun x y=>decide (x.id<y.id)):=⟨_,rfl⟩
 rw[<- hC] at HR
 have HC:=zh hC;clear hC
 go_enter Tryz.func17,Tryz.ntmps17
 go_upto_region 1 with fail
 generalize w.alloc (.cells #[.int .i64 nx,.slice a L.length c] 24)=w1 at*
 go_wp2_with fail
 go_loopw [3] (fun i wr=>∃ k:Nat,k<=L.length/\i=.int .i64 k/\C none (L.take k)=true/\Below w1.heap.size w1 wr) (fun i _=>L.length - (intOf i).toNat)
 case atStart=>exact⟨0,by omega,rfl,by rw[HC.out];rfl,Below.refl _ _⟩
 case round=>
  obtain⟨k,hk,rfl,hok,hb⟩:=hrel
  have HB:=zh hb
  have F2:=zh (F1.out.step hb)
  obtain⟨x00,x01⟩:=F2.out.d0_2 rfl
  by_cases hlt:k<L.length
  case neg=>
   have dk:decide ((k:Int)<L.length)=false:=decide_eq_false (by omega)
   have hke:k=L.length:=by omega
   rw[hke,List.take_length] at hok
   have e:R=(decide (0<=nx)&&decide (nx<=1099511627776)&&decide ((L.length:Int)<=64)):=by
    rw[HR.out,hok,Bool.and_true,show decide (L.length<=64)=decide ((L.length:Int)<=64) from decide_eq_decide.2 (by omega)]
   clear hok hke hb
   by_cases h1:0<=nx
   case neg=>
    have d1:decide (0<=nx)=false:=decide_eq_false h1
    rw[d1] at e
    have HE:=zh e;clear e
    go_wp2_with fail
    go_ret
    exact⟨by rw[HE.out];rfl,F2.out.under⟩
   have d1:decide (0<=nx)=true:=decide_eq_true h1
   rw[d1,Bool.true_and] at e
   by_cases h2:nx<=1099511627776
   case neg=>
    have d2:decide (nx<=1099511627776)=false:=decide_eq_false h2
    rw[d2] at e
    have HE:=zh e;clear e
    go_wp2_with fail
    go_ret
    exact⟨by rw[HE.out];rfl,F2.out.under⟩
   have d2:decide (nx<=1099511627776)=true:=decide_eq_true h2
   rw[d2,Bool.true_and] at e
   have HE:=zh e;clear e
   go_wp2_with fail
   go_ret
   exact⟨by rw[HE.out];rfl,F2.out.under⟩
  have dk:decide ((k:Int)<L.length)=true:=decide_eq_true (by omega)
  have hra:((Own.proposalOK L[k]&&decide (L[k].id<nx))&&Own.ahead (fun x y:Own.Proposal=>decide (x.id<y.id)) (L.take k).getLast? L[k])=false->R=false:=fun hf=>by
   rw[HC.out] at hok
   rw[HR.out,HC.out,Own.chainOK_at _ _ L k hlt,hok,Bool.true_and,hf]
   simp
  have htk:C none (L.take (k+1))=((Own.proposalOK L[k]&&decide (L[k].id<nx))&&Own.ahead (fun x y:Own.Proposal=>decide (x.id<y.id)) (L.take k).getLast? L[k]):=by
   rw[HC.out] at hok
   rw[HC.out,Own.chainOK_take _ _ L k hlt,hok,Bool.true_and]
  have hlk:=HP.out.below hb
  obtain⟨b,o,u,ha,hbl,e0,e1,e2,e3,e4,e5,huv⟩:=Own.PropsC.cells hlk hlt
  have hprev:∀ i,k=i+1->∃ x:Own.Proposal,wr.cell? ⟨b,o+i*6,none⟩=some (.int .i64 x.id)/\(L.take k).getLast? = some x:=by
   intro i hi
   obtain⟨b',o',_,ha',_,e0,_⟩:=Own.PropsC.cells hlk (i:=i) (by omega)
   rw[ha] at ha'
   cases ha'
   have hg:=Own.getLast_take L i (by omega)
   rw[<- hi] at hg
   exact⟨_,e0,hg⟩
  subst ha
  have hml:=HLV.out L[k] (List.getElem_mem hlt)
  obtain⟨x,hx⟩:∃ x,x=L[k]:=⟨_,rfl⟩
  rw[<- hx] at e0 e1 e2 e3 e4 huv hml hra htk
  obtain⟨ua,uc,rfl⟩:=huv.len
  obtain⟨PO,hPO⟩:∃ b,b=Own.proposalOK x:=⟨_,rfl⟩
  have hvp:=fun W (hW:Below wr.heap.size wr W)=>r54validProposal_any x (.slice ua x.votes.length uc) W (huv.below hW) hml.1 hml.2
  rw[<- hPO] at hra htk
  simp only[<- hPO] at hvp
  obtain⟨pid,ppa,pdi,pop,pex,V⟩:=x
  dsimp only at*
  obtain⟨w4,hw4⟩:∃ w4,w4=wr:=⟨_,rfl⟩
  subst hw4
  have G1:=zh (show Boxes w4 (w4.alloc (.cells #[.int .i64 pid,.string ppa,.string pdi,.int .i64 pop,.int .i64 pex,.slice ua V.length uc] 46)) [(46,#[.int .i64 pid,.string ppa,.string pdi,.int .i64 pop,.int .i64 pex,.slice ua V.length uc])] from((Fresh.nil w4).push 46 #[.int .i64 pid,.string ppa,.string pdi,.int .i64 pop,.int .i64 pex,.slice ua V.length uc]).boxes)
  have HVP:=zh (hvp _ G1.out.under.drew);have HPREV:=zh hprev
  have HRA:=zh hra;have HTK:=zh htk
  clear hx hb huv hvp hPO hlk hprev hok hra htk
  go_upto_region 5 with fail
  (try clear x00);(try clear x01)
  clear e0 e1 e2 e3 e4 e5
  generalize w4.alloc (.cells #[.int .i64 pid,.string ppa,.string pdi,.int .i64 pop,.int .i64 pex,.slice ua V.length uc] 46)=w5 at*
  have F5:=zh (F2.out.step G1.out.under);have HB5:=zh (HB.out.trans (G1.out.under.mono HB.out.size))
  obtain⟨x00,x01⟩:=F5.out.d0_2 rfl
  obtain⟨y00,y01,y02,y03,y04,y05⟩:=G1.out.d0_6 rfl
  cases PO with
  | false =>
    have e:R=false:=HRA.out rfl
    have HE:=zh e;clear e
    go_wp2_with fail
    refine Lex.wp_region_lex (by kernel_rfl) (by kernel_rfl) ?_
    go_wp2_with fail
    refine HVP.out.mono ?_
    rintro e w7 ⟨rfl,hb7⟩
    have G7:=zh (G1.out.drew.step hb7);have F7:=zh (F5.out.drew.step hb7)
    have HB7:=zh (HB5.out.drew.trans (hb7.mono HB5.out.size))
    clear hb7
    (try clear x00);(try clear x01)
    (try clear y00);(try clear y01);(try clear y02);(try clear y03);(try clear y04);(try clear y05)
    obtain⟨x00,x01⟩:=F7.out.d0_2 rfl
    obtain⟨y00,y01,y02,y03,y04,y05⟩:=G7.out.d0_6 rfl
    go_wp2_with fail
    refine Lex.Ends.intro (by kernel_rfl) ?_
    go_wp2_with fail
    go_ret
    exact⟨by rw[HE.out];rfl,F7.out.under⟩
  | true=>
  by_cases h1:pid<nx
  case neg=>
   have d1:decide (nx<=pid)=true:=decide_eq_true (by omega)
   have e:R=false:=HRA.out (by rw[decide_eq_false h1];rfl)
   have HE:=zh e;clear e
   go_wp2_with fail
   refine Lex.wp_region_lex (by kernel_rfl) (by kernel_rfl) ?_
   go_wp2_with fail
   refine HVP.out.mono ?_
   rintro e w7 ⟨rfl,hb7⟩
   have G7:=zh (G1.out.drew.step hb7);have F7:=zh (F5.out.drew.step hb7)
   have HB7:=zh (HB5.out.drew.trans (hb7.mono HB5.out.size))
   clear hb7
   (try clear x00);(try clear x01)
   (try clear y00);(try clear y01);(try clear y02);(try clear y03);(try clear y04);(try clear y05)
   obtain⟨x00,x01⟩:=F7.out.d0_2 rfl
   obtain⟨y00,y01,y02,y03,y04,y05⟩:=G7.out.d0_6 rfl
   go_wp2_with fail
   refine Lex.Ends.intro (by kernel_rfl) ?_
   go_wp2_with fail
   go_ret
   exact⟨by rw[HE.out];rfl,F7.out.under⟩
  have d1:decide (nx<=pid)=false:=decide_eq_false (by omega)
  have hra:=HRA.out;have htk:=HTK.out
  rw[decide_eq_true h1,Bool.true_and,Bool.true_and] at hra htk
  clear HRA HTK
  rcases Nat.eq_zero_or_pos k with hk0 | hkp
  ·have hl0:(L.take k).getLast? = none:=by rw[hk0];rfl
   rw[hl0] at htk
   have htk' : C none (L.take (k+1))=true:=htk
   have HT:=zh htk'
   have HK0:=zh hk0
   have dz:decide ((0:Int)<(k:Int))=false:=decide_eq_false (by omega)
   have dz' : decide (0<k)=false:=decide_eq_false (by omega)
   clear hl0 hra htk htk' hk0
   go_wp2_with fail
   refine Lex.wp_region_lex (by kernel_rfl) (by kernel_rfl) ?_
   go_wp2_with fail
   refine HVP.out.mono ?_
   rintro e w7 ⟨rfl,hb7⟩
   have G7:=zh (G1.out.drew.step hb7);have F7:=zh (F5.out.drew.step hb7)
   have HB7:=zh (HB5.out.drew.trans (hb7.mono HB5.out.size))
   clear hb7
   (try clear x00);(try clear x01)
   (try clear y00);(try clear y01);(try clear y02);(try clear y03);(try clear y04);(try clear y05)
   obtain⟨x00,x01⟩:=F7.out.d0_2 rfl
   obtain⟨y00,y01,y02,y03,y04,y05⟩:=G7.out.d0_6 rfl
   go_wp2_with fail
   refine Lex.Ends.intro (by kernel_rfl) ?_
   go_wp2_with fail
   exact⟨⟨k+1,by omega,by go_num,HT.out,HB7.out⟩,by simp[intOf];omega⟩
  obtain⟨i,hi⟩:∃ i,k=i+1:=⟨k - 1,by omega⟩
  obtain⟨x,f0,hx⟩:=HPREV.out i hi
  rw[hx] at hra htk
  obtain⟨xid,xpa,xdi,xop,xex,xV⟩:=x
  have hra3:decide (xid<pid)=false->R=false:=hra
  have htk3:C none (L.take (k+1))=decide (xid<pid):=htk
  have dz:decide ((0:Int)<(k:Int))=true:=decide_eq_true (by omega)
  have dz' : decide (0<k)=true:=decide_eq_true (by omega)
  have ek:(k:Int) - 1=(i:Int):=by omega
  have hjl:i<L.length:=by omega
  have F0:=zh (show w5.cell? ⟨b,o+i*6,none⟩=some (.int .i64 xid) from(G1.out.under.cell (p:=⟨b,o+i*6,none⟩) hbl).trans f0)
  have hbl5:=Nat.lt_of_lt_of_le hbl G1.out.under.size
  by_cases h2:xid<pid
  case neg=>
   have d2:decide (pid<=xid)=true:=decide_eq_true (by omega)
   have e:R=false:=hra3 (decide_eq_false h2)
   have HE:=zh e
   clear e hra htk hra3 htk3 hx f0 hi
   go_wp2_with fail
   refine Lex.wp_region_lex (by kernel_rfl) (by kernel_rfl) ?_
   go_wp2_with fail
   refine HVP.out.mono ?_
   rintro e w7 ⟨rfl,hb7⟩
   have G7:=zh (G1.out.drew.step hb7);have F7:=zh (F5.out.drew.step hb7)
   have HB7:=zh (HB5.out.drew.trans (hb7.mono HB5.out.size))
   have f1:=(hb7.cell (p:=⟨b,o+i*6,none⟩) hbl5).trans F0.out
   clear hb7
   (try clear x00);(try clear x01)
   (try clear y00);(try clear y01);(try clear y02);(try clear y03);(try clear y04);(try clear y05)
   obtain⟨x00,x01⟩:=F7.out.d0_2 rfl
   obtain⟨y00,y01,y02,y03,y04,y05⟩:=G7.out.d0_6 rfl
   go_wp2_with fail
   refine Lex.Ends.intro (by kernel_rfl) ?_
   go_wp2_with fail
   go_ret
   exact⟨by rw[HE.out];rfl,F7.out.under⟩
  have d2:decide (pid<=xid)=false:=decide_eq_false (by omega)
  rw[decide_eq_true h2] at htk3
  have HT:=zh htk3
  clear hra htk hra3 htk3 hx f0 hi
  go_wp2_with fail
  refine Lex.wp_region_lex (by kernel_rfl) (by kernel_rfl) ?_
  go_wp2_with fail
  refine HVP.out.mono ?_
  rintro e w7 ⟨rfl,hb7⟩
  have G7:=zh (G1.out.drew.step hb7);have F7:=zh (F5.out.drew.step hb7)
  have HB7:=zh (HB5.out.drew.trans (hb7.mono HB5.out.size))
  have f1:=(hb7.cell (p:=⟨b,o+i*6,none⟩) hbl5).trans F0.out
  clear hb7
  (try clear x00);(try clear x01)
  (try clear y00);(try clear y01);(try clear y02);(try clear y03);(try clear y04);(try clear y05)
  obtain⟨x00,x01⟩:=F7.out.d0_2 rfl
  obtain⟨y00,y01,y02,y03,y04,y05⟩:=G7.out.d0_6 rfl
  go_wp2_with fail
  refine Lex.Ends.intro (by kernel_rfl) ?_
  go_wp2_with fail
  exact⟨⟨k+1,by omega,by go_num,HT.out,HB7.out⟩,by simp[intOf];omega⟩
end
section
open Go Go.RowKit Go.Maps
namespace Own
def POwn (B:Nat) (w:World) (v:Value) (L:List Proposal):Prop:=
 ∃ css:List (List Value),css.length=L.length/\w.ownsRow B 46 6 v L.length css.flatten/\∀ i (hi:i<L.length) (hi' : i<css.length),css[i].length=6/\RProp (fun k=>B<=k/\k<w.heap.size/\v.ownBlock≠some k) w css[i] L[i]
theorem POwn.nil (B:Nat) (w:World):POwn B w (.slice none 0 0) []:=⟨[],rfl,⟨rfl,.inl ⟨rfl,rfl⟩⟩,fun i hi=>absurd hi (by simp)⟩
theorem own_lt' {w:World} {base n size:Nat} {e:TypeId} {v:Value} {xs:List Value} (h:w.ownsRow base e size v n xs):∀ k,v.ownBlock=some k->k<w.heap.size:=by
 intro k hk
 obtain⟨_,⟨rfl,_⟩ | ⟨g,cap,cur,rfl,hg,hc,_⟩⟩:=h
 ·cases hk
 ·have : g = k :=by
   have hk' : some g=some k:=hk
   exact Option.some.inj hk'
  subst this
  exact(show At w g e cur from hc).lt
theorem POwn.keep {B:Nat} {w w' : World} {v:Value} {L:List Proposal} (h:POwn B w v L) (hs:w.heap.size<=w'.heap.size) (hk:∀ k,B<=k->k<w.heap.size->w'.heap[k]? = w.heap[k]?):POwn B w' v L:=by
 obtain⟨css,h1,h2,h3⟩:=h
 refine⟨css,h1,own_keep h2 (fun k e=>hk k (own_up h2 k e) (own_lt' h2 k e)),fun i hi hi' => ?_⟩
 obtain⟨h4,u,h5,h6⟩:=h3 i hi hi'
 exact⟨h4,u,h5,(h6.keep hs (fun k hF hl=>hk k hF.1 hl)).mono (fun k hF _=>⟨hF.1,by omega,hF.2.2⟩)⟩
theorem POwn.below {B:Nat} {w w' : World} {v:Value} {L:List Proposal} (h:POwn B w v L) (hb:Below w.heap.size w w'):POwn B w' v L:=h.keep hb.size fun k _ hl=>hb.block k hl
theorem POwn.one {B:Nat} {w:World} {v:Value} {L:List Proposal} (h:POwn B w v L):∃ a c,v=.slice a L.length c:=by
 obtain⟨css,h1,h2,h3⟩:=h
 obtain⟨a,m,c,rfl⟩:=own_slice h2
 obtain rfl:=own_len h2
 exact⟨a,c,rfl⟩
theorem POwn.list {B:Nat} {w:World} {v:Value} {L:List Proposal} {F:Nat->Prop} (h:POwn B w v L) (hF:∀ k,B<=k->k<w.heap.size->F k):ListF 6 RProp F w v L:=by
 obtain⟨css,h1,h2,h3⟩:=h
 refine ListF.of_rows (RowsC.own h2) rfl h1 (fun k e=>hF k (own_up h2 k e) (own_lt' h2 k e)) (fun i hi hi' => ?_)
 obtain⟨h4,u,h5,h6⟩:=h3 i hi hi'
 exact⟨h4,u,h5,h6.mono (fun k hk _=>hF k hk.1 hk.2.1)⟩
theorem POwn.push {B:Nat} {w w' : World} {v v' : Value} {L:List Proposal} {x:Proposal} {u:Value} {css:List (List Value)} (h1:css.length=L.length) (hv:w.ownsRow B 46 6 v L.length css.flatten)
 (h3:∀ i (hi:i<L.length) (hi' : i<css.length),css[i].length=6/\RProp (fun k=>B<=k/\k<w.heap.size/\v.ownBlock≠some k) w css[i] L[i]) (hu:ListF 3 RVote (fun k=>B<=k/\k<w.heap.size/\v.ownBlock≠some k) w u x.votes)
 (hv' : w'.ownsRow B 46 6 v' (L.length+1) (css.flatten++[.int .i64 x.id,.string x.path,.string x.digest,.int .i64 x.opened,.int .i64 x.expires,u])) (hg:w.grownBy w' v.ownBlock) (ho:v'.ownBlock=v.ownBlock\/v'.ownBlock=some w.heap.size):POwn B w' v' (L++[x]):=by
 have hsz:w.heap.size<=w'.heap.size:=hg.size
 have hkp:∀ k,B<=k/\k<w.heap.size/\v.ownBlock≠some k->k<w.heap.size->w'.heap[k]? = w.heap[k]? :=fun k hF hl=>hg.block k hl (fun e=>hF.2.2 e.symm)
 have hF:∀ k,B<=k/\k<w.heap.size/\v.ownBlock≠some k->k<w'.heap.size->B<=k/\k<w'.heap.size/\v'.ownBlock≠some k:=fun k hF hl=>⟨hF.1,hl,by
  rcases ho with ho | ho
  ·rw[ho];exact hF.2.2
  ·rw[ho];intro e;have:=Option.some.inj e;omega⟩
 refine⟨css++[[.int .i64 x.id,.string x.path,.string x.digest,.int .i64 x.opened,.int .i64 x.expires,u]],by simp[h1],?_,fun i hi hi' => ?_⟩
 ·rw[List.flatten_append,List.length_append]
  simpa using hv'
 ·by_cases hl:i<L.length
  ·obtain⟨h4,u',h5,h6⟩:=h3 i hl (by omega)
   rw[List.getElem_append_left (by omega),List.getElem_append_left hl]
   exact⟨h4,u',h5,(h6.keep hsz hkp).mono hF⟩
  ·have e:i=L.length:=by simp at hi;omega
   subst e
   rw[List.getElem_append_right (by omega),List.getElem_append_right (by omega)]
   simp only[h1,Nat.sub_self,List.getElem_cons_zero]
   exact⟨rfl,u,rfl,(hu.keep hsz hkp).mono hF⟩
end Own
theorem info_Queue:(Tryz.prog.info? 24).map (·.size)=some 2:=by kernel_rfl
theorem rvKept_any (g:Nat) (lb:Array Value) (eg:∀ args w,(callFunc g args).run Tryz.prog w=.ok (.enter g args) w) (p:Own.Proposal->Bool) (n:Int) (pv:Value) (l:List Own.Proposal) (w:World) (hP:Own.PropsC w pv l) (hl:l.length<=1000000) (hlv:∀ x∈l,x.votes.length<=3000000)
 (hp:∀ (W:World) (x:Own.Proposal) (u:Value),Below w.heap.size w W->Calls Tryz.prog g (#[.agg #[.int .i64 x.id,.string x.path,.string x.digest,.int .i64 x.opened,.int .i64 x.expires,u]]++lb) W fun e w' => e=.returned (.bool (p x))/\Below W.heap.size W w'):
 Calls Tryz.prog 42 #[.agg #[.int .i64 n,pv],.func (.func g) #[] lb] w fun e w' => (∃ v',e=.returned (.agg #[.int .i64 n,v'])/\Own.POwn (w.heap.size+3) w' v' (l.filter p))/\Below w.heap.size w w' :=by
 obtain⟨a,c,rfl⟩:=hP.len
 have hb1:Below w.heap.size w (((w.alloc (.cells #[.int .i64 n,.slice a l.length c] 24)).alloc (.cells #[.int .i64 0,.slice none 0 0] 24)).alloc (.cells #[.int .i64 n,.slice none 0 0] 24)):=(((Below.refl _ _).alloc (Nat.le_refl _) _).alloc (by simp) _).alloc (by simp;omega) _
 have a1:=(At.new1 w (.cells #[.int .i64 n,.slice a l.length c] 24) 24 #[.int .i64 0,.slice none 0 0]).alloc (.cells #[.int .i64 n,.slice none 0 0] 24)
 have a2:At (((w.alloc (.cells #[.int .i64 n,.slice a l.length c] 24)).alloc (.cells #[.int .i64 0,.slice none 0 0] 24)).alloc (.cells #[.int .i64 n,.slice none 0 0] 24)) (w.heap.size+1+1) 24 #[.int .i64 n,.slice none 0 0]:=by
  have:=At.new1 (w.alloc (.cells #[.int .i64 n,.slice a l.length c] 24)) (.cells #[.int .i64 0,.slice none 0 0] 24) 24 #[.int .i64 n,.slice none 0 0]
  rwa [World.size_alloc] at this
 have a0:=((At.new w 24 #[.int .i64 n,.slice a l.length c]).alloc (.cells #[.int .i64 0,.slice none 0 0] 24)).alloc (.cells #[.int .i64 n,.slice none 0 0] 24)
 have hz1:(((w.alloc (.cells #[.int .i64 n,.slice a l.length c] 24)).alloc (.cells #[.int .i64 0,.slice none 0 0] 24)).alloc (.cells #[.int .i64 n,.slice none 0 0] 24)).heap.size=w.heap.size+3:=by simp
 have c1:=a0.cell 1
 simp only[List.getElem?_toArray,List.getElem?_cons_zero,List.getElem?_cons_succ] at c1
 have HP:=zh hp;have HL:=zh hP;have HB1:=zh hb1;have HA1:=zh a1;have HA2:=zh a2;have HLV:=zh hlv;have HZ1:=zh hz1
 clear hp hP hb1 a0 a1 a2 hlv hz1
 go_enter Tryz.func42,Tryz.ntmps42
 go_upto_region 2 with fail
 generalize ((w.alloc (.cells #[.int .i64 n,.slice a l.length c] 24)).alloc (.cells #[.int .i64 0,.slice none 0 0] 24)).alloc (.cells #[.int .i64 n,.slice none 0 0] 24)=w1 at*
 go_wp2_with fail
 clear c1
 have hz1:=Nat.le_of_eq HZ1.out.symm
 go_loopw [14] (fun i wr=>∃ (k:Nat) (v:Value),k<=l.length/\i=.int .i64 k/\At wr (w.heap.size+1) 24 #[.int .i64 0,.slice none 0 0]/\At wr (w.heap.size+1+1) 24 #[.int .i64 n,v]/\Own.POwn (w.heap.size+3) wr v ((l.take k).filter p)/\Below w.heap.size w wr/\w.heap.size+3<=wr.heap.size) (fun i _=>l.length - (intOf i).toNat)
 case atStart=>exact⟨0,_,by omega,rfl,HA1.out,HA2.out,Own.POwn.nil _ _,HB1.out,hz1⟩
 case round=>
  obtain⟨k,v,hk,rfl,hra,hoa,hpo,hbw,hsz⟩:=hrel
  obtain⟨va,vc,rfl⟩:=hpo.one
  have HRA:=zh hra;have HOA:=zh hoa;have HPO:=zh hpo;have HBW:=zh hbw
  have c0:=hoa.cell 0;have c1:=hoa.cell 1
  have r0:=hra.cell 0;have r1:=hra.cell 1;have r2:=hra.free 0;have r3:=hra.free 1
  simp only[List.getElem?_toArray,List.getElem?_cons_zero,List.getElem?_cons_succ] at c0 c1 r0 r1
  clear hra hoa
  by_cases hlt:k<l.length
  case neg=>
   have hke:k=l.length:=by omega
   have dk:decide ((k:Int)<l.length)=false:=decide_eq_false (by omega)
   rw[hke,List.take_length] at hpo
   have HPO2:=zh hpo
   obtain⟨M,hM⟩:∃ M,M=(List.filter p (List.take k l)).length:=⟨_,rfl⟩
   have hM2:M=(List.filter p l).length:=by rw[hM,hke,List.take_length]
   rw[<- hM] at c1
   rw[<- hM2] at HPO2
   clear hke hpo hbw HPO hM hM2
   go_wp2_with fail
   have F2:=(HRA.out.set 0 (.int .i64 n)).set 1 (.slice va M vc)
   refine done_c rfl rfl (load_row F2 Tryz.underlying24 rfl info_Queue) ⟨⟨_,rfl,?_⟩,?_⟩
   ·exact HPO2.out.keep (by simp [World.setCell]) (fun k hk _ => by
     have hk1:k≠w.heap.size+1:=by omega
     rw[heap_setCell_other _ _ _ _ hk1,heap_setCell_other _ _ _ _ hk1])
   ·exact(HBW.out.setCell (p:=⟨w.heap.size+1,0,none⟩) (by simp) _).setCell (p:=⟨w.heap.size+1,1,none⟩) (by simp) _
  have dk:decide ((k:Int)<l.length)=true:=decide_eq_true (by omega)
  obtain⟨M,hM⟩:∃ M,M=(List.filter p (List.take k l)).length:=⟨_,rfl⟩
  have hM1:M<=1000000:=by
   rw[hM]
   have:=List.length_filter_le p (List.take k l)
   have h2:(List.take k l).length=k:=by rw[List.length_take];omega
   omega
  have htk:(l.take (k+1)).filter p=(l.take k).filter p++(if p l[k]=true then [l[k]] else []):=by
   have e:List.filter p [l[k]]=if p l[k]=true then [l[k]] else []:=by cases h:p l[k] <;> simp[h]
   rw[List.take_succ_eq_append_getElem hlt,List.filter_append,e]
  obtain⟨L,hL⟩:∃ L,L=(l.take k).filter p:=⟨_,rfl⟩
  rw[<- hL] at hM htk hpo HPO HOA c1
  rw[<- hM] at hpo HPO HOA c1
  obtain⟨b,o,u,ha,hbl,e0,e1,e2,e3,e4,e5,huv⟩:=Own.PropsC.cells (HL.out.below hbw) hlt
  subst ha
  have hlk:=HLV.out l[k] (List.getElem_mem hlt)
  obtain⟨x,hx⟩:∃ x,x=l[k]:=⟨_,rfl⟩
  rw[<- hx] at htk e0 e1 e2 e3 e4 huv hlk
  obtain⟨ua,uc,rfl⟩:=huv.len
  have hb5:Below wr.heap.size wr (wr.alloc (.cells #[.int .i64 x.id,.string x.path,.string x.digest,.int .i64 x.opened,.int .i64 x.expires,.slice ua x.votes.length uc] 46)):=(Below.refl _ _).alloc (Nat.le_refl _) _
  have hn5:=At.new wr 46 #[.int .i64 x.id,.string x.path,.string x.digest,.int .i64 x.opened,.int .i64 x.expires,.slice ua x.votes.length uc]
  have hcall:=HP.out (wr.alloc (.cells #[.int .i64 x.id,.string x.path,.string x.digest,.int .i64 x.opened,.int .i64 x.expires,.slice ua x.votes.length uc] 46)) x (.slice ua x.votes.length uc) (hbw.trans (hb5.mono hbw.size))
  have hcp:=fun W (hW:Below wr.heap.size wr W)=>rvCopied_any x (.slice ua x.votes.length uc) W (huv.below hW) hlk
  have HCP:=zh hcp;have HB5:=zh hb5;have HN5:=zh hn5;have HTK:=zh htk
  obtain⟨pid,ppa,pdi,pop,pex,pvs⟩:=x
  dsimp only at e0 e1 e2 e3 e4 hcall HCP HB5 HN5
  obtain⟨ND,hND⟩:∃ ND:Own.Proposal,ND=⟨pid,ppa,pdi,pop,pex,pvs⟩:=⟨_,rfl⟩
  rw[<- hND] at hcall hx HTK
  have HMM:=zh hM
  clear hb5 hn5 hcp htk hpo hbw huv hL hM r0 r1 r2 r3 c0 c1
  cases hq:p ND with
  | false =>
    rw[hq] at hcall
    go_wp2_with (go_at_fn g;refine hcall.mono ?_;rintro e w6 ⟨rfl,hb6⟩)
    go_round
    case measure=>simp[intOf];omega
    case rel=>
     have hb56:=HB5.out.trans (hb6.mono HB5.out.size)
     have htk2:(l.take (k+1)).filter p=L:=by rw[HTK.out,hq];simp
     refine⟨k+1,.slice va M vc,by omega,by go_num,HRA.out.below hb56 HRA.out.lt,HOA.out.below hb56 HOA.out.lt,?_,HBW.out.trans (hb56.mono HBW.out.size),Nat.le_trans hsz hb56.size⟩
     rw[htk2]
     exact HPO.out.below hb56
  | true =>
    rw[hq] at hcall
    go_wp2_with (go_at_fn g;refine hcall.mono ?_;rintro e w6 ⟨rfl,hb6⟩)
    have hb56:=HB5.out.trans (hb6.mono HB5.out.size)
    have n6:=HN5.out.below hb6 HN5.out.lt
    have o6:=HOA.out.below hb56 HOA.out.lt
    have r6:=HRA.out.below hb56 HRA.out.lt
    have p6:=HPO.out.below hb56
    have g0:=n6.cell 0;have g1:=n6.cell 1;have g2:=n6.cell 2;have g3:=n6.cell 3;have g4:=n6.cell 4;have g5:=n6.cell 5
    have c1:=o6.cell 1
    simp only[List.getElem?_toArray,List.getElem?_cons_zero,List.getElem?_cons_succ] at g0 g1 g2 g3 g4 g5 c1
    have hcp:=HCP.out w6.drew hb56.drew
    have HC6:=zh hcp;have O6:=zh o6;have R6:=zh r6;have P6:=zh p6;have B6:=zh (HBW.out.trans (hb56.mono HBW.out.size))
    have hs6:=Nat.le_trans hsz hb56.size
    have hol:=o6.lt
    clear hcp n6 o6 r6 p6 hb56 hb6 HCP HN5 HB5 hcall HOA HRA HPO HBW
    go_wp2_with fail
    refine Lex.wp_region_lexN (fun j=>j=w.heap.size+1+1) [1] 5 [4] (by kernel_rfl) (by kernel_rfl) (by kernel_rfl) ?_
    simp only[Lex.wpCuts,List.take_succ_cons,List.take_zero,List.drop_succ_cons,List.drop_zero]
    go_wp2_with fail
    refine HC6.out.mono ?_
    rintro e w7 ⟨v',rfl,hov,hb7⟩
    obtain⟨va',vm',vc',rfl⟩:=own_slice hov
    have hb7' : Below w6.heap.size w6 w7:=(Below.refl w6.heap.size w6).drew.trans hb7
    have o7:=O6.out.below hb7' hol
    have c7:=o7.cell 1;have f7:=o7.free 1
    simp only[List.getElem?_toArray,List.getElem?_cons_zero,List.getElem?_cons_succ] at c7
    have HB7:=zh hb7';have HOV:=zh hov;have O7:=zh o7
    clear hb7 hb7' hov o7 g0 g1 g2 g3 g4 g5
    go_wp2_with fail
    refine Lex.Mid.intro (fun j hj _=>by rw[hj];exact HB7.out.block _ hol) ?_
    have hb78:Below w7.heap.size w7 (w7.alloc (.cells #[.int .i64 pid,.string ppa,.string pdi,.int .i64 pop,.int .i64 pex,.slice va' vm' vc'] 46)):=(Below.refl _ _).alloc (Nat.le_refl _) _
    have hrw:=(rows_new w7 46 #[.int .i64 pid,.string ppa,.string pdi,.int .i64 pop,.int .i64 pex,.slice va' vm' vc'] 6 1 1 rfl)
    have hob:∀ k,(Value.slice va M vc).ownBlock=some k->k<w6.heap.size:=by
     obtain⟨_,_,q2,_⟩:=P6.out
     exact Own.own_lt' q2
    have hu7:ListF 3 Own.RVote (fun k=>w.heap.size+3<=k/\k<w7.heap.size/\(Value.slice va M vc).ownBlock≠some k) w7 (.slice va' vm' vc') pvs:=
     rows_flat (enc:=Own.encV) (fun _=>rfl) (fun _=>rfl) (RowsC.own HOV.out) rfl (fun j hj=>by
      have h1:w6.heap.size<=j:=own_up HOV.out j hj
      exact⟨by omega,Own.own_lt' HOV.out j hj,fun e=>by have:=hob j e;omega⟩)
    have hu8:ListF 3 Own.RVote (fun k=>w.heap.size+3<=k/\k<(w7.alloc (.cells #[.int .i64 pid,.string ppa,.string pdi,.int .i64 pop,.int .i64 pex,.slice va' vm' vc'] 46)).heap.size/\(Value.slice va M vc).ownBlock≠some k) (w7.alloc (.cells #[.int .i64 pid,.string ppa,.string pdi,.int .i64 pop,.int .i64 pex,.slice va' vm' vc'] 46)) (.slice va' vm' vc') pvs:=(hu7.below hb78).mono (fun k hk hl=>⟨hk.1,hl,hk.2.2⟩)
    have p8:=(P6.out.below HB7.out).below hb78
    obtain⟨css,h1,h2,h3⟩:=p8
    have H1:=zh h1;have H2:=zh h2;have H3:=zh h3;have HU:=zh hu8;have HRW:=zh hrw;have HB78:=zh hb78
    have hLM:L.length<=1000000:=by have:=HMM.out;omega
    have h67:=HB7.out.size
    have B8:=zh ((B6.out.trans (HB7.out.mono B6.out.size)).trans (hb78.mono (by have:=B6.out.size;omega)))
    have R8:=zh ((R6.out.below HB7.out R6.out.lt).below hb78 (by have:=R6.out.lt;omega));have O8:=zh (O7.out.below hb78 O7.out.lt)
    clear h1 h2 h3 hu8 hu7 hrw hb78 hob
    go_wp2_with (at_builtin;go_must (refine wp_append_rows elemProps rfl _ _ rfl (w.heap.size+3) L.length (.slice va M vc) css.flatten rfl H2.out (.slice (some ⟨w7.heap.size,0,none⟩) 1 1) 1 [.int .i64 pid,.string ppa,.string pdi,.int .i64 pop,.int .i64 pex,.slice va' vm' vc'] rfl HRW.out (by intro u hu;simp at hu;rcases hu with rfl | rfl | rfl | rfl | rfl | rfl <;> rfl) (by omega) (by omega) (by rw[World.size_alloc];omega) ?_);intro v9 w9 ho9 hg9 hw9;obtain⟨ya,ym,yc,rfl⟩:=own_slice ho9;have HP9:=zh (Own.POwn.push (x:=⟨pid,ppa,pdi,pop,pex,pvs⟩) H1.out H2.out H3.out HU.out ho9 hg9 hw9);have HB9:=zh (below_own B8.out B8.out.size (own_base H2.out (by omega)) hg9);have O9:=zh (O8.out.keep (hg9.block _ O8.out.lt (fun e=>by have:=own_up H2.out _ e.symm;omega)));have R9:=zh (R8.out.keep (hg9.block _ R8.out.lt (fun e=>by have:=own_up H2.out _ e.symm;omega)));have hs9:=hg9.size;have c9:=O9.out.cell 1;have f9:=O9.out.free 1;clear ho9 hg9 hw9)
    refine Lex.EndsN.intro (by kernel_rfl) ⟨⟨rfl,by show(w6.cell? ⟨w.heap.size+1+1,1,none⟩).isSome=true;rw[c1];rfl⟩,trivial⟩ ?_
    go_wp2_with fail
    refine⟨⟨k+1,_,by omega,by go_num,R9.out.far (p:=⟨w.heap.size+1+1,1,none⟩) (by simp) _,O9.out.set 1 (.slice ya ym yc),?_,HB9.out.setCell (p:=⟨w.heap.size+1+1,1,none⟩) (by show w.heap.size<=w.heap.size+1+1;omega) _,?_⟩,by simp[intOf];omega⟩
    ·have htk2:(l.take (k+1)).filter p=L++[⟨pid,ppa,pdi,pop,pex,pvs⟩]:=by rw[HTK.out,hq,if_pos rfl,hND]
     rw[htk2]
     exact HP9.out.keep (by simp[World.setCell]) (fun k hk _=>heap_setCell_other _ _ _ _ (by show k≠w.heap.size+1+1;omega))
    ·have:(w9.setCell ⟨w.heap.size+1+1,1,none⟩ (.slice ya ym yc)).heap.size=w9.heap.size:=by simp[World.setCell]
     rw[this]
     rw[World.size_alloc] at hs9
     omega
end
section
open Go Go.RowKit Go.Maps
namespace Own
theorem POwn.base {B B' : Nat} {w:World} {v:Value} {L:List Proposal} (h:POwn B w v L) (hb:B' <= B):POwn B' w v L:=by
 obtain⟨css,h1,h2,h3⟩:=h
 refine⟨css,h1,own_base h2 hb,fun i hi hi' => ?_⟩
 obtain⟨h4,u,h5,h6⟩:=h3 i hi hi'
 exact⟨h4,u,h5,h6.mono (fun k hk _=>⟨by omega,hk.2⟩)⟩
def QOut (w:World) (q:Queue) (qv:Value) (w' : World):Prop:=∃ v',qv=.agg #[.int .i64 q.next,v']/\POwn w.heap.size w' v' q.props
end Own
theorem rvWithdraw1_any (x:Own.Proposal) (u:Value) (g:Nat) (id:Int) (w:World) (hc:w.cell? ⟨g,0,none⟩=some (.int .i64 id)):
 Calls Tryz.prog 48 (#[.agg #[.int .i64 x.id,.string x.path,.string x.digest,.int .i64 x.opened,.int .i64 x.expires,u]]++#[.pointer (some ⟨g,0,none⟩)]) w fun e w' => e=.returned (.bool (!decide (x.id=id)))/\Below w.heap.size w w' :=by
 obtain⟨i0,q1,q2,q3,i4,q5⟩:=x
 dsimp only
 obtain⟨R,hR0⟩:∃ R,R=(!decide (i0=id)):=⟨_,rfl⟩
 rw[<- hR0]
 have hR:R=(!(i0==id)):=hR0
 clear hR0
 have hb1:Below w.heap.size w (w.alloc (.cells #[.int .i64 i0,.string q1,.string q2,.int .i64 q3,.int .i64 i4,u] 46)):=(Below.refl _ _).alloc (Nat.le_refl _) _
 have q:=(hb1.cell (p:=⟨g,0,none⟩) (block_lt hc)).trans hc
 have HB:=zh hb1;have HR:=zh hR
 clear hb1 hc hR
 show Calls Tryz.prog 48 #[.agg #[.int .i64 i0,.string q1,.string q2,.int .i64 q3,.int .i64 i4,u],.pointer (some ⟨g,0,none⟩)] w _
 go_enter Tryz.func48,Tryz.ntmps48
 go_wp2_with fail
 go_ret
 exact⟨by rw[HR.out];rfl,HB.out⟩
theorem rvMerge1_any (x:Own.Proposal) (u:Value) (g:Nat) (id:Int) (w:World) (hc:w.cell? ⟨g,0,none⟩=some (.int .i64 id)):
 Calls Tryz.prog 73 (#[.agg #[.int .i64 x.id,.string x.path,.string x.digest,.int .i64 x.opened,.int .i64 x.expires,u]]++#[.pointer (some ⟨g,0,none⟩)]) w fun e w' => e=.returned (.bool (!decide (x.id=id)))/\Below w.heap.size w w' :=by
 obtain⟨i0,q1,q2,q3,i4,q5⟩:=x
 dsimp only
 obtain⟨R,hR0⟩:∃ R,R=(!decide (i0=id)):=⟨_,rfl⟩
 rw[<- hR0]
 have hR:R=(!(i0==id)):=hR0
 clear hR0
 have hb1:Below w.heap.size w (w.alloc (.cells #[.int .i64 i0,.string q1,.string q2,.int .i64 q3,.int .i64 i4,u] 46)):=(Below.refl _ _).alloc (Nat.le_refl _) _
 have q:=(hb1.cell (p:=⟨g,0,none⟩) (block_lt hc)).trans hc
 have HB:=zh hb1;have HR:=zh hR
 clear hb1 hc hR
 show Calls Tryz.prog 73 #[.agg #[.int .i64 i0,.string q1,.string q2,.int .i64 q3,.int .i64 i4,u],.pointer (some ⟨g,0,none⟩)] w _
 go_enter Tryz.func73,Tryz.ntmps73
 go_wp2_with fail
 go_ret
 exact⟨by rw[HR.out];rfl,HB.out⟩
theorem rvExpire1_any (x:Own.Proposal) (u:Value) (g:Nat) (id:Int) (w:World) (hc:w.cell? ⟨g,0,none⟩=some (.int .i64 id)):
 Calls Tryz.prog 53 (#[.agg #[.int .i64 x.id,.string x.path,.string x.digest,.int .i64 x.opened,.int .i64 x.expires,u]]++#[.pointer (some ⟨g,0,none⟩)]) w fun e w' => e=.returned (.bool (decide (id<x.expires)))/\Below w.heap.size w w' :=by
 obtain⟨i0,q1,q2,q3,i4,q5⟩:=x
 dsimp only
 obtain⟨R,hR0⟩:∃ R,R=(decide (id<i4)):=⟨_,rfl⟩
 rw[<- hR0]
 have hR:R=(decide (id<i4)):=hR0
 clear hR0
 have hb1:Below w.heap.size w (w.alloc (.cells #[.int .i64 i0,.string q1,.string q2,.int .i64 q3,.int .i64 i4,u] 46)):=(Below.refl _ _).alloc (Nat.le_refl _) _
 have q:=(hb1.cell (p:=⟨g,0,none⟩) (block_lt hc)).trans hc
 have HB:=zh hb1;have HR:=zh hR
 clear hb1 hc hR
 show Calls Tryz.prog 53 #[.agg #[.int .i64 i0,.string q1,.string q2,.int .i64 q3,.int .i64 i4,u],.pointer (some ⟨g,0,none⟩)] w _
 go_enter Tryz.func53,Tryz.ntmps53
 go_wp2_with fail
 go_ret
 exact⟨by rw[HR.out];rfl,HB.out⟩
theorem rvExpire_any (q:Own.Queue) (size:Int) (pv:Value) (w:World) (hM:MaxL w) (hP:Own.PropsC w pv q.props) (hls:q.props.length<=1000000) (hlm:∀ p∈q.props,p.votes.length<=3000000):
 Calls Tryz.prog 19 #[.agg #[.int .i64 q.next,pv],.int .i64 size] w fun e w' => (∃ qv,e=.returned qv/\Own.QOut w (Own.expire q size) qv w')/\Below w.heap.size w w' :=by
 obtain⟨R,hR⟩:∃ R,R=Own.expire q size:=⟨_,rfl⟩
 rw[<- hR]
 unfold Own.expire at hR
 obtain⟨a,c,rfl⟩:=hP.len
 obtain⟨nx,L⟩:=q
 dsimp only at*
 have hb1:Below w.heap.size w (((w.alloc (.cells #[.int .i64 nx,.slice a L.length c] 24)).alloc (.cells #[.int .i64 size] 3)).alloc (.cells #[.int .i64 0,.slice none 0 0] 24)):=(((Below.refl _ _).alloc (Nat.le_refl _) _).alloc (by simp) _).alloc (by simp;omega) _
 have a0:=((At.new w 24 #[.int .i64 nx,.slice a L.length c]).alloc (.cells #[.int .i64 size] 3)).alloc (.cells #[.int .i64 0,.slice none 0 0] 24)
 have a1:=(At.new1 w (.cells #[.int .i64 nx,.slice a L.length c] 24) 3 #[.int .i64 size]).alloc (.cells #[.int .i64 0,.slice none 0 0] 24)
 have a2:At (((w.alloc (.cells #[.int .i64 nx,.slice a L.length c] 24)).alloc (.cells #[.int .i64 size] 3)).alloc (.cells #[.int .i64 0,.slice none 0 0] 24)) (w.heap.size+1+1) 24 #[.int .i64 0,.slice none 0 0]:=by
  have:=At.new1 (w.alloc (.cells #[.int .i64 nx,.slice a L.length c] 24)) (.cells #[.int .i64 size] 3) 24 #[.int .i64 0,.slice none 0 0]
  rwa [World.size_alloc] at this
 have hz1:w.heap.size+3<=(((w.alloc (.cells #[.int .i64 nx,.slice a L.length c] 24)).alloc (.cells #[.int .i64 size] 3)).alloc (.cells #[.int .i64 0,.slice none 0 0] 24)).heap.size:=by simp
 obtain⟨c0,c1⟩:=a0.c2
 have hval:=rvValid_any ⟨nx,L⟩ (.slice a L.length c) _ (hM.below hb1) (hP.below hb1) (by show L.length<=_;omega) (fun p hp=>by have:=hlm p hp;omega)
 have HV:=zh hval;have HP:=zh (hP.below hb1);have HB:=zh hb1;have HA0:=zh a0;have HA1:=zh a1;have HA2:=zh a2;have HLM:=zh hlm;have HR:=zh hR
 clear hval hP hM hb1 a0 a1 a2 hlm hR
 go_enter Tryz.func19,Tryz.ntmps19
 go_wp2_with fail
 generalize ((w.alloc (.cells #[.int .i64 nx,.slice a L.length c] 24)).alloc (.cells #[.int .i64 size] 3)).alloc (.cells #[.int .i64 0,.slice none 0 0] 24)=w1 at*
 refine HV.out.mono ?_
 rintro e w2 ⟨rfl,hb2⟩
 have a0:=HA0.out.below hb2 (by omega);have a1:=HA1.out.below hb2 (by omega);have a2:=HA2.out.below hb2 (by omega)
 have x0:=a0.cell 0;have x1:=a0.cell 1
 have r0:=a2.cell 0;have r1:=a2.cell 1;have r2:=a2.free 0;have r3:=a2.free 1
 have z0:=a1.cell 0
 simp only[List.getElem?_toArray,List.getElem?_cons_zero,List.getElem?_cons_succ] at x0 x1 r0 r1 z0
 have hP2:=HP.out.below hb2
 have hB2:=HB.out.trans (hb2.mono HB.out.size)
 have hs2:w.heap.size+3<=w2.heap.size:=Nat.le_trans hz1 hb2.size
 have HA22:=zh a2;have HB2:=zh hB2
 have hkp:=rvKept_any 53 #[.pointer (some ⟨w.heap.size+1,0,none⟩)] (by intros;rfl) (fun p:Own.Proposal=>decide (size<p.expires)) nx _ L w2 hP2 hls HLM.out (fun W x u hb=>rvExpire1_any x u _ size W ((hb.cell (p:=⟨w.heap.size+1,0,none⟩) a1.lt).trans z0))
 have HKP:=zh hkp
 clear hP2 hB2 hb2 a0 a1 a2 z0 c0 c1 hkp HV HP HB HA0 HA1 HA2
 cases hq:Own.queueOK ⟨nx,L⟩ with
 | false =>
   have e:R=Own.Queue.none:=by rw[HR.out,hq];rfl
   have HE:=zh e;clear e
   go_wp2_with fail
   have F2:=(HA22.out.set 0 (.int .i64 0)).set 1 (.slice none 0 0)
   refine done_c rfl rfl (load_row F2 Tryz.underlying24 rfl info_Queue) ⟨⟨_,rfl,?_⟩,?_⟩
   ·rw[HE.out];exact⟨_,rfl,Own.POwn.nil _ _⟩
   ·exact(HB2.out.setCell (p:=⟨w.heap.size+1+1,0,none⟩) (by show w.heap.size<=w.heap.size+1+1;omega) _).setCell (p:=⟨w.heap.size+1+1,1,none⟩) (by show w.heap.size<=w.heap.size+1+1;omega) _
 | true =>
   have e:R=⟨nx,L.filter fun p=>decide (size<p.expires)⟩:=by rw[HR.out,hq];rfl
   have HE:=zh e;clear e
   clear r0 r1 r2 r3
   go_wp2_with fail
   refine HKP.out.mono ?_
   rintro e w3 ⟨⟨v',rfl,hpo⟩,hb3⟩
   obtain⟨va,vc,rfl⟩:=hpo.one
   obtain⟨M,hM⟩:∃ M,M=(L.filter fun p=>decide (size<p.expires)).length:=⟨_,rfl⟩
   rw[<- hM] at hpo ⊢
   have a3:=HA22.out.below hb3 (by omega)
   have r0:=a3.cell 0;have r1:=a3.cell 1;have r2:=a3.free 0;have r3:=a3.free 1
   simp only[List.getElem?_toArray,List.getElem?_cons_zero,List.getElem?_cons_succ] at r0 r1
   have HA3:=zh a3;have HPO:=zh hpo;have HB3:=zh (HB2.out.trans (hb3.mono HB2.out.size))
   clear a3 hpo hb3 hM
   go_wp2_with fail
   have F2:=(HA3.out.set 0 (.int .i64 nx)).set 1 (.slice va M vc)
   refine done_c rfl rfl (load_row F2 Tryz.underlying24 rfl info_Queue) ⟨⟨_,rfl,?_⟩,?_⟩
   ·rw[HE.out]
    refine⟨_,rfl,Own.POwn.base (B:=w2.heap.size+3) (HPO.out.keep (by simp[World.setCell]) (fun k hk _=>?_)) (by omega)⟩
    have hk1:k≠w.heap.size+1+1:=by omega
    rw[heap_setCell_other _ _ _ _ hk1,heap_setCell_other _ _ _ _ hk1]
   ·exact(HB3.out.setCell (p:=⟨w.heap.size+1+1,0,none⟩) (by show w.heap.size<=w.heap.size+1+1;omega) _).setCell (p:=⟨w.heap.size+1+1,1,none⟩) (by show w.heap.size<=w.heap.size+1+1;omega) _
end
section
open Go Go.RowKit Go.Maps
theorem Boxes.keep {w0 w w' : World} {bs:List (TypeId × Array Value)} (h:Boxes w0 w bs) (hu:Below w0.heap.size w0 w') (hs:w.heap.size<=w'.heap.size) (hk:∀ k,w0.heap.size<=k->k<w0.heap.size+bs.length->w'.heap[k]? = w.heap[k]?):Boxes w0 w' bs:=
 ⟨Nat.le_trans h.size hs,hu,fun i t cs hi=>(h.at_ i t cs hi).keep (hk _ (by omega) (by have:=(List.getElem?_eq_some_iff.1 hi).1;omega))⟩
theorem Boxes.far {w0 w w' : World} {bs:List (TypeId × Array Value)} (h:Boxes w0 w bs) {O:Nat} (hO:w0.heap.size+bs.length<=O) {row:Option Nat} (hr:∀ k,row=some k->O<=k) (hg:w.grownBy w' row):Boxes w0 w' bs:=by
 refine h.keep (h.under.grown hg h.under.size (fun k hk=>by have:=hr k hk;omega)) hg.size (fun k _ hk=>hg.block k (by have:=h.size;omega) (fun e=>by have:=hr k e.symm;omega))
namespace Own
def encP (x:Proposal) (v:Value):List Value:=[.int .i64 x.id,.string x.path,.string x.digest,.int .i64 x.opened,.int .i64 x.expires,v]
theorem POwn.ready {B:Nat} {wr w7:World} {v:Value} {L:List Proposal} (h:POwn B wr v L) (hb:Below wr.heap.size wr w7) (hB:B<=wr.heap.size) (x:Proposal) (v' : Value) (ho:w7.ownsRow wr.heap.size 82 3 v' x.votes.length (x.votes.flatMap encV)):
 ∃ css:List (List Value),(w7.alloc (.cells (encP x v').toArray 46)).ownsRow B 46 6 v L.length css.flatten/\∀ v9 w9,w9.ownsRow B 46 6 v9 (L.length+1) (css.flatten++encP x v')->(w7.alloc (.cells (encP x v').toArray 46)).grownBy w9 v.ownBlock->(v9.ownBlock=v.ownBlock\/v9.ownBlock=some (w7.alloc (.cells (encP x v').toArray 46)).heap.size)->POwn B w9 v9 (L++[x]):=by
 have hb78:Below w7.heap.size w7 (w7.alloc (.cells (encP x v').toArray 46)):=(Below.refl _ _).alloc (Nat.le_refl _) _
 have hob:∀ k,v.ownBlock=some k->k<wr.heap.size:=by
  obtain⟨_,_,q2,_⟩:=h
  exact own_lt' q2
 have hu7:ListF 3 RVote (fun k=>B<=k/\k<w7.heap.size/\v.ownBlock≠some k) w7 v' x.votes:=
  rows_flat (enc:=encV) (fun _=>rfl) (fun _=>rfl) (RowsC.own ho) rfl (fun j hj=>by
   have h1:wr.heap.size<=j:=own_up ho j hj
   exact⟨by omega,own_lt' ho j hj,fun e=>by have:=hob j e;omega⟩)
 have hu8:=(hu7.below hb78).mono (G:=fun k=>B<=k/\k<(w7.alloc (.cells (encP x v').toArray 46)).heap.size/\v.ownBlock≠some k) (fun k hk hl=>⟨hk.1,hl,hk.2.2⟩)
 obtain⟨css,h1,h2,h3⟩:=(h.below hb).below hb78
 exact⟨css,h2,fun v9 w9 q1 q2 q3=>POwn.push (x:=x) h1 h2 h3 hu8 q1 q2 q3⟩
def skipL {α : Type} : Int->List α -> List α
 | _,[]=>[]
 | at_,x::l=>if at_=0 then skipL (at_ - 1) l else x::skipL (at_ - 1) l
theorem skipL_snoc {α : Type} (x : α):∀ (l:List α) (a:Int),skipL a (l++[x])=skipL a l++(if a=l.length then [] else [x])
 | [],a => by
   show(if a=0 then skipL (a - 1) [] else x::skipL (a - 1) [])=[]++_
   rw[List.nil_append]
   rfl
 | y :: l,a => by
   have ih:=skipL_snoc x l (a - 1)
   show(if a=0 then skipL (a - 1) (l++[x]) else y::skipL (a - 1) (l++[x]))=(if a=0 then skipL (a - 1) l else y::skipL (a - 1) l)++_
   rw[ih]
   have e:(a - 1=(l.length:Int))=(a=((y::l).length:Int)):=by rw[List.length_cons];apply propext;constructor <;> intro h <;> omega
   simp only[e]
   split <;> rfl
theorem skipL_neg {α : Type} : ∀ (l:List α) (a:Int),a<0->skipL a l=l
 | [],_,_=>rfl
 | x :: l,a,h => by
   show(if a=0 then _ else _)=_
   rw[if_neg (by omega),skipL_neg l (a - 1) (by omega)]
theorem skipL_nat {α : Type} : ∀ (l:List α) (k:Nat),skipL (k:Int) l=l.eraseIdx k
 | [],_=>rfl
 | x :: l,0 => by
   show(if (0:Int)=0 then skipL (0 - 1) l else _)=_
   rw[if_pos rfl,skipL_neg l _ (by omega)]
   rfl
 | x :: l,k + 1 => by
   show(if ((k+1:Nat):Int)=0 then _ else x::skipL (((k+1:Nat):Int) - 1) l)=_
   rw[if_neg (by omega),show((k+1:Nat):Int) - 1=(k:Int) by omega,skipL_nat l k]
   rfl
theorem skipL_len {α : Type} : ∀ (l:List α) (a:Int),(skipL a l).length<=l.length
 | [],_=>Nat.le_refl _
 | x :: l,a => by
   have ih:=skipL_len l (a - 1)
   show(if a=0 then _ else _:List α).length<=_
   split
   ·rw[List.length_cons];omega
   ·rw[List.length_cons,List.length_cons];omega
end Own
theorem r54copyProposal_any (p:Own.Proposal) (v:Value) (w:World) (h:Own.VotesC w v p.votes) (hl:p.votes.length<=3000000):
 Calls Tryz.prog 46 #[.agg #[.int .i64 p.id,.string p.path,.string p.digest,.int .i64 p.opened,.int .i64 p.expires,v]] w fun e w' => ∃ v',e=.returned (.agg #[.int .i64 p.id,.string p.path,.string p.digest,.int .i64 p.opened,.int .i64 p.expires,v'])/\w'.ownsRow w.heap.size 82 3 v' p.votes.length (p.votes.flatMap Own.encV)/\Below w.heap.size w w' :=by
 obtain⟨id,pa,di,op,ex,l⟩:=p
 dsimp only at*
 obtain⟨a,c,rfl⟩:=h.len
 have F1:=zh (show Boxes w ((w.alloc (.cells #[.int .i64 id,.string pa,.string di,.int .i64 op,.int .i64 ex,.slice a l.length c] 46)).alloc (.cells #[.int .i64 0,.string ⟨#[]⟩,.string ⟨#[]⟩,.int .i64 0,.int .i64 0,.slice none 0 0] 46)) [(46,#[.int .i64 id,.string pa,.string di,.int .i64 op,.int .i64 ex,.slice a l.length c]),(46,#[.int .i64 0,.string ⟨#[]⟩,.string ⟨#[]⟩,.int .i64 0,.int .i64 0,.slice none 0 0])] from(((Fresh.nil w).push 46 #[.int .i64 id,.string pa,.string di,.int .i64 op,.int .i64 ex,.slice a l.length c]).push 46 #[.int .i64 0,.string ⟨#[]⟩,.string ⟨#[]⟩,.int .i64 0,.int .i64 0,.slice none 0 0]).boxes)
 have H:=zh (h.below F1.out.under)
 have hz:((w.alloc (.cells #[.int .i64 id,.string pa,.string di,.int .i64 op,.int .i64 ex,.slice a l.length c] 46)).alloc (.cells #[.int .i64 0,.string ⟨#[]⟩,.string ⟨#[]⟩,.int .i64 0,.int .i64 0,.slice none 0 0] 46)).heap.size=w.heap.size+2:=by simp
 clear h
 go_enter Tryz.func46,Tryz.ntmps46
 go_upto_region 1 with fail
 generalize (w.alloc (.cells #[.int .i64 id,.string pa,.string di,.int .i64 op,.int .i64 ex,.slice a l.length c] 46)).alloc (.cells #[.int .i64 0,.string ⟨#[]⟩,.string ⟨#[]⟩,.int .i64 0,.int .i64 0,.slice none 0 0] 46)=w1 at*
 obtain⟨x00,x01,x02,x03,x04,x05⟩:=F1.out.d0_6 rfl
 have hb2:Below w1.heap.size w1 (w1.alloc (.cells #[] 82)):=(Below.refl _ _).alloc (Nat.le_refl _) _
 have HO:=zh (own_new0 w1 82 3 w1.heap.size (Nat.le_refl _));have H2:=zh (Own.VotesC.rows (H.out.below hb2));have HB2:=zh hb2;have F2:=zh (F1.out.step hb2);have HZ:=zh hz
 clear hb2 hz
 (try clear x00);(try clear x01);(try clear x02);(try clear x03);(try clear x04);(try clear x05)
 have x00:(w1.alloc (.cells #[] 82)).cell? ⟨w.heap.size,0,none⟩=some (.int .i64 id):=F2.out.cell 0 0 rfl rfl
 have x01:(w1.alloc (.cells #[] 82)).cell? ⟨w.heap.size,1,none⟩=some (.string pa):=F2.out.cell 0 1 rfl rfl
 have x02:(w1.alloc (.cells #[] 82)).cell? ⟨w.heap.size,2,none⟩=some (.string di):=F2.out.cell 0 2 rfl rfl
 have x03:(w1.alloc (.cells #[] 82)).cell? ⟨w.heap.size,3,none⟩=some (.int .i64 op):=F2.out.cell 0 3 rfl rfl
 have x04:(w1.alloc (.cells #[] 82)).cell? ⟨w.heap.size,4,none⟩=some (.int .i64 ex):=F2.out.cell 0 4 rfl rfl
 have x05:(w1.alloc (.cells #[] 82)).cell? ⟨w.heap.size,5,none⟩=some (.slice a l.length c):=F2.out.cell 0 5 rfl rfl
 go_wp2_with (at_builtin;go_must (refine wp_append_rows elemVotes rfl _ _ rfl w1.heap.size 0 _ [] rfl HO.out (.slice a l.length c) l.length _ rfl H2.out (Own.one_V l) (by omega) (by omega) HB2.out.size ?_);intro v5 w5 ho5 hg5 _;rw[Nat.zero_add,List.nil_append] at ho5;obtain⟨va,vm,vc,rfl⟩:=own_slice ho5;have HO5:=zh ho5;have F5:=zh (F2.out.far (O:=w1.heap.size) (by have:=HZ.out;show w.heap.size+2<=w1.heap.size;omega) (own_up HO.out) hg5);clear ho5 hg5;have y00:w5.cell? ⟨w.heap.size,0,none⟩=some (.int .i64 id):=F5.out.cell 0 0 rfl rfl;have y00f:w5.frozen? ⟨w.heap.size,0,none⟩=false:=F5.out.free 0 0 rfl;have y01:w5.cell? ⟨w.heap.size,1,none⟩=some (.string pa):=F5.out.cell 0 1 rfl rfl;have y01f:w5.frozen? ⟨w.heap.size,1,none⟩=false:=F5.out.free 0 1 rfl;have y02:w5.cell? ⟨w.heap.size,2,none⟩=some (.string di):=F5.out.cell 0 2 rfl rfl;have y02f:w5.frozen? ⟨w.heap.size,2,none⟩=false:=F5.out.free 0 2 rfl;have y03:w5.cell? ⟨w.heap.size,3,none⟩=some (.int .i64 op):=F5.out.cell 0 3 rfl rfl;have y03f:w5.frozen? ⟨w.heap.size,3,none⟩=false:=F5.out.free 0 3 rfl;have y04:w5.cell? ⟨w.heap.size,4,none⟩=some (.int .i64 ex):=F5.out.cell 0 4 rfl rfl;have y04f:w5.frozen? ⟨w.heap.size,4,none⟩=false:=F5.out.free 0 4 rfl;have y05:w5.cell? ⟨w.heap.size,5,none⟩=some (.slice a l.length c):=F5.out.cell 0 5 rfl rfl;have y05f:w5.frozen? ⟨w.heap.size,5,none⟩=false:=F5.out.free 0 5 rfl;have y10:w5.cell? ⟨w.heap.size+1,0,none⟩=some (.int .i64 0):=F5.out.cell 1 0 rfl rfl;have y10f:w5.frozen? ⟨w.heap.size+1,0,none⟩=false:=F5.out.free 1 0 rfl;have y11:w5.cell? ⟨w.heap.size+1,1,none⟩=some (.string ⟨#[]⟩):=F5.out.cell 1 1 rfl rfl;have y11f:w5.frozen? ⟨w.heap.size+1,1,none⟩=false:=F5.out.free 1 1 rfl;have y12:w5.cell? ⟨w.heap.size+1,2,none⟩=some (.string ⟨#[]⟩):=F5.out.cell 1 2 rfl rfl;have y12f:w5.frozen? ⟨w.heap.size+1,2,none⟩=false:=F5.out.free 1 2 rfl;have y13:w5.cell? ⟨w.heap.size+1,3,none⟩=some (.int .i64 0):=F5.out.cell 1 3 rfl rfl;have y13f:w5.frozen? ⟨w.heap.size+1,3,none⟩=false:=F5.out.free 1 3 rfl;have y14:w5.cell? ⟨w.heap.size+1,4,none⟩=some (.int .i64 0):=F5.out.cell 1 4 rfl rfl;have y14f:w5.frozen? ⟨w.heap.size+1,4,none⟩=false:=F5.out.free 1 4 rfl;have y15:w5.cell? ⟨w.heap.size+1,5,none⟩=some (.slice none 0 0):=F5.out.cell 1 5 rfl rfl;have y15f:w5.frozen? ⟨w.heap.size+1,5,none⟩=false:=F5.out.free 1 5 rfl)
 (try clear x00);(try clear x01);(try clear x02);(try clear x03);(try clear x04);(try clear x05)
 have G2:=(((((((F5.out.put 0 5 (.slice va vm vc) rfl).put 1 0 (.int .i64 id) rfl).put 1 1 (.string pa) rfl).put 1 2 (.string di) rfl).put 1 3 (.int .i64 op) rfl).put 1 4 (.int .i64 ex) rfl).put 1 5 (.slice va vm vc) rfl)
 refine done_c rfl rfl (load_row (G2.at1 1 rfl) Tryz.underlying46 rfl info_Proposal) ⟨_,rfl,?_,G2.under⟩
 have hz:=HZ.out
 refine own_base (own_keep HO5.out (fun k hk=>?_)) (by omega)
 have k0:=own_up HO5.out k hk
 have k1:k≠w.heap.size:=by omega
 have k2:k≠w.heap.size+1:=by omega
 rw[heap_setCell_other _ _ _ _ k2,heap_setCell_other _ _ _ _ k2,heap_setCell_other _ _ _ _ k2,heap_setCell_other _ _ _ _ k2,heap_setCell_other _ _ _ _ k2,heap_setCell_other _ _ _ _ k2]
 exact heap_setCell_other _ _ _ _ (by show k≠w.heap.size+0;omega)
end
section
open Go Go.RowKit Go.Maps
theorem r54without_any (nx at_:Int) (pv:Value) (l:List Own.Proposal) (w:World) (hP:Own.PropsC w pv l) (hl:l.length<=1000000) (hlv:∀ x∈l,x.votes.length<=3000000):
 Calls Tryz.prog 50 #[.agg #[.int .i64 nx,pv],.int .i64 at_] w fun e w' => (∃ v',e=.returned (.agg #[.int .i64 nx,v'])/\Own.POwn w.heap.size w' v' (Own.skipL at_ l))/\Below w.heap.size w w' :=by
 obtain⟨a,c,rfl⟩:=hP.len
 have F1:=zh (show Boxes w (((w.alloc (.cells #[.int .i64 nx,.slice a l.length c] 24)).alloc (.cells #[.int .i64 0,.slice none 0 0] 24)).alloc (.cells #[.int .i64 nx,.slice none 0 0] 24)) [(24,#[.int .i64 nx,.slice a l.length c]),(24,#[.int .i64 0,.slice none 0 0]),(24,#[.int .i64 nx,.slice none 0 0])] from((((Fresh.nil w).push 24 #[.int .i64 nx,.slice a l.length c]).push 24 #[.int .i64 0,.slice none 0 0]).push 24 #[.int .i64 nx,.slice none 0 0]).boxes)
 have HL:=zh hP;have HLV:=zh hlv
 clear hP hlv
 have x00:(((w.alloc (.cells #[.int .i64 nx,.slice a l.length c] 24)).alloc (.cells #[.int .i64 0,.slice none 0 0] 24)).alloc (.cells #[.int .i64 nx,.slice none 0 0] 24)).cell? ⟨w.heap.size,0,none⟩=some (.int .i64 nx):=F1.out.cell 0 0 rfl rfl
 have x01:(((w.alloc (.cells #[.int .i64 nx,.slice a l.length c] 24)).alloc (.cells #[.int .i64 0,.slice none 0 0] 24)).alloc (.cells #[.int .i64 nx,.slice none 0 0] 24)).cell? ⟨w.heap.size,1,none⟩=some (.slice a l.length c):=F1.out.cell 0 1 rfl rfl
 go_enter Tryz.func50,Tryz.ntmps50
 go_upto_region 2 with fail
 generalize (((w.alloc (.cells #[.int .i64 nx,.slice a l.length c] 24)).alloc (.cells #[.int .i64 0,.slice none 0 0] 24)).alloc (.cells #[.int .i64 nx,.slice none 0 0] 24))=w1 at*
 go_wp2_with fail
 (try clear x00);(try clear x01);(try clear x10f);(try clear x10);(try clear x11f);(try clear x11);(try clear x20f);(try clear x20);(try clear x21f);(try clear x21)
 go_loopw [6] (fun i wr=>∃ (k:Nat) (v:Value),k<=l.length/\i=.int .i64 k/\Boxes w wr [(24,#[.int .i64 nx,.slice a l.length c]),(24,#[.int .i64 0,.slice none 0 0]),(24,#[.int .i64 nx,v])]/\Own.POwn (w.heap.size+3) wr v (Own.skipL at_ (l.take k))) (fun i _=>l.length - (intOf i).toNat)
 case atStart=>exact⟨0,_,by omega,rfl,F1.out,Own.POwn.nil _ _⟩
 case round=>
  obtain⟨k,v,hk,rfl,hbx,hpo⟩:=hrel
  obtain⟨L,hL⟩:∃ L,L=Own.skipL at_ (l.take k):=⟨_,rfl⟩
  rw[<- hL] at hpo
  have hLM:L.length<=1000000:=by
   rw[hL]
   have:=Own.skipL_len (l.take k) at_
   rw[List.length_take] at this
   omega
  obtain⟨va,vc,rfl⟩:=hpo.one
  have G1:=zh hbx;have HPO:=zh hpo
  clear hbx hpo
  obtain⟨x00,x01⟩:=G1.out.d0_2 rfl
  obtain⟨x10,x11,x10f,x11f⟩:=G1.out.e1_2 rfl
  obtain⟨x20,x21,x20f,x21f⟩:=G1.out.e2_2 rfl
  by_cases hlt:k<l.length
  case neg=>
   have hke:k=l.length:=by omega
   have dk:decide ((k:Int)<l.length)=false:=decide_eq_false (by omega)
   have HL2:=zh (show L=Own.skipL at_ l by rw[hL,hke,List.take_length])
   clear hke hL
   go_wp2_with fail
   have G2:=((G1.out.put 1 0 (.int .i64 nx) rfl).put 1 1 (.slice va L.length vc) rfl)
   refine done_c rfl rfl (load_row (G2.at1 1 rfl) Tryz.underlying24 rfl info_Queue) ⟨⟨_,rfl,?_⟩,G2.under⟩
   rw[<- HL2.out]
   exact(HPO.out.keep (by simp[World.setCell]) (fun k hk _=>by
    have hk1:k≠w.heap.size+1:=by omega
    rw[heap_setCell_other _ _ _ _ hk1,heap_setCell_other _ _ _ _ hk1])).base (by omega)
  have dk:decide ((k:Int)<l.length)=true:=decide_eq_true (by omega)
  have htk:Own.skipL at_ (l.take (k+1))=L++(if at_=(k:Int) then [] else [l[k]]):=by
   rw[List.take_succ_eq_append_getElem hlt,Own.skipL_snoc,<- hL,List.length_take,Nat.min_eq_left (by omega)]
  have HTK:=zh htk
  clear hL htk
  by_cases hat:(k:Int)=at_
  ·have da:((k:Int)==at_)=true:=beq_iff_eq.2 hat
   have HAT:=zh hat;clear hat
   go_wp2_with fail
   refine⟨⟨k+1,_,by omega,by go_num,G1.out,?_⟩,by simp[intOf];omega⟩
   rw[HTK.out,if_pos HAT.out.symm,List.append_nil]
   exact HPO.out
  ·have da:((k:Int)==at_)=false:=beq_eq_false_iff_ne.2 hat
   have HAT:=zh hat;clear hat
   obtain⟨b,o,u,ha,hbl,e0,e1,e2,e3,e4,e5,huv⟩:=Own.PropsC.cells (HL.out.below G1.out.under) hlt
   subst ha
   have hlk:=HLV.out l[k] (List.getElem_mem hlt)
   obtain⟨x,hx⟩:∃ x,x=l[k]:=⟨_,rfl⟩
   rw[<- hx] at e0 e1 e2 e3 e4 huv hlk
   obtain⟨ua,uc,rfl⟩:=huv.len
   have hcp:=r54copyProposal_any x (.slice ua x.votes.length uc) wr.drew (huv.below (Below.refl _ _).drew) hlk
   have HCP:=zh hcp;have HX:=zh hx
   obtain⟨pid,ppa,pdi,pop,pex,pvs⟩:=x
   dsimp only at e0 e1 e2 e3 e4 HCP
   have hol:w.heap.size+1+1<wr.heap.size:=G1.out.lt (i:=2) (by show 2<3;omega)
   have hwz:w.heap.size+3<=wr.heap.size:=G1.out.size
   have HXS:=zh (show(wr.cell? ⟨w.heap.size+1+1,1,none⟩).isSome=true by rw[x21];rfl)
   clear hx hcp huv hlk
   go_wp2_with fail
   refine Lex.wp_region_lexN (fun j=>j=w.heap.size+1+1) [1] 9 [8] (by kernel_rfl) (by kernel_rfl) (by kernel_rfl) ?_
   simp only[Lex.wpCuts,List.take_succ_cons,List.take_zero,List.drop_succ_cons,List.drop_zero]
   go_wp2_with fail
   refine HCP.out.mono ?_
   rintro e w7 ⟨v',rfl,hov,hb7⟩
   rw[drew_heap] at hov
   obtain⟨va',vm',vc',rfl⟩:=own_slice hov
   have hb7' : Below wr.heap.size wr w7:=(Below.refl wr.heap.size wr).drew.trans hb7
   have G7:=zh (G1.out.step hb7');have HB7:=zh hb7';have HOV:=zh hov
   (try clear x00);(try clear x01);(try clear x10f);(try clear x10);(try clear x11f);(try clear x11);(try clear x20f);(try clear x20);(try clear x21f);(try clear x21)
   obtain⟨x20,x21,x20f,x21f⟩:=G7.out.e2_2 rfl
   clear hb7 hb7' hov e0 e1 e2 e3 e4 e5 HCP
   go_wp2_with fail
   refine Lex.Mid.intro (fun j hj _=>by rw[hj];exact HB7.out.block _ hol) ?_
   have hrw:=(rows_new w7 46 #[.int .i64 pid,.string ppa,.string pdi,.int .i64 pop,.int .i64 pex,.slice va' vm' vc'] 6 1 1 rfl)
   obtain⟨css,q1,q2⟩:=Own.POwn.ready HPO.out HB7.out hwz ⟨pid,ppa,pdi,pop,pex,pvs⟩ (.slice va' vm' vc') HOV.out
   simp only[Own.encP] at q1 q2
   have hb78:Below w7.heap.size w7 (w7.alloc (.cells #[.int .i64 pid,.string ppa,.string pdi,.int .i64 pop,.int .i64 pex,.slice va' vm' vc'] 46)):=(Below.refl _ _).alloc (Nat.le_refl _) _
   have h67:=HB7.out.size
   have Q1:=zh q1;have Q2:=zh q2;have HRW:=zh hrw;have G8:=zh (G7.out.step hb78)
   clear q1 q2 hrw hb78
   go_wp2_with (at_builtin;go_must (refine wp_append_rows elemProps rfl _ _ rfl (w.heap.size+3) L.length (.slice va L.length vc) css.flatten rfl Q1.out (.slice (some ⟨w7.heap.size,0,none⟩) 1 1) 1 [.int .i64 pid,.string ppa,.string pdi,.int .i64 pop,.int .i64 pex,.slice va' vm' vc'] rfl HRW.out (by intro u hu;simp at hu;rcases hu with rfl | rfl | rfl | rfl | rfl | rfl <;> rfl) (by omega) (by omega) (by rw[World.size_alloc];omega) ?_);intro v9 w9 ho9 hg9 hw9;obtain⟨ya,ym,yc,rfl⟩:=own_slice ho9;have HP9:=zh (Q2.out _ _ ho9 hg9 hw9);have G9:=zh (G8.out.far (Nat.le_refl _) (own_up Q1.out) hg9);have y20:w9.cell? ⟨w.heap.size+1+1,0,none⟩=some (.int .i64 nx):=G9.out.cell 2 0 rfl rfl;have y20f:w9.frozen? ⟨w.heap.size+1+1,0,none⟩=false:=G9.out.free 2 0 rfl;have y21:w9.cell? ⟨w.heap.size+1+1,1,none⟩=some (.slice va L.length vc):=G9.out.cell 2 1 rfl rfl;have y21f:w9.frozen? ⟨w.heap.size+1+1,1,none⟩=false:=G9.out.free 2 1 rfl;clear ho9 hg9 hw9)
   refine Lex.EndsN.intro (by kernel_rfl) ⟨⟨rfl,HXS.out⟩,trivial⟩ ?_
   go_wp2_with fail
   refine⟨⟨k+1,.slice ya ym yc,by omega,by go_num,G9.out.put 2 1 (.slice ya ym yc) rfl,?_⟩,by simp[intOf];omega⟩
   rw[HTK.out,if_neg (fun e=>HAT.out e.symm),<- HX.out]
   exact HP9.out.keep (by simp[World.setCell]) (fun k hk _=>heap_setCell_other _ _ _ _ (by show k≠w.heap.size+1+1;omega))
namespace Own
theorem chain_pair {α : Type} {ok : α -> Bool} {lt : α -> α -> Bool} (ht:∀ x y z,lt x y=true->lt y z=true->lt x z=true):∀ (l:List α) (p:Option α),chainOK ok lt p l=true->(∀ y,p=some y->∀ x∈l,lt y x=true)/\l.Pairwise fun x y=>lt x y=true
 | [],_,_=>⟨fun _ _ x hx=>(by cases hx),List.Pairwise.nil⟩
 | x :: l,p,h => by
   have h' : ((ok x&&(match p with | none=>true | some y=>lt y x))&&chainOK ok lt (some x) l)=true:=by cases p <;> exact h
   rw[Bool.and_eq_true,Bool.and_eq_true] at h'
   obtain⟨⟨_,h1⟩,h2⟩:=h'
   obtain⟨h3,h4⟩:=chain_pair ht l (some x) h2
   refine⟨fun y hy z hz=>?_,List.pairwise_cons.2 ⟨h3 x rfl,h4⟩⟩
   subst hy
   rcases List.mem_cons.1 hz with rfl | hz
   ·exact h1
   ·exact ht _ _ _ h1 (h3 x rfl z hz)
theorem queue_ids {q:Queue} (h:queueOK q=true):q.props.Pairwise fun x y=>x.id<y.id:=by
 unfold queueOK at h
 rw[Bool.and_eq_true] at h
 exact(chain_pair (lt:=fun x y:Proposal=>decide (x.id<y.id)) (fun x y z h1 h2=>decide_eq_true (Int.lt_trans (of_decide_eq_true h1) (of_decide_eq_true h2))) _ none h.2).2.imp of_decide_eq_true
theorem skip_id:∀ (l:List Proposal) (k:Nat) (h:k<l.length),(l.Pairwise fun x y=>x.id<y.id)->skipL (k:Int) l=l.filter fun p => !decide (p.id=l[k].id)
 | [],k,h,_=>by cases h
 | x :: l,0,h,hp => by
   obtain⟨h1,_⟩:=List.pairwise_cons.1 hp
   rw[skipL_nat]
   have e:(!decide (x.id=((x::l)[0]).id))=false:=by simp
   rw[List.filter_cons,e]
   show l=_
   rw[if_neg Bool.false_ne_true,List.filter_eq_self.2]
   intro y hy
   have:=h1 y hy
   have:¬ y.id=x.id:=by omega
   simpa using this
 | x :: l,k + 1,h,hp => by
   obtain⟨h1,h2⟩:=List.pairwise_cons.1 hp
   have hk:k<l.length:=by simpa using h
   have ih:=skip_id l k hk h2
   rw[skipL_nat] at ih ⊢
   have:=h1 _ (List.getElem_mem hk)
   have e:(!decide (x.id=((x::l)[k+1]).id))=true:=by
    have:¬ x.id=l[k].id:=by omega
    simpa using this
   rw[List.filter_cons,e,if_pos rfl,List.eraseIdx_cons_succ,ih]
   rfl
end Own
end
section
open Go Go.RowKit Go.Maps
theorem r53validSpace_any (v:Value) (s:Own.Space) (w:World) (h:Own.MembersC w v s.members) (hl:s.members.length<=140737488355328) (hp:s.pre.size<=140737488355328):
 Calls Tryz.prog 102 #[.agg #[.string s.pre,v,.int .i64 s.threshold]] w fun e w' => e=.returned (.bool (Own.spaceOK s))/\Below w.heap.size w w' :=by
 obtain⟨R,hR⟩:∃ R,R=Own.spaceOK s:=⟨_,rfl⟩
 rw[<- hR]
 unfold Own.spaceOK at hR
 obtain⟨a,c,rfl⟩:=h.len
 have F1:=zh (show Boxes w (w.alloc (.cells #[.string s.pre,.slice a s.members.length c,.int .i64 s.threshold] 70)) [(70,#[.string s.pre,.slice a s.members.length c,.int .i64 s.threshold])] from((Fresh.nil w).push 70 #[.string s.pre,.slice a s.members.length c,.int .i64 s.threshold]).boxes)
 have HR:=zh hR;have HL:=zh h
 clear hR h
 have x00:(w.alloc (.cells #[.string s.pre,.slice a s.members.length c,.int .i64 s.threshold] 70)).cell? ⟨w.heap.size,0,none⟩=some (.string s.pre):=F1.out.cell 0 0 rfl rfl
 have x01:(w.alloc (.cells #[.string s.pre,.slice a s.members.length c,.int .i64 s.threshold] 70)).cell? ⟨w.heap.size,1,none⟩=some (.slice a s.members.length c):=F1.out.cell 0 1 rfl rfl
 have x02:(w.alloc (.cells #[.string s.pre,.slice a s.members.length c,.int .i64 s.threshold] 70)).cell? ⟨w.heap.size,2,none⟩=some (.int .i64 s.threshold):=F1.out.cell 0 2 rfl rfl
 go_enter Tryz.func102,Tryz.ntmps102
 go_wp2_with fail
 generalize w.alloc (.cells #[.string s.pre,.slice a s.members.length c,.int .i64 s.threshold] 70)=w1 at*
 refine(r53Path_any s.pre w1 (by omega)).mono ?_
 rintro e w2 ⟨rfl,rfl⟩
 cases hp:Own.pathOK s.pre with
 | false =>
   have e:R=false:=by rw[HR.out,hp];rfl
   have HE:=zh e;clear e
   go_wp2_with fail
   go_ret
   exact⟨by rw[HE.out];rfl,F1.out.under⟩
 | true=>
 go_wp2_with fail
 refine(r53validMembers_any _ s.members w2 (HL.out.below F1.out.under) hl).mono ?_
 rintro e w3 ⟨rfl,hb3⟩
 have F3:=zh (F1.out.step hb3)
 clear hb3
 (try clear x00);(try clear x01);(try clear x02)
 obtain⟨x00,x01,x02⟩:=F3.out.d0_3 rfl
 cases hm:Own.membersOK s.members with
 | false =>
   have e:R=false:=by rw[HR.out,hm];simp
   have HE:=zh e;clear e
   go_wp2_with fail
   go_ret
   exact⟨by rw[HE.out];rfl,F3.out.under⟩
 | true=>
 have e:R=(decide (1<=s.threshold)&&decide (s.threshold<=s.members.length)):=by rw[HR.out,hp,hm];simp
 have HE:=zh e;clear e
 by_cases h1:1<=s.threshold
 ·have d1:decide (1<=s.threshold)=true:=decide_eq_true h1
  have e:R=decide (s.threshold<=s.members.length):=by rw[HE.out,d1];rfl
  have HE2:=zh e;clear e
  go_wp2_with fail
  go_ret
  exact⟨by rw[HE2.out];rfl,F3.out.under⟩
 ·have d1:decide (1<=s.threshold)=false:=decide_eq_false h1
  have e:R=false:=by rw[HE.out,d1];rfl
  have HE2:=zh e;clear e
  go_wp2_with fail
  go_ret
  exact⟨by rw[HE2.out];rfl,F3.out.under⟩
theorem r53Valid_any (o:Own.Owners) (sv kv:Value) (w:World) (hS:Own.SpacesC w sv o.spaces) (hK:Own.KeysC w kv o.keys) (hls:o.spaces.length<=140737488355328) (hlk:o.keys.length<=140737488355328) (hlm:∀ s∈o.spaces,s.members.length<=140737488355328/\s.pre.size<=140737488355328):
 Calls Tryz.prog 67 #[.agg #[.int .i64 o.count,sv,kv]] w fun e w' => e=.returned (.bool (Own.ownersOK o))/\Below w.heap.size w w' :=by
 obtain⟨R,hR⟩:∃ R,R=Own.ownersOK o:=⟨_,rfl⟩
 rw[<- hR]
 unfold Own.ownersOK Own.late at hR
 obtain⟨sa,sc,rfl⟩:=hS.len
 obtain⟨ka,kc,rfl⟩:=hK.len
 obtain⟨cnt,S,K⟩:=o
 dsimp only at*
 have ha:=At.new w 38 #[.int .i64 cnt,.slice sa S.length sc,.slice ka K.length kc]
 have hb1:Below w.heap.size w (w.alloc (.cells #[.int .i64 cnt,.slice sa S.length sc,.slice ka K.length kc] 38)):=(Below.refl _ _).alloc (Nat.le_refl _) _
 have HR:=zh hR;have HS:=zh (hS.below hb1);have HK:=zh (hK.below hb1);have HB:=zh hb1;have HA:=zh ha;have HLM:=zh hlm
 have c0:=ha.cell 0;have c1:=ha.cell 1;have c2:=ha.cell 2
 simp only[List.getElem?_toArray,List.getElem?_cons_zero,List.getElem?_cons_succ] at c0 c1 c2
 clear hR hS hK ha hb1 hlm
 go_enter Tryz.func67,Tryz.ntmps67
 by_cases h1:0<=cnt
 case neg=>
  have d1:decide (cnt<0)=true:=decide_eq_true (by omega)
  have e:R=false:=by rw[HR.out,decide_eq_false h1];rfl
  have HE:=zh e;clear e
  go_wp2_with fail
  go_ret
  exact⟨by rw[HE.out];rfl,HB.out⟩
 have d1:decide (cnt<0)=false:=decide_eq_false (by omega)
 by_cases h2:cnt<=1099511627776
 case neg=>
  have d2:decide (1099511627776<cnt)=true:=decide_eq_true (by omega)
  have e:R=false:=by rw[HR.out,decide_eq_false h2];simp
  have HE:=zh e;clear e
  go_wp2_with fail
  go_ret
  exact⟨by rw[HE.out];rfl,HB.out⟩
 have d2:decide (1099511627776<cnt)=false:=decide_eq_false (by omega)
 by_cases h3:S.length<=64
 case neg=>
  have d3:decide ((64:Int)<S.length)=true:=decide_eq_true (by omega)
  have e:R=false:=by rw[HR.out,decide_eq_false h3];simp
  have HE:=zh e;clear e
  go_wp2_with fail
  go_ret
  exact⟨by rw[HE.out];rfl,HB.out⟩
 have d3:decide ((64:Int)<S.length)=false:=decide_eq_false (by omega)
 have e:R=(Own.chainOK Own.spaceOK (fun x y=>Own.lessB x.pre y.pre) none S&&Own.chainOK Own.keyOK (fun x y=>Own.lessB x.pub y.pub) none K):=by
  rw[HR.out,decide_eq_true h1,decide_eq_true h2,decide_eq_true h3];simp
 have HR2:=zh e;clear e HR
 go_wp2_with fail
 generalize w.alloc (.cells #[.int .i64 cnt,.slice sa S.length sc,.slice ka K.length kc] 38)=w1 at*
 clear d1 d2 d3 h1 h2
 go_loopw [3] (fun i wr=>∃ k:Nat,k<=S.length/\i=.int .i64 k/\Own.chainOK Own.spaceOK (fun x y=>Own.lessB x.pre y.pre) none (S.take k)=true/\Below w1.heap.size w1 wr) (fun i _=>S.length - (intOf i).toNat)
 case atStart=>exact⟨0,by omega,rfl,rfl,Below.refl _ _⟩
 case round=>
  obtain⟨k,hk,rfl,hok,hb⟩:=hrel
  have HOK:=zh hok;have HBW:=zh hb
  have hz1:=HA.out.lt
  have hbs:=hb.size
  have ha2:=HA.out.below hb hz1
  obtain⟨c0,c1,c2⟩:=ha2.c3
  clear ha2
  by_cases hlt:k<S.length
  case neg=>
   have hke:k=S.length:=by omega
   have dk:decide ((k:Int)<S.length)=false:=decide_eq_false (by omega)
   have e:R=Own.chainOK Own.keyOK (fun x y=>Own.lessB x.pub y.pub) none K:=by
    rw[HR2.out]
    rw[hke,List.take_length] at hok
    rw[hok,Bool.true_and]
   have HR3:=zh e
   have HKW:=zh (HK.out.below hb)
   have HB2:=zh (HB.out.trans (hb.mono HB.out.size))
   have HA2:=zh (HA.out.below hb hz1)
   clear e hok hke hb HR2 HK HB HA HOK HBW HS
   go_wp2_with fail
   have hzw:w.heap.size<wr.heap.size:=by omega
   clear dk
   obtain⟨w5,hw5⟩:∃ w5,w5=wr:=⟨_,rfl⟩
   subst hw5
   go_loopw [4] (fun i wr=>∃ j:Nat,j<=K.length/\i=.int .i64 j/\Own.chainOK Own.keyOK (fun x y=>Own.lessB x.pub y.pub) none (K.take j)=true/\Below w5.heap.size w5 wr) (fun i _=>K.length - (intOf i).toNat)
   case atStart=>exact⟨0,by omega,rfl,rfl,Below.refl _ _⟩
   case round=>
    obtain⟨j,hj,rfl,hok,hb⟩:=hrel
    have HBX:=zh hb
    have ha2:=HA2.out.below hb hzw
    obtain⟨c0,c1,c2⟩:=ha2.c3
    clear ha2
    by_cases hlt:j<K.length
    case neg=>
     have hje:j=K.length:=by omega
     have dk:decide ((j:Int)<K.length)=false:=decide_eq_false (by omega)
     have e:R=true:=by rw[HR3.out,<- hok,hje,List.take_length]
     have HE:=zh e;clear e hok hb hje
     go_wp2_with fail
     go_ret
     exact⟨by rw[HE.out];rfl,HB2.out.trans (HBX.out.mono HB2.out.size)⟩
    have dk:decide ((j:Int)<K.length)=true:=decide_eq_true (by omega)
    have hra:R=((Own.keyOK K[j]&&Own.ahead (fun x y=>Own.lessB x.pub y.pub) (K.take j).getLast? K[j])&&Own.chainOK Own.keyOK (fun x y=>Own.lessB x.pub y.pub) (some K[j]) (K.drop (j+1))):=by rw[HR3.out,Own.chainOK_at _ _ K j hlt,hok,Bool.true_and]
    have htk:Own.chainOK Own.keyOK (fun x y=>Own.lessB x.pub y.pub) none (K.take (j+1))=(Own.keyOK K[j]&&Own.ahead (fun x y=>Own.lessB x.pub y.pub) (K.take j).getLast? K[j]):=by rw[Own.chainOK_take _ _ K j hlt,hok,Bool.true_and]
    have hlk:=HKW.out.below hb
    obtain⟨b,o,ha,hbl,e0,e1⟩:=Own.KeysC.cells hlk hlt
    have hprev:∀ i,j=i+1->∃ x:Own.KeyUse,wr.cell? ⟨b,o+i*2,none⟩=some (.string x.pub)/\(K.take j).getLast? = some x:=by
     intro i hi
     obtain⟨b',o',ha',_,e0,_⟩:=Own.KeysC.cells hlk (i:=i) (by omega)
     rw[ha] at ha'
     cases ha'
     have hg:=Own.getLast_take K i (by omega)
     rw[<- hi] at hg
     exact⟨_,e0,hg⟩
    subst ha
    obtain⟨ku,hku⟩:∃ x,x=K[j]:=⟨_,rfl⟩
    rw[<- hku] at hra htk e0 e1
    obtain⟨rest,hrest⟩:∃ x,x=Own.chainOK Own.keyOK (fun x y=>Own.lessB x.pub y.pub) (some ku) (K.drop (j+1)):=⟨_,rfl⟩
    rw[<- hrest] at hra
    obtain⟨pb,nx⟩:=ku
    have hkk:Own.keyOK ⟨pb,nx⟩=(Sig.public_ pb&&decide (0<=nx)&&decide (nx<=2^(pb.get! 32).toNat)):=rfl
    rw[hkk] at hra htk
    dsimp only at hra htk e0 e1
    have hb5:Below w5.heap.size w5 (wr.alloc (.cells #[.string pb,.int .i64 nx] 91)).drew:=(hb.alloc hb.size _).drew
    have ha5:=((HA2.out.below hb hzw).alloc (.cells #[.string pb,.int .i64 nx] 91)).drew
    have b2:=ha5.cell 2
    simp only[List.getElem?_toArray,List.getElem?_cons_zero,List.getElem?_cons_succ] at b2
    have HPREV:=zh hprev;have HB5:=zh hb5
    clear hok hb hlk hprev hb5 ha5 hrest hku hkk HKW
    cases hp:Sig.public_ pb with
    | false =>
      have e:R=false:=by rw[hra,hp];rfl
      have HE:=zh e;clear e hra htk
      go_wp2_with fail
      refine Lex.wp_region_lex (by kernel_rfl) (by kernel_rfl) ?_
      go_wp2_with fail
      refine(r47ValidPublic_any pb _).mono ?_
      rintro e2 w2 ⟨rfl,rfl⟩
      rw[hp]
      go_wp2_with fail
      refine Lex.Ends.intro (by kernel_rfl) ?_
      go_wp2_with fail
      go_ret
      exact⟨by rw[HE.out];rfl,HB2.out.trans (HB5.out.mono HB2.out.size)⟩
    | true=>
    rw[hp,Bool.true_and] at hra htk
    have h33:pb.size=33:=of_decide_eq_true (Bool.and_eq_true_iff.1 hp).1
    have h6:(pb.get! 32).toNat<=6:=of_decide_eq_true (Bool.and_eq_true_iff.1 hp).2
    have h32:32<pb.size:=by omega
    have hg:pb.get! 32=pb[32]:=getElem!_pos pb.data 32 h32
    rw[hg] at h6 hra htk
    obtain⟨N,hN⟩:∃ N:Nat,N=2^pb[32].toNat:=⟨_,rfl⟩
    have hN64:N<=64:=by
     rw[hN]
     exact Nat.le_trans (Nat.pow_le_pow_right (by omega) h6) (by decide)
    have hNN:((2:Int)^pb[32].toNat)=(N:Int):=by rw[hN];exact(Int.natCast_pow 2 _).symm
    have hsh:wrap64 ((2:Int)^pb[32].toNat)=(N:Int):=by
     rw[hNN]
     unfold wrap64
     omega
    rw[hNN] at hra htk
    have H33:=zh h33;have HHP:=zh hp;have HSH:=zh hsh
    clear hN hNN hg h33 hp hsh
    have dsz:((pb.size:Int)==33)=true:=by rw[beq_iff_eq];have:=H33.out;omega
    by_cases n1:0<=nx
    case neg=>
     have dn1:decide (nx<0)=true:=decide_eq_true (by omega)
     have e:R=false:=by rw[hra,decide_eq_false n1];rfl
     have HE:=zh e;clear e hra htk
     go_wp2_with fail
     refine Lex.wp_region_lex (by kernel_rfl) (by kernel_rfl) ?_
     go_wp2_with fail
     refine(r47ValidPublic_any pb _).mono ?_
     rintro e2 w2 ⟨rfl,rfl⟩
     rw[HHP.out]
     go_wp2_with (rw[HSH.out])
     refine Lex.Ends.intro (by kernel_rfl) ?_
     go_wp2_with fail
     go_ret
     exact⟨by rw[HE.out];rfl,HB2.out.trans (HB5.out.mono HB2.out.size)⟩
    have dn1:decide (nx<0)=false:=decide_eq_false (by omega)
    rw[decide_eq_true n1,Bool.true_and] at hra htk
    by_cases n2:nx<=(N:Int)
    case neg=>
     have dn2:decide ((N:Int)<nx)=true:=decide_eq_true (by omega)
     have e:R=false:=by rw[hra,decide_eq_false n2];rfl
     have HE:=zh e;clear e hra htk n1 n2
     go_wp2_with fail
     refine Lex.wp_region_lex (by kernel_rfl) (by kernel_rfl) ?_
     go_wp2_with fail
     refine(r47ValidPublic_any pb _).mono ?_
     rintro e2 w2 ⟨rfl,rfl⟩
     rw[HHP.out]
     go_wp2_with (rw[HSH.out])
     refine Lex.Ends.intro (by kernel_rfl) ?_
     go_wp2_with fail
     go_ret
     exact⟨by rw[HE.out];rfl,HB2.out.trans (HB5.out.mono HB2.out.size)⟩
    have dn2:decide ((N:Int)<nx)=false:=decide_eq_false (by omega)
    rw[decide_eq_true n2,Bool.true_and] at hra htk
    rcases Nat.eq_zero_or_pos j with hj0 | hjp
    ·have hl0:(K.take j).getLast? = none:=by rw[hj0];rfl
     rw[hl0] at htk
     have HT:=zh htk
     have HJ0:=zh hj0
     have dz:decide ((0:Int)<(j:Int))=false:=decide_eq_false (by omega)
     have dz' : decide (0<j)=false:=decide_eq_false (by omega)
     clear hl0 hra htk hj0
     go_wp2_with fail
     refine Lex.wp_region_lex (by kernel_rfl) (by kernel_rfl) ?_
     go_wp2_with fail
     refine(r47ValidPublic_any pb _).mono ?_
     rintro e2 w2 ⟨rfl,rfl⟩
     rw[HHP.out]
     go_wp2_with (rw[HSH.out])
     refine Lex.Ends.intro (by kernel_rfl) ?_
     go_wp2_with fail
     exact⟨⟨j+1,by omega,by go_num,HT.out,HB5.out⟩,by simp[intOf];omega⟩
    ·obtain⟨i,hi⟩:∃ i,j=i+1:=⟨j - 1,by omega⟩
     obtain⟨x,f0,hx⟩:=HPREV.out i hi
     rw[hx] at hra htk
     have hra3:R=(Own.lessB x.pub pb&&rest):=hra
     have htk3:Own.chainOK Own.keyOK (fun x y=>Own.lessB x.pub y.pub) none (K.take (j+1))=Own.lessB x.pub pb:=htk
     unfold Own.lessB at hra3
     have dz:decide ((0:Int)<(j:Int))=true:=decide_eq_true (by omega)
     have dz' : decide (0<j)=true:=decide_eq_true (by omega)
     have ek:(j:Int) - 1=(i:Int):=by omega
     have hjl:i<K.length:=by omega
     have f1:(wr.alloc (.cells #[.string pb,.int .i64 nx] 91)).cell? ⟨b,o+i*2,none⟩=some (.string x.pub):=(((Below.refl wr.heap.size wr).alloc (Nat.le_refl _) _).cell (p:=⟨b,o+i*2,none⟩) hbl).trans f0
     cases hlb:Op.bytesLess x.pub.toList pb.toList with
     | false =>
       have e:R=false:=by rw[hra3,hlb];rfl
       have HE:=zh e;clear e hra htk hra3 htk3 hx f0 hi
       go_wp2_with fail
       refine Lex.wp_region_lex (by kernel_rfl) (by kernel_rfl) ?_
       go_wp2_with fail
       refine(r47ValidPublic_any pb _).mono ?_
       rintro e2 w2 ⟨rfl,rfl⟩
       rw[HHP.out]
       go_wp2_with (rw[HSH.out])
       refine Lex.Ends.intro (by kernel_rfl) ?_
       go_wp2_with fail
       go_ret
       exact⟨by rw[HE.out];rfl,HB2.out.trans (HB5.out.mono HB2.out.size)⟩
     | true =>
       have htk4:Own.chainOK Own.keyOK (fun x y=>Own.lessB x.pub y.pub) none (K.take (j+1))=true:=by rw[htk3];exact hlb
       have HT:=zh htk4
       clear hra htk hra3 htk3 htk4 hx f0 hi
       go_wp2_with fail
       refine Lex.wp_region_lex (by kernel_rfl) (by kernel_rfl) ?_
       go_wp2_with fail
       refine(r47ValidPublic_any pb _).mono ?_
       rintro e2 w2 ⟨rfl,rfl⟩
       rw[HHP.out]
       go_wp2_with (rw[HSH.out])
       refine Lex.Ends.intro (by kernel_rfl) ?_
       go_wp2_with fail
       exact⟨⟨j+1,by omega,by go_num,HT.out,HB5.out⟩,by simp[intOf];omega⟩
  have dk:decide ((k:Int)<S.length)=true:=decide_eq_true (by omega)
  have hra:R=(((Own.spaceOK S[k]&&Own.ahead (fun x y=>Own.lessB x.pre y.pre) (S.take k).getLast? S[k])&&Own.chainOK Own.spaceOK (fun x y=>Own.lessB x.pre y.pre) (some S[k]) (S.drop (k+1)))&&Own.chainOK Own.keyOK (fun x y=>Own.lessB x.pub y.pub) none K):=by rw[HR2.out,Own.chainOK_at _ _ S k hlt,hok,Bool.true_and]
  have htk:Own.chainOK Own.spaceOK (fun x y=>Own.lessB x.pre y.pre) none (S.take (k+1))=(Own.spaceOK S[k]&&Own.ahead (fun x y=>Own.lessB x.pre y.pre) (S.take k).getLast? S[k]):=by rw[Own.chainOK_take _ _ S k hlt,hok,Bool.true_and]
  have hlk:=HS.out.below hb
  obtain⟨b,o,mv,ha,hbl,e0,e1,e2,hmv⟩:=Own.SpacesC.cells hlk hlt
  have hprev:∀ i,k=i+1->∃ x:Own.Space,wr.cell? ⟨b,o+i*3,none⟩=some (.string x.pre)/\(S.take k).getLast? = some x:=by
   intro i hi
   obtain⟨b',o',_,ha',_,e0,_⟩:=Own.SpacesC.cells hlk (i:=i) (by omega)
   rw[ha] at ha'
   cases ha'
   have hg:=Own.getLast_take S i (by omega)
   rw[<- hi] at hg
   exact⟨_,e0,hg⟩
  subst ha
  have hml:=HLM.out S[k] (List.getElem_mem hlt)
  obtain⟨sp,hsp⟩:∃ x,x=S[k]:=⟨_,rfl⟩
  rw[<- hsp] at hra htk e0 e2 hmv hml
  obtain⟨rest,hrest⟩:∃ x,x=(Own.chainOK Own.spaceOK (fun x y=>Own.lessB x.pre y.pre) (some sp) (S.drop (k+1))&&Own.chainOK Own.keyOK (fun x y=>Own.lessB x.pub y.pub) none K):=⟨_,rfl⟩
  rw[Bool.and_assoc,<- hrest] at hra
  obtain⟨ma,mc,rfl⟩:=hmv.len
  have hb56:Below wr.heap.size wr wr.drew:=(Below.refl _ _).drew
  have hsp5:=r53validSpace_any (.slice ma sp.members.length mc) sp wr.drew (hmv.below hb56) hml.1 hml.2
  have HSP5:=zh hsp5;have HPREV:=zh hprev;have HB56:=zh hb56
  have hbr:=hb
  clear hok hb hlk hprev hb56 hsp5 hrest hsp hmv
  cases hs:Own.spaceOK sp with
  | false =>
    have e:R=false:=by rw[hra,hs];rfl
    have HE:=zh e;clear e hra htk
    go_wp2_with fail
    refine Lex.wp_region_lex (by kernel_rfl) (by kernel_rfl) ?_
    go_wp2_with fail
    refine HSP5.out.mono ?_
    rintro e2 w7 ⟨rfl,hb7⟩
    rw[hs]
    have HB7:=zh (HB.out.trans ((hbr.trans ((HB56.out.trans (hb7.mono HB56.out.size)).mono hbr.size)).mono HB.out.size));clear hb7 hbr
    go_wp2_with fail
    refine Lex.Ends.intro (by kernel_rfl) ?_
    go_wp2_with fail
    go_ret
    exact⟨by rw[HE.out];rfl,HB7.out⟩
  | true=>
  rw[hs,Bool.true_and] at hra htk
  have HHS:=zh hs;clear hs
  rcases Nat.eq_zero_or_pos k with hk0 | hkp
  ·have hl0:(S.take k).getLast? = none:=by rw[hk0];rfl
   rw[hl0] at htk
   have htk' : Own.chainOK Own.spaceOK (fun x y=>Own.lessB x.pre y.pre) none (S.take (k+1))=true:=htk
   have HT:=zh htk'
   have HK0:=zh hk0
   have dz:decide ((0:Int)<(k:Int))=false:=decide_eq_false (by omega)
   have dz' : decide (0<k)=false:=decide_eq_false (by omega)
   clear hl0 hra htk htk' hk0
   go_wp2_with fail
   refine Lex.wp_region_lex (by kernel_rfl) (by kernel_rfl) ?_
   go_wp2_with fail
   refine HSP5.out.mono ?_
   rintro e3 w7 ⟨rfl,hb7⟩
   rw[HHS.out]
   have hb57:=HB56.out.trans (hb7.mono HB56.out.size)
   have g1:=((HA.out.below (hbr.trans (hb57.mono hbr.size)) hz1)).cell 1
   have g0:=(hb57.cell (p:=⟨b,o+k*3,none⟩) hbl).trans e0
   simp only[List.getElem?_toArray,List.getElem?_cons_zero,List.getElem?_cons_succ] at g1
   try have f1:=(hb57.cell (p:=⟨b,o+i*3,none⟩) hbl).trans F0.out
   have HB7:=zh (hbr.trans (hb57.mono hbr.size));clear hb7 hb57 hbr
   go_wp2_with fail
   refine Lex.Ends.intro (by kernel_rfl) ?_
   go_wp2_with fail
   exact⟨⟨k+1,by omega,by go_num,HT.out,HB7.out⟩,by simp[intOf];omega⟩
  ·obtain⟨i,hi⟩:∃ i,k=i+1:=⟨k - 1,by omega⟩
   obtain⟨x,f0,hx⟩:=HPREV.out i hi
   rw[hx] at hra htk
   have hra3:R=(Own.lessB x.pre sp.pre&&rest):=hra
   have htk3:Own.chainOK Own.spaceOK (fun x y=>Own.lessB x.pre y.pre) none (S.take (k+1))=Own.lessB x.pre sp.pre:=htk
   have dz:decide ((0:Int)<(k:Int))=true:=decide_eq_true (by omega)
   have dz' : decide (0<k)=true:=decide_eq_true (by omega)
   have ek:(k:Int) - 1=(i:Int):=by omega
   have hjl:i<S.length:=by omega
   have F0:=zh f0
   cases hlb:Own.lessB x.pre sp.pre with
   | false =>
     have e:R=false:=by rw[hra3,hlb];rfl
     have HE:=zh e
     have hlb' : Op.bytesLess x.pre.toList sp.pre.toList=false:=hlb
     clear e hra htk hra3 htk3 hx f0 hi hlb
     go_wp2_with fail
     refine Lex.wp_region_lex (by kernel_rfl) (by kernel_rfl) ?_
     go_wp2_with fail
     refine HSP5.out.mono ?_
     rintro e3 w7 ⟨rfl,hb7⟩
     rw[HHS.out]
     have hb57:=HB56.out.trans (hb7.mono HB56.out.size)
     have g1:=((HA.out.below (hbr.trans (hb57.mono hbr.size)) hz1)).cell 1
     have g0:=(hb57.cell (p:=⟨b,o+k*3,none⟩) hbl).trans e0
     simp only[List.getElem?_toArray,List.getElem?_cons_zero,List.getElem?_cons_succ] at g1
     try have f1:=(hb57.cell (p:=⟨b,o+i*3,none⟩) hbl).trans F0.out
     have HB7:=zh (hbr.trans (hb57.mono hbr.size));clear hb7 hb57 hbr
     go_wp2_with fail
     refine Lex.Ends.intro (by kernel_rfl) ?_
     go_wp2_with fail
     go_ret
     exact⟨by rw[HE.out];rfl,HB.out.trans (HB7.out.mono HB.out.size)⟩
   | true =>
     rw[hlb] at htk3
     have HT:=zh htk3
     have hlb' : Op.bytesLess x.pre.toList sp.pre.toList=true:=hlb
     clear hra htk hra3 htk3 hx f0 hi hlb
     go_wp2_with fail
     refine Lex.wp_region_lex (by kernel_rfl) (by kernel_rfl) ?_
     go_wp2_with fail
     refine HSP5.out.mono ?_
     rintro e3 w7 ⟨rfl,hb7⟩
     rw[HHS.out]
     have hb57:=HB56.out.trans (hb7.mono HB56.out.size)
     have g1:=((HA.out.below (hbr.trans (hb57.mono hbr.size)) hz1)).cell 1
     have g0:=(hb57.cell (p:=⟨b,o+k*3,none⟩) hbl).trans e0
     simp only[List.getElem?_toArray,List.getElem?_cons_zero,List.getElem?_cons_succ] at g1
     try have f1:=(hb57.cell (p:=⟨b,o+i*3,none⟩) hbl).trans F0.out
     have HB7:=zh (hbr.trans (hb57.mono hbr.size));clear hb7 hb57 hbr
     go_wp2_with fail
     refine Lex.Ends.intro (by kernel_rfl) ?_
     go_wp2_with fail
     exact⟨⟨k+1,by omega,by go_num,HT.out,HB7.out⟩,by simp[intOf];omega⟩
end
end Go.Proofs.YtnijhlphcjjpbaaGreatDoor
