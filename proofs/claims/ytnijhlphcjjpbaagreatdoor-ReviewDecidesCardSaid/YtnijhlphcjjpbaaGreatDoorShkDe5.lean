/- The program's reviews: one member's vote is used up; The program's reviews: which proposals and queues are valid; what is looked for; The program's reviews: valid queues, what is found, a copy; The program's reviews: a copy of a proposal; The program's reviews: the proposals that are kept; The program's reviews: what is withdrawn, what expires; The reference's reviews: copies of proposals, queues without one, what expires; The reference's reviews: queues without a proposal, what expires, what is withdrawn; The laws' own space: one space of n members; The roots of the keys with the seeds 0 to 5, reckoned by the kernel; Keys with the seeds 0 to 5 have different public keys; Keys with the seeds. -/
import Derived.Test.YtnijhlphcjjpbaaGreatDoorShkDe2
import Derived.Test.YtnijhlphcjjpbaaGreatDoorShkDe3
import Derived.Test.YtnijhlphcjjpbaaGreatDoorShkDe4
set_option linter.unusedVariables false
set_option linter.unusedSimpArgs false
set_option maxRecDepth 100000
set_option maxHeartbeats 8000000
namespace Go.Proofs.YtnijhlphcjjpbaaGreatDoor
section
open Go Go.RowKit Go.Maps
namespace Own
theorem bestF_belongs (s:ByteArray):∀ (l:List Space) (b:Option Space) (x:Space),bestF s b l=some x->belongs s x.pre=true\/b=some x
 | [],b,x,h=>.inr h
 | y :: l,b,x,h => by
   rw[bestF_cons] at h
   rcases bestF_belongs s l _ x h with h | h
   ·exact .inl h
   ·unfold stepB at h
    split at h
    ·rename_i hc
     cases h
     exact .inl (Bool.and_eq_true_iff.1 hc).1
    ·exact .inr h
theorem authority_some {o:Owners} {s:ByteArray} {x:Space} (h:authority o s=some x):ownersOK o=true/\pathOK s=true/\belongs s x.pre=true/\x∈o.spaces:=by
 have hm:=authority_mem h
 unfold authority at h
 split at h
 ·rename_i hc
  obtain⟨h1,h2⟩:=Bool.and_eq_true_iff.1 hc
  rcases bestF_belongs s _ _ x h with h3 | h3
  ·exact⟨h1,h2,h3,hm⟩
  ·cases h3
 ·cases h
theorem membersFrom_each:∀ (pre l:List Member),membersFrom pre l=true->∀ m∈l,nameOK m.name=true/\Sig.public_ m.pub=true
 | _,[],_,m,hm=>by cases hm
 | pre,x :: l,h,m,hm => by
   have h' : (memberOK pre x&&membersFrom (pre++[x]) l)=true:=h
   obtain⟨h1,h2⟩:=Bool.and_eq_true_iff.1 h'
   rcases List.mem_cons.1 hm with rfl | hm
   ·unfold memberOK at h1
    simp only[Bool.and_eq_true] at h1
    exact⟨h1.1.1.1,h1.1.1.2⟩
   ·exact membersFrom_each _ l h2 m hm
def alone (o:Owners) (s:Space) (m:Member):Owners :={ o with spaces:=[⟨s.pre,[m],1⟩] }
theorem alone_ok {o:Owners} {s:Space} {m:Member} (ho:ownersOK o=true) (hs:spaceOK s=true) (hm:m∈s.members):ownersOK (alone o s m)=true:=by
 have hp:=SpOK.of hs
 obtain⟨h1,h2⟩:=membersFrom_each _ _ hp.mem m hm
 have hsp:spaceOK ⟨s.pre,[m],1⟩=true:=by
  unfold spaceOK membersOK membersFrom membersFrom memberOK
  simp[hp.path,h1,h2]
 unfold ownersOK alone at*
 simp only[Bool.and_eq_true] at ho ⊢
 obtain⟨⟨⟨⟨a1,a2⟩,a3⟩,a4⟩,a5⟩:=ho
 refine⟨⟨⟨⟨a1,a2⟩,by simp⟩,?_⟩,a5⟩
 simp[chainOK,hsp]
theorem alone_authority {o:Owners} {s:Space} {m:Member} {p:ByteArray} (ho:ownersOK o=true) (hs:spaceOK s=true) (hm:m∈s.members) (hp:pathOK p=true) (hb:belongs p s.pre=true):authority (alone o s m) p=some ⟨s.pre,[m],1⟩:=by
 unfold authority
 rw[alone_ok ho hs hm,hp]
 show bestF p none [⟨s.pre,[m],1⟩]=_
 rw[bestF_cons]
 unfold stepB
 rw[show belongs p (⟨s.pre,[m],1⟩:Space).pre=true from hb]
 rfl
theorem alone_approve {o:Owners} {s:Space} {m:Member} {p msg:ByteArray} {a:Approval} (ho:ownersOK o=true) (hs:spaceOK s=true) (hm:m∈s.members) (hp:pathOK p=true) (hb:belongs p s.pre=true) (hn:m.name=a.name):
 approveO (alone o s m) p msg [a]=if Sig.verify m.pub msg a.sig then (if a.sig.index<nextOf o.keys m.pub then .error 8 else .ok (use o.keys ⟨m.pub,a.sig.index+1⟩)) else .error 18:=by
 unfold approveO
 rw[if_pos (alone_ok ho hs hm),alone_authority ho hs hm hp hb]
 have hf:find [m] a.name=some m:=by unfold find;rw[List.find?_cons_of_pos (by simpa using hn)]
 have hA:approveF ⟨s.pre,[m],1⟩ msg [] (alone o s m).keys [a]=if Sig.verify m.pub msg a.sig then (if a.sig.index<nextOf o.keys m.pub then .error 8 else .ok (use o.keys ⟨m.pub,a.sig.index+1⟩)) else .error 18:=by
  unfold approveF
  rw[hf]
  rfl
 dsimp only
 rw[hA]
 cases Sig.verify m.pub msg a.sig with
 | false=>rfl
 | true =>
   by_cases h:a.sig.index<nextOf o.keys m.pub
   ·rw[if_pos rfl,if_pos h]
   ·rw[if_pos rfl,if_neg h];rfl
def usedR (o:Owners) (s:Space) (msg:ByteArray) (a:Approval):Except Int (Member × List KeyUse):=match find s.members a.name with
 | none=>.error 6
 | some m=>if Sig.verify m.pub msg a.sig then (if a.sig.index<nextOf o.keys m.pub then .error 8 else .ok (m,use o.keys ⟨m.pub,a.sig.index+1⟩)) else .error 18
theorem SpRow.setM {w:World} {g k:Nat} {F:Nat->Prop} {S:List Space} (h:SpRow w g F S) (hF:∀ k,F k->k≠g) (hk:k<S.length) (v' : Value) (hv:ListF 2 RMember F w v' S[k].members):
 SpRow (w.setCell ⟨g,k*3+1,none⟩ v') g F S:=by
 obtain⟨cur,vs,h1,h2⟩:=h.row
 have keep:∀ (l:List Member) (v:Value),ListF 2 RMember F w v l->ListF 2 RMember F (w.setCell ⟨g,k*3+1,none⟩ v') v l:=fun l v hl=>
  hl.keep (by simp[World.setCell]) (fun j hj _=>heap_setCell_other _ _ _ _ (hF j hj))
 refine⟨_,fun i=>if i=k then v' else vs i,h1.set (k*3+1) _,fun i hi=>?_⟩
 obtain⟨a,b,d,e⟩:=h2 i hi
 by_cases hik:i=k
 ·subst hik
  have s1:=(Array.getElem?_eq_some_iff.1 b).1
  refine⟨?_,?_,?_,?_⟩
  ·rw[Array.getElem?_setIfInBounds_ne (by omega)];exact a
  ·show _=some (if i=i then v' else vs i)
   rw[Array.getElem?_setIfInBounds_self_of_lt s1,if_pos rfl]
  ·rw[Array.getElem?_setIfInBounds_ne (by omega)];exact d
  ·show ListF _ _ _ _ (if i=i then v' else vs i) _
   rw[if_pos rfl];exact keep _ _ hv
 ·refine⟨?_,?_,?_,?_⟩
  ·rw[Array.getElem?_setIfInBounds_ne (by omega)];exact a
  ·show _=some (if i=k then v' else vs i)
   rw[Array.getElem?_setIfInBounds_ne (by omega),if_neg hik];exact b
  ·rw[Array.getElem?_setIfInBounds_ne (by omega)];exact d
  ·show ListF _ _ _ _ (if i=k then v' else vs i) _
   rw[if_neg hik];exact keep _ _ e
end Own
theorem rvUsed1_any (x:Own.Member) (g:Nat) (nm:ByteArray) (w:World) (hc:w.cell? ⟨g,0,none⟩=some (.string nm)):
 Calls Tryz.prog 96 (#[.agg #[.string x.name,.string x.pub]]++#[.pointer (some ⟨g,0,none⟩)]) w fun e w' => e=.returned (.bool (decide (x.name=nm)))/\Below w.heap.size w w' :=by
 obtain⟨R,hR⟩:∃ R,R=decide (x.name=nm):=⟨_,rfl⟩
 rw[<- hR]
 rw[<- bytes_beq] at hR
 have hb1:Below w.heap.size w (w.alloc (.cells #[.string x.name,.string x.pub] 73)):=(Below.refl _ _).alloc (Nat.le_refl _) _
 have q:=(hb1.cell (p:=⟨g,0,none⟩) (block_lt hc)).trans hc
 have HB:=zh hb1;have HR:=zh hR
 clear hb1 hc hR
 show Calls Tryz.prog 96 #[.agg #[.string x.name,.string x.pub],.pointer (some ⟨g,0,none⟩)] w _
 go_enter Tryz.func96,Tryz.ntmps96
 go_wp2_with fail
 go_ret
 exact⟨by rw[HR.out];rfl,HB.out⟩
theorem MembersF.cells {F:Nat->Prop} {w:World} {a:Option Addr} {n c:Nat} {l:List Own.Member} (h:ListF 2 Own.RMember F w (.slice a n c) l) {i:Nat} (hi:i<l.length):∃ b o,a=some ⟨b,o,none⟩/\F b/\b<w.heap.size/\w.cell? ⟨b,o+i*2,none⟩=some (.string l[i].name)/\w.cell? ⟨b,o+i*2+1,none⟩=some (.string l[i].pub):=by
 obtain⟨b,o,ha,hF,hb,cs,h1,h2,h3⟩:=h.at_ hi
 have h3:cs=_:=h3
 subst h3
 exact⟨b,o,ha,hF,hb,h2 0 _ rfl,h2 1 _ rfl⟩
theorem MembersF.one {F:Nat->Prop} {w:World} {mb mo n c c' j:Nat} {l:List Own.Member} (h:ListF 2 Own.RMember F w (.slice (some ⟨mb,mo,none⟩) n c) l) (hj:j<l.length):ListF 2 Own.RMember F w (.slice (some ⟨mb,mo+j*2,none⟩) 1 c') [l[j]]:=by
 obtain⟨b,o,ha,hF,hb,h1,h2⟩:=MembersF.cells h hj
 cases ha
 refine⟨_,c',rfl,.inr ⟨mb,_,rfl,hF,hb,fun i hi=>?_⟩⟩
 have:i=0:=by simpa using hi
 subst this
 refine⟨_,rfl,fun k u hk=>?_,rfl⟩
 rw[Nat.zero_mul,Nat.add_zero]
 match k,hk with
 | 0,hk=>cases hk;exact h1
 | 1,hk=>cases hk;exact h2
def UsedPost (X:Nat->Prop) (w:World) (o:Own.Owners) (R:Except Int (Own.Member × List Own.KeyUse)) (e:Ending) (w' : World):Prop:=
 (match R with
   | .error c=>e=.returned (.tuple #[Own.nobody,.string ⟨#[]⟩,.int .i64 c])
   | .ok (m,K)=>∃ sv kv,e=.returned (.tuple #[.agg #[.int .i64 o.count,sv,kv],.string m.pub,.int .i64 0])/\ListF 3 Own.RSpace (fun k=>¬ X k) w' sv o.spaces/\ListF 2 Own.RKey (fun k=>¬ X k) w' kv K)/\Below w.heap.size w w'
theorem rvUsed_any (X:Nat->Prop) (o:Own.Owners) (s:Own.Space) (path msg:ByteArray) (a:Own.Approval) (sv kv cv pv:Value) (ma:Option Addr) (mc:Nat) (w:World) (hX:∀ k,X k->k<w.heap.size) (hMx:MaxL w) (hS:ListF 3 Own.RSpace (fun k=>¬ X k) w sv o.spaces) (hK:Own.KeysC w kv o.keys)
 (hm:ListF 2 Own.RMember (fun k=>¬ X k) w (.slice ma s.members.length mc) s.members) (hmc:s.members.length<=mc) (hcs:StrsC w cv a.sig.chains) (hps:StrsC w pv a.sig.path) (hcap:CapOK pv) (hau:Own.authority o path=some s) (hlk:o.keys.length<=800000) (hmsg:msg.size<=9223372036854775000)
 (hal:a.name.size<=140737488355328/\a.sig.chains.length<=140737488355328/\a.sig.path.length<=140737488355328):
 Calls Tryz.prog 62 #[.agg #[.int .i64 o.count,sv,kv],.agg #[.string s.pre,.slice ma s.members.length mc,.int .i64 s.threshold],.string path,.string msg,.agg #[.string a.name,.int .i64 a.sig.index,cv,pv]] w (UsedPost X w o (Own.usedR o s msg a)):=by
 obtain⟨R,hR⟩:∃ R,R=Own.usedR o s msg a:=⟨_,rfl⟩
 obtain⟨Q,hQ⟩:∃ Q,Q=UsedPost X w o R:=⟨_,rfl⟩
 rw[<- hR,<- hQ]
 obtain⟨hok,hpath,hbel,hmem⟩:=Own.authority_some hau
 have hOK:=Own.OK.of hok
 have hsp:=hOK.sp s hmem
 have hSP:=Own.SpOK.of hsp
 obtain⟨nm,⟨ix,chs,pth⟩⟩:=a
 dsimp only at*
 obtain⟨ca,cc,rfl⟩:=hcs.len
 obtain⟨pa,pc,rfl⟩:=hps.len
 obtain⟨sa,sc,rfl⟩:=hS.len
 obtain⟨ka,kc,rfl⟩:=hK.len
 have hml:=hSP.len
 have hb1:Below w.heap.size w ((((w.alloc (.cells #[.int .i64 o.count,.slice sa o.spaces.length sc,.slice ka o.keys.length kc] 38)).alloc (.cells #[.string s.pre,.slice ma s.members.length mc,.int .i64 s.threshold] 70)).alloc (.cells #[.string nm,.int .i64 ix,.slice ca chs.length cc,.slice pa pth.length pc] 43)).alloc (.cells #[.int .i64 0,.slice none 0 0,.slice none 0 0] 38)):=((((Below.refl _ _).alloc (Nat.le_refl _) _).alloc (by simp) _).alloc (by simp;omega) _).alloc (by simp;omega) _
 have hz1:((((w.alloc (.cells #[.int .i64 o.count,.slice sa o.spaces.length sc,.slice ka o.keys.length kc] 38)).alloc (.cells #[.string s.pre,.slice ma s.members.length mc,.int .i64 s.threshold] 70)).alloc (.cells #[.string nm,.int .i64 ix,.slice ca chs.length cc,.slice pa pth.length pc] 43)).alloc (.cells #[.int .i64 0,.slice none 0 0,.slice none 0 0] 38)).heap.size=w.heap.size+4:=by simp
 have ha0:=(((At.new w 38 #[.int .i64 o.count,.slice sa o.spaces.length sc,.slice ka o.keys.length kc]).alloc (.cells #[.string s.pre,.slice ma s.members.length mc,.int .i64 s.threshold] 70)).alloc (.cells #[.string nm,.int .i64 ix,.slice ca chs.length cc,.slice pa pth.length pc] 43)).alloc (.cells #[.int .i64 0,.slice none 0 0,.slice none 0 0] 38)
 have ha1:=((At.new1 w (.cells #[.int .i64 o.count,.slice sa o.spaces.length sc,.slice ka o.keys.length kc] 38) 70 #[.string s.pre,.slice ma s.members.length mc,.int .i64 s.threshold]).alloc (.cells #[.string nm,.int .i64 ix,.slice ca chs.length cc,.slice pa pth.length pc] 43)).alloc (.cells #[.int .i64 0,.slice none 0 0,.slice none 0 0] 38)
 have ha2:=(At.new ((w.alloc (.cells #[.int .i64 o.count,.slice sa o.spaces.length sc,.slice ka o.keys.length kc] 38)).alloc (.cells #[.string s.pre,.slice ma s.members.length mc,.int .i64 s.threshold] 70)) 43 #[.string nm,.int .i64 ix,.slice ca chs.length cc,.slice pa pth.length pc]).alloc (.cells #[.int .i64 0,.slice none 0 0,.slice none 0 0] 38)
 have ha3:=At.new (((w.alloc (.cells #[.int .i64 o.count,.slice sa o.spaces.length sc,.slice ka o.keys.length kc] 38)).alloc (.cells #[.string s.pre,.slice ma s.members.length mc,.int .i64 s.threshold] 70)).alloc (.cells #[.string nm,.int .i64 ix,.slice ca chs.length cc,.slice pa pth.length pc] 43)) 38 #[.int .i64 0,.slice none 0 0,.slice none 0 0]
 rw[World.size_alloc,World.size_alloc] at ha2
 rw[World.size_alloc,World.size_alloc,World.size_alloc] at ha3
 have c1:=ha1.cell 1
 simp only[List.getElem?_toArray,List.getElem?_cons_zero,List.getElem?_cons_succ] at c1
 have HQ:=zh hQ;have HR:=zh hR;have HS:=zh hS;have HK:=zh hK;have HMX:=zh hMx;have HM:=zh hm;have HCS:=zh hcs;have HPS:=zh hps;have HCAP:=zh hcap
 have A0:=zh ha0;have A1:=zh ha1;have A2:=zh ha2;have A3:=zh ha3;have B1:=zh hb1
 have HOKO:=zh hok;have HPATH:=zh hpath;have HBEL:=zh hbel;have HSPO:=zh hsp;have HOK:=zh hOK
 clear hQ hR hS hK hMx hm hcs hps hcap ha0 ha1 ha2 ha3 hb1 hok hpath hbel hmem hOK hsp hSP hau
 go_enter Tryz.func62,Tryz.ntmps62
 go_wp2_with fail
 generalize (((w.alloc (.cells #[.int .i64 o.count,.slice sa o.spaces.length sc,.slice ka o.keys.length kc] 38)).alloc (.cells #[.string s.pre,.slice ma s.members.length mc,.int .i64 s.threshold] 70)).alloc (.cells #[.string nm,.int .i64 ix,.slice ca chs.length cc,.slice pa pth.length pc] 43)).alloc (.cells #[.int .i64 0,.slice none 0 0,.slice none 0 0] 38)=w1 at*
 refine(ifMembers_any 96 #[.pointer (some ⟨w.heap.size+1+1,0,none⟩)] Tryz.call96 (fun m=>decide (m.name=nm)) _ s.members w1 ((HM.out.below B1.out).mono (fun _ _ _=>trivial)) (by omega) (fun W x hW=>rvUsed1_any x _ nm W ((hW.cell (p:=⟨w.heap.size+1+1,0,none⟩) (by show w.heap.size+1+1<w1.heap.size;omega)).trans (A2.out.cell 0)))).mono ?_
 rintro e w2 ⟨⟨i,rfl,hi⟩,hb2⟩
 have A02:=zh (A0.out.below hb2 (by omega));have A12:=zh (A1.out.below hb2 (by omega));have A22:=zh (A2.out.below hb2 (by omega));have A32:=zh (A3.out.below hb2 (by omega));have B2:=zh (B1.out.trans (hb2.mono B1.out.size))
 have hz2:=hb2.size
 clear hb2 A0 A1 A2 A3 B1 c1
 rcases hi with ⟨rfl,hnone,_⟩ | ⟨j,hj,rfl,hsome,hpj,_⟩
 ·have hf:Own.find s.members nm=none:=hnone
  have e:R=.error 6:=by rw[HR.out,Own.usedR];dsimp only;rw[hf]
  have HE:=zh e
  have TW:=A32;have TB:=B2
  have x0:=TW.out.cell 0;have x1:=TW.out.cell 1;have x2:=TW.out.cell 2;have x3:=TW.out.free 0;have x4:=TW.out.free 1;have x5:=TW.out.free 2
  simp only[List.getElem?_toArray,List.getElem?_cons_zero,List.getElem?_cons_succ] at x0 x1 x2
  clear e hf hnone
  go_wp2_with fail
  have F2:=((TW.out.set 0 (.int .i64 0)).set 1 (.slice none 0 0)).set 2 (.slice none 0 0)
  refine done_ctt rfl rfl rfl rfl (load_row F2 Tryz.underlying38 rfl info_Owners) ?_
  rw[HQ.out,HE.out]
  exact⟨rfl,((TB.out.setCell (p:=⟨w.heap.size+3,0,none⟩) (by simp) _).setCell (p:=⟨w.heap.size+3,1,none⟩) (by simp) _).setCell (p:=⟨w.heap.size+3,2,none⟩) (by simp) _⟩
 have hnm:s.members[j].name=nm:=of_decide_eq_true hpj
 have hR2:R=if Sig.verify s.members[j].pub msg ⟨ix,chs,pth⟩ then (if ix<Own.nextOf o.keys s.members[j].pub then .error 8 else .ok (s.members[j],Own.use o.keys ⟨s.members[j].pub,ix+1⟩)) else .error 18:=by
  have hf:Own.find s.members nm=some s.members[j]:=hsome
  rw[HR.out,Own.usedR];dsimp only;rw[hf]
 obtain⟨mb,mo,hma,_,hmbl,mcell0,mcell1⟩:=MembersF.cells HM.out hj
 subst hma
 have dj:decide ((j:Int)<0)=false:=decide_eq_false (by omega)
 have hap:=Own.alone_approve (msg:=msg) (a:=⟨nm,⟨ix,chs,pth⟩⟩) HOKO.out HSPO.out (List.getElem_mem hj) HPATH.out HBEL.out hnm
 obtain⟨AB,hAB⟩:∃ AB,AB=w2.heap.size:=⟨_,rfl⟩
 have hmcj:¬ mc=j:=by omega
 obtain⟨m,hmj⟩:∃ m,m=s.members[j]:=⟨_,rfl⟩
 have hone:=MembersF.one (c' :=mc - j) HM.out hj
 rw[<- hmj] at hap hR2 hone hnm
 have HAP:=zh hap;have HR2:=zh hR2;have HONE:=zh hone;have HMJ:=zh hmj
 have y0:=A02.out.cell 0;have y1:=A02.out.cell 1;have y2:=A02.out.cell 2
 have u0:=(A12.out.alloc (.cells #[.int .i64 o.count,.slice sa o.spaces.length sc,.slice ka o.keys.length kc] 38)).cell 0
 have u1:=(A12.out.alloc (.cells #[.int .i64 o.count,.slice sa o.spaces.length sc,.slice ka o.keys.length kc] 38)).cell 1
 simp only[List.getElem?_toArray,List.getElem?_cons_zero,List.getElem?_cons_succ] at y0 y1 y2 u0 u1
 clear hap hR2 hone hsome hpj hmj
 rw[<- hAB] at hz2
 go_wp2_with fail
 refine Lex.wp_region_lex (by kernel_rfl) (by kernel_rfl) ?_
 go_wp2_with fail
 refine Lex.Ends.intro (by kernel_rfl) ?_
 have hb24:Below w2.heap.size w2 (((w2.alloc (.cells #[.int .i64 o.count,.slice (some ⟨w2.heap.size+1,0,none⟩) 1 1,.slice ka o.keys.length kc] 38)).alloc (.cells #[.string s.pre,.slice (some ⟨mb,mo+j*2,none⟩) 1 (mc - j),.int .i64 1] 70)).drew):=(((Below.refl _ _).alloc (Nat.le_refl _) _).alloc (by simp) _).drew
 have hz4:(((w2.alloc (.cells #[.int .i64 o.count,.slice (some ⟨w2.heap.size+1,0,none⟩) 1 1,.slice ka o.keys.length kc] 38)).alloc (.cells #[.string s.pre,.slice (some ⟨mb,mo+j*2,none⟩) 1 (mc - j),.int .i64 1] 70)).drew).heap.size=w2.heap.size+2:=by rw[drew_heap];simp
 have a4:=((At.new w2 38 #[.int .i64 o.count,.slice (some ⟨w2.heap.size+1,0,none⟩) 1 1,.slice ka o.keys.length kc]).alloc (.cells #[.string s.pre,.slice (some ⟨mb,mo+j*2,none⟩) 1 (mc - j),.int .i64 1] 70)).drew
 have s4:=(At.new1 w2 (.cells #[.int .i64 o.count,.slice (some ⟨w2.heap.size+1,0,none⟩) 1 1,.slice ka o.keys.length kc] 38) 70 #[.string s.pre,.slice (some ⟨mb,mo+j*2,none⟩) 1 (mc - j),.int .i64 1]).drew
 generalize ((w2.alloc (.cells #[.int .i64 o.count,.slice (some ⟨w2.heap.size+1,0,none⟩) 1 1,.slice ka o.keys.length kc] 38)).alloc (.cells #[.string s.pre,.slice (some ⟨mb,mo+j*2,none⟩) 1 (mc - j),.int .i64 1] 70)).drew=w4 at*
 have A04:=zh (A02.out.below hb24 (by omega));have A14:=zh (A12.out.below hb24 (by omega));have A24:=zh (A22.out.below hb24 (by omega));have A34:=zh (A32.out.below hb24 (by omega));have B4:=zh (B2.out.trans (hb24.mono B2.out.size))
 have S4:=zh s4
 obtain⟨q0,q1,q2⟩:=a4.c3;obtain⟨v0,v1,v2,v3⟩:=A24.out.c4
 have hb45:Below w4.heap.size w4 (w4.alloc (.cells #[.string nm,.int .i64 ix,.slice ca chs.length cc,.slice pa pth.length pc] 43)):=(Below.refl _ _).alloc (Nat.le_refl _) _
 have n5:=At.new w4 43 #[.string nm,.int .i64 ix,.slice ca chs.length cc,.slice pa pth.length pc]
 have hz5:(w4.alloc (.cells #[.string nm,.int .i64 ix,.slice ca chs.length cc,.slice pa pth.length pc] 43)).heap.size=w4.heap.size+1:=World.size_alloc _ _
 have B5:=zh (B4.out.trans (hb45.mono B4.out.size))
 have s5:=S4.out.below hb45 (by omega)
 have hsp5:ListF 3 Own.RSpace (fun k=>¬ (X k\/k=w.heap.size\/k=w.heap.size+3)) (w4.alloc (.cells #[.string nm,.int .i64 ix,.slice ca chs.length cc,.slice pa pth.length pc] 43)) (.slice (some ⟨w2.heap.size+1,0,none⟩) 1 1) [⟨s.pre,[m],1⟩]:=by
  refine⟨_,1,rfl,.inr ⟨w2.heap.size+1,0,rfl,?_,s5.lt,fun i hi=>?_⟩⟩
  ·rintro(h | h | h)
   ·have:=hX _ h;omega
   ·omega
   ·omega
  ·have:i=0:=by simpa using hi
   subst this
   refine⟨[.string s.pre,.slice (some ⟨mb,mo+j*2,none⟩) 1 (mc - j),.int .i64 1],rfl,fun k u hk=>?_,_,rfl,?_⟩
   ·rw[Nat.zero_mul,Nat.add_zero,Nat.zero_add,s5.cell];simpa using hk
   ·exact(HONE.out.mono (G:=fun k=>¬ (X k\/k=w.heap.size\/k=w.heap.size+3)) (fun k hk hl h=>by rcases h with h | h | h;exact hk h;omega;omega)).below B5.out
 have hap5:Own.ApprC (w4.alloc (.cells #[.string nm,.int .i64 ix,.slice ca chs.length cc,.slice pa pth.length pc] 43)) (.slice (some ⟨w4.heap.size,0,none⟩) 1 1) [⟨nm,⟨ix,chs,pth⟩⟩]:=by
  refine⟨_,1,rfl,fun i hi=>?_⟩
  have:i=0:=by simpa using hi
  subst this
  refine⟨w4.heap.size,0,_,_,rfl,n5.lt,n5.cell 0,n5.cell 1,n5.cell 2,n5.cell 3,HCS.out.below B5.out,HPS.out.below B5.out,HCAP.out⟩
 have happ:=owApproveX_any (fun k=>X k\/k=w.heap.size\/k=w.heap.size+3) (Own.alone o s m) path msg [⟨nm,⟨ix,chs,pth⟩⟩] (.slice (some ⟨w2.heap.size+1,0,none⟩) 1 1) (.slice ka o.keys.length kc) (.slice (some ⟨w4.heap.size,0,none⟩) 1 1) _ (fun k hk=>by rcases hk with hk | hk | hk;have:=hX k hk;omega;omega;omega) (HMX.out.below B5.out) hsp5 (HK.out.below B5.out) hap5 (by show 1<=3000000;omega) (by show o.keys.length+1<=900000;omega) (fun z hz=>by
  have e:z=⟨s.pre,[m],1⟩:=by simpa [Own.alone] using hz
  subst e
  show 1<=3000000
  omega) hmsg (fun z hz=>by
  have e:z=⟨nm,⟨ix,chs,pth⟩⟩:=by simpa using hz
  subst e
  exact hal)
 rw[HAP.out] at happ
 have HAPP:=zh happ
 have HB45:=zh hb45
 clear happ hsp5 hap5 s5 n5 hb45 hb24 a4 s4 A02 A12 A22 A32 B2 y0 y1 y2 u0 u1
 have hz4' : w2.heap.size+2<=w4.heap.size:=by omega
 have hz2' : w1.heap.size<=w2.heap.size:=by omega
 clear hz4 hz5 hz2 hAB
 go_wp2_with fail
 refine HAPP.out.mono ?_
 intro e w6 hpost
 obtain⟨hval,hb6⟩:=hpost
 have hb46:=HB45.out.trans (hb6.mono HB45.out.size)
 have A06:=zh (A04.out.below hb46 A04.out.lt);have A16:=zh (A14.out.below hb46 A14.out.lt);have A36:=zh (A34.out.below hb46 A34.out.lt);have B6:=zh (B4.out.trans (hb46.mono B4.out.size))
 have hz6:w4.heap.size<=w6.heap.size:=hb46.size
 clear hb6 hb46 HB45 A04 A14 A24 A34 B4 S4 HAPP q0 q1 q2 v0 v1 v2 v3 B5
 cases hvf:Sig.verify m.pub msg ⟨ix,chs,pth⟩ with
 | false =>
   rw[hvf] at hval
   have hval2:e=.returned (.tuple #[Own.nobody,.int .i64 18]):=hval
   subst hval2
   have e:R=.error 18:=by rw[HR2.out,hvf];rfl
   have HE:=zh e
   have TW:=zh (A36.out.alloc (.cells #[.int .i64 0,.slice none 0 0,.slice none 0 0] 38));have TB:=zh (B6.out.alloc B6.out.size (.cells #[.int .i64 0,.slice none 0 0,.slice none 0 0] 38))
   have x0:=TW.out.cell 0;have x1:=TW.out.cell 1;have x2:=TW.out.cell 2;have x3:=TW.out.free 0;have x4:=TW.out.free 1;have x5:=TW.out.free 2
   simp only[List.getElem?_toArray,List.getElem?_cons_zero,List.getElem?_cons_succ] at x0 x1 x2
   unfold Own.nobody
   clear e hvf hval
   go_wp2_with fail
   have F2:=((TW.out.set 0 (.int .i64 0)).set 1 (.slice none 0 0)).set 2 (.slice none 0 0)
   refine done_ctt rfl rfl rfl rfl (load_row F2 Tryz.underlying38 rfl info_Owners) ?_
   rw[HQ.out,HE.out]
   exact⟨rfl,((TB.out.setCell (p:=⟨w.heap.size+3,0,none⟩) (by simp) _).setCell (p:=⟨w.heap.size+3,1,none⟩) (by simp) _).setCell (p:=⟨w.heap.size+3,2,none⟩) (by simp) _⟩
 | true=>
 rw[hvf,if_pos rfl] at hval
 have hR3:R=if ix<Own.nextOf o.keys m.pub then .error 8 else .ok (m,Own.use o.keys ⟨m.pub,ix+1⟩):=by rw[HR2.out,hvf];rfl
 by_cases hix:ix<Own.nextOf o.keys m.pub
 ·rw[if_pos hix] at hval hR3
  have hval2:e=.returned (.tuple #[Own.nobody,.int .i64 8]):=hval
  subst hval2
  have HE:=zh hR3
  have TW:=zh (A36.out.alloc (.cells #[.int .i64 0,.slice none 0 0,.slice none 0 0] 38));have TB:=zh (B6.out.alloc B6.out.size (.cells #[.int .i64 0,.slice none 0 0,.slice none 0 0] 38))
  have x0:=TW.out.cell 0;have x1:=TW.out.cell 1;have x2:=TW.out.cell 2;have x3:=TW.out.free 0;have x4:=TW.out.free 1;have x5:=TW.out.free 2
  simp only[List.getElem?_toArray,List.getElem?_cons_zero,List.getElem?_cons_succ] at x0 x1 x2
  unfold Own.nobody
  clear hR3 hvf hval hix HR2 HAP
  go_wp2_with fail
  have F2:=((TW.out.set 0 (.int .i64 0)).set 1 (.slice none 0 0)).set 2 (.slice none 0 0)
  refine done_ctt rfl rfl rfl rfl (load_row F2 Tryz.underlying38 rfl info_Owners) ?_
  rw[HQ.out,HE.out]
  exact⟨rfl,((TB.out.setCell (p:=⟨w.heap.size+3,0,none⟩) (by simp) _).setCell (p:=⟨w.heap.size+3,1,none⟩) (by simp) _).setCell (p:=⟨w.heap.size+3,2,none⟩) (by simp) _⟩
 rw[if_neg hix] at hval hR3
 have hval2:∃ sv kv,e=.returned (.tuple #[.agg #[.int .i64 o.count,sv,kv],.int .i64 0])/\ListF 3 Own.RSpace (fun k=>¬ (X k\/k=w.heap.size\/k=w.heap.size+3)) w6 sv [⟨s.pre,[m],1⟩]/\ListF 2 Own.RKey (fun k=>¬ (X k\/k=w.heap.size\/k=w.heap.size+3)) w6 kv (Own.use o.keys ⟨m.pub,ix+1⟩):=hval
 clear hval
 obtain⟨sv2,kv2,rfl,hs2,hk2⟩:=hval2
 obtain⟨K,hKe⟩:∃ K,K=Own.use o.keys ⟨m.pub,ix+1⟩:=⟨_,rfl⟩
 rw[<- hKe] at hR3 hk2
 have HE:=zh hR3;have HK2:=zh (hk2.mono (G:=fun k=>k<w6.heap.size/\¬ X k/\k≠w.heap.size+3) (fun k hk hl=>⟨hl,fun h=>hk (.inl h),fun h=>hk (.inr (.inr h))⟩))
 obtain⟨s2a,s2c,hs2v⟩:=hs2.len
 obtain⟨k2a,k2c,hk2v⟩:=hk2.len
 subst hs2v;subst hk2v
 clear hR3 hvf hix HR2 HAP hKe hs2 hk2
 have b6:Below w6.heap.size w6 (w6.alloc (.cells #[.int .i64 o.count,.slice s2a 1 s2c,.slice k2a K.length k2c] 38)):=(Below.refl _ _).alloc (Nat.le_refl _) _
 have hz7:w6.heap.size<(w6.alloc (.cells #[.int .i64 o.count,.slice s2a 1 s2c,.slice k2a K.length k2c] 38)).heap.size:=by simp
 have o7:=At.new w6 38 #[.int .i64 o.count,.slice s2a 1 s2c,.slice k2a K.length k2c]
 have A07:=zh (A06.out.below b6 A06.out.lt);have A17:=zh (A16.out.below b6 A16.out.lt);have A37:=zh (A36.out.below b6 A36.out.lt);have B7:=zh (B6.out.trans (b6.mono B6.out.size));have O7:=zh o7;have K7:=zh (HK2.out.below b6)
 have y1:=A07.out.cell 1
 simp only[List.getElem?_toArray,List.getElem?_cons_zero,List.getElem?_cons_succ] at y1
 have hcl:=clSpaces2_any (fun k=>k<w.heap.size/\¬ X k) _ o.spaces _ ((HS.out.mono (G:=fun k=>k<w.heap.size/\¬ X k) (fun k hk hl=>⟨hl,hk⟩)).below B7.out) (by have:=HOK.out.ls;omega)
 have HCL:=zh hcl
 have hls:=HOK.out.ls
 have h6w:w.heap.size+4<=w6.heap.size:=by omega
 clear b6 o7 hcl A06 A16 A36 B6 HK2
 go_wp2_with fail
 generalize w6.alloc (.cells #[.int .i64 o.count,.slice s2a 1 s2c,.slice k2a K.length k2c] 38)=w7 at*
 refine HCL.out.mono ?_
 rintro e w8 ⟨a8,c8,rfl,hsp,hb8⟩
 have A08:=zh (A07.out.below hb8 A07.out.lt);have A18:=zh (A17.out.below hb8 A17.out.lt);have A38:=zh (A37.out.below hb8 A37.out.lt);have B8:=zh (B7.out.trans (hb8.mono B7.out.size));have O8:=zh (O7.out.below hb8 O7.out.lt);have K8:=zh (K7.out.below hb8)
 have hz8:=hb8.size
 have HSP:=zh hsp
 have q0:=O8.out.cell 0;have q1:=O8.out.cell 1;have q2:=O8.out.cell 2;have q3:=O8.out.free 1
 simp only[List.getElem?_toArray,List.getElem?_cons_zero,List.getElem?_cons_succ] at q0 q1 q2
 clear hsp hb8 A07 A17 A37 B7 O7 K7 HCL y1
 go_upto_region 10 with fail
 have o9:At (w8.setCell ⟨w6.heap.size,1,none⟩ (.slice a8 o.spaces.length c8)) w6.heap.size 38 #[.int .i64 o.count,.slice a8 o.spaces.length c8,.slice k2a K.length k2c]:=O8.out.set 1 (.slice a8 o.spaces.length c8)
 have f9:∀ k,k≠w6.heap.size->(w8.setCell ⟨w6.heap.size,1,none⟩ (.slice a8 o.spaces.length c8)).heap[k]? = w8.heap[k]? :=fun k hk=>heap_setCell_other _ _ _ _ hk
 have z9:(w8.setCell ⟨w6.heap.size,1,none⟩ (.slice a8 o.spaces.length c8)).heap.size=w8.heap.size:=by simp[World.setCell]
 have A19:=zh (A18.out.keep (f9 _ (by omega)));have A39:=zh (A38.out.keep (f9 _ (by omega)))
 have B9:=zh (B8.out.setCell (p:=⟨w6.heap.size,1,none⟩) (by show w.heap.size<=w6.heap.size;omega) (.slice a8 o.spaces.length c8))
 have O9:=zh o9
 have hsp9:o.spaces.length=0\/∃ g,a8=some ⟨g,0,none⟩/\w7.heap.size<=g/\Own.SpRow (w8.setCell ⟨w6.heap.size,1,none⟩ (.slice a8 o.spaces.length c8)) g (fun k=>k≠g/\¬ X k/\k≠w.heap.size+3) o.spaces:=by
  rcases HSP.out with h0 | ⟨g,h1,h2,h3⟩
  ·exact .inl h0
  ·refine .inr ⟨g,h1,h2,?_⟩
   exact(h3.keep (Nat.le_of_eq z9.symm) (fun k hk _=>f9 k (by rcases hk with rfl | hk <;> omega))).mono (fun k hk _=>⟨by omega,hk.2,by omega⟩)
 have HSP9:=zh hsp9
 have hk9:ListF 2 Own.RKey (fun k=>k<w6.heap.size/\¬ X k/\k≠w.heap.size+3) (w8.setCell ⟨w6.heap.size,1,none⟩ (.slice a8 o.spaces.length c8)) (.slice k2a K.length k2c) K:=by
  exact K8.out.keep (Nat.le_of_eq z9.symm) (fun k hk _=>f9 k (by omega))
 have HK9:=zh hk9
 have z9' : w8.heap.size<=(w8.setCell ⟨w6.heap.size,1,none⟩ (.slice a8 o.spaces.length c8)).heap.size:=Nat.le_of_eq z9.symm
 clear o9 f9 z9 hsp9 hk9 HSP A08 A18 A38 B8 O8 K8 q0 q1 q2 q3
 generalize w8.setCell ⟨w6.heap.size,1,none⟩ (.slice a8 o.spaces.length c8)=w9 at*
 have c1:=O9.out.cell 1
 simp only[List.getElem?_toArray,List.getElem?_cons_zero,List.getElem?_cons_succ] at c1
 have hO9:=O9.out.lt
 go_wp2_with fail
 go_loopw [57] (fun i wr=>∃ k:Nat,k<=o.spaces.length/\i=.int .i64 k/\(o.spaces.length=0\/∃ g,a8=some ⟨g,0,none⟩/\w7.heap.size<=g/\g<w9.heap.size/\Own.SpRow wr g (fun k=>k≠g/\¬ X k/\k≠w.heap.size+3) o.spaces)/\Fr (fun k=>w7.heap.size<=k/\a8=some ⟨k,0,none⟩) w9 wr) (fun i _=>o.spaces.length - (intOf i).toNat)
 case atStart=>
  refine⟨0,by omega,rfl,?_,Fr.refl _ _⟩
  rcases HSP9.out with h0 | ⟨g,h1,h2,h3⟩
  ·exact .inl h0
  ·obtain⟨cur,vs,h4,_⟩:=h3.row
   exact .inr ⟨g,h1,h2,h4.lt,h3⟩
 case round=>
  obtain⟨k,hk,rfl,hrow,hfr⟩:=hrel
  have hatr:=hfr.at O9.out (fun h=>by omega)
  have hrtr:=hfr.at A39.out (fun h=>by omega)
  have hstr:=hfr.at A19.out (fun h=>by omega)
  have HFR:=zh hfr;have OR:=zh hatr;have RR:=zh hrtr;have SR:=zh hstr
  have c1r:=hatr.cell 1
  simp only[List.getElem?_toArray,List.getElem?_cons_zero,List.getElem?_cons_succ] at c1r
  have hfz:=hfr.size
  have hbl:=hatr.lt
  clear hatr hrtr hstr
  by_cases hlt:k<o.spaces.length
  ·have dk:decide ((k:Int)<o.spaces.length)=true:=decide_eq_true (by omega)
   obtain⟨g,rfl,hg1,hg2,hsr⟩:=hrow.resolve_left (by omega)
   obtain⟨cur,vs,q1,q2⟩:=hsr.row
   obtain⟨e0,e1,e2,e3⟩:=q2 k hlt
   have f1:=q1.cell (k*3+1)
   rw[e1] at f1
   have hlm:o.spaces[k].members.length<=8:=(Own.SpOK.of (HOK.out.sp _ (List.getElem_mem hlt))).len
   obtain⟨na,nc,hvk⟩:=e3.len
   rw[hvk] at e3 f1
   have Q1:=zh q1;have HSR:=zh hsr
   have hcp:=clMembers_any _ o.spaces[k].members.length _ wr.drew (Own.MembersC.rows ((e3.below ((Below.refl _ _).drew)).mono (G:=Own.anyF) (fun _ _ _=>trivial))) (Own.one_M _) (by omega)
   have HCP:=zh hcp
   have hgl:g<wr.heap.size:=q1.lt
   clear hrow q1 q2 e0 e1 e2 e3 hvk hlm hcp hsr
   go_wp2_with fail
   refine Lex.wp_region_lexN (fun j=>j=w6.heap.size) [1] 10 [10] (by kernel_rfl) (by kernel_rfl) (by kernel_rfl) ?_
   simp only[Lex.wpCuts,List.take_succ_cons,List.take_zero,List.drop_succ_cons,List.drop_zero]
   go_wp2_with fail
   refine HCP.out.mono ?_
   rintro e w5 ⟨v',rfl,hov,hb5⟩
   have hb5' : Below wr.heap.size wr w5:=(Below.refl wr.heap.size wr).drew.trans hb5
   have hup:=own_up hov
   have hne:v'.ownBlock≠some g:=fun e=>by have:=hup g e;have:wr.heap.size<=g:=this;omega
   obtain⟨va,vm,vc,rfl⟩:=own_slice hov
   have y1:=(hb5'.cell (p:=⟨g,k*3+1,none⟩) hgl).trans f1
   have q5:=Q1.out.below hb5' hgl
   have x1:=q5.free (k*3+1)
   have c5:=(hb5'.cell (p:=⟨w6.heap.size,1,none⟩) hbl).trans c1r
   have HB5:=zh hb5';have HOV:=zh hov;have HUP:=zh hup
   clear hb5 hb5' hov hup q5 f1 Q1
   go_wp2_with fail
   refine Lex.Mid.intro (fun j hj _=>by rw[hj];exact HB5.out.block _ hbl) ?_
   go_wp2_with fail
   refine Lex.EndsN.intro (by kernel_rfl) ⟨⟨rfl,by show(wr.cell? ⟨w6.heap.size,1,none⟩).isSome=true;rw[c1r];rfl⟩,trivial⟩ ?_
   go_wp2_with fail
   go_round
   case measure=>simp[intOf];omega
   case rel=>
    have hm5:ListF 2 Own.RMember (fun k=>k≠g/\¬ X k/\k≠w.heap.size+3) w5 (.slice va vm vc) o.spaces[k].members:=
     rows_flat (enc:=Own.encM) (fun _=>rfl) (fun _=>rfl) (RowsC.own HOV.out) rfl (fun j hj=>by have:wr.heap.size<=j:=HUP.out j hj;exact⟨by omega,fun hx=>by have:=hX j hx;omega,by omega⟩)
    have hs5:=(HSR.out.below HB5.out).setM (fun k hk=>hk.1) hlt _ hm5
    refine⟨k+1,by omega,by go_num,.inr ⟨g,rfl,hg1,hg2,hs5⟩,?_⟩
    have f5:Fr (fun k=>w7.heap.size<=k/\(some ⟨g,0,none⟩:Option Addr)=some ⟨k,0,none⟩) w9 w5:=HFR.out.trans (Fr.of_below HB5.out) (fun _ h=>.inl h)
    exact f5.setCell (p:=⟨g,k*3+1,none⟩) (.inl ⟨hg1,rfl⟩) _
  ·have dk:decide ((k:Int)<o.spaces.length)=false:=decide_eq_false (by omega)
   have hsl:ListF 3 Own.RSpace (fun k=>¬ X k/\k≠w.heap.size+3) wr (.slice a8 o.spaces.length c8) o.spaces:=by
    rcases hrow with h0 | ⟨g,rfl,hg1,hg2,hsr⟩
    ·have:o.spaces=[]:=List.eq_nil_of_length_eq_zero h0
     rw[this]
     exact ListF.nil _ _
    ·exact hsr.list ⟨fun hx=>by have:=hX g hx;omega,by omega⟩ (fun k hk hl=>⟨hk.2.1,hk.2.2⟩) rfl
   have hkr:=HK9.out.fr hfr (fun k hk h=>by omega)
   have hbr:Below w.heap.size w wr:=B9.out.trans (HFR.out.below (B:=w.heap.size) (by omega) (fun k hk=>by omega))
   have c0r:=OR.out.cell 0;have c2r:=OR.out.cell 2
   have s1r:=SR.out.cell 1
   have r0:=RR.out.cell 0;have r1:=RR.out.cell 1;have r2:=RR.out.cell 2;have r3:=RR.out.free 0;have r4:=RR.out.free 1;have r5:=RR.out.free 2
   simp only[List.getElem?_toArray,List.getElem?_cons_zero,List.getElem?_cons_succ] at c0r c2r s1r r0 r1 r2
   have HSL:=zh hsl;have HKR:=zh hkr;have HBR:=zh hbr
   obtain⟨mb',mo',hmb,_,hml,_,hmp⟩:=MembersF.cells HONE.out (i:=0) (by simp)
   cases hmb
   have p1:=(HBR.out.cell (p:=⟨mb,mo+j*2+1,none⟩) hml).trans hmp
   have p1:wr.cell? ⟨mb,mo+j*2+1,none⟩=some (.string m.pub):=p1
   clear hrow hsl hkr hfr hbr hmp
   go_wp2_with fail
   refine Lex.wp_region_lexN (fun k=>k=w.heap.size+1\/k=mb) [2,6] 8 [8] (by kernel_rfl) (by kernel_rfl) (by kernel_rfl) ?_
   simp only[Lex.wpCuts,List.take_succ_cons,List.take_zero,List.drop_succ_cons,List.drop_zero]
   go_wp2_with fail
   refine Lex.Mid.intro (fun k hk _=>by have hk3:k≠w.heap.size+1+1+1:=(by rcases hk with rfl | rfl <;> omega);rw[drew_heap,drew_heap,heap_setCell_other _ _ _ _ hk3,heap_setCell_other _ _ _ _ hk3,heap_setCell_other _ _ _ _ hk3]) ?_
   go_wp2_with fail
   refine Lex.EndsN.intro (by kernel_rfl) ⟨⟨.inl rfl,by show(wr.cell? ⟨w.heap.size+1,1,none⟩).isSome=true;rw[s1r];rfl⟩,⟨.inr rfl,by show(wr.cell? ⟨mb,mo+j*2+1,none⟩).isSome=true;rw[p1];rfl⟩,trivial⟩ ?_
   go_wp2_with fail
   have F2:=(((RR.out.set 0 (.int .i64 o.count)).set 1 (.slice a8 o.spaces.length c8)).set 2 (.slice k2a K.length k2c)).drew
   refine done_ctt rfl rfl rfl rfl (load_row F2 Tryz.underlying38 rfl info_Owners) ?_
   rw[HQ.out,HE.out]
   have far:∀ k,k≠w.heap.size+3->((((wr.setCell ⟨w.heap.size+3,0,none⟩ (.int .i64 o.count)).setCell ⟨w.heap.size+3,1,none⟩ (.slice a8 o.spaces.length c8)).setCell ⟨w.heap.size+3,2,none⟩ (.slice k2a K.length k2c)).drew).heap[k]? = wr.heap[k]? :=fun k h=>by
    rw[drew_heap,heap_setCell_other _ _ _ _ h,heap_setCell_other _ _ _ _ h,heap_setCell_other _ _ _ _ h]
   have hfz:wr.heap.size<=((((wr.setCell ⟨w.heap.size+3,0,none⟩ (.int .i64 o.count)).setCell ⟨w.heap.size+3,1,none⟩ (.slice a8 o.spaces.length c8)).setCell ⟨w.heap.size+3,2,none⟩ (.slice k2a K.length k2c)).drew).heap.size:=by
    rw[drew_heap];simp[World.setCell]
   refine⟨⟨_,_,rfl,?_,?_⟩,?_⟩
   ·exact(HSL.out.keep hfz (fun k hk _=>far k hk.2)).mono (fun k hk _=>hk.1)
   ·exact(HKR.out.keep hfz (fun k hk _=>far k hk.2.2)).mono (fun k hk _=>hk.2.1)
   ·exact(((HBR.out.setCell (p:=⟨w.heap.size+3,0,none⟩) (by simp) _).setCell (p:=⟨w.heap.size+3,1,none⟩) (by simp) _).setCell (p:=⟨w.heap.size+3,2,none⟩) (by simp) _).drew
end
section
open Go Go.RowKit Go.Maps
namespace Own
abbrev PAt (w:World) (g:Nat) (p:Proposal) (v:Value):Prop:=At w g 46 #[.int .i64 p.id,.string p.path,.string p.digest,.int .i64 p.opened,.int .i64 p.expires,v]
def rule1 (p:Proposal):Bool:=decide (0<=p.id)&&pathOK p.path&&Sig.digest p.digest
def rule2 (p:Proposal):Bool:=decide (0<=p.opened)&&decide (p.opened<=late)&&decide (p.opened<p.expires)&&decide (p.expires<=p.opened+256)
def rule3 (p:Proposal):Bool:=decide (p.votes.length<=1024)
def rule4 (p:Proposal):Bool:=chainOK (fun v:Vote=>nameOK v.name) (fun x y=>lessB x.name y.name) none p.votes
theorem proposalOK_rules (p:Proposal):proposalOK p=(rule1 p&&(rule2 p&&(rule3 p&&rule4 p))):=by
 unfold proposalOK rule1 rule2 rule3 rule4
 simp only[Bool.and_assoc]
end Own
theorem rvRule1_any (p:Own.Proposal) (v:Value) (g:Nat) (w:World) (hM:MaxL w) (hp:Own.PAt w g p v):
 Calls Tryz.prog 83 #[.pointer (some ⟨g,0,none⟩)] w fun e w' => e=.returned (.bool (Own.rule1 p))/\Below w.heap.size w w' :=by
 obtain⟨R,hR⟩:∃ R,R=Own.rule1 p:=⟨_,rfl⟩
 rw[<- hR]
 unfold Own.rule1 at hR
 obtain⟨id,pa,di,op,ex,vs⟩:=p
 dsimp only at*
 have c0:=hp.cell 0;have c1:=hp.cell 1;have c2:=hp.cell 2
 simp only[List.getElem?_toArray,List.getElem?_cons_zero,List.getElem?_cons_succ] at c0 c1 c2
 have HR:=zh hR;have HP:=zh hp;have HM:=zh hM
 clear hR hp hM
 go_enter Tryz.func83,Tryz.ntmps83
 by_cases h1:0<=id
 case neg=>
  have d1:decide (0<=id)=false:=decide_eq_false h1
  have e:R=false:=by rw[HR.out,d1];rfl
  have HE:=zh e;clear e
  go_wp2_with fail
  go_ret
  exact⟨by rw[HE.out];rfl,Below.refl _ _⟩
 have d1:decide (0<=id)=true:=decide_eq_true h1
 have e:R=(Own.pathOK pa&&Sig.digest di):=by rw[HR.out,d1];rfl
 have HE:=zh e;clear e
 go_wp2_with fail
 refine(rvPath_any pa w HM.out).mono ?_
 rintro e w2 ⟨rfl,hb2⟩
 have HB2:=zh hb2
 have q:=HP.out.below hb2 HP.out.lt
 have q0:=q.cell 0;have q1:=q.cell 1;have q2:=q.cell 2
 simp only[List.getElem?_toArray,List.getElem?_cons_zero,List.getElem?_cons_succ] at q0 q1 q2
 clear q hb2 c0 c1 c2
 cases hpa:Own.pathOK pa with
 | false =>
   have e:R=false:=by rw[HE.out,hpa];rfl
   have HE2:=zh e;clear e
   go_wp2_with fail
   go_ret
   exact⟨by rw[HE2.out];rfl,HB2.out⟩
 | true =>
   have e:R=((di.size:Int)==32):=by
    rw[HE.out,hpa]
    unfold Sig.digest
    rw[Bool.true_and]
    by_cases h:di.size=32
    ·rw[decide_eq_true h,h];rfl
    ·rw[decide_eq_false h];exact(beq_eq_false_iff_ne.2 (by omega)).symm
   have HE2:=zh e;clear e
   go_wp2_with fail
   go_ret
   exact⟨by rw[HE2.out];rfl,HB2.out⟩
theorem rvRule2_any (p:Own.Proposal) (v:Value) (g:Nat) (w:World) (hp:Own.PAt w g p v):
 Calls Tryz.prog 84 #[.pointer (some ⟨g,0,none⟩)] w fun e w' => e=.returned (.bool (Own.rule2 p))/\Below w.heap.size w w' :=by
 obtain⟨R,hR⟩:∃ R,R=Own.rule2 p:=⟨_,rfl⟩
 rw[<- hR]
 unfold Own.rule2 Own.late at hR
 obtain⟨id,pa,di,op,ex,vs⟩:=p
 dsimp only at*
 have c3:=hp.cell 3;have c4:=hp.cell 4
 simp only[List.getElem?_toArray,List.getElem?_cons_zero,List.getElem?_cons_succ] at c3 c4
 have HR:=zh hR
 clear hR hp
 go_enter Tryz.func84,Tryz.ntmps84
 by_cases h1:0<=op
 case neg=>
  have d1:decide (0<=op)=false:=decide_eq_false h1
  have e:R=false:=by rw[HR.out,d1];rfl
  have HE:=zh e;clear e
  go_wp2_with fail
  go_ret
  exact⟨by rw[HE.out];rfl,Below.refl _ _⟩
 have d1:decide (0<=op)=true:=decide_eq_true h1
 by_cases h2:op<=1099511627776
 case neg=>
  have d2:decide (op<=1099511627776)=false:=decide_eq_false h2
  have e:R=false:=by rw[HR.out,d2];simp
  have HE:=zh e;clear e
  go_wp2_with fail
  go_ret
  exact⟨by rw[HE.out];rfl,Below.refl _ _⟩
 have d2:decide (op<=1099511627776)=true:=decide_eq_true h2
 by_cases h3:op<ex
 case neg=>
  have d3:decide (op<ex)=false:=decide_eq_false h3
  have e:R=false:=by rw[HR.out,d3];simp
  have HE:=zh e;clear e
  go_wp2_with fail
  go_ret
  exact⟨by rw[HE.out];rfl,Below.refl _ _⟩
 have d3:decide (op<ex)=true:=decide_eq_true h3
 have e:R=decide (ex<=op+256):=by rw[HR.out,d1,d2,d3];rfl
 have HE:=zh e;clear e
 have hw:wrap64 (op+256)=op+256:=by unfold wrap64;omega
 have HW:=zh hw;clear hw
 go_wp2_with (rw[HW.out])
 go_ret
 exact⟨by rw[HE.out];rfl,Below.refl _ _⟩
theorem rvRule3_any (p:Own.Proposal) (v:Value) (g:Nat) (w:World) (hp:Own.PAt w g p v) (hv:Own.VotesC w v p.votes):
 Calls Tryz.prog 85 #[.pointer (some ⟨g,0,none⟩)] w fun e w' => e=.returned (.bool (Own.rule3 p))/\Below w.heap.size w w' :=by
 obtain⟨R,hR⟩:∃ R,R=Own.rule3 p:=⟨_,rfl⟩
 rw[<- hR]
 unfold Own.rule3 at hR
 obtain⟨id,pa,di,op,ex,vs⟩:=p
 dsimp only at*
 obtain⟨va,vc,rfl⟩:=hv.len
 have c5:=hp.cell 5
 simp only[List.getElem?_toArray,List.getElem?_cons_zero,List.getElem?_cons_succ] at c5
 have e:R=decide ((vs.length:Int)<=1024):=by
  rw[hR]
  by_cases h:vs.length<=1024
  ·rw[decide_eq_true h,decide_eq_true (by omega)]
  ·rw[decide_eq_false h,decide_eq_false (by omega)]
 have HR:=zh e
 clear hR hp hv e
 go_enter Tryz.func85,Tryz.ntmps85
 go_wp2_with fail
 go_ret
 exact⟨by rw[HR.out];rfl,Below.refl _ _⟩
theorem rvRule4_any (p:Own.Proposal) (v:Value) (g:Nat) (w:World) (hp:Own.PAt w g p v) (hv:Own.VotesC w v p.votes) (hl:p.votes.length<=140737488355328):
 Calls Tryz.prog 86 #[.pointer (some ⟨g,0,none⟩)] w fun e w' => e=.returned (.bool (Own.rule4 p))/\Below w.heap.size w w' :=by
 obtain⟨R,hR⟩:∃ R,R=Own.rule4 p:=⟨_,rfl⟩
 rw[<- hR]
 unfold Own.rule4 at hR
 obtain⟨id,pa,di,op,ex,V⟩:=p
 dsimp only at*
 obtain⟨va,vc,rfl⟩:=hv.len
 have c5:=hp.cell 5
 simp only[List.getElem?_toArray,List.getElem?_cons_zero,List.getElem?_cons_succ] at c5
 have HR:=zh hR;have HP:=zh hp;have HV:=zh hv
 clear hR hp hv
 go_enter Tryz.func86,Tryz.ntmps86
 go_wp2_with fail
 go_loopw [7] (fun i wr=>∃ k:Nat,k<=V.length/\i=.int .i64 k/\Own.chainOK (fun v:Own.Vote=>Own.nameOK v.name) (fun x y=>Own.lessB x.name y.name) none (V.take k)=true/\Below w.heap.size w wr) (fun i _=>V.length - (intOf i).toNat)
 case atStart=>exact⟨0,by omega,rfl,rfl,Below.refl _ _⟩
 case round=>
  obtain⟨k,hk,rfl,hok,hb⟩:=hrel
  have HBW:=zh hb
  by_cases hlt:k<V.length
  case neg=>
   have hke:k=V.length:=by omega
   have dk:decide ((k:Int)<V.length)=false:=decide_eq_false (by omega)
   have e:R=true:=by rw[HR.out,<- hok,hke,List.take_length]
   have HE:=zh e;clear e hok hke hb
   go_wp2_with fail
   go_ret
   exact⟨by rw[HE.out];rfl,HBW.out⟩
  have dk:decide ((k:Int)<V.length)=true:=decide_eq_true (by omega)
  have hra:R=((Own.nameOK V[k].name&&Own.ahead (fun x y:Own.Vote=>Own.lessB x.name y.name) (V.take k).getLast? V[k])&&Own.chainOK (fun v:Own.Vote=>Own.nameOK v.name) (fun x y=>Own.lessB x.name y.name) (some V[k]) (V.drop (k+1))):=by rw[HR.out,Own.chainOK_at _ _ V k hlt,hok,Bool.true_and]
  have htk:Own.chainOK (fun v:Own.Vote=>Own.nameOK v.name) (fun x y=>Own.lessB x.name y.name) none (V.take (k+1))=(Own.nameOK V[k].name&&Own.ahead (fun x y:Own.Vote=>Own.lessB x.name y.name) (V.take k).getLast? V[k]):=by rw[Own.chainOK_take _ _ V k hlt,hok,Bool.true_and]
  have hlk:=HV.out.below hb
  obtain⟨b,o,ha,hbl,e0,e1,e2⟩:=Own.VotesC.cells hlk hlt
  have hprev:∀ i,k=i+1->∃ x:Own.Vote,wr.cell? ⟨b,o+i*3,none⟩=some (.string x.name)/\(V.take k).getLast? = some x:=by
   intro i hi
   obtain⟨b',o',ha',_,e0,_⟩:=Own.VotesC.cells hlk (i:=i) (by omega)
   rw[ha] at ha'
   cases ha'
   have hg:=Own.getLast_take V i (by omega)
   rw[<- hi] at hg
   exact⟨_,e0,hg⟩
  subst ha
  obtain⟨vt,hvt⟩:∃ x,x=V[k]:=⟨_,rfl⟩
  rw[<- hvt] at hra htk e0 e1 e2
  obtain⟨rest,hrest⟩:∃ x,x=Own.chainOK (fun v:Own.Vote=>Own.nameOK v.name) (fun x y=>Own.lessB x.name y.name) (some vt) (V.drop (k+1)):=⟨_,rfl⟩
  rw[<- hrest] at hra
  obtain⟨nm,pb,ag⟩:=vt
  dsimp only at hra htk e0 e1 e2
  unfold Own.nameOK at hra htk
  have hb5:Below w.heap.size w (wr.alloc (.cells #[.string nm,.string pb,.bool ag] 82)).drew:=(hb.alloc hb.size _).drew
  have b5:=((HP.out.below hb HP.out.lt).alloc (.cells #[.string nm,.string pb,.bool ag] 82)).drew.cell 5
  have b5' :=((HP.out.below hb HP.out.lt).alloc (.cells #[.string nm,.string pb,.bool ag] 82)).cell 5
  simp only[List.getElem?_toArray,List.getElem?_cons_zero,List.getElem?_cons_succ] at b5 b5'
  have HPREV:=zh hprev;have HB5:=zh hb5
  clear hok hb hlk hprev hb5 hrest hvt c5
  by_cases n1:1<=nm.size
  case neg=>
   have dn1:decide ((nm.size:Int)<1)=true:=decide_eq_true (by omega)
   have e:R=false:=by rw[hra,decide_eq_false n1];rfl
   have HE:=zh e;clear e hra htk n1
   go_wp2_with fail
   refine Lex.wp_region_lex (by kernel_rfl) (by kernel_rfl) ?_
   go_wp2_with fail
   refine Lex.Ends.intro (by kernel_rfl) ?_
   go_wp2_with fail
   go_ret
   exact⟨by rw[HE.out];rfl,HB5.out⟩
  have dn1:decide ((nm.size:Int)<1)=false:=decide_eq_false (by omega)
  rw[decide_eq_true n1,Bool.true_and] at hra htk
  by_cases n2:nm.size<=32
  case neg=>
   have dn2:decide ((32:Int)<nm.size)=true:=decide_eq_true (by omega)
   have e:R=false:=by rw[hra,decide_eq_false n2];rfl
   have HE:=zh e;clear e hra htk n1 n2
   go_wp2_with fail
   refine Lex.wp_region_lex (by kernel_rfl) (by kernel_rfl) ?_
   go_wp2_with fail
   refine Lex.Ends.intro (by kernel_rfl) ?_
   go_wp2_with fail
   go_ret
   exact⟨by rw[HE.out];rfl,HB5.out⟩
  have dn2:decide ((32:Int)<nm.size)=false:=decide_eq_false (by omega)
  rw[decide_eq_true n2,Bool.true_and] at hra htk
  rcases Nat.eq_zero_or_pos k with hk0 | hkp
  ·have hl0:(V.take k).getLast? = none:=by rw[hk0];rfl
   rw[hl0] at htk
   have HT:=zh htk
   have HK0:=zh hk0
   have dz:decide ((0:Int)<(k:Int))=false:=decide_eq_false (by omega)
   have dz' : decide (0<k)=false:=decide_eq_false (by omega)
   clear hl0 hra htk hk0
   go_wp2_with fail
   refine Lex.wp_region_lex (by kernel_rfl) (by kernel_rfl) ?_
   go_wp2_with fail
   refine Lex.Ends.intro (by kernel_rfl) ?_
   go_wp2_with fail
   go_round
   case measure=>simp[intOf];omega
   case rel=>exact⟨k+1,by omega,by go_num,HT.out,HB5.out⟩
  ·obtain⟨i,hi⟩:∃ i,k=i+1:=⟨k - 1,by omega⟩
   obtain⟨x,f0,hx⟩:=HPREV.out i hi
   rw[hx] at hra htk
   have hra3:R=(Own.lessB x.name nm&&rest):=hra
   have htk3:Own.chainOK (fun v:Own.Vote=>Own.nameOK v.name) (fun x y=>Own.lessB x.name y.name) none (V.take (k+1))=Own.lessB x.name nm:=htk
   have dz:decide ((0:Int)<(k:Int))=true:=decide_eq_true (by omega)
   have dz' : decide (0<k)=true:=decide_eq_true (by omega)
   have ek:(k:Int) - 1=(i:Int):=by omega
   have hjl:i<V.length:=by omega
   have f1:(wr.alloc (.cells #[.string nm,.string pb,.bool ag] 82)).cell? ⟨b,o+i*3,none⟩=some (.string x.name):=(((Below.refl wr.heap.size wr).alloc (Nat.le_refl _) _).cell (p:=⟨b,o+i*3,none⟩) hbl).trans f0
   cases hlb:Own.lessB x.name nm with
   | false =>
     have e:R=false:=by rw[hra3,hlb];rfl
     have HE:=zh e
     have hlb' : Op.bytesLess x.name.toList nm.toList=false:=hlb
     clear e hra htk hra3 htk3 hx f0 hi hlb
     go_wp2_with fail
     refine Lex.wp_region_lex (by kernel_rfl) (by kernel_rfl) ?_
     go_wp2_with fail
     refine Lex.Ends.intro (by kernel_rfl) ?_
     go_wp2_with fail
     go_ret
     exact⟨by rw[HE.out];rfl,HB5.out⟩
   | true =>
     rw[hlb] at htk3
     have HT:=zh htk3
     have hlb' : Op.bytesLess x.name.toList nm.toList=true:=hlb
     clear hra htk hra3 htk3 hx f0 hi hlb
     go_wp2_with fail
     refine Lex.wp_region_lex (by kernel_rfl) (by kernel_rfl) ?_
     go_wp2_with fail
     refine Lex.Ends.intro (by kernel_rfl) ?_
     go_wp2_with fail
     go_round
     case measure=>simp[intOf];omega
     case rel=>exact⟨k+1,by omega,by go_num,HT.out,HB5.out⟩
theorem rvProposed_any (p:Own.Proposal) (v:Value) (w:World) (hM:MaxL w) (hv:Own.VotesC w v p.votes) (hl:p.votes.length<=140737488355328):
 Calls Tryz.prog 51 #[.agg #[.int .i64 p.id,.string p.path,.string p.digest,.int .i64 p.opened,.int .i64 p.expires,v]] w fun e w' => e=.returned (.bool (Own.proposalOK p))/\Below w.heap.size w w' :=by
 obtain⟨R,hR⟩:∃ R,R=Own.proposalOK p:=⟨_,rfl⟩
 rw[<- hR]
 rw[Own.proposalOK_rules] at hR
 have r1:=rvRule1_any p v;have r2:=rvRule2_any p v;have r3:=rvRule3_any p v;have r4:=rvRule4_any p v
 have hb1:Below w.heap.size w ((w.alloc (.cells #[.int .i64 p.id,.string p.path,.string p.digest,.int .i64 p.opened,.int .i64 p.expires,v] 46)).alloc (.cells #[.func (.func 83) #[] #[.pointer (some ⟨w.heap.size,0,none⟩)],.func (.func 84) #[] #[.pointer (some ⟨w.heap.size,0,none⟩)],.func (.func 85) #[] #[.pointer (some ⟨w.heap.size,0,none⟩)],.func (.func 86) #[] #[.pointer (some ⟨w.heap.size,0,none⟩)]] 25)):=((Below.refl _ _).alloc (Nat.le_refl _) _).alloc (by simp) _
 have ha:=(At.new w 46 #[.int .i64 p.id,.string p.path,.string p.digest,.int .i64 p.opened,.int .i64 p.expires,v]).alloc (.cells #[.func (.func 83) #[] #[.pointer (some ⟨w.heap.size,0,none⟩)],.func (.func 84) #[] #[.pointer (some ⟨w.heap.size,0,none⟩)],.func (.func 85) #[] #[.pointer (some ⟨w.heap.size,0,none⟩)],.func (.func 86) #[] #[.pointer (some ⟨w.heap.size,0,none⟩)]] 25)
 have hf:=At.new1 w (.cells #[.int .i64 p.id,.string p.path,.string p.digest,.int .i64 p.opened,.int .i64 p.expires,v] 46) 25 #[.func (.func 83) #[] #[.pointer (some ⟨w.heap.size,0,none⟩)],.func (.func 84) #[] #[.pointer (some ⟨w.heap.size,0,none⟩)],.func (.func 85) #[] #[.pointer (some ⟨w.heap.size,0,none⟩)],.func (.func 86) #[] #[.pointer (some ⟨w.heap.size,0,none⟩)]]
 have HR:=zh hR;have HA1:=zh ha;have HF1:=zh hf;have HB:=zh hb1;have HM1:=zh (hM.below hb1);have HV1:=zh (hv.below hb1)
 have R1:=zh r1;have R2:=zh r2;have R3:=zh r3;have R4:=zh r4
 clear hR ha hf hb1 hM hv r1 r2 r3 r4
 go_enter Tryz.func51,Tryz.ntmps51
 go_upto_region 2 with fail
 generalize (w.alloc (.cells #[.int .i64 p.id,.string p.path,.string p.digest,.int .i64 p.opened,.int .i64 p.expires,v] 46)).alloc (.cells #[.func (.func 83) #[] #[.pointer (some ⟨w.heap.size,0,none⟩)],.func (.func 84) #[] #[.pointer (some ⟨w.heap.size,0,none⟩)],.func (.func 85) #[] #[.pointer (some ⟨w.heap.size,0,none⟩)],.func (.func 86) #[] #[.pointer (some ⟨w.heap.size,0,none⟩)]] 25)=w1 at*
 go_wp2_with fail
 go_loopw [13] (fun i wr=>Below w1.heap.size w1 wr/\(i=.int .i64 0\/(i=.int .i64 1/\Own.rule1 p=true)\/(i=.int .i64 2/\Own.rule1 p=true/\Own.rule2 p=true)\/(i=.int .i64 3/\Own.rule1 p=true/\Own.rule2 p=true/\Own.rule3 p=true)\/(i=.int .i64 4/\R=true))) (fun i _=>4 - (intOf i).toNat)
 case atStart=>exact⟨Below.refl _ _,.inl rfl⟩
 case round=>
  obtain⟨hb,rfl | ⟨rfl,h1⟩ | ⟨rfl,h1,h2⟩ | ⟨rfl,h1,h2,h3⟩ | ⟨rfl,h4⟩⟩:=hrel
  ·
   have HP:=zh (HA1.out.below hb HA1.out.lt);have HF:=zh (HF1.out.below hb HF1.out.lt);have HMW:=zh (HM1.out.below hb);have HVW:=zh (HV1.out.below hb);have HBW:=zh hb
   obtain⟨c0,c1,c2,c3⟩:=HF.out.c4
   clear hb
   go_wp2_with fail
   refine Calls.mono (R1.out _ wr HMW.out HP.out) ?_
   rintro e w5 ⟨rfl,hb5⟩
   have HB5:=zh (HBW.out.trans (hb5.mono HBW.out.size));clear hb5
   cases hr:Own.rule1 p with
   | false =>
     have e:R=false:=by rw[HR.out];simp[hr]
     have HE:=zh e;clear e hr
     go_wp2_with fail
     go_ret
     exact⟨by rw[HE.out];rfl,HB.out.trans (HB5.out.mono HB.out.size)⟩
   | true =>
     have HH:=zh hr;clear hr
     go_wp2_with fail
     go_round
     case measure=>simp[intOf]
     case rel=>exact⟨HB5.out,.inr (.inl ⟨rfl,HH.out⟩)⟩
  ·have H1:=zh h1
   rw[h1,Bool.true_and] at HR
   clear h1
   have HP:=zh (HA1.out.below hb HA1.out.lt);have HF:=zh (HF1.out.below hb HF1.out.lt);have HMW:=zh (HM1.out.below hb);have HVW:=zh (HV1.out.below hb);have HBW:=zh hb
   obtain⟨c0,c1,c2,c3⟩:=HF.out.c4
   clear hb
   go_wp2_with fail
   refine Calls.mono (R2.out _ wr HP.out) ?_
   rintro e w5 ⟨rfl,hb5⟩
   have HB5:=zh (HBW.out.trans (hb5.mono HBW.out.size));clear hb5
   cases hr:Own.rule2 p with
   | false =>
     have e:R=false:=by rw[HR.out];simp[hr]
     have HE:=zh e;clear e hr
     go_wp2_with fail
     go_ret
     exact⟨by rw[HE.out];rfl,HB.out.trans (HB5.out.mono HB.out.size)⟩
   | true =>
     have HH:=zh hr;clear hr
     go_wp2_with fail
     go_round
     case measure=>simp[intOf]
     case rel=>exact⟨HB5.out,.inr (.inr (.inl ⟨rfl,H1.out,HH.out⟩))⟩
  ·have H1:=zh h1;have H2:=zh h2
   rw[h1,h2,Bool.true_and,Bool.true_and] at HR
   clear h1 h2
   have HP:=zh (HA1.out.below hb HA1.out.lt);have HF:=zh (HF1.out.below hb HF1.out.lt);have HMW:=zh (HM1.out.below hb);have HVW:=zh (HV1.out.below hb);have HBW:=zh hb
   obtain⟨c0,c1,c2,c3⟩:=HF.out.c4
   clear hb
   go_wp2_with fail
   refine Calls.mono (R3.out _ wr HP.out HVW.out) ?_
   rintro e w5 ⟨rfl,hb5⟩
   have HB5:=zh (HBW.out.trans (hb5.mono HBW.out.size));clear hb5
   cases hr:Own.rule3 p with
   | false =>
     have e:R=false:=by rw[HR.out];simp[hr]
     have HE:=zh e;clear e hr
     go_wp2_with fail
     go_ret
     exact⟨by rw[HE.out];rfl,HB.out.trans (HB5.out.mono HB.out.size)⟩
   | true =>
     have HH:=zh hr;clear hr
     go_wp2_with fail
     go_round
     case measure=>simp[intOf]
     case rel=>exact⟨HB5.out,.inr (.inr (.inr (.inl ⟨rfl,H1.out,H2.out,HH.out⟩)))⟩
  ·have H1:=zh h1;have H2:=zh h2;have H3:=zh h3
   rw[h1,h2,h3,Bool.true_and,Bool.true_and,Bool.true_and] at HR
   clear h1 h2 h3
   have HP:=zh (HA1.out.below hb HA1.out.lt);have HF:=zh (HF1.out.below hb HF1.out.lt);have HMW:=zh (HM1.out.below hb);have HVW:=zh (HV1.out.below hb);have HBW:=zh hb
   obtain⟨c0,c1,c2,c3⟩:=HF.out.c4
   clear hb
   go_wp2_with fail
   refine Calls.mono (R4.out _ wr HP.out HVW.out hl) ?_
   rintro e w5 ⟨rfl,hb5⟩
   have HB5:=zh (HBW.out.trans (hb5.mono HBW.out.size));clear hb5
   cases hr:Own.rule4 p with
   | false =>
     have e:R=false:=by rw[HR.out];simp[hr]
     have HE:=zh e;clear e hr
     go_wp2_with fail
     go_ret
     exact⟨by rw[HE.out];rfl,HB.out.trans (HB5.out.mono HB.out.size)⟩
   | true =>
     have HH:=zh hr;clear hr
     go_wp2_with fail
     go_round
     case measure=>simp[intOf]
     case rel=>exact⟨HB5.out,.inr (.inr (.inr (.inr ⟨rfl,by rw[HR.out];exact HH.out⟩)))⟩
  ·have H4:=zh h4;have HBW:=zh hb
   clear h4 hb
   go_wp2_with fail
   go_ret
   exact⟨by rw[H4.out];rfl,HB.out.trans (HBW.out.mono HB.out.size)⟩
end
section
open Go Go.RowKit Go.Maps
theorem rvFind1_any (x:Own.Proposal) (u:Value) (g:Nat) (id:Int) (w:World) (hc:w.cell? ⟨g,0,none⟩=some (.int .i64 id)):
 Calls Tryz.prog 82 (#[.agg #[.int .i64 x.id,.string x.path,.string x.digest,.int .i64 x.opened,.int .i64 x.expires,u]]++#[.pointer (some ⟨g,0,none⟩)]) w fun e w' => e=.returned (.bool (decide (x.id=id)))/\Below w.heap.size w w' :=by
 obtain⟨R,hR⟩:∃ R,R=decide (x.id=id):=⟨_,rfl⟩
 rw[<- hR]
 have hR2:R=(x.id==id):=hR
 obtain⟨i0,hi0⟩:∃ i,i=x.id:=⟨_,rfl⟩
 rw[<- hi0] at hR2 ⊢
 have hb1:Below w.heap.size w (w.alloc (.cells #[.int .i64 i0,.string x.path,.string x.digest,.int .i64 x.opened,.int .i64 x.expires,u] 46)):=(Below.refl _ _).alloc (Nat.le_refl _) _
 have q:=(hb1.cell (p:=⟨g,0,none⟩) (block_lt hc)).trans hc
 have HB:=zh hb1;have HR:=zh hR2
 clear hb1 hc hR hR2 hi0
 show Calls Tryz.prog 82 #[.agg #[.int .i64 i0,.string x.path,.string x.digest,.int .i64 x.opened,.int .i64 x.expires,u],.pointer (some ⟨g,0,none⟩)] w _
 go_enter Tryz.func82,Tryz.ntmps82
 go_wp2_with fail
 go_ret
 exact⟨by rw[HR.out];rfl,HB.out⟩
theorem rvFind_any (n id:Int) (pv:Value) (l:List Own.Proposal) (w:World) (hP:Own.PropsC w pv l) (hl:l.length<=140737488355328):
 Calls Tryz.prog 47 #[.agg #[.int .i64 n,pv],.int .i64 id] w fun e w' => (∃ i,e=.returned (.int .i64 i)/\Own.Idx (fun p:Own.Proposal=>decide (p.id=id)) l i)/\Below w.heap.size w w' :=by
 obtain⟨a,c,rfl⟩:=hP.len
 have hb1:Below w.heap.size w ((w.alloc (.cells #[.int .i64 n,.slice a l.length c] 24)).alloc (.cells #[.int .i64 id] 3)):=((Below.refl _ _).alloc (Nat.le_refl _) _).alloc (by simp) _
 have hi:=(At.new1 w (.cells #[.int .i64 n,.slice a l.length c] 24) 3 #[.int .i64 id])
 have c0:=hi.c1
 have hif:=ifProposals_any 82 #[.pointer (some ⟨w.heap.size+1,0,none⟩)] (by intros;rfl) (fun p:Own.Proposal=>decide (p.id=id)) _ l _ (hP.below hb1) hl (fun W x u hb=>rvFind1_any x u _ id W ((hb.cell (p:=⟨w.heap.size+1,0,none⟩) hi.lt).trans c0))
 have HIF:=zh hif;have HB:=zh hb1
 clear hif hb1 hi c0
 go_enter Tryz.func47,Tryz.ntmps47
 go_wp2_with fail
 refine HIF.out.mono ?_
 rintro e w2 ⟨⟨i,rfl,hi⟩,hb⟩
 have HI:=zh hi;have HB2:=zh (HB.out.trans (hb.mono HB.out.size))
 clear hi hb
 go_wp2_with fail
 go_ret
 exact⟨⟨_,rfl,HI.out⟩,HB2.out⟩
theorem rvAll_any (x:Own.Proposal) (u:Value) (w:World):
 Calls Tryz.prog 43 #[.agg #[.int .i64 x.id,.string x.path,.string x.digest,.int .i64 x.opened,.int .i64 x.expires,u]] w fun e w' => e=.returned (.bool true)/\Below w.heap.size w w' :=by
 have hb1:Below w.heap.size w (w.alloc (.cells #[.int .i64 x.id,.string x.path,.string x.digest,.int .i64 x.opened,.int .i64 x.expires,u] 46)):=(Below.refl _ _).alloc (Nat.le_refl _) _
 have HB:=zh hb1;clear hb1
 go_enter Tryz.func43,Tryz.ntmps43
 go_wp2_with fail
 go_ret
 exact⟨rfl,HB.out⟩
theorem rvValid_any (q:Own.Queue) (pv:Value) (w:World) (hM:MaxL w) (hS:Own.PropsC w pv q.props) (hls:q.props.length<=140737488355328) (hlm:∀ p∈q.props,p.votes.length<=140737488355328):
 Calls Tryz.prog 16 #[.agg #[.int .i64 q.next,pv]] w fun e w' => e=.returned (.bool (Own.queueOK q))/\Below w.heap.size w w' :=by
 obtain⟨R,hR⟩:∃ R,R=Own.queueOK q:=⟨_,rfl⟩
 rw[<- hR]
 unfold Own.queueOK Own.late at hR
 obtain⟨sa,sc,rfl⟩:=hS.len
 obtain⟨nxt,S⟩:=q
 dsimp only at*
 have ha:=At.new w 24 #[.int .i64 nxt,.slice sa S.length sc]
 have hb1:Below w.heap.size w (w.alloc (.cells #[.int .i64 nxt,.slice sa S.length sc] 24)):=(Below.refl _ _).alloc (Nat.le_refl _) _
 have HR:=zh hR;have HS:=zh (hS.below hb1);have HM:=zh (hM.below hb1);have HB:=zh hb1;have HA:=zh ha;have HLM:=zh hlm
 have c0:=ha.cell 0;have c1:=ha.cell 1
 simp only[List.getElem?_toArray,List.getElem?_cons_zero,List.getElem?_cons_succ] at c0 c1
 clear hR hS hM ha hb1 hlm
 go_enter Tryz.func16,Tryz.ntmps16
 by_cases h1:0<=nxt
 case neg=>
  have d1:decide (nxt<0)=true:=decide_eq_true (by omega)
  have e:R=false:=by rw[HR.out,decide_eq_false h1];rfl
  have HE:=zh e;clear e
  go_wp2_with fail
  go_ret
  exact⟨by rw[HE.out];rfl,HB.out⟩
 have d1:decide (nxt<0)=false:=decide_eq_false (by omega)
 by_cases h2:nxt<=1099511627776
 case neg=>
  have d2:decide (1099511627776<nxt)=true:=decide_eq_true (by omega)
  have e:R=false:=by rw[HR.out,decide_eq_false h2];simp
  have HE:=zh e;clear e
  go_wp2_with fail
  go_ret
  exact⟨by rw[HE.out];rfl,HB.out⟩
 have d2:decide (1099511627776<nxt)=false:=decide_eq_false (by omega)
 by_cases h3:S.length<=64
 case neg=>
  have d3:decide ((64:Int)<S.length)=true:=decide_eq_true (by omega)
  have e:R=false:=by rw[HR.out,decide_eq_false h3];simp
  have HE:=zh e;clear e
  go_wp2_with fail
  go_ret
  exact⟨by rw[HE.out];rfl,HB.out⟩
 have d3:decide ((64:Int)<S.length)=false:=decide_eq_false (by omega)
 obtain⟨OK,hOK⟩:∃ OK:Own.Proposal->Bool,OK=fun p=>Own.proposalOK p&&decide (p.id<nxt):=⟨_,rfl⟩
 obtain⟨LT,hLT⟩:∃ LT:Own.Proposal->Own.Proposal->Bool,LT=fun x y=>decide (x.id<y.id):=⟨_,rfl⟩
 have e:R=Own.chainOK OK LT none S:=by
  rw[HR.out,decide_eq_true h1,decide_eq_true h2,decide_eq_true h3,hOK,hLT];simp
 have HR2:=zh e;clear e HR
 have eOK:∀ p,OK p=(Own.proposalOK p&&decide (p.id<nxt)):=fun p=>by rw[hOK]
 have eLT:∀ x y,LT x y=decide (x.id<y.id):=fun x y=>by rw[hLT]
 have HEO:=zh eOK;have HEL:=zh eLT
 clear hOK hLT eOK eLT
 go_wp2_with fail
 generalize w.alloc (.cells #[.int .i64 nxt,.slice sa S.length sc] 24)=w1 at*
 clear d1 d2 d3 h1 h2
 go_loopw [22] (fun i wr=>∃ k:Nat,k<=S.length/\i=.int .i64 k/\Own.chainOK OK LT none (S.take k)=true/\Below w1.heap.size w1 wr) (fun i _=>S.length - (intOf i).toNat)
 case atStart=>exact⟨0,by omega,rfl,rfl,Below.refl _ _⟩
 case round=>
  obtain⟨k,hk,rfl,hok,hb⟩:=hrel
  have HBW:=zh hb
  have hz1:=HA.out.lt
  have hbs:=hb.size
  by_cases hlt:k<S.length
  case neg=>
   have hke:k=S.length:=by omega
   have dk:decide ((k:Int)<S.length)=false:=decide_eq_false (by omega)
   have e:R=true:=by rw[HR2.out,<- hok,hke,List.take_length]
   have HE:=zh e;clear e hok hke hb
   go_wp2_with fail
   go_ret
   exact⟨by rw[HE.out];rfl,HB.out.trans (HBW.out.mono HB.out.size)⟩
  have dk:decide ((k:Int)<S.length)=true:=decide_eq_true (by omega)
  have hra:R=((OK S[k]&&Own.ahead LT (S.take k).getLast? S[k])&&Own.chainOK OK LT (some S[k]) (S.drop (k+1))):=by rw[HR2.out,Own.chainOK_at _ _ S k hlt,hok,Bool.true_and]
  have htk:Own.chainOK OK LT none (S.take (k+1))=(OK S[k]&&Own.ahead LT (S.take k).getLast? S[k]):=by rw[Own.chainOK_take _ _ S k hlt,hok,Bool.true_and]
  have hlk:=HS.out.below hb
  obtain⟨b,o,mv,ha,hbl,e0,e1,e2,e3,e4,e5,hmv⟩:=Own.PropsC.cells hlk hlt
  have hprev:∀ i,k=i+1->∃ x:Own.Proposal,wr.cell? ⟨b,o+i*6,none⟩=some (.int .i64 x.id)/\(S.take k).getLast? = some x:=by
   intro i hi
   obtain⟨b',o',_,ha',_,e0,_⟩:=Own.PropsC.cells hlk (i:=i) (by omega)
   rw[ha] at ha'
   cases ha'
   have hg:=Own.getLast_take S i (by omega)
   rw[<- hi] at hg
   exact⟨_,e0,hg⟩
  subst ha
  have hml:=HLM.out S[k] (List.getElem_mem hlt)
  obtain⟨sp,hsp⟩:∃ x,x=S[k]:=⟨_,rfl⟩
  rw[<- hsp] at hra htk e0 e1 e2 e3 e4 hmv hml
  obtain⟨rest,hrest⟩:∃ x,x=Own.chainOK OK LT (some sp) (S.drop (k+1)):=⟨_,rfl⟩
  rw[<- hrest] at hra
  rw[HEO.out] at hra htk
  obtain⟨ma,mc,rfl⟩:=hmv.len
  have hsp5:∀ W,Below wr.heap.size wr W->_:=fun W hW=>rvProposed_any sp (.slice ma sp.votes.length mc) W ((HM.out.below hb).below hW) (hmv.below hW) hml
  obtain⟨id,pa,di,op,ex,vs⟩:=sp
  dsimp only at*
  have hb5:Below w1.heap.size w1 (wr.alloc (.cells #[.int .i64 id,.string pa,.string di,.int .i64 op,.int .i64 ex,.slice ma vs.length mc] 46)).drew:=(hb.alloc hb.size _).drew
  have hb56:Below wr.heap.size wr (wr.alloc (.cells #[.int .i64 id,.string pa,.string di,.int .i64 op,.int .i64 ex,.slice ma vs.length mc] 46)).drew:=((Below.refl _ _).alloc (Nat.le_refl _) _).drew
  have hn5:=(At.new wr 46 #[.int .i64 id,.string pa,.string di,.int .i64 op,.int .i64 ex,.slice ma vs.length mc]).drew
  have HSP5:=zh (hsp5 _ hb56);have HPREV:=zh hprev;have HB5:=zh hb5;have HB56:=zh hb56;have HN5:=zh hn5
  clear hok hb hlk hprev hb5 hb56 hn5 hsp5 hrest hsp hmv
  cases hs:Own.proposalOK ⟨id,pa,di,op,ex,vs⟩ with
  | false =>
    have e:R=false:=by rw[hra,hs];rfl
    have HE:=zh e;clear e hra htk
    have HHS:=zh hs;clear hs
    go_wp2_with fail
    refine Lex.wp_region_lex (by kernel_rfl) (by kernel_rfl) ?_
    go_wp2_with fail
    refine HSP5.out.mono ?_
    rintro e3 w7 ⟨rfl,hb7⟩
    rw[HHS.out]
    have hb17:=HB5.out.trans (hb7.mono HB5.out.size)
    have g0:=((HA.out.below hb17 hz1)).cell 0
    have g1:=((HA.out.below hb17 hz1)).cell 1
    have n0:=(HN5.out.below hb7 HN5.out.lt).cell 0
    simp only[List.getElem?_toArray,List.getElem?_cons_zero,List.getElem?_cons_succ] at g0 g1 n0
    try have f1:=((HB56.out.trans (hb7.mono HB56.out.size)).cell (p:=⟨b,o+i*6,none⟩) hbl).trans F0.out
    have HB7:=zh hb17;clear hb7 hb17
    go_wp2_with fail
    refine Lex.Ends.intro (by kernel_rfl) ?_
    go_wp2_with fail
    go_ret
    exact⟨by rw[HE.out];rfl,HB.out.trans (HB7.out.mono HB.out.size)⟩
  | true=>
  rw[hs,Bool.true_and] at hra htk
  have HHS:=zh hs;clear hs
  by_cases n1:id<nxt
  case neg=>
   have dn1:decide (nxt<=id)=true:=decide_eq_true (by omega)
   have e:R=false:=by rw[hra,decide_eq_false n1];rfl
   have HE:=zh e;clear e hra htk n1
   go_wp2_with fail
   refine Lex.wp_region_lex (by kernel_rfl) (by kernel_rfl) ?_
   go_wp2_with fail
   refine HSP5.out.mono ?_
   rintro e3 w7 ⟨rfl,hb7⟩
   rw[HHS.out]
   have hb17:=HB5.out.trans (hb7.mono HB5.out.size)
   have g0:=((HA.out.below hb17 hz1)).cell 0
   have g1:=((HA.out.below hb17 hz1)).cell 1
   have n0:=(HN5.out.below hb7 HN5.out.lt).cell 0
   simp only[List.getElem?_toArray,List.getElem?_cons_zero,List.getElem?_cons_succ] at g0 g1 n0
   try have f1:=((HB56.out.trans (hb7.mono HB56.out.size)).cell (p:=⟨b,o+i*6,none⟩) hbl).trans F0.out
   have HB7:=zh hb17;clear hb7 hb17
   go_wp2_with fail
   refine Lex.Ends.intro (by kernel_rfl) ?_
   go_wp2_with fail
   go_ret
   exact⟨by rw[HE.out];rfl,HB.out.trans (HB7.out.mono HB.out.size)⟩
  have dn1:decide (nxt<=id)=false:=decide_eq_false (by omega)
  rw[decide_eq_true n1,Bool.true_and] at hra htk
  rcases Nat.eq_zero_or_pos k with hk0 | hkp
  ·have hl0:(S.take k).getLast? = none:=by rw[hk0];rfl
   rw[hl0] at htk
   have htk' : Own.chainOK OK LT none (S.take (k+1))=true:=htk
   have HT:=zh htk'
   have HK0:=zh hk0
   have dz:decide ((0:Int)<(k:Int))=false:=decide_eq_false (by omega)
   have dz' : decide (0<k)=false:=decide_eq_false (by omega)
   clear hl0 hra htk htk' hk0
   go_wp2_with fail
   refine Lex.wp_region_lex (by kernel_rfl) (by kernel_rfl) ?_
   go_wp2_with fail
   refine HSP5.out.mono ?_
   rintro e3 w7 ⟨rfl,hb7⟩
   rw[HHS.out]
   have hb17:=HB5.out.trans (hb7.mono HB5.out.size)
   have g0:=((HA.out.below hb17 hz1)).cell 0
   have g1:=((HA.out.below hb17 hz1)).cell 1
   have n0:=(HN5.out.below hb7 HN5.out.lt).cell 0
   simp only[List.getElem?_toArray,List.getElem?_cons_zero,List.getElem?_cons_succ] at g0 g1 n0
   try have f1:=((HB56.out.trans (hb7.mono HB56.out.size)).cell (p:=⟨b,o+i*6,none⟩) hbl).trans F0.out
   have HB7:=zh hb17;clear hb7 hb17
   go_wp2_with fail
   refine Lex.Ends.intro (by kernel_rfl) ?_
   go_wp2_with fail
   go_round
   case measure=>simp[intOf];omega
   case rel=>exact⟨k+1,by omega,by go_num,HT.out,HB7.out⟩
  ·obtain⟨i,hi⟩:∃ i,k=i+1:=⟨k - 1,by omega⟩
   obtain⟨x,f0,hx⟩:=HPREV.out i hi
   rw[hx] at hra htk
   have hra3:R=(LT x ⟨id,pa,di,op,ex,vs⟩&&rest):=hra
   have htk3:Own.chainOK OK LT none (S.take (k+1))=LT x ⟨id,pa,di,op,ex,vs⟩:=htk
   rw[HEL.out] at hra3 htk3
   dsimp only at hra3 htk3
   obtain⟨xi,hxi⟩:∃ xi,xi=x.id:=⟨_,rfl⟩
   rw[<- hxi] at hra3 htk3 f0
   have dz:decide ((0:Int)<(k:Int))=true:=decide_eq_true (by omega)
   have dz' : decide (0<k)=true:=decide_eq_true (by omega)
   have ek:(k:Int) - 1=(i:Int):=by omega
   have hjl:i<S.length:=by omega
   have F0:=zh f0
   by_cases hlb:xi<id
   case neg=>
    have dn2:decide (id<=xi)=true:=decide_eq_true (by omega)
    have e:R=false:=by rw[hra3,decide_eq_false hlb];rfl
    have HE:=zh e
    clear e hra htk hra3 htk3 hx f0 hi hlb hxi
    go_wp2_with fail
    refine Lex.wp_region_lex (by kernel_rfl) (by kernel_rfl) ?_
    go_wp2_with fail
    refine HSP5.out.mono ?_
    rintro e3 w7 ⟨rfl,hb7⟩
    rw[HHS.out]
    have hb17:=HB5.out.trans (hb7.mono HB5.out.size)
    have g0:=((HA.out.below hb17 hz1)).cell 0
    have g1:=((HA.out.below hb17 hz1)).cell 1
    have n0:=(HN5.out.below hb7 HN5.out.lt).cell 0
    simp only[List.getElem?_toArray,List.getElem?_cons_zero,List.getElem?_cons_succ] at g0 g1 n0
    try have f1:=((HB56.out.trans (hb7.mono HB56.out.size)).cell (p:=⟨b,o+i*6,none⟩) hbl).trans F0.out
    have HB7:=zh hb17;clear hb7 hb17
    go_wp2_with fail
    refine Lex.Ends.intro (by kernel_rfl) ?_
    go_wp2_with fail
    go_ret
    exact⟨by rw[HE.out];rfl,HB.out.trans (HB7.out.mono HB.out.size)⟩
   case pos=>
    have dn2:decide (id<=xi)=false:=decide_eq_false (by omega)
    rw[decide_eq_true hlb] at htk3
    have HT:=zh htk3
    clear hra htk hra3 htk3 hx f0 hi hlb hxi
    go_wp2_with fail
    refine Lex.wp_region_lex (by kernel_rfl) (by kernel_rfl) ?_
    go_wp2_with fail
    refine HSP5.out.mono ?_
    rintro e3 w7 ⟨rfl,hb7⟩
    rw[HHS.out]
    have hb17:=HB5.out.trans (hb7.mono HB5.out.size)
    have g0:=((HA.out.below hb17 hz1)).cell 0
    have g1:=((HA.out.below hb17 hz1)).cell 1
    have n0:=(HN5.out.below hb7 HN5.out.lt).cell 0
    simp only[List.getElem?_toArray,List.getElem?_cons_zero,List.getElem?_cons_succ] at g0 g1 n0
    try have f1:=((HB56.out.trans (hb7.mono HB56.out.size)).cell (p:=⟨b,o+i*6,none⟩) hbl).trans F0.out
    have HB7:=zh hb17;clear hb7 hb17
    go_wp2_with fail
    refine Lex.Ends.intro (by kernel_rfl) ?_
    go_wp2_with fail
    go_round
    case measure=>simp[intOf];omega
    case rel=>exact⟨k+1,by omega,by go_num,HT.out,HB7.out⟩
end
section
open Go Go.RowKit Go.Maps
theorem info_Proposal:(Tryz.prog.info? 46).map (·.size)=some 6:=by kernel_rfl
theorem rvCopied_any (p:Own.Proposal) (v:Value) (w:World) (h:Own.VotesC w v p.votes) (hl:p.votes.length<=3000000):
 Calls Tryz.prog 74 #[.agg #[.int .i64 p.id,.string p.path,.string p.digest,.int .i64 p.opened,.int .i64 p.expires,v]] w fun e w' => ∃ v',e=.returned (.agg #[.int .i64 p.id,.string p.path,.string p.digest,.int .i64 p.opened,.int .i64 p.expires,v'])/\w'.ownsRow w.heap.size 82 3 v' p.votes.length (p.votes.flatMap Own.encV)/\Below w.heap.size w w' :=by
 obtain⟨id,pa,di,op,ex,l⟩:=p
 dsimp only at*
 have ha1:=(At.new w 46 #[.int .i64 id,.string pa,.string di,.int .i64 op,.int .i64 ex,v]).alloc (.cells #[.int .i64 0,.string ⟨#[]⟩,.string ⟨#[]⟩,.int .i64 0,.int .i64 0,.slice none 0 0] 46)
 have ha2:=At.new1 w (.cells #[.int .i64 id,.string pa,.string di,.int .i64 op,.int .i64 ex,v] 46) 46 #[.int .i64 0,.string ⟨#[]⟩,.string ⟨#[]⟩,.int .i64 0,.int .i64 0,.slice none 0 0]
 have hb1:Below w.heap.size w ((w.alloc (.cells #[.int .i64 id,.string pa,.string di,.int .i64 op,.int .i64 ex,v] 46)).alloc (.cells #[.int .i64 0,.string ⟨#[]⟩,.string ⟨#[]⟩,.int .i64 0,.int .i64 0,.slice none 0 0] 46)):=((Below.refl _ _).alloc (Nat.le_refl _) _).alloc (by simp) _
 obtain⟨a,c,rfl⟩:=h.len
 have H:=zh (h.below hb1);have HA1:=zh ha1;have HA2:=zh ha2;have HB1:=zh hb1
 have c1:=ha1.cell 5
 simp only[List.getElem?_toArray,List.getElem?_cons_zero,List.getElem?_cons_succ] at c1
 clear h ha1 ha2 hb1
 go_enter Tryz.func74,Tryz.ntmps74
 go_wp2_with fail
 have hz:((w.alloc (.cells #[.int .i64 id,.string pa,.string di,.int .i64 op,.int .i64 ex,.slice a l.length c] 46)).alloc (.cells #[.int .i64 0,.string ⟨#[]⟩,.string ⟨#[]⟩,.int .i64 0,.int .i64 0,.slice none 0 0] 46)).heap.size=w.heap.size+2:=by simp
 generalize (w.alloc (.cells #[.int .i64 id,.string pa,.string di,.int .i64 op,.int .i64 ex,.slice a l.length c] 46)).alloc (.cells #[.int .i64 0,.string ⟨#[]⟩,.string ⟨#[]⟩,.int .i64 0,.int .i64 0,.slice none 0 0] 46)=w1 at*
 refine(clVotes_any _ l.length _ w1 (Own.VotesC.rows H.out) (Own.one_V l) hl).mono ?_
 rintro e w2 ⟨v',rfl,ho,hb⟩
 have ha1:=HA1.out.below hb (by omega)
 have ha2:=HA2.out.below hb (by omega)
 have hne1:=ha1.own_ne ho (by decide)
 have hne2:=ha2.own_ne ho (by decide)
 have hb2:=HB1.out.trans (hb.mono HB1.out.size)
 have z5:=ha1.free 5;have y0:=ha1.cell 0;have y1:=ha1.cell 1;have y2:=ha1.cell 2;have y3:=ha1.cell 3;have y4:=ha1.cell 4;have y5:=ha1.cell 5
 have x0:=ha2.cell 0;have x1:=ha2.cell 1;have x2:=ha2.cell 2;have x3:=ha2.cell 3;have x4:=ha2.cell 4;have x5:=ha2.cell 5
 have f0:=ha2.free 0;have f1:=ha2.free 1;have f2:=ha2.free 2;have f3:=ha2.free 3;have f4:=ha2.free 4;have f5:=ha2.free 5
 simp only[List.getElem?_toArray,List.getElem?_cons_zero,List.getElem?_cons_succ] at y0 y1 y2 y3 y4 y5 x0 x1 x2 x3 x4 x5
 obtain⟨va,vm,vc,rfl⟩:=own_slice ho
 have HO:=zh ho;have G1:=zh ha1;have G2:=zh ha2;have HB2:=zh hb2
 clear ho hb ha1 ha2 hb2 c1
 go_wp2_with fail
 have F2:=((((((G2.out.far (p:=⟨w.heap.size,5,none⟩) (by simp) (.slice va vm vc)).set 0 (.int .i64 id)).set 1 (.string pa)).set 2 (.string di)).set 3 (.int .i64 op)).set 4 (.int .i64 ex)).set 5 (.slice va vm vc)
 refine done_c rfl rfl (load_row F2 Tryz.underlying46 rfl info_Proposal) ⟨_,rfl,?_,?_⟩
 ·refine own_base (own_keep HO.out (fun k hk=>?_)) (by omega)
  have k1:k≠w.heap.size:=by rintro rfl;exact hne1 hk
  have k2:k≠w.heap.size+1:=by rintro rfl;exact hne2 hk
  rw[heap_setCell_other _ _ _ _ k2,heap_setCell_other _ _ _ _ k2,heap_setCell_other _ _ _ _ k2,heap_setCell_other _ _ _ _ k2,heap_setCell_other _ _ _ _ k2,heap_setCell_other _ _ _ _ k2,heap_setCell_other _ _ _ _ k1]
 ·exact((((((HB2.out.setCell (p:=⟨w.heap.size,5,none⟩) (Nat.le_refl _) _).setCell (p:=⟨w.heap.size+1,0,none⟩) (by simp) _).setCell (p:=⟨w.heap.size+1,1,none⟩) (by simp) _).setCell (p:=⟨w.heap.size+1,2,none⟩) (by simp) _).setCell (p:=⟨w.heap.size+1,3,none⟩) (by simp) _).setCell (p:=⟨w.heap.size+1,4,none⟩) (by simp) _).setCell (p:=⟨w.heap.size+1,5,none⟩) (by simp) _
end
section
open Go Go.RowKit Go.Maps
namespace Own
def POwn (B:Nat) (w:World) (v:Value) (L:List Proposal):Prop:=
 ∃ css:List (List Value),css.length=L.length/\w.ownsRow B 46 6 v L.length css.flatten/\∀ i (hi:i<L.length) (hi' : i<css.length),css[i].length=6/\RProp (fun k=>B<=k/\k<w.heap.size/\v.ownBlock≠some k) w css[i] L[i]
theorem POwn.nil (B:Nat) (w:World):POwn B w (.slice none 0 0) []:=⟨[],rfl,⟨rfl,.inl ⟨rfl,rfl⟩⟩,fun i hi=>absurd hi (by simp)⟩
theorem own_lt' {w:World} {base n size:Nat} {e:TypeId} {v:Value} {xs:List Value} (h:w.ownsRow base e size v n xs):∀ k,v.ownBlock=some k->k<w.heap.size:=by
 intro k hk
 obtain⟨_,⟨rfl,_⟩ | ⟨g,cap,cur,rfl,hg,hc,_⟩⟩:=h
 ·cases hk
 ·have : g = k :=by
   have hk' : some g=some k:=hk
   exact Option.some.inj hk'
  subst this
  exact(show At w g e cur from hc).lt
theorem POwn.keep {B:Nat} {w w' : World} {v:Value} {L:List Proposal} (h:POwn B w v L) (hs:w.heap.size<=w'.heap.size) (hk:∀ k,B<=k->k<w.heap.size->w'.heap[k]? = w.heap[k]?):POwn B w' v L:=by
 obtain⟨css,h1,h2,h3⟩:=h
 refine⟨css,h1,own_keep h2 (fun k e=>hk k (own_up h2 k e) (own_lt' h2 k e)),fun i hi hi' => ?_⟩
 obtain⟨h4,u,h5,h6⟩:=h3 i hi hi'
 exact⟨h4,u,h5,(h6.keep hs (fun k hF hl=>hk k hF.1 hl)).mono (fun k hF _=>⟨hF.1,by omega,hF.2.2⟩)⟩
theorem POwn.below {B:Nat} {w w' : World} {v:Value} {L:List Proposal} (h:POwn B w v L) (hb:Below w.heap.size w w'):POwn B w' v L:=h.keep hb.size fun k _ hl=>hb.block k hl
theorem POwn.one {B:Nat} {w:World} {v:Value} {L:List Proposal} (h:POwn B w v L):∃ a c,v=.slice a L.length c:=by
 obtain⟨css,h1,h2,h3⟩:=h
 obtain⟨a,m,c,rfl⟩:=own_slice h2
 obtain rfl:=own_len h2
 exact⟨a,c,rfl⟩
theorem POwn.list {B:Nat} {w:World} {v:Value} {L:List Proposal} {F:Nat->Prop} (h:POwn B w v L) (hF:∀ k,B<=k->k<w.heap.size->F k):ListF 6 RProp F w v L:=by
 obtain⟨css,h1,h2,h3⟩:=h
 refine ListF.of_rows (RowsC.own h2) rfl h1 (fun k e=>hF k (own_up h2 k e) (own_lt' h2 k e)) (fun i hi hi' => ?_)
 obtain⟨h4,u,h5,h6⟩:=h3 i hi hi'
 exact⟨h4,u,h5,h6.mono (fun k hk _=>hF k hk.1 hk.2.1)⟩
theorem POwn.push {B:Nat} {w w' : World} {v v' : Value} {L:List Proposal} {x:Proposal} {u:Value} {css:List (List Value)} (h1:css.length=L.length) (hv:w.ownsRow B 46 6 v L.length css.flatten)
 (h3:∀ i (hi:i<L.length) (hi' : i<css.length),css[i].length=6/\RProp (fun k=>B<=k/\k<w.heap.size/\v.ownBlock≠some k) w css[i] L[i]) (hu:ListF 3 RVote (fun k=>B<=k/\k<w.heap.size/\v.ownBlock≠some k) w u x.votes)
 (hv' : w'.ownsRow B 46 6 v' (L.length+1) (css.flatten++[.int .i64 x.id,.string x.path,.string x.digest,.int .i64 x.opened,.int .i64 x.expires,u])) (hg:w.grownBy w' v.ownBlock) (ho:v'.ownBlock=v.ownBlock\/v'.ownBlock=some w.heap.size):POwn B w' v' (L++[x]):=by
 have hsz:w.heap.size<=w'.heap.size:=hg.size
 have hkp:∀ k,B<=k/\k<w.heap.size/\v.ownBlock≠some k->k<w.heap.size->w'.heap[k]? = w.heap[k]? :=fun k hF hl=>hg.block k hl (fun e=>hF.2.2 e.symm)
 have hF:∀ k,B<=k/\k<w.heap.size/\v.ownBlock≠some k->k<w'.heap.size->B<=k/\k<w'.heap.size/\v'.ownBlock≠some k:=fun k hF hl=>⟨hF.1,hl,by
  rcases ho with ho | ho
  ·rw[ho];exact hF.2.2
  ·rw[ho];intro e;have:=Option.some.inj e;omega⟩
 refine⟨css++[[.int .i64 x.id,.string x.path,.string x.digest,.int .i64 x.opened,.int .i64 x.expires,u]],by simp[h1],?_,fun i hi hi' => ?_⟩
 ·rw[List.flatten_append,List.length_append]
  simpa using hv'
 ·by_cases hl:i<L.length
  ·obtain⟨h4,u',h5,h6⟩:=h3 i hl (by omega)
   rw[List.getElem_append_left (by omega),List.getElem_append_left hl]
   exact⟨h4,u',h5,(h6.keep hsz hkp).mono hF⟩
  ·have e:i=L.length:=by simp at hi;omega
   subst e
   rw[List.getElem_append_right (by omega),List.getElem_append_right (by omega)]
   simp only[h1,Nat.sub_self,List.getElem_cons_zero]
   exact⟨rfl,u,rfl,(hu.keep hsz hkp).mono hF⟩
end Own
theorem info_Queue:(Tryz.prog.info? 24).map (·.size)=some 2:=by kernel_rfl
theorem rvKept_any (g:Nat) (lb:Array Value) (eg:∀ args w,(callFunc g args).run Tryz.prog w=.ok (.enter g args) w) (p:Own.Proposal->Bool) (n:Int) (pv:Value) (l:List Own.Proposal) (w:World) (hP:Own.PropsC w pv l) (hl:l.length<=1000000) (hlv:∀ x∈l,x.votes.length<=3000000)
 (hp:∀ (W:World) (x:Own.Proposal) (u:Value),Below w.heap.size w W->Calls Tryz.prog g (#[.agg #[.int .i64 x.id,.string x.path,.string x.digest,.int .i64 x.opened,.int .i64 x.expires,u]]++lb) W fun e w' => e=.returned (.bool (p x))/\Below W.heap.size W w'):
 Calls Tryz.prog 42 #[.agg #[.int .i64 n,pv],.func (.func g) #[] lb] w fun e w' => (∃ v',e=.returned (.agg #[.int .i64 n,v'])/\Own.POwn (w.heap.size+3) w' v' (l.filter p))/\Below w.heap.size w w' :=by
 obtain⟨a,c,rfl⟩:=hP.len
 have hb1:Below w.heap.size w (((w.alloc (.cells #[.int .i64 n,.slice a l.length c] 24)).alloc (.cells #[.int .i64 0,.slice none 0 0] 24)).alloc (.cells #[.int .i64 n,.slice none 0 0] 24)):=(((Below.refl _ _).alloc (Nat.le_refl _) _).alloc (by simp) _).alloc (by simp;omega) _
 have a1:=(At.new1 w (.cells #[.int .i64 n,.slice a l.length c] 24) 24 #[.int .i64 0,.slice none 0 0]).alloc (.cells #[.int .i64 n,.slice none 0 0] 24)
 have a2:At (((w.alloc (.cells #[.int .i64 n,.slice a l.length c] 24)).alloc (.cells #[.int .i64 0,.slice none 0 0] 24)).alloc (.cells #[.int .i64 n,.slice none 0 0] 24)) (w.heap.size+1+1) 24 #[.int .i64 n,.slice none 0 0]:=by
  have:=At.new1 (w.alloc (.cells #[.int .i64 n,.slice a l.length c] 24)) (.cells #[.int .i64 0,.slice none 0 0] 24) 24 #[.int .i64 n,.slice none 0 0]
  rwa [World.size_alloc] at this
 have a0:=((At.new w 24 #[.int .i64 n,.slice a l.length c]).alloc (.cells #[.int .i64 0,.slice none 0 0] 24)).alloc (.cells #[.int .i64 n,.slice none 0 0] 24)
 have hz1:(((w.alloc (.cells #[.int .i64 n,.slice a l.length c] 24)).alloc (.cells #[.int .i64 0,.slice none 0 0] 24)).alloc (.cells #[.int .i64 n,.slice none 0 0] 24)).heap.size=w.heap.size+3:=by simp
 have c1:=a0.cell 1
 simp only[List.getElem?_toArray,List.getElem?_cons_zero,List.getElem?_cons_succ] at c1
 have HP:=zh hp;have HL:=zh hP;have HB1:=zh hb1;have HA1:=zh a1;have HA2:=zh a2;have HLV:=zh hlv;have HZ1:=zh hz1
 clear hp hP hb1 a0 a1 a2 hlv hz1
 go_enter Tryz.func42,Tryz.ntmps42
 go_upto_region 2 with fail
 generalize ((w.alloc (.cells #[.int .i64 n,.slice a l.length c] 24)).alloc (.cells #[.int .i64 0,.slice none 0 0] 24)).alloc (.cells #[.int .i64 n,.slice none 0 0] 24)=w1 at*
 go_wp2_with fail
 clear c1
 have hz1:=Nat.le_of_eq HZ1.out.symm
 go_loopw [14] (fun i wr=>∃ (k:Nat) (v:Value),k<=l.length/\i=.int .i64 k/\At wr (w.heap.size+1) 24 #[.int .i64 0,.slice none 0 0]/\At wr (w.heap.size+1+1) 24 #[.int .i64 n,v]/\Own.POwn (w.heap.size+3) wr v ((l.take k).filter p)/\Below w.heap.size w wr/\w.heap.size+3<=wr.heap.size) (fun i _=>l.length - (intOf i).toNat)
 case atStart=>exact⟨0,_,by omega,rfl,HA1.out,HA2.out,Own.POwn.nil _ _,HB1.out,hz1⟩
 case round=>
  obtain⟨k,v,hk,rfl,hra,hoa,hpo,hbw,hsz⟩:=hrel
  obtain⟨va,vc,rfl⟩:=hpo.one
  have HRA:=zh hra;have HOA:=zh hoa;have HPO:=zh hpo;have HBW:=zh hbw
  have c0:=hoa.cell 0;have c1:=hoa.cell 1
  have r0:=hra.cell 0;have r1:=hra.cell 1;have r2:=hra.free 0;have r3:=hra.free 1
  simp only[List.getElem?_toArray,List.getElem?_cons_zero,List.getElem?_cons_succ] at c0 c1 r0 r1
  clear hra hoa
  by_cases hlt:k<l.length
  case neg=>
   have hke:k=l.length:=by omega
   have dk:decide ((k:Int)<l.length)=false:=decide_eq_false (by omega)
   rw[hke,List.take_length] at hpo
   have HPO2:=zh hpo
   obtain⟨M,hM⟩:∃ M,M=(List.filter p (List.take k l)).length:=⟨_,rfl⟩
   have hM2:M=(List.filter p l).length:=by rw[hM,hke,List.take_length]
   rw[<- hM] at c1
   rw[<- hM2] at HPO2
   clear hke hpo hbw HPO hM hM2
   go_wp2_with fail
   have F2:=(HRA.out.set 0 (.int .i64 n)).set 1 (.slice va M vc)
   refine done_c rfl rfl (load_row F2 Tryz.underlying24 rfl info_Queue) ⟨⟨_,rfl,?_⟩,?_⟩
   ·exact HPO2.out.keep (by simp [World.setCell]) (fun k hk _ => by
     have hk1:k≠w.heap.size+1:=by omega
     rw[heap_setCell_other _ _ _ _ hk1,heap_setCell_other _ _ _ _ hk1])
   ·exact(HBW.out.setCell (p:=⟨w.heap.size+1,0,none⟩) (by simp) _).setCell (p:=⟨w.heap.size+1,1,none⟩) (by simp) _
  have dk:decide ((k:Int)<l.length)=true:=decide_eq_true (by omega)
  obtain⟨M,hM⟩:∃ M,M=(List.filter p (List.take k l)).length:=⟨_,rfl⟩
  have hM1:M<=1000000:=by
   rw[hM]
   have:=List.length_filter_le p (List.take k l)
   have h2:(List.take k l).length=k:=by rw[List.length_take];omega
   omega
  have htk:(l.take (k+1)).filter p=(l.take k).filter p++(if p l[k]=true then [l[k]] else []):=by
   have e:List.filter p [l[k]]=if p l[k]=true then [l[k]] else []:=by cases h:p l[k] <;> simp[h]
   rw[List.take_succ_eq_append_getElem hlt,List.filter_append,e]
  obtain⟨L,hL⟩:∃ L,L=(l.take k).filter p:=⟨_,rfl⟩
  rw[<- hL] at hM htk hpo HPO HOA c1
  rw[<- hM] at hpo HPO HOA c1
  obtain⟨b,o,u,ha,hbl,e0,e1,e2,e3,e4,e5,huv⟩:=Own.PropsC.cells (HL.out.below hbw) hlt
  subst ha
  have hlk:=HLV.out l[k] (List.getElem_mem hlt)
  obtain⟨x,hx⟩:∃ x,x=l[k]:=⟨_,rfl⟩
  rw[<- hx] at htk e0 e1 e2 e3 e4 huv hlk
  obtain⟨ua,uc,rfl⟩:=huv.len
  have hb5:Below wr.heap.size wr (wr.alloc (.cells #[.int .i64 x.id,.string x.path,.string x.digest,.int .i64 x.opened,.int .i64 x.expires,.slice ua x.votes.length uc] 46)):=(Below.refl _ _).alloc (Nat.le_refl _) _
  have hn5:=At.new wr 46 #[.int .i64 x.id,.string x.path,.string x.digest,.int .i64 x.opened,.int .i64 x.expires,.slice ua x.votes.length uc]
  have hcall:=HP.out (wr.alloc (.cells #[.int .i64 x.id,.string x.path,.string x.digest,.int .i64 x.opened,.int .i64 x.expires,.slice ua x.votes.length uc] 46)) x (.slice ua x.votes.length uc) (hbw.trans (hb5.mono hbw.size))
  have hcp:=fun W (hW:Below wr.heap.size wr W)=>rvCopied_any x (.slice ua x.votes.length uc) W (huv.below hW) hlk
  have HCP:=zh hcp;have HB5:=zh hb5;have HN5:=zh hn5;have HTK:=zh htk
  obtain⟨pid,ppa,pdi,pop,pex,pvs⟩:=x
  dsimp only at e0 e1 e2 e3 e4 hcall HCP HB5 HN5
  obtain⟨ND,hND⟩:∃ ND:Own.Proposal,ND=⟨pid,ppa,pdi,pop,pex,pvs⟩:=⟨_,rfl⟩
  rw[<- hND] at hcall hx HTK
  have HMM:=zh hM
  clear hb5 hn5 hcp htk hpo hbw huv hL hM r0 r1 r2 r3 c0 c1
  cases hq:p ND with
  | false =>
    rw[hq] at hcall
    go_wp2_with (go_at_fn g;refine hcall.mono ?_;rintro e w6 ⟨rfl,hb6⟩)
    go_round
    case measure=>simp[intOf];omega
    case rel=>
     have hb56:=HB5.out.trans (hb6.mono HB5.out.size)
     have htk2:(l.take (k+1)).filter p=L:=by rw[HTK.out,hq];simp
     refine⟨k+1,.slice va M vc,by omega,by go_num,HRA.out.below hb56 HRA.out.lt,HOA.out.below hb56 HOA.out.lt,?_,HBW.out.trans (hb56.mono HBW.out.size),Nat.le_trans hsz hb56.size⟩
     rw[htk2]
     exact HPO.out.below hb56
  | true =>
    rw[hq] at hcall
    go_wp2_with (go_at_fn g;refine hcall.mono ?_;rintro e w6 ⟨rfl,hb6⟩)
    have hb56:=HB5.out.trans (hb6.mono HB5.out.size)
    have n6:=HN5.out.below hb6 HN5.out.lt
    have o6:=HOA.out.below hb56 HOA.out.lt
    have r6:=HRA.out.below hb56 HRA.out.lt
    have p6:=HPO.out.below hb56
    have g0:=n6.cell 0;have g1:=n6.cell 1;have g2:=n6.cell 2;have g3:=n6.cell 3;have g4:=n6.cell 4;have g5:=n6.cell 5
    have c1:=o6.cell 1
    simp only[List.getElem?_toArray,List.getElem?_cons_zero,List.getElem?_cons_succ] at g0 g1 g2 g3 g4 g5 c1
    have hcp:=HCP.out w6.drew hb56.drew
    have HC6:=zh hcp;have O6:=zh o6;have R6:=zh r6;have P6:=zh p6;have B6:=zh (HBW.out.trans (hb56.mono HBW.out.size))
    have hs6:=Nat.le_trans hsz hb56.size
    have hol:=o6.lt
    clear hcp n6 o6 r6 p6 hb56 hb6 HCP HN5 HB5 hcall HOA HRA HPO HBW
    go_wp2_with fail
    refine Lex.wp_region_lexN (fun j=>j=w.heap.size+1+1) [1] 5 [4] (by kernel_rfl) (by kernel_rfl) (by kernel_rfl) ?_
    simp only[Lex.wpCuts,List.take_succ_cons,List.take_zero,List.drop_succ_cons,List.drop_zero]
    go_wp2_with fail
    refine HC6.out.mono ?_
    rintro e w7 ⟨v',rfl,hov,hb7⟩
    obtain⟨va',vm',vc',rfl⟩:=own_slice hov
    have hb7' : Below w6.heap.size w6 w7:=(Below.refl w6.heap.size w6).drew.trans hb7
    have o7:=O6.out.below hb7' hol
    have c7:=o7.cell 1;have f7:=o7.free 1
    simp only[List.getElem?_toArray,List.getElem?_cons_zero,List.getElem?_cons_succ] at c7
    have HB7:=zh hb7';have HOV:=zh hov;have O7:=zh o7
    clear hb7 hb7' hov o7 g0 g1 g2 g3 g4 g5
    go_wp2_with fail
    refine Lex.Mid.intro (fun j hj _=>by rw[hj];exact HB7.out.block _ hol) ?_
    have hb78:Below w7.heap.size w7 (w7.alloc (.cells #[.int .i64 pid,.string ppa,.string pdi,.int .i64 pop,.int .i64 pex,.slice va' vm' vc'] 46)):=(Below.refl _ _).alloc (Nat.le_refl _) _
    have hrw:=(rows_new w7 46 #[.int .i64 pid,.string ppa,.string pdi,.int .i64 pop,.int .i64 pex,.slice va' vm' vc'] 6 1 1 rfl)
    have hob:∀ k,(Value.slice va M vc).ownBlock=some k->k<w6.heap.size:=by
     obtain⟨_,_,q2,_⟩:=P6.out
     exact Own.own_lt' q2
    have hu7:ListF 3 Own.RVote (fun k=>w.heap.size+3<=k/\k<w7.heap.size/\(Value.slice va M vc).ownBlock≠some k) w7 (.slice va' vm' vc') pvs:=
     rows_flat (enc:=Own.encV) (fun _=>rfl) (fun _=>rfl) (RowsC.own HOV.out) rfl (fun j hj=>by
      have h1:w6.heap.size<=j:=own_up HOV.out j hj
      exact⟨by omega,Own.own_lt' HOV.out j hj,fun e=>by have:=hob j e;omega⟩)
    have hu8:ListF 3 Own.RVote (fun k=>w.heap.size+3<=k/\k<(w7.alloc (.cells #[.int .i64 pid,.string ppa,.string pdi,.int .i64 pop,.int .i64 pex,.slice va' vm' vc'] 46)).heap.size/\(Value.slice va M vc).ownBlock≠some k) (w7.alloc (.cells #[.int .i64 pid,.string ppa,.string pdi,.int .i64 pop,.int .i64 pex,.slice va' vm' vc'] 46)) (.slice va' vm' vc') pvs:=(hu7.below hb78).mono (fun k hk hl=>⟨hk.1,hl,hk.2.2⟩)
    have p8:=(P6.out.below HB7.out).below hb78
    obtain⟨css,h1,h2,h3⟩:=p8
    have H1:=zh h1;have H2:=zh h2;have H3:=zh h3;have HU:=zh hu8;have HRW:=zh hrw;have HB78:=zh hb78
    have hLM:L.length<=1000000:=by have:=HMM.out;omega
    have h67:=HB7.out.size
    have B8:=zh ((B6.out.trans (HB7.out.mono B6.out.size)).trans (hb78.mono (by have:=B6.out.size;omega)))
    have R8:=zh ((R6.out.below HB7.out R6.out.lt).below hb78 (by have:=R6.out.lt;omega));have O8:=zh (O7.out.below hb78 O7.out.lt)
    clear h1 h2 h3 hu8 hu7 hrw hb78 hob
    go_wp2_with (at_builtin;go_must (refine wp_append_rows elemProps rfl _ _ rfl (w.heap.size+3) L.length (.slice va M vc) css.flatten rfl H2.out (.slice (some ⟨w7.heap.size,0,none⟩) 1 1) 1 [.int .i64 pid,.string ppa,.string pdi,.int .i64 pop,.int .i64 pex,.slice va' vm' vc'] rfl HRW.out (by intro u hu;simp at hu;rcases hu with rfl | rfl | rfl | rfl | rfl | rfl <;> rfl) (by omega) (by omega) (by rw[World.size_alloc];omega) ?_);intro v9 w9 ho9 hg9 hw9;obtain⟨ya,ym,yc,rfl⟩:=own_slice ho9;have HP9:=zh (Own.POwn.push (x:=⟨pid,ppa,pdi,pop,pex,pvs⟩) H1.out H2.out H3.out HU.out ho9 hg9 hw9);have HB9:=zh (below_own B8.out B8.out.size (own_base H2.out (by omega)) hg9);have O9:=zh (O8.out.keep (hg9.block _ O8.out.lt (fun e=>by have:=own_up H2.out _ e.symm;omega)));have R9:=zh (R8.out.keep (hg9.block _ R8.out.lt (fun e=>by have:=own_up H2.out _ e.symm;omega)));have hs9:=hg9.size;have c9:=O9.out.cell 1;have f9:=O9.out.free 1;clear ho9 hg9 hw9)
    refine Lex.EndsN.intro (by kernel_rfl) ⟨⟨rfl,by show(w6.cell? ⟨w.heap.size+1+1,1,none⟩).isSome=true;rw[c1];rfl⟩,trivial⟩ ?_
    go_wp2_with fail
    refine⟨⟨k+1,_,by omega,by go_num,R9.out.far (p:=⟨w.heap.size+1+1,1,none⟩) (by simp) _,O9.out.set 1 (.slice ya ym yc),?_,HB9.out.setCell (p:=⟨w.heap.size+1+1,1,none⟩) (by show w.heap.size<=w.heap.size+1+1;omega) _,?_⟩,by simp[intOf];omega⟩
    ·have htk2:(l.take (k+1)).filter p=L++[⟨pid,ppa,pdi,pop,pex,pvs⟩]:=by rw[HTK.out,hq,if_pos rfl,hND]
     rw[htk2]
     exact HP9.out.keep (by simp[World.setCell]) (fun k hk _=>heap_setCell_other _ _ _ _ (by show k≠w.heap.size+1+1;omega))
    ·have:(w9.setCell ⟨w.heap.size+1+1,1,none⟩ (.slice ya ym yc)).heap.size=w9.heap.size:=by simp[World.setCell]
     rw[this]
     rw[World.size_alloc] at hs9
     omega
end
section
open Go Go.RowKit Go.Maps
namespace Own
theorem POwn.base {B B' : Nat} {w:World} {v:Value} {L:List Proposal} (h:POwn B w v L) (hb:B' <= B):POwn B' w v L:=by
 obtain⟨css,h1,h2,h3⟩:=h
 refine⟨css,h1,own_base h2 hb,fun i hi hi' => ?_⟩
 obtain⟨h4,u,h5,h6⟩:=h3 i hi hi'
 exact⟨h4,u,h5,h6.mono (fun k hk _=>⟨by omega,hk.2⟩)⟩
def QOut (w:World) (q:Queue) (qv:Value) (w' : World):Prop:=∃ v',qv=.agg #[.int .i64 q.next,v']/\POwn w.heap.size w' v' q.props
end Own
theorem rvWithdraw1_any (x:Own.Proposal) (u:Value) (g:Nat) (id:Int) (w:World) (hc:w.cell? ⟨g,0,none⟩=some (.int .i64 id)):
 Calls Tryz.prog 48 (#[.agg #[.int .i64 x.id,.string x.path,.string x.digest,.int .i64 x.opened,.int .i64 x.expires,u]]++#[.pointer (some ⟨g,0,none⟩)]) w fun e w' => e=.returned (.bool (!decide (x.id=id)))/\Below w.heap.size w w' :=by
 obtain⟨i0,q1,q2,q3,i4,q5⟩:=x
 dsimp only
 obtain⟨R,hR0⟩:∃ R,R=(!decide (i0=id)):=⟨_,rfl⟩
 rw[<- hR0]
 have hR:R=(!(i0==id)):=hR0
 clear hR0
 have hb1:Below w.heap.size w (w.alloc (.cells #[.int .i64 i0,.string q1,.string q2,.int .i64 q3,.int .i64 i4,u] 46)):=(Below.refl _ _).alloc (Nat.le_refl _) _
 have q:=(hb1.cell (p:=⟨g,0,none⟩) (block_lt hc)).trans hc
 have HB:=zh hb1;have HR:=zh hR
 clear hb1 hc hR
 show Calls Tryz.prog 48 #[.agg #[.int .i64 i0,.string q1,.string q2,.int .i64 q3,.int .i64 i4,u],.pointer (some ⟨g,0,none⟩)] w _
 go_enter Tryz.func48,Tryz.ntmps48
 go_wp2_with fail
 go_ret
 exact⟨by rw[HR.out];rfl,HB.out⟩
theorem rvMerge1_any (x:Own.Proposal) (u:Value) (g:Nat) (id:Int) (w:World) (hc:w.cell? ⟨g,0,none⟩=some (.int .i64 id)):
 Calls Tryz.prog 73 (#[.agg #[.int .i64 x.id,.string x.path,.string x.digest,.int .i64 x.opened,.int .i64 x.expires,u]]++#[.pointer (some ⟨g,0,none⟩)]) w fun e w' => e=.returned (.bool (!decide (x.id=id)))/\Below w.heap.size w w' :=by
 obtain⟨i0,q1,q2,q3,i4,q5⟩:=x
 dsimp only
 obtain⟨R,hR0⟩:∃ R,R=(!decide (i0=id)):=⟨_,rfl⟩
 rw[<- hR0]
 have hR:R=(!(i0==id)):=hR0
 clear hR0
 have hb1:Below w.heap.size w (w.alloc (.cells #[.int .i64 i0,.string q1,.string q2,.int .i64 q3,.int .i64 i4,u] 46)):=(Below.refl _ _).alloc (Nat.le_refl _) _
 have q:=(hb1.cell (p:=⟨g,0,none⟩) (block_lt hc)).trans hc
 have HB:=zh hb1;have HR:=zh hR
 clear hb1 hc hR
 show Calls Tryz.prog 73 #[.agg #[.int .i64 i0,.string q1,.string q2,.int .i64 q3,.int .i64 i4,u],.pointer (some ⟨g,0,none⟩)] w _
 go_enter Tryz.func73,Tryz.ntmps73
 go_wp2_with fail
 go_ret
 exact⟨by rw[HR.out];rfl,HB.out⟩
theorem rvExpire1_any (x:Own.Proposal) (u:Value) (g:Nat) (id:Int) (w:World) (hc:w.cell? ⟨g,0,none⟩=some (.int .i64 id)):
 Calls Tryz.prog 53 (#[.agg #[.int .i64 x.id,.string x.path,.string x.digest,.int .i64 x.opened,.int .i64 x.expires,u]]++#[.pointer (some ⟨g,0,none⟩)]) w fun e w' => e=.returned (.bool (decide (id<x.expires)))/\Below w.heap.size w w' :=by
 obtain⟨i0,q1,q2,q3,i4,q5⟩:=x
 dsimp only
 obtain⟨R,hR0⟩:∃ R,R=(decide (id<i4)):=⟨_,rfl⟩
 rw[<- hR0]
 have hR:R=(decide (id<i4)):=hR0
 clear hR0
 have hb1:Below w.heap.size w (w.alloc (.cells #[.int .i64 i0,.string q1,.string q2,.int .i64 q3,.int .i64 i4,u] 46)):=(Below.refl _ _).alloc (Nat.le_refl _) _
 have q:=(hb1.cell (p:=⟨g,0,none⟩) (block_lt hc)).trans hc
 have HB:=zh hb1;have HR:=zh hR
 clear hb1 hc hR
 show Calls Tryz.prog 53 #[.agg #[.int .i64 i0,.string q1,.string q2,.int .i64 q3,.int .i64 i4,u],.pointer (some ⟨g,0,none⟩)] w _
 go_enter Tryz.func53,Tryz.ntmps53
 go_wp2_with fail
 go_ret
 exact⟨by rw[HR.out];rfl,HB.out⟩
theorem rvExpire_any (q:Own.Queue) (size:Int) (pv:Value) (w:World) (hM:MaxL w) (hP:Own.PropsC w pv q.props) (hls:q.props.length<=1000000) (hlm:∀ p∈q.props,p.votes.length<=3000000):
 Calls Tryz.prog 19 #[.agg #[.int .i64 q.next,pv],.int .i64 size] w fun e w' => (∃ qv,e=.returned qv/\Own.QOut w (Own.expire q size) qv w')/\Below w.heap.size w w' :=by
 obtain⟨R,hR⟩:∃ R,R=Own.expire q size:=⟨_,rfl⟩
 rw[<- hR]
 unfold Own.expire at hR
 obtain⟨a,c,rfl⟩:=hP.len
 obtain⟨nx,L⟩:=q
 dsimp only at*
 have hb1:Below w.heap.size w (((w.alloc (.cells #[.int .i64 nx,.slice a L.length c] 24)).alloc (.cells #[.int .i64 size] 3)).alloc (.cells #[.int .i64 0,.slice none 0 0] 24)):=(((Below.refl _ _).alloc (Nat.le_refl _) _).alloc (by simp) _).alloc (by simp;omega) _
 have a0:=((At.new w 24 #[.int .i64 nx,.slice a L.length c]).alloc (.cells #[.int .i64 size] 3)).alloc (.cells #[.int .i64 0,.slice none 0 0] 24)
 have a1:=(At.new1 w (.cells #[.int .i64 nx,.slice a L.length c] 24) 3 #[.int .i64 size]).alloc (.cells #[.int .i64 0,.slice none 0 0] 24)
 have a2:At (((w.alloc (.cells #[.int .i64 nx,.slice a L.length c] 24)).alloc (.cells #[.int .i64 size] 3)).alloc (.cells #[.int .i64 0,.slice none 0 0] 24)) (w.heap.size+1+1) 24 #[.int .i64 0,.slice none 0 0]:=by
  have:=At.new1 (w.alloc (.cells #[.int .i64 nx,.slice a L.length c] 24)) (.cells #[.int .i64 size] 3) 24 #[.int .i64 0,.slice none 0 0]
  rwa [World.size_alloc] at this
 have hz1:w.heap.size+3<=(((w.alloc (.cells #[.int .i64 nx,.slice a L.length c] 24)).alloc (.cells #[.int .i64 size] 3)).alloc (.cells #[.int .i64 0,.slice none 0 0] 24)).heap.size:=by simp
 obtain⟨c0,c1⟩:=a0.c2
 have hval:=rvValid_any ⟨nx,L⟩ (.slice a L.length c) _ (hM.below hb1) (hP.below hb1) (by show L.length<=_;omega) (fun p hp=>by have:=hlm p hp;omega)
 have HV:=zh hval;have HP:=zh (hP.below hb1);have HB:=zh hb1;have HA0:=zh a0;have HA1:=zh a1;have HA2:=zh a2;have HLM:=zh hlm;have HR:=zh hR
 clear hval hP hM hb1 a0 a1 a2 hlm hR
 go_enter Tryz.func19,Tryz.ntmps19
 go_wp2_with fail
 generalize ((w.alloc (.cells #[.int .i64 nx,.slice a L.length c] 24)).alloc (.cells #[.int .i64 size] 3)).alloc (.cells #[.int .i64 0,.slice none 0 0] 24)=w1 at*
 refine HV.out.mono ?_
 rintro e w2 ⟨rfl,hb2⟩
 have a0:=HA0.out.below hb2 (by omega);have a1:=HA1.out.below hb2 (by omega);have a2:=HA2.out.below hb2 (by omega)
 have x0:=a0.cell 0;have x1:=a0.cell 1
 have r0:=a2.cell 0;have r1:=a2.cell 1;have r2:=a2.free 0;have r3:=a2.free 1
 have z0:=a1.cell 0
 simp only[List.getElem?_toArray,List.getElem?_cons_zero,List.getElem?_cons_succ] at x0 x1 r0 r1 z0
 have hP2:=HP.out.below hb2
 have hB2:=HB.out.trans (hb2.mono HB.out.size)
 have hs2:w.heap.size+3<=w2.heap.size:=Nat.le_trans hz1 hb2.size
 have HA22:=zh a2;have HB2:=zh hB2
 have hkp:=rvKept_any 53 #[.pointer (some ⟨w.heap.size+1,0,none⟩)] (by intros;rfl) (fun p:Own.Proposal=>decide (size<p.expires)) nx _ L w2 hP2 hls HLM.out (fun W x u hb=>rvExpire1_any x u _ size W ((hb.cell (p:=⟨w.heap.size+1,0,none⟩) a1.lt).trans z0))
 have HKP:=zh hkp
 clear hP2 hB2 hb2 a0 a1 a2 z0 c0 c1 hkp HV HP HB HA0 HA1 HA2
 cases hq:Own.queueOK ⟨nx,L⟩ with
 | false =>
   have e:R=Own.Queue.none:=by rw[HR.out,hq];rfl
   have HE:=zh e;clear e
   go_wp2_with fail
   have F2:=(HA22.out.set 0 (.int .i64 0)).set 1 (.slice none 0 0)
   refine done_c rfl rfl (load_row F2 Tryz.underlying24 rfl info_Queue) ⟨⟨_,rfl,?_⟩,?_⟩
   ·rw[HE.out];exact⟨_,rfl,Own.POwn.nil _ _⟩
   ·exact(HB2.out.setCell (p:=⟨w.heap.size+1+1,0,none⟩) (by show w.heap.size<=w.heap.size+1+1;omega) _).setCell (p:=⟨w.heap.size+1+1,1,none⟩) (by show w.heap.size<=w.heap.size+1+1;omega) _
 | true =>
   have e:R=⟨nx,L.filter fun p=>decide (size<p.expires)⟩:=by rw[HR.out,hq];rfl
   have HE:=zh e;clear e
   clear r0 r1 r2 r3
   go_wp2_with fail
   refine HKP.out.mono ?_
   rintro e w3 ⟨⟨v',rfl,hpo⟩,hb3⟩
   obtain⟨va,vc,rfl⟩:=hpo.one
   obtain⟨M,hM⟩:∃ M,M=(L.filter fun p=>decide (size<p.expires)).length:=⟨_,rfl⟩
   rw[<- hM] at hpo ⊢
   have a3:=HA22.out.below hb3 (by omega)
   have r0:=a3.cell 0;have r1:=a3.cell 1;have r2:=a3.free 0;have r3:=a3.free 1
   simp only[List.getElem?_toArray,List.getElem?_cons_zero,List.getElem?_cons_succ] at r0 r1
   have HA3:=zh a3;have HPO:=zh hpo;have HB3:=zh (HB2.out.trans (hb3.mono HB2.out.size))
   clear a3 hpo hb3 hM
   go_wp2_with fail
   have F2:=(HA3.out.set 0 (.int .i64 nx)).set 1 (.slice va M vc)
   refine done_c rfl rfl (load_row F2 Tryz.underlying24 rfl info_Queue) ⟨⟨_,rfl,?_⟩,?_⟩
   ·rw[HE.out]
    refine⟨_,rfl,Own.POwn.base (B:=w2.heap.size+3) (HPO.out.keep (by simp[World.setCell]) (fun k hk _=>?_)) (by omega)⟩
    have hk1:k≠w.heap.size+1+1:=by omega
    rw[heap_setCell_other _ _ _ _ hk1,heap_setCell_other _ _ _ _ hk1]
   ·exact(HB3.out.setCell (p:=⟨w.heap.size+1+1,0,none⟩) (by show w.heap.size<=w.heap.size+1+1;omega) _).setCell (p:=⟨w.heap.size+1+1,1,none⟩) (by show w.heap.size<=w.heap.size+1+1;omega) _
end
section
open Go Go.RowKit Go.Maps
theorem Boxes.keep {w0 w w' : World} {bs:List (TypeId × Array Value)} (h:Boxes w0 w bs) (hu:Below w0.heap.size w0 w') (hs:w.heap.size<=w'.heap.size) (hk:∀ k,w0.heap.size<=k->k<w0.heap.size+bs.length->w'.heap[k]? = w.heap[k]?):Boxes w0 w' bs:=
 ⟨Nat.le_trans h.size hs,hu,fun i t cs hi=>(h.at_ i t cs hi).keep (hk _ (by omega) (by have:=(List.getElem?_eq_some_iff.1 hi).1;omega))⟩
theorem Boxes.far {w0 w w' : World} {bs:List (TypeId × Array Value)} (h:Boxes w0 w bs) {O:Nat} (hO:w0.heap.size+bs.length<=O) {row:Option Nat} (hr:∀ k,row=some k->O<=k) (hg:w.grownBy w' row):Boxes w0 w' bs:=by
 refine h.keep (h.under.grown hg h.under.size (fun k hk=>by have:=hr k hk;omega)) hg.size (fun k _ hk=>hg.block k (by have:=h.size;omega) (fun e=>by have:=hr k e.symm;omega))
namespace Own
def encP (x:Proposal) (v:Value):List Value:=[.int .i64 x.id,.string x.path,.string x.digest,.int .i64 x.opened,.int .i64 x.expires,v]
end Own
end
section
open Go Go.RowKit Go.Maps
namespace Own
theorem chain_pair {α : Type} {ok : α -> Bool} {lt : α -> α -> Bool} (ht:∀ x y z,lt x y=true->lt y z=true->lt x z=true):∀ (l:List α) (p:Option α),chainOK ok lt p l=true->(∀ y,p=some y->∀ x∈l,lt y x=true)/\l.Pairwise fun x y=>lt x y=true
 | [],_,_=>⟨fun _ _ x hx=>(by cases hx),List.Pairwise.nil⟩
 | x :: l,p,h => by
   have h' : ((ok x&&(match p with | none=>true | some y=>lt y x))&&chainOK ok lt (some x) l)=true:=by cases p <;> exact h
   rw[Bool.and_eq_true,Bool.and_eq_true] at h'
   obtain⟨⟨_,h1⟩,h2⟩:=h'
   obtain⟨h3,h4⟩:=chain_pair ht l (some x) h2
   refine⟨fun y hy z hz=>?_,List.pairwise_cons.2 ⟨h3 x rfl,h4⟩⟩
   subst hy
   rcases List.mem_cons.1 hz with rfl | hz
   ·exact h1
   ·exact ht _ _ _ h1 (h3 x rfl z hz)
theorem queue_ids {q:Queue} (h:queueOK q=true):q.props.Pairwise fun x y=>x.id<y.id:=by
 unfold queueOK at h
 rw[Bool.and_eq_true] at h
 exact(chain_pair (lt:=fun x y:Proposal=>decide (x.id<y.id)) (fun x y z h1 h2=>decide_eq_true (Int.lt_trans (of_decide_eq_true h1) (of_decide_eq_true h2))) _ none h.2).2.imp of_decide_eq_true
end Own
end
section
open Go Go.RowKit Go.Maps
namespace Own
def mems54 (n:Nat):List Member:=(List.range n).map mem54
def space54 (n:Nat) (th:Int):Space:=⟨⟨#[97]⟩,mems54 n,th⟩
theorem mems54_succ (n:Nat):mems54 (n+1)=mems54 n++[mem54 n]:=by
 unfold mems54
 rw[List.range_succ,List.map_append]
 rfl
theorem mems54_len (n:Nat):(mems54 n).length=n:=by
 unfold mems54
 rw[List.length_map,List.length_range]
end Own
theorem law54space_any (n:Nat) (th:Int) (w:World) (hn:n<=256):
 Calls Tryz.prog 33 #[.int .i64 n,.int .i64 th] w fun e w' => ∃ sv,e=.returned (.agg #[.int .i64 0,sv,.slice none 0 0])/\Own.SpacesC w' sv [Own.space54 n th]/\Below w.heap.size w w' :=by
 have F1:=zh (show Boxes w ((w.alloc (.cells #[.int .i64 0,.slice none 0 0,.slice none 0 0] 38)).alloc (.cells #[.string ⟨#[97]⟩,.slice none 0 0,.int .i64 th] 70)) [(38,#[.int .i64 0,.slice none 0 0,.slice none 0 0]),(70,#[.string ⟨#[97]⟩,.slice none 0 0,.int .i64 th])] from(((Fresh.nil w).push 38 #[.int .i64 0,.slice none 0 0,.slice none 0 0]).push 70 #[.string ⟨#[97]⟩,.slice none 0 0,.int .i64 th]).boxes)
 obtain⟨MS,hMS⟩:∃ MS,MS=Own.mems54:=⟨_,rfl⟩
 obtain⟨MM,hMM⟩:∃ MM,MM=Own.mem54:=⟨_,rfl⟩
 have hsu:∀ k,MS (k+1)=MS k++[MM k]:=fun k=>by rw[hMS,hMM];exact Own.mems54_succ k
 have hln:∀ k,(MS k).length=k:=fun k=>by rw[hMS];exact Own.mems54_len k
 have hz:MS 0=[]:=by rw[hMS];rfl
 have hmb:∀ (k:Nat) W,k<256->Calls Tryz.prog 37 #[.int .u8 k] W fun e w' => e=.returned (.agg #[.string (MM k).name,.string (MM k).pub])/\Below W.heap.size W w' :=fun k W hk=>by rw[hMM];exact law54member_any k W hk
 have HMS:=zh hMS;have HSU:=zh hsu;have HLN:=zh hln;have HMZ:=zh hz;have HMB:=zh hmb
 clear hMS hMM hsu hln hz hmb
 go_enter Tryz.func33,Tryz.ntmps33
 go_upto_region 2 with fail
 generalize ((w.alloc (.cells #[.int .i64 0,.slice none 0 0,.slice none 0 0] 38)).alloc (.cells #[.string ⟨#[97]⟩,.slice none 0 0,.int .i64 th] 70))=w1 at*
 go_wp2_with fail
 go_loopw [10] (fun i wr=>∃ (k:Nat) (v:Value),k<=n/\i=.int .i64 k/\wr.ownsRow (w.heap.size+2) 73 2 v (MS k).length ((MS k).flatMap Own.encM)/\Boxes w wr [(38,#[.int .i64 0,.slice none 0 0,.slice none 0 0]),(70,#[.string ⟨#[97]⟩,v,.int .i64 th])]) (fun i _=>n - (intOf i).toNat)
 case atStart=>exact⟨0,_,by omega,rfl,by rw[HMZ.out];exact⟨rfl,.inl ⟨rfl,rfl⟩⟩,F1.out⟩
 case round=>
  obtain⟨k,v,hk,rfl,hown,hbx⟩:=hrel
  obtain⟨va,vm,vc,rfl⟩:=own_slice hown
  obtain rfl:=own_len hown
  have HO:=zh hown;have G1:=zh hbx
  clear hown hbx F1
  by_cases hlt:k<n
  case neg=>
   have hke:k=n:=by omega
   have dk:decide ((k:Int)<n)=false:=decide_eq_false (by omega)
   subst hke
   have F2:=zh (G1.out.step ((Below.refl wr.heap.size wr).alloc (Nat.le_refl _) (.cells #[.string ⟨#[97]⟩,.slice va (MS k).length vc,.int .i64 th] 70)))
   have hup:=own_up HO.out
   have hwz:w.heap.size+2<=wr.heap.size:=G1.out.size
   have HUP:=zh hup;have HWZ:=zh hwz;clear hup hwz
   have y00:(wr.alloc (.cells #[.string ⟨#[97]⟩,.slice va (MS k).length vc,.int .i64 th] 70)).cell? ⟨w.heap.size,0,none⟩=some (.int .i64 0):=F2.out.cell 0 0 rfl rfl
   have y00f:(wr.alloc (.cells #[.string ⟨#[97]⟩,.slice va (MS k).length vc,.int .i64 th] 70)).frozen? ⟨w.heap.size,0,none⟩=false:=F2.out.free 0 0 rfl
   have y01:(wr.alloc (.cells #[.string ⟨#[97]⟩,.slice va (MS k).length vc,.int .i64 th] 70)).cell? ⟨w.heap.size,1,none⟩=some (.slice none 0 0):=F2.out.cell 0 1 rfl rfl
   have y01f:(wr.alloc (.cells #[.string ⟨#[97]⟩,.slice va (MS k).length vc,.int .i64 th] 70)).frozen? ⟨w.heap.size,1,none⟩=false:=F2.out.free 0 1 rfl
   have y02:(wr.alloc (.cells #[.string ⟨#[97]⟩,.slice va (MS k).length vc,.int .i64 th] 70)).cell? ⟨w.heap.size,2,none⟩=some (.slice none 0 0):=F2.out.cell 0 2 rfl rfl
   have y02f:(wr.alloc (.cells #[.string ⟨#[97]⟩,.slice va (MS k).length vc,.int .i64 th] 70)).frozen? ⟨w.heap.size,2,none⟩=false:=F2.out.free 0 2 rfl
   obtain⟨x10,x11,x12⟩:=G1.out.d1_3 rfl
   go_wp2_with fail
   have G2:=((F2.out.put 0 0 (.int .i64 0) rfl).put 0 1 (.slice (some ⟨wr.heap.size,0,none⟩) 1 1) rfl).put 0 2 (.slice none 0 0) rfl
   refine done_c rfl rfl (load_row (G2.at1 0 rfl) Tryz.underlying38 rfl info_Owners) ⟨_,rfl,?_,G2.under⟩
   have hwz:=HWZ.out
   have hns:=At.new wr 70 #[.string ⟨#[97]⟩,.slice va (MS k).length vc,.int .i64 th]
   have hn4:=((hns.far (p:=⟨w.heap.size,0,none⟩) (by simp;omega) (.int .i64 0)).far (p:=⟨w.heap.size,1,none⟩) (by simp;omega) (.slice (some ⟨wr.heap.size,0,none⟩) 1 1)).far (p:=⟨w.heap.size,2,none⟩) (by simp;omega) (.slice none 0 0)
   obtain⟨e0,e1,e2⟩:=hn4.c3
   have h8:=own_below HO.out ((Below.refl wr.heap.size wr).alloc (Nat.le_refl _) (.cells #[.string ⟨#[97]⟩,.slice va (MS k).length vc,.int .i64 th] 70))
   refine⟨some ⟨wr.heap.size,0,none⟩,1,rfl,.inr ⟨wr.heap.size,0,rfl,trivial,hn4.lt,fun i hi=>?_⟩⟩
   have hi0:i=0:=by simpa using hi
   subst hi0
   refine⟨[.string ⟨#[97]⟩,.slice va (MS k).length vc,.int .i64 th],rfl,?_,.slice va (MS k).length vc,rfl,?_⟩
   ·intro j u hj
    match j,hj with
    | 0,hj=>cases hj;exact e0
    | 1,hj=>cases hj;exact e1
    | 2,hj=>cases hj;exact e2
    | j+3,hj=>simp at hj
   ·have h4 :=own_keep (w' :=(((wr.alloc (.cells #[.string ⟨#[97]⟩,.slice va (MS k).length vc,.int .i64 th] 70)).setCell ⟨w.heap.size,0,none⟩ (.int .i64 0)).setCell ⟨w.heap.size,1,none⟩ (.slice (some ⟨wr.heap.size,0,none⟩) 1 1)).setCell ⟨w.heap.size,2,none⟩ (.slice none 0 0)) h8 (fun j hj => by
     have h1:=own_up h8 j hj
     have h2:j≠w.heap.size:=by omega
     rw[heap_setCell_other _ _ _ _ h2,heap_setCell_other _ _ _ _ h2,heap_setCell_other _ _ _ _ h2])
    show ListF 2 Own.RMember Own.anyF _ _ (Own.mems54 k)
    rw[<- HMS.out]
    exact rows_flat (enc:=Own.encM) (fun _=>rfl) (fun _=>rfl) (RowsC.own h4) rfl (fun _ _=>trivial)
  have dk:decide ((k:Int)<n)=true:=decide_eq_true (by omega)
  obtain⟨x10,x11,x12⟩:=G1.out.d1_3 rfl
  go_wp2_with fail
  refine Lex.wp_region_lexN (fun j=>j=w.heap.size+1) [1] 6 [5] (by kernel_rfl) (by kernel_rfl) (by kernel_rfl) ?_
  simp only[Lex.wpCuts,List.take_succ_cons,List.take_zero,List.drop_succ_cons,List.drop_zero]
  go_wp2_with fail
  have HX1:=zh (show(wr.cell? ⟨w.heap.size+1,1,none⟩).isSome=true by rw[x11];rfl)
  refine(HMB.out k _ (by omega)).mono ?_
  rintro e w5 ⟨rfl,hb5⟩
  obtain⟨M,hM⟩:∃ M,M=MM k:=⟨_,rfl⟩
  rw[<- hM]
  obtain⟨mn,mp⟩:=M
  have HM:=zh hM
  have hb6:Below wr.heap.size wr w5:=(Below.refl wr.heap.size wr).drew.trans hb5
  have hb8:Below w5.heap.size w5 (w5.alloc (.cells #[.string mn,.string mp] 73)):=(Below.refl _ _).alloc (Nat.le_refl _) _
  have HB8:=zh (hb6.trans (hb8.mono hb6.size))
  have hrw:=rows_new w5 73 #[.string mn,.string mp] 2 1 1 rfl
  have hwz:w.heap.size+2<=(w5.alloc (.cells #[.string mn,.string mp] 73)).heap.size:=Nat.le_trans G1.out.size HB8.out.size
  have HRW:=zh hrw;have HO8:=zh (own_below HO.out HB8.out);have G8:=zh (G1.out.step HB8.out);have HUP:=zh (own_up HO.out);have HWZ:=zh hwz
  have hkm:(MS k).length<=256:=by rw[HLN.out k];omega
  have HOB:=zh (G1.out.lt (i:=1) (by show 1<2;omega))
  have HB6:=zh hb6
  clear hb5 hb6 hb8 hrw hwz hM
  go_wp2_with fail
  refine Lex.Mid.intro (fun j hj _=>by rw[hj];exact HB6.out.block _ HOB.out) ?_
  go_wp2_with (at_builtin;go_must (refine wp_append_rows elemMembers rfl _ _ rfl (w.heap.size+2) (MS k).length (.slice va (MS k).length vc) ((MS k).flatMap Own.encM) rfl HO8.out (.slice (some ⟨w5.heap.size,0,none⟩) 1 1) 1 [.string mn,.string mp] rfl HRW.out (by intro u hu;simp at hu;rcases hu with rfl | rfl <;> rfl) (by omega) (by omega) HWZ.out ?_);intro v9 w9 ho9 hg9 hw9;obtain⟨ya,ym,yc,rfl⟩:=own_slice ho9;have HO9:=zh ho9;have HG9:=zh hg9;have G9:=zh (G8.out.far (O:=w.heap.size+2) (Nat.le_refl _) HUP.out hg9);have z10:w9.cell? ⟨w.heap.size+1,0,none⟩=some (.string ⟨#[97]⟩):=G9.out.cell 1 0 rfl rfl;have z10f:w9.frozen? ⟨w.heap.size+1,0,none⟩=false:=G9.out.free 1 0 rfl;have z11:w9.cell? ⟨w.heap.size+1,1,none⟩=some (.slice va (MS k).length vc):=G9.out.cell 1 1 rfl rfl;have z11f:w9.frozen? ⟨w.heap.size+1,1,none⟩=false:=G9.out.free 1 1 rfl;have z12:w9.cell? ⟨w.heap.size+1,2,none⟩=some (.int .i64 th):=G9.out.cell 1 2 rfl rfl;have z12f:w9.frozen? ⟨w.heap.size+1,2,none⟩=false:=G9.out.free 1 2 rfl;clear ho9 hg9 hw9)
  refine Lex.EndsN.intro (by kernel_rfl) ⟨⟨rfl,HX1.out⟩,trivial⟩ ?_
  go_wp2_with fail
  have hm1:MS (k+1)=MS k++[(⟨mn,mp⟩:Own.Member)]:=by rw[HSU.out k,HM.out]
  refine⟨⟨k+1,.slice ya ym yc,by omega,by go_num,?_,G9.out.put 1 1 _ rfl⟩,by simp[intOf];omega⟩
  rw[hm1]
  have h9:w9.ownsRow (w.heap.size+2) 73 2 (.slice ya ym yc) (MS k++[(⟨mn,mp⟩:Own.Member)]).length ((MS k++[(⟨mn,mp⟩:Own.Member)]).flatMap Own.encM):=by
   rw[List.length_append,List.flatMap_append]
   simpa [Own.encM] using HO9.out
  exact own_keep h9 (fun j hj=>heap_setCell_other _ _ _ _ (by have:=own_up h9 j hj;show j≠w.heap.size+1;omega))
end
section
open Go
namespace Lane
def packR (f:Nat->Nat):Nat->Nat->Nat
 | _,0=>0
 | s,n+1=>f s+18446744073709551616*packR f (s+1) n
theorem packR_eq (f:Nat->Nat):∀ (n s:Nat),packR f s n=packF n fun i=>f (s+i)
 | 0,_=>rfl
 | n + 1,s => by
   have e:packF (n+1) (fun i=>f (s+i))=f s+18446744073709551616*packF n (fun i=>f (s+1+i)):=by
    show f (s+0)+18446744073709551616*packF n (fun i=>f (s+(i+1)))=_
    congr 3
    funext i
    rw[Nat.add_assoc,Nat.add_comm 1 i]
   rw[e,<- packR_eq f n (s+1)]
   rfl
def forceV (v:V) (k:V->V):V:=force v.a fun a=>force v.b fun b=>force v.c fun c=>force v.d fun d=>force v.e fun e=>force v.f fun f=>force v.g fun g=>force v.h fun h=>k ⟨a,b,c,d,e,f,g,h⟩
theorem forceV_eq (v:V) (k:V->V):forceV v k=k v:=by
 unfold forceV
 simp only[force_eq]
def sJ (i:Nat):Nat:=i%12%6
def kJ (i:Nat):Nat:=i%12/6
def cJ (i:Nat):Nat:=i/12
def sec0 (M O:Nat):V:=compP M O (IVP O) (packR (fun i=>wd4 2 (sJ i) (sJ i) (sJ i)) 0 804) (packR (fun i=>wd4 (sJ i) (sJ i) (sJ i) (sJ i)) 0 804) (packR (fun i=>wd4 (sJ i) (sJ i) (sJ i) (sJ i)) 0 804) (packR (fun i=>wd4 (sJ i) (sJ i) (sJ i) (sJ i)) 0 804) (packR (fun i=>wd4 (sJ i) (sJ i) (sJ i) (sJ i)) 0 804) (packR (fun i=>wd4 (sJ i) (sJ i) (sJ i) (sJ i)) 0 804) (packR (fun i=>wd4 (sJ i) (sJ i) (sJ i) (sJ i)) 0 804) (packR (fun i=>wd4 (sJ i) (sJ i) (sJ i) (sJ i)) 0 804) (packR (fun i=>wd4 (sJ i) (kJ i) (cJ i) 128) 0 804) 0 0 0 0 0 0 (O*280)
def outJ (k:V->Bool):Bool:=force (packR (fun _=>4294967295) 0 804) fun M=>force (packR (fun _=>1) 0 804) fun O=>force (packR (fun i=>wd4 3 (kJ i) (cJ i) 0) 0 804) fun B=>
 let v:=(List.range' 0 15).foldl (fun v q=>forceV v fun v=>compS M O B q v) (sec0 M O)
 force v.a fun a=>force v.b fun b=>force v.c fun c=>force v.d fun d=>force v.e fun e=>force v.f fun f=>force v.g fun g=>force v.h fun h=>k ⟨a,b,c,d,e,f,g,h⟩
def lane (i P:Nat):Nat:=(P >>> (64*i))%18446744073709551616
def leafWs (G g:Nat) (R:V):List Nat:=(List.range 67).flatMap fun c=>R.list.map (lane (c*G+g))
def shW:Nat->List Nat->List Nat
 | t,[]=>[wd4 t 128 0 0]
 | t,w::ws=>(t*16777216+w/256)::shW (w%256) ws
def leafMsg (ws:List Nat):List Nat:=shW 0 ws++[0,0,0,0,0,0,17160]
def rootMsg (ws:List Nat):List Nat:=shW 1 ws++[0,0,0,0,0,0,0,0,0,0,0,0,0,0,520]
def forceL:List Nat->(List Nat->V)->V
 | [],k=>k []
 | x::l,k=>force x fun x=>forceL l fun l=>k (x::l)
def foldS:Nat->V->List Nat->V
 | 0,v,_=>v
 | n+1,v,ws=>forceV (cmp v ws) fun v=>foldS n v (ws.drop 16)
def leafV (R:V) (g:Nat):V:=forceL (leafMsg (leafWs 12 g R)) fun ws=>foldS 34 IVN ws
def rootV (R:V) (s:Nat):V:=forceL (rootMsg ((leafV R s).list++(leafV R (6+s)).list)) fun ws=>foldS 2 IVN ws
def diffs:List Nat->Bool
 | []=>true
 | x::l=>(l.all fun y => !Nat.beq x y)&&diffs l
theorem roots_diff:outJ (fun R=>diffs ((List.range 6).map fun s=>(rootV R s).a))=true:=by decide +kernel
end Lane
end
section
open Go
namespace Lane
theorem lane_pack:∀ (n i:Nat) (f:Nat->Nat),D f->i<n->lane i (packF n f)=f i
 | 0,_,_,_,h=>by cases h
 | n + 1,0,f,hf,_ => by
   unfold lane
   show((f 0+18446744073709551616*_) >>> (64*0))%_=_
   rw[Nat.mul_zero,Nat.shiftRight_zero,Nat.add_mul_mod_self_left]
   exact Nat.mod_eq_of_lt (hf 0)
 | n + 1,i + 1,f,hf,h => by
   have ih:=lane_pack n i (fun i=>f (i+1)) (fun i=>hf _) (by omega)
   unfold lane at ih ⊢
   show((f 0+18446744073709551616*packF n (fun i=>f (i+1))) >>> (64*(i+1)))%_=f (i+1)
   rw[show 64*(i+1)=64+64*i by omega,Nat.shiftRight_add]
   have e:(f 0+18446744073709551616*packF n (fun i=>f (i+1))) >>> 64=packF n (fun i=>f (i+1)):=by
    rw[Nat.shiftRight_eq_div_pow,show(2:Nat)^64=18446744073709551616 by decide,Nat.add_mul_div_left _ _ (by decide),Nat.div_eq_of_lt (hf 0),Nat.zero_add]
   rw[e]
   exact ih
theorem leafWs_pack (u:VF) (hu:u.ok) (g:Nat) (hg:g<12):leafWs 12 g (u.pack 804)=(List.range 67).flatMap fun c=>(u.at (c*12+g)).list:=by
 unfold leafWs
 rw[List.flatMap_def,List.flatMap_def]
 congr 1
 refine List.map_congr_left fun c hc=>?_
 have hc:=List.mem_range.1 hc
 have hl:c*12+g<804:=by omega
 unfold VF.pack V.list VF.at
 simp only[List.map_cons,List.map_nil]
 rw[lane_pack 804 _ _ hu.a.d hl,lane_pack 804 _ _ hu.b.d hl,lane_pack 804 _ _ hu.c.d hl,lane_pack 804 _ _ hu.d.d hl,lane_pack 804 _ _ hu.e.d hl,lane_pack 804 _ _ hu.f.d hl,lane_pack 804 _ _ hu.g.d hl,lane_pack 804 _ _ hu.h.d hl]
theorem shift_bytes:∀ (ws:List Nat) (t:Nat),t<256->(∀ w∈ws,w<4294967296)->(shW t ws).flatMap byteN=t.toUInt8::(ws.flatMap byteN++[128,0,0])
 | [],t,ht,_ => by
   unfold shW
   rw[List.flatMap_cons,List.flatMap_nil,List.append_nil,byteN4 ht (show 128<256 by omega) (show 0<256 by omega) (show 0<256 by omega)]
   rfl
 | w :: ws,t,ht,hw => by
   have h1:=hw w List.mem_cons_self
   have ih:=shift_bytes ws (w%256) (Nat.mod_lt _ (by omega)) (fun x hx=>hw x (List.mem_cons_of_mem _ hx))
   unfold shW
   rw[List.flatMap_cons,ih,List.flatMap_cons]
   have e:byteN (t*16777216+w/256)=[t.toUInt8,(w/16777216).toUInt8,(w/65536%256).toUInt8,(w/256%256).toUInt8]:=by
    unfold byteN
    rw[show(t*16777216+w/256)/16777216=t by omega,show(t*16777216+w/256)/65536%256=w/16777216 by omega,show(t*16777216+w/256)/256%256=w/65536%256 by omega,show(t*16777216+w/256)%256=w/256%256 by omega]
   rw[e]
   simp[byteN]
theorem shW_len:∀ (ws:List Nat) (t:Nat),(shW t ws).length=ws.length+1
 | [],_=>rfl
 | w :: ws,t => by
   unfold shW
   rw[List.length_cons,shW_len ws,List.length_cons]
theorem shW_lt:∀ (ws:List Nat) (t:Nat),t<256->(∀ w∈ws,w<4294967296)->∀ x∈shW t ws,x<4294967296
 | [],t,ht,_,x,hx => by
   have:x=wd4 t 128 0 0:=by simpa [shW] using hx
   rw[this]
   exact wd4_lt ht (by omega) (by omega) (by omega)
 | w :: ws,t,ht,hw,x,hx => by
   have h1:=hw w List.mem_cons_self
   unfold shW at hx
   rcases List.mem_cons.1 hx with rfl | hx
   ·omega
   ·exact shW_lt ws _ (Nat.mod_lt _ (by omega)) (fun y hy=>hw y (List.mem_cons_of_mem _ hy)) x hx
theorem foldS_eq:∀ (n:Nat) (v:V) (ws:List Nat),foldS n v ws=foldW n v ws:=by
 intro n
 induction n with
 | zero=>intro v ws;rw[foldS,foldW]
 | succ n ih=>intro v ws;rw[foldS,forceV_eq,ih,foldW]
theorem forceL_eq:∀ (l:List Nat) (k:List Nat->V),forceL l k=k l
 | [],k=>by rw[forceL]
 | x::l,k=>by rw[forceL,force_eq,forceL_eq l]
theorem cat_list:∀ l:List ByteArray,(Cod.cat l).data.toList=l.flatMap fun x=>x.data.toList
 | []=>rfl
 | x::l=>by rw[Cod.cat,Sha.app_list,cat_list l,List.flatMap_cons]
theorem flat_flat {α : Type} (f : α -> List Nat) (l:List α):(l.flatMap f).flatMap byteN=l.flatMap fun x=>(f x).flatMap byteN:=List.flatMap_assoc
def AllChains (u:VF):Prop:=∀ i,i<804->u.at i=chainG (wd4 3 (kJ i) (cJ i) 0) 15 0 (cmp IVN (secretW (sJ i) (kJ i) (cJ i)))
theorem leaf_w (s key:Nat) (hs:s<6) (hk:key<2) (u:VF) (hu:u.ok) (hu2:AllChains u):(Sig.leaf (seedB s) key).data.toList=(leafV (u.pack 804) (key*6+s)).list.flatMap byteN:=by
 have hg:key*6+s<12:=by omega
 obtain⟨ws,hws⟩:∃ ws,ws=leafWs 12 (key*6+s) (u.pack 804):=⟨_,rfl⟩
 have hw:=hws
 rw[leafWs_pack u hu _ hg] at hw
 have hlt:∀ w∈ws,w<4294967296:=fun w hm=>by
  rw[hw] at hm
  obtain⟨c,_,hm⟩:=List.mem_flatMap.1 hm
  exact list_lt (hu.at _) w hm
 have hlen:ws.length=536:=by
  rw[hw,List.length_flatMap]
  have:(List.range 67).map (fun c=>(u.at (c*12+(key*6+s))).list.length)=List.replicate 67 8:=by
   rw[List.eq_replicate_iff]
   refine⟨by simp,fun b hb=>?_⟩
   obtain⟨c,_,rfl⟩:=List.mem_map.1 hb
   rfl
  rw[this]
  rfl
 have hm:(Sig.b1 0++Cod.cat ((List.range 67).map fun c=>Sig.chain key c 0 15 (Sig.secret (seedB s) key c))).data.toList=0::ws.flatMap byteN:=by
  have key2:((List.range 67).map fun c=>Sig.chain key c 0 15 (Sig.secret (seedB s) key c)).flatMap (fun x=>x.data.toList)=(List.range 67).flatMap fun c=>((u.at (c*12+(key*6+s))).list).flatMap byteN:=by
   rw[List.flatMap_map,List.flatMap_def,List.flatMap_def]
   congr 1
   refine List.map_congr_left fun c hc=>?_
   have hc:=List.mem_range.1 hc
   have e1:sJ (c*12+(key*6+s))=s:=by unfold sJ;omega
   have e2:kJ (c*12+(key*6+s))=key:=by unfold kJ;omega
   have e3:cJ (c*12+(key*6+s))=c:=by unfold cJ;omega
   rw[hu2 _ (by omega),e1,e2,e3]
   exact(chain_w key c (by omega) (by omega) 15 0 _ _ (cmp_ok _ _) (secret_w s key c (by omega) (by omega) (by omega)) (by omega)).1
  rw[Sha.app_list,cat_list,hw,flat_flat,key2]
  rfl
 have hz:(Sig.b1 0++Cod.cat ((List.range 67).map fun c=>Sig.chain key c 0 15 (Sig.secret (seedB s) key c))).size=2145:=by
  rw[<- Sha.len_list,hm,List.length_cons,flat_len,hlen]
 unfold Sig.leaf Sig.leafOf leafV
 rw[forceL_eq,foldS_eq,<- hws]
 refine sha_w _ (leafMsg ws) 34 ?_ ?_ ?_
 ·rw[Sha.app_list,hm,pad_list _ 2145 hz]
  unfold leafMsg
  rw[List.flatMap_append,shift_bytes ws 0 (by omega) hlt]
  simp only[List.cons_append,List.append_assoc]
  rfl
 ·unfold leafMsg
  rw[List.length_append,shW_len,hlen]
  rfl
 ·intro w hmem
  unfold leafMsg at hmem
  rcases List.mem_append.1 hmem with h | h
  ·exact shW_lt ws 0 (by omega) hlt w h
  ·simp only[List.mem_cons,List.not_mem_nil,or_false] at h
   rcases h with rfl | rfl | rfl | rfl | rfl | rfl | rfl <;> simp
theorem leafV_ok (R:V) (g:Nat):Vok (leafV R g):=by
 unfold leafV
 rw[forceL_eq,foldS_eq]
 exact foldW_ok _ _ _ IVN_ok
theorem root_w (s:Nat) (hs:s<6) (u:VF) (hu:u.ok) (hu2:AllChains u):(Sig.root (Sig.leaves (seedB s) 2)).data.toList=(rootV (u.pack 804) s).list.flatMap byteN:=by
 have h0:=leaf_w s 0 hs (by omega) u hu hu2
 have h1:=leaf_w s 1 hs (by omega) u hu hu2
 rw[Nat.zero_mul,Nat.zero_add] at h0
 rw[Nat.one_mul] at h1
 have hl:Sig.leaves (seedB s) 2=[Sig.leaf (seedB s) 0,Sig.leaf (seedB s) 1]:=rfl
 rw[hl,Sig.root_two _ _ (Sig.leaf_size _ _) (Sig.leaf_size _ _)]
 obtain⟨ws,hws⟩:∃ ws,ws=(leafV (u.pack 804) s).list++(leafV (u.pack 804) (6+s)).list:=⟨_,rfl⟩
 have hlt:∀ w∈ws,w<4294967296:=fun w hm=>by
  rw[hws] at hm
  rcases List.mem_append.1 hm with hm | hm
  ·exact list_lt (leafV_ok _ _) w hm
  ·exact list_lt (leafV_ok _ _) w hm
 have hlen:ws.length=16:=by rw[hws,List.length_append];rfl
 have hm:(Sig.b1 1++Sig.leaf (seedB s) 0++Sig.leaf (seedB s) 1).data.toList=1::ws.flatMap byteN:=by
  rw[Sha.app_list,Sha.app_list,h0,h1,hws,List.flatMap_append]
  rfl
 have hz:(Sig.b1 1++Sig.leaf (seedB s) 0++Sig.leaf (seedB s) 1).size=65:=by
  rw[<- Sha.len_list,hm,List.length_cons,flat_len,hlen]
 unfold rootV
 rw[forceL_eq,foldS_eq,<- hws]
 refine sha_w _ (rootMsg ws) 2 ?_ ?_ ?_
 ·rw[Sha.app_list,hm,pad_list _ 65 hz]
  unfold rootMsg
  rw[List.flatMap_append,shift_bytes ws 1 (by omega) hlt]
  simp only[List.cons_append,List.append_assoc]
  rfl
 ·unfold rootMsg
  rw[List.length_append,shW_len,hlen]
  rfl
 ·intro w hmem
  unfold rootMsg at hmem
  rcases List.mem_append.1 hmem with h | h
  ·exact shW_lt ws 1 (by omega) hlt w h
  ·simp only[List.mem_cons,List.not_mem_nil,or_false] at h
   rcases h with rfl | rfl | rfl | rfl | rfl | rfl | rfl | rfl | rfl | rfl | rfl | rfl | rfl | rfl | rfl <;> simp
end Lane
end
section
open Go
namespace Lane
theorem pack_r (n:Nat) (f:Nat->Nat):packR f 0 n=packF n f:=by
 rw[packR_eq]
 congr 1
 funext i
 rw[Nat.zero_add]
def bnd (f:Nat->Nat) (i:Nat):Nat:=if i<804 then f i else 0
theorem packF_congr:∀ (n:Nat) (f g:Nat->Nat),(∀ i,i<n->f i=g i)->packF n f=packF n g
 | 0,_,_,_=>rfl
 | n + 1,f,g,h => by
   have ih:=packF_congr n (fun i=>f (i+1)) (fun i=>g (i+1)) (fun i hi=>h (i+1) (by omega))
   unfold packF
   rw[h 0 (by omega),ih]
theorem pack_b (f:Nat->Nat):packR f 0 804=packF 804 (bnd f):=by
 rw[pack_r]
 exact packF_congr 804 _ _ (fun i hi=>by unfold bnd;rw[if_pos hi])
theorem bnd_w {f:Nat->Nat} (h:∀ i,i<804->f i<4294967296):W (bnd f):=fun i=>by
 unfold bnd
 split
 ·exact h i (by assumption)
 ·simp
theorem bnd_at {f:Nat->Nat} {i:Nat} (h:i<804):bnd f i=f i:=by unfold bnd;rw[if_pos h]
theorem sJ_lt (i:Nat):sJ i<256:=by unfold sJ;omega
theorem kJ_lt (i:Nat):kJ i<256:=by unfold kJ;omega
theorem cJ_lt {i:Nat} (h:i<804):cJ i<256:=by unfold cJ;omega
theorem sec_pack:∃ u:VF,u.ok/\sec0 (mask 804) (ones 804)=u.pack 804/\∀ i,i<804->u.at i=cmp IVN (secretW (sJ i) (kJ i) (cJ i)):=by
 have w2:W (bnd fun i=>wd4 2 (sJ i) (sJ i) (sJ i)):=bnd_w fun i _=>wd4_lt (by omega) (sJ_lt i) (sJ_lt i) (sJ_lt i)
 have ws:W (bnd fun i=>wd4 (sJ i) (sJ i) (sJ i) (sJ i)):=bnd_w fun i _=>wd4_lt (sJ_lt i) (sJ_lt i) (sJ_lt i) (sJ_lt i)
 have w8:W (bnd fun i=>wd4 (sJ i) (kJ i) (cJ i) 128):=bnd_w fun i h=>wd4_lt (sJ_lt i) (kJ_lt i) (cJ_lt h) (by omega)
 have w0:W fun _=>0:=fun _=>by simp
 obtain⟨u,h1,h2,h3⟩:=comp_pack 804 VF.iv iv_ok _ _ _ _ _ _ _ _ _ (fun _=>0) (fun _=>0) (fun _=>0) (fun _=>0) (fun _=>0) (fun _=>0) (fun _=>280) w2 ws ws ws ws ws ws ws w8 w0 w0 w0 w0 w0 w0 (fun _=>by simp)
 have e3:packF 804 (fun _=>280)=ones 804*280:=(pack_const 804 280).symm
 rw[e3,pack_zero,<- iv_pack] at h2
 refine⟨u,h1,?_,fun i hi=>?_⟩
 ·unfold sec0
  rw[pack_b,pack_b,pack_b]
  exact h2
 ·rw[h3,bnd_at hi,bnd_at hi,bnd_at hi]
  unfold cmp secretW
  rfl
theorem out_pack:∃ u:VF,u.ok/\AllChains u/\∀ k,outJ k=k (u.pack 804):=by
 obtain⟨u0,h1,h2,h3⟩:=sec_pack
 have hb:∀ i,bnd (fun i=>wd4 3 (kJ i) (cJ i) 0) i+(0+15)<4294967296:=fun i=>by
  unfold bnd
  split
  ·rename_i h
   have:=cJ_lt h
   have:=kJ_lt i
   show wd4 3 (kJ i) (cJ i) 0+(0+15)<4294967296
   unfold wd4
   omega
  ·simp
 obtain⟨u,g1,g2,g3⟩:=chain_pack 804 (bnd fun i=>wd4 3 (kJ i) (cJ i) 0) 15 0 u0 h1 hb
 refine⟨u,g1,fun i hi=>?_,fun k=>?_⟩
 ·rw[g3,bnd_at hi,h3 i hi]
 ·unfold outJ
  simp only[force_eq,forceV_eq]
  rw[pack_b (fun i=>wd4 3 (kJ i) (cJ i) 0),pack_r 804 (fun _=>4294967295),pack_r 804 (fun _=>1)]
  show k _=_
  have e:(List.range' 0 15).foldl (fun v q=>compS (mask 804) (ones 804) (packF 804 (bnd fun i=>wd4 3 (kJ i) (cJ i) 0)) q v) (sec0 (mask 804) (ones 804))=u.pack 804:=by
   rw[h2]
   exact g2
  unfold mask ones at e
  rw[e]
theorem diffs_at:∀ (l:List Nat),diffs l=true->∀ i j (hi:i<l.length) (hj:j<l.length),i<j->l[i]≠l[j]
 | [],_,i,j,hi,_,_=>by cases hi
 | x :: l,h,i,j,hi,hj,hij => by
   unfold diffs at h
   rw[Bool.and_eq_true] at h
   cases i with
   | zero =>
     cases j with
     | zero=>omega
     | succ j =>
       have hj2:j<l.length:=by simpa using hj
       have:=List.all_eq_true.1 h.1 l[j] (List.getElem_mem hj2)
       intro e
       have e:x=l[j]:=e
       rw[<- e] at this
       simp at this
   | succ i =>
     cases j with
     | zero=>omega
     | succ j=>exact diffs_at l h.2 i j (by simpa using hi) (by simpa using hj) (by omega)
theorem byteN_inj {x y:Nat} (hx:x<4294967296) (hy:y<4294967296) (h:byteN x=byteN y):x=y:=by
 unfold byteN at h
 simp only[List.cons.injEq,and_true] at h
 obtain⟨h1,h2,h3,h4⟩:=h
 have n8:∀ n:Nat,n<256->(n.toUInt8).toNat=n:=fun n hn=>by simp[Nat.mod_eq_of_lt hn]
 have e1:=congrArg UInt8.toNat h1;have e2:=congrArg UInt8.toNat h2;have e3:=congrArg UInt8.toNat h3;have e4:=congrArg UInt8.toNat h4
 rw[n8 _ (by omega),n8 _ (by omega)] at e1 e2 e3 e4
 omega
theorem rootV_ok (R:V) (s:Nat):Vok (rootV R s):=by
 unfold rootV
 rw[forceL_eq,foldS_eq]
 exact foldW_ok _ _ _ IVN_ok
theorem pub_ne {s t:Nat} (hs:s<6) (ht:t<6) (h:s≠t):Sig.pubOf (seedB s)≠Sig.pubOf (seedB t):=by
 have key:∀ s t,s<t->t<6->Sig.pubOf (seedB s)≠Sig.pubOf (seedB t):=by
  intro s t hst ht e
  obtain⟨u,h1,h2,h3⟩:=out_pack
  have hd:=roots_diff
  rw[h3] at hd
  have hne:=diffs_at _ hd s t (by simp;omega) (by simp;omega) hst
  simp only[List.getElem_map,List.getElem_range] at hne
  have e2:Sig.root (Sig.leaves (seedB s) 2)=Sig.root (Sig.leaves (seedB t) 2):=by
   rw[<- Sig.pubOf_take,<- Sig.pubOf_take,e]
  have e3:=congrArg (fun x:ByteArray=>x.data.toList) e2
  rw[root_w s (by omega) u h1 h2,root_w t ht u h1 h2] at e3
  have e4:=congrArg (List.take 4) e3
  refine hne (byteN_inj (rootV_ok _ _).a (rootV_ok _ _).a ?_)
  have q:∀ v:V,(v.list.flatMap byteN).take 4=byteN v.a:=fun v=>by
   unfold V.list
   rw[List.flatMap_cons,List.take_append_of_le_length (by rw[byteN_len];exact Nat.le_refl _),List.take_of_length_le (by rw[byteN_len];exact Nat.le_refl _)]
  rwa [q,q] at e4
 rcases Nat.lt_or_ge s t with hst | hge
 ·exact key s t hst ht
 ·exact fun e=>key t s (by omega) hs e.symm
end Lane
end
section
open Go
namespace Own
/-! ### chains in order -/
theorem chain_of {α : Type} {ok : α -> Bool} {f : α -> ByteArray} : ∀ {l:List α} {p:Option α},(∀ x∈l,ok x=true)->Srt f l->(∀ q,p=some q->∀ x∈l,lessB (f q) (f x)=true)->chainOK ok (fun x y=>lessB (f x) (f y)) p l=true
 | [],_,_,_,_=>rfl
 | x :: l,p,ho,hs,hp => by
   have hs' :=List.pairwise_cons.1 hs
   have ih:=chain_of (p:=some x) (fun y hy=>ho y (List.mem_cons_of_mem _ hy)) hs'.2 (fun q hq y hy=>by cases hq;exact hs'.1 y hy)
   unfold chainOK
   rw[ho x List.mem_cons_self,ih]
   cases p with
   | none=>rfl
   | some q=>simp only[hp q rfl x List.mem_cons_self,Bool.and_self]
theorem nextOf_use:∀ {K:List KeyUse},Srt KeyUse.pub K->∀ (x:KeyUse) (p:ByteArray),nextOf (use K x) p=if x.pub=p then x.next else nextOf K p
 | [],_,x,p => by
   unfold use nextOf
   by_cases h:x.pub=p
   ·rw[if_pos h];simp[h]
   ·rw[if_neg h];simp[h]
 | k :: K,hs,x,p => by
   have hs' :=List.pairwise_cons.1 hs
   have hcons:∀ (y:KeyUse) (l:List KeyUse),nextOf (y::l) p=if y.pub=p then y.next else nextOf l p:=fun y l=>by
    unfold nextOf
    by_cases h:y.pub=p
    ·rw[if_pos h];simp[h]
    ·rw[if_neg h];simp[h]
   unfold use
   by_cases h1:lessB k.pub x.pub=true
   ·rw[if_pos h1,hcons,hcons,nextOf_use hs'.2 x p]
    by_cases hk:k.pub=p
    ·rw[if_pos hk,if_pos hk]
     rw[if_neg (fun hx=>by rw[hk,hx,lessB_irrefl] at h1;cases h1)]
    ·rw[if_neg hk,if_neg hk]
   ·rw[if_neg h1]
    by_cases h2:k.pub=x.pub
    ·rw[if_pos h2,hcons,hcons]
     by_cases hx:x.pub=p
     ·rw[if_pos hx,if_pos hx]
     ·rw[if_neg hx,if_neg hx,if_neg (by rw[h2];exact hx)]
    ·rw[if_neg h2,hcons]
/-! ### the space -/
structure KInv (K:List KeyUse):Prop where
 srt:Srt KeyUse.pub K
 ok:∀ k∈K,keyOK k=true
theorem KInv.nil:KInv []:=⟨List.Pairwise.nil,fun k hk=>by cases hk⟩
theorem mem_pub (b:Nat):(mem54 b).pub=Sig.pubOf (Lane.seedB b):=by unfold mem54;rfl
theorem sign_index (S:ByteArray) (i:Nat) (m:ByteArray):(Sig.signOf S i m).index=(i:Int):=by unfold Sig.signOf;rfl
theorem pub_ok (b:Nat):Sig.public_ (mem54 b).pub=true:=by
 show Sig.public_ (Sig.pubOf _)=true
 unfold Sig.public_
 rw[Sig.pubOf_size,Sig.pubOf_last]
 decide
theorem KInv.use {K:List KeyUse} (h:KInv K) (b:Nat) (n:Int) (h0:0<=n) (h2:n<=2):KInv (use K ⟨(mem54 b).pub,n⟩):=by
 rw[use_put]
 refine⟨h.srt.put _,fun k hk=>?_⟩
 rcases putB_mem _ _ _ hk with rfl | hk
 ·unfold keyOK
  rw[pub_ok,show((mem54 b).pub.get! 32)=1 from Sig.pubOf_last _]
  have e:(2:Int)^(1:UInt8).toNat=2:=by decide
  rw[e]
  simp only[Bool.true_and,Bool.and_eq_true,decide_eq_true_eq]
  exact⟨h0,h2⟩
 ·exact h.ok k hk
theorem name_lt {a b:Nat} (h:a<b) (hb:b<8):lessB (mem54 a).name (mem54 b).name=true:=by
 have:∀ b,b<8->∀ a,a<b->lessB (⟨#[109,(97+a%8).toUInt8]⟩:ByteArray) ⟨#[109,(97+b%8).toUInt8]⟩=true:=by decide +kernel
 exact this b hb a h
theorem name_ne {a b:Nat} (ha:a<8) (hb:b<8) (h:a≠b):(mem54 a).name≠(mem54 b).name:=by
 intro e
 rcases Nat.lt_or_gt_of_ne h with h | h
 ·have:=name_lt h hb
  rw[e,lessB_irrefl] at this;cases this
 ·have:=name_lt h ha
  rw[e,lessB_irrefl] at this;cases this
theorem pub_ne {a b:Nat} (ha:a<6) (hb:b<6) (h:a≠b):(mem54 a).pub≠(mem54 b).pub:=Lane.pub_ne ha hb h
theorem name_ok (b:Nat):nameOK (mem54 b).name=true:=rfl
theorem memOK (pre:List Member) (b:Nat) (h1:∀ x∈pre,x.pub≠(mem54 b).pub) (h2:∀ x,pre.getLast? = some x->lessB x.name (mem54 b).name=true):memberOK pre (mem54 b)=true:=by
 unfold memberOK
 rw[name_ok,pub_ok]
 have e:(pre.any fun x=>decide (x.pub=(mem54 b).pub))=false:=List.any_eq_false.2 fun x hx=>by simpa using h1 x hx
 rw[e]
 cases hl:pre.getLast? with
 | none=>rfl
 | some x=>simp only[h2 x hl];rfl
theorem mems_ok {n:Nat} (h1:1<=n) (h2:n<=3):membersOK (mems54 n)=true:=by
 have e:∀ n,n<=3->membersFrom [] (mems54 n)=true:=by
  intro n hn
  have a0:memberOK [] (mem54 0)=true:=memOK _ _ (fun x hx=>by cases hx) (fun x hx=>by cases hx)
  have a1:memberOK [mem54 0] (mem54 1)=true:=memOK _ _ (fun x hx=>by
   rw[List.mem_singleton.1 hx];exact pub_ne (by omega) (by omega) (by omega)) (fun x hx=>by cases hx;exact name_lt (by omega) (by omega))
  have a2:memberOK [mem54 0,mem54 1] (mem54 2)=true:=memOK _ _ (fun x hx=>by
   simp only[List.mem_cons,List.not_mem_nil,or_false] at hx
   rcases hx with rfl | rfl <;> exact pub_ne (by omega) (by omega) (by omega)) (fun x hx=>by cases hx;exact name_lt (by omega) (by omega))
  match n,hn with
  | 0,_=>rfl
  | 1,_=>show(memberOK [] (mem54 0)&&true)=true;rw[a0];rfl
  | 2,_=>show(memberOK [] (mem54 0)&&(memberOK [mem54 0] (mem54 1)&&true))=true;rw[a0,a1];rfl
  | 3,_=>show(memberOK [] (mem54 0)&&(memberOK [mem54 0] (mem54 1)&&(memberOK [mem54 0,mem54 1] (mem54 2)&&true)))=true;rw[a0,a1,a2];rfl
 unfold membersOK
 rw[mems54_len,e n h2]
 simp only[Bool.and_true,Bool.and_eq_true,decide_eq_true_eq]
 omega
theorem space_ok {n:Nat} {th:Int} (h1:1<=n) (h2:n<=3) (h3:1<=th) (h4:th<=n):spaceOK (space54 n th)=true:=by
 unfold spaceOK space54
 dsimp only
 rw[mems_ok h1 h2,mems54_len,show pathOK ⟨#[97]⟩=true by decide]
 simp only[Bool.true_and,Bool.and_eq_true,decide_eq_true_eq]
 exact⟨h3,h4⟩
def own54 (s:Space) (K:List KeyUse):Owners:=⟨0,[s],K⟩
theorem own_ok {s:Space} {K:List KeyUse} (hs:spaceOK s=true) (hK:KInv K):ownersOK (own54 s K)=true:=by
 unfold ownersOK own54
 have e1:chainOK spaceOK (fun x y=>lessB x.pre y.pre) none [s]=true:=by simp[chainOK,hs]
 have e2:chainOK keyOK (fun x y=>lessB x.pub y.pub) none K=true:=chain_of hK.ok hK.srt (fun q hq=>by cases hq)
 dsimp only
 rw[e1,e2]
 rfl
theorem auth54 {s:Space} {K:List KeyUse} (hs:spaceOK s=true) (hp:s.pre=⟨#[97]⟩) (hK:KInv K) {p:ByteArray} (h1:pathOK p=true) (h2:belongs p ⟨#[97]⟩=true):authority (own54 s K) p=some s:=by
 unfold authority
 rw[own_ok hs hK,h1]
 show bestF p none [s]=some s
 unfold bestF
 rw[hp,h2]
 rfl
theorem find54 {n b:Nat} (hb:b<n) (hn:n<=8):find (mems54 n) (mem54 b).name=some (mem54 b):=by
 unfold find
 rw[List.find?_eq_some_iff_append]
 refine⟨by simp,(List.range b).map mem54,((List.range' (b+1) (n - b - 1)).map mem54),?_,fun x hx=>?_⟩
 ·unfold mems54
  rw[<- List.map_cons,<- List.map_append]
  congr 1
  rw[List.range_eq_range',List.range_eq_range']
  have e:n=b+(n - b):=by omega
  conv=>lhs;rw[e,<- List.range'_append_1]
  congr 1
  have e2:n - b=(n - b - 1)+1:=by omega
  rw[e2,List.range'_succ]
  simp
 ·obtain⟨c,hc,rfl⟩:=List.mem_map.1 hx
  have:=List.mem_range.1 hc
  simpa using name_ne (by omega) (by omega) (by omega:c≠b)
/-! ### a queue of one proposal -/
theorem queue_one {nx:Int} {p:Proposal} (h0:0<=nx) (h1:nx<=1099511627776) (hp:proposalOK p=true) (h:p.id<nx):queueOK ⟨nx,[p]⟩=true:=by
 unfold queueOK late
 dsimp only
 have e:chainOK (fun p=>proposalOK p&&decide (p.id<nx)) (fun x y=>decide (x.id<y.id)) none [p]=true:=by simp[chainOK,hp,h]
 rw[e]
 simp only[Bool.and_true,Bool.and_eq_true,decide_eq_true_eq]
 exact⟨⟨h0,h1⟩,by show 1<=64;omega⟩
structure VInv (V:List Vote):Prop where
 srt:Srt Vote.name V
 ok:∀ v∈V,nameOK v.name=true
 len:V.length<=1000
theorem VInv.nil:VInv []:=⟨List.Pairwise.nil,(fun v hv=>by cases hv),by simp⟩
theorem putB_len {α : Type} (f : α -> ByteArray) (x : α):∀ l:List α,(putB f x l).length<=l.length+1
 | []=>Nat.le_refl _
 | y :: l => by
   unfold putB
   split
   ·have:=putB_len f x l
    simp only[List.length_cons];omega
   ·split <;> simp
theorem VInv.put {V:List Vote} (h:VInv V) (hl:V.length<1000) (x:Vote) (hx:nameOK x.name=true):VInv (putVote V x):=by
 rw[putVote_put]
 refine⟨h.srt.put _,fun v hv=>?_,by have:=putB_len Vote.name x V;omega⟩
 rcases putB_mem _ _ _ hv with rfl | hv
 ·exact hx
 ·exact h.ok v hv
structure PropOK (p:Proposal):Prop where
 id0:0<=p.id
 id1:p.id<1099511627776
 path:pathOK p.path=true
 bel:belongs p.path ⟨#[97]⟩=true
 dig:Sig.digest p.digest=true
 op:0<=p.opened/\p.opened<=late/\p.opened<p.expires/\p.expires<=p.opened+256
def withVs (p:Proposal) (V:List Vote):Proposal :={ p with votes:=V }
theorem prop_ok {p:Proposal} (h:PropOK p) {V:List Vote} (hV:VInv V):proposalOK (withVs p V)=true:=by
 unfold proposalOK withVs
 have e:chainOK (fun v=>nameOK v.name) (fun x y=>lessB x.name y.name) none V=true:=chain_of (f:=Vote.name) hV.ok hV.srt (fun q hq=>by cases hq)
 dsimp only
 rw[e,h.path,h.dig]
 have:=h.op
 have:=h.id0
 have:=hV.len
 simp only[Bool.and_true,Bool.true_and,Bool.and_eq_true,decide_eq_true_eq]
 omega
theorem msg_votes (p:Proposal) (V:List Vote) (ag:Bool):messageOf (withVs p V) ag=messageOf p ag:=rfl
def ballot54 (b:Nat) (i:Nat) (p:Proposal) (ag:Bool):Approval:=⟨(mem54 b).name,Sig.signOf (Lane.seedB b) i (messageOf p ag)⟩
theorem vote54 {n b i:Nat} {th nx:Int} {K:List KeyUse} {p:Proposal} {V:List Vote} {ag:Bool} (h1:n<=3) (h3:1<=th) (h4:th<=n) (hK:KInv K) (hp:PropOK p) (hV:VInv V) (hVl:V.length<1000) (hnx:p.id<nx) (hnx2:nx<=1099511627776) (hb:b<n) (hi:i<2) (hu:nextOf K (mem54 b).pub<=i):
 vote ⟨nx,[withVs p V]⟩ (own54 (space54 n th) K) p.id ag (ballot54 b i p ag)=(⟨nx,[withVs p (putVote V ⟨(mem54 b).name,(mem54 b).pub,ag⟩)]⟩,own54 (space54 n th) (use K ⟨(mem54 b).pub,(i:Int)+1⟩),0):=by
 have hn1:1<=n:=by omega
 have hsp:=space_ok hn1 h1 h3 h4
 have hq:queueOK ⟨nx,[withVs p V]⟩=true:=queue_one (by have:=hp.id0;omega) hnx2 (prop_ok hp hV) hnx
 have hf:findP [withVs p V] p.id=some (withVs p V):=by simp[findP,withVs]
 have hpl:=putB_len Vote.name ⟨(mem54 b).name,(mem54 b).pub,ag⟩ V
 unfold vote
 rw[hq,own_ok hsp hK]
 dsimp only
 rw[if_neg (by decide),hf]
 dsimp only
 rw[auth54 hsp rfl hK (show pathOK (withVs p V).path=true from hp.path) hp.bel]
 have hv:Sig.verify (mem54 b).pub (messageOf p ag) (Sig.signOf (Lane.seedB b) i (messageOf p ag))=true:=by rw[mem_pub];exact Sig.verify_sign (Lane.seedB b) i hi (messageOf p ag)
 have hx:=sign_index (Lane.seedB b) i (messageOf p ag)
 unfold ballot54
 generalize Sig.signOf (Lane.seedB b) i (messageOf p ag)=sg at*
 have hfm:find (space54 n th).members (mem54 b).name=some (mem54 b):=find54 hb (by omega)
 dsimp only
 rw[hfm]
 dsimp only
 rw[msg_votes,hv,if_neg (fun h=>by cases h),hx,if_neg (show ¬ (i:Int)<nextOf (own54 (space54 n th) K).keys (mem54 b).pub from Int.not_lt.2 hu)]
 rw[if_neg (show ¬ 1024<(putVote (withVs p V).votes ⟨(mem54 b).name,(mem54 b).pub,ag⟩).length by rw[putVote_put];show ¬ 1024<(putB Vote.name ⟨(mem54 b).name,(mem54 b).pub,ag⟩ V).length;omega)]
 have e:setP [withVs p V] { withVs p V with votes:=putVote (withVs p V).votes ⟨(mem54 b).name,(mem54 b).pub,ag⟩ } = [withVs p (putVote V ⟨(mem54 b).name,(mem54 b).pub,ag⟩)]:=by
  simp[setP,withVs]
 rw[e]
 rfl
/-! ### What is agreed -/
theorem agreed_gen {s:Space} {nx:Int} {K:List KeyUse} {p:Proposal} {V:List Vote} (hs:spaceOK s=true) (hpre:s.pre=⟨#[97]⟩) (hK:KInv K) (hp:PropOK p) (hV:VInv V) (hnx:p.id<nx) (hnx2:nx<=1099511627776):
 agreed ⟨nx,[withVs p V]⟩ (own54 s K) p.id=((V.filter (counts s)).all (·.agrees)&&decide (s.threshold<=((V.filter (counts s)).length:Int))):=by
 have hq:queueOK ⟨nx,[withVs p V]⟩=true:=queue_one (by have:=hp.id0;omega) hnx2 (prop_ok hp hV) hnx
 have hf:findP [withVs p V] p.id=some (withVs p V):=by simp[findP,withVs]
 unfold agreed
 rw[hq,own_ok hs hK]
 dsimp only
 rw[hf]
 show(true&&agreedP (withVs p V) (own54 s K))=_
 unfold agreedP
 rw[auth54 hs hpre hK (show pathOK (withVs p V).path=true from hp.path) hp.bel]
 rfl
def ByMem (n:Nat) (V:List Vote):Prop:=∀ v∈V,∃ b,b<n/\v.name=(mem54 b).name/\v.pub=(mem54 b).pub
theorem ByMem.nil (n:Nat):ByMem n []:=fun v hv=>by cases hv
theorem ByMem.put {n:Nat} {V:List Vote} (h:ByMem n V) {b:Nat} (hb:b<n) (ag:Bool):ByMem n (putVote V ⟨(mem54 b).name,(mem54 b).pub,ag⟩):=fun v hv=>by
 rw[putVote_put] at hv
 rcases putB_mem _ _ _ hv with rfl | hv
 ·exact⟨b,hb,rfl,rfl⟩
 ·exact h v hv
theorem counts_mem {n:Nat} {th:Int} {v:Vote} (h:∃ b,b<n/\v.name=(mem54 b).name/\v.pub=(mem54 b).pub):counts (space54 n th) v=true:=by
 obtain⟨b,hb,h1,h2⟩:=h
 unfold counts space54 mems54
 rw[List.any_eq_true]
 exact⟨mem54 b,List.mem_map.2 ⟨b,List.mem_range.2 hb,rfl⟩,by simp[h1,h2]⟩
theorem agreed54 {n:Nat} {th nx:Int} {K:List KeyUse} {p:Proposal} {V:List Vote} (h1:n<=3) (h3:1<=th) (h4:th<=n) (hK:KInv K) (hp:PropOK p) (hV:VInv V) (hM:ByMem n V) (hnx:p.id<nx) (hnx2:nx<=1099511627776):
 agreed ⟨nx,[withVs p V]⟩ (own54 (space54 n th) K) p.id=(V.all (·.agrees)&&decide (th<=(V.length:Int))):=by
 rw[agreed_gen (space_ok (by omega) h1 h3 h4) rfl hK hp hV hnx hnx2]
 have e:V.filter (counts (space54 n th))=V:=List.filter_eq_self.2 fun v hv=>counts_mem (hM v hv)
 rw[e]
 rfl
theorem mergeOK54 {n:Nat} {th nx size:Int} {K:List KeyUse} {p:Proposal} {V:List Vote} (h1:n<=3) (h3:1<=th) (h4:th<=n) (hK:KInv K) (hp:PropOK p) (hV:VInv V) (hM:ByMem n V) (hnx:p.id<nx) (hnx2:nx<=1099511627776):
 merge ⟨nx,[withVs p V]⟩ (own54 (space54 n th) K) size p.id=if p.expires<=size then (.none,.none,8) else if (V.all (·.agrees)&&decide (th<=(V.length:Int)))=false then (.none,.none,20) else (⟨nx,[]⟩,withVs p V,0):=by
 have hsp:=space_ok (show 1<=n by omega) h1 h3 h4
 have hq:queueOK ⟨nx,[withVs p V]⟩=true:=queue_one (by have:=hp.id0;omega) hnx2 (prop_ok hp hV) hnx
 have hf:findP [withVs p V] p.id=some (withVs p V):=by simp[findP,withVs]
 have ha:=agreed54 h1 h3 h4 hK hp hV hM hnx hnx2
 unfold agreed at ha
 rw[hq,own_ok hsp hK] at ha
 dsimp only at ha
 rw[hf] at ha
 have ha' : agreedP (withVs p V) (own54 (space54 n th) K)=(V.all (·.agrees)&&decide (th<=(V.length:Int))):=ha
 unfold merge
 rw[hq,own_ok hsp hK]
 dsimp only
 rw[if_neg (by decide),hf]
 dsimp only
 rw[ha']
 have e:without ⟨nx,[withVs p V]⟩ p.id=⟨nx,[]⟩:=by simp[without,withVs]
 rw[e]
 rfl
theorem withdraw54 {nx:Int} {p:Proposal} {V:List Vote} (hp:PropOK p) (hV:VInv V) (hnx:p.id<nx) (hnx2:nx<=1099511627776):withdraw ⟨nx,[withVs p V]⟩ p.id=(⟨nx,[]⟩,0):=by
 have hq:queueOK ⟨nx,[withVs p V]⟩=true:=queue_one (by have:=hp.id0;omega) hnx2 (prop_ok hp hV) hnx
 have hf:findP [withVs p V] p.id=some (withVs p V):=by simp[findP,withVs]
 have e:without ⟨nx,[withVs p V]⟩ p.id=⟨nx,[]⟩:=by simp[without,withVs]
 unfold withdraw
 rw[hq]
 dsimp only
 rw[hf,e]
 rfl
theorem expire54 {nx size:Int} {p:Proposal} {V:List Vote} (hp:PropOK p) (hV:VInv V) (hnx:p.id<nx) (hnx2:nx<=1099511627776) (he:p.expires<=size):expire ⟨nx,[withVs p V]⟩ size=⟨nx,[]⟩:=by
 have hq:queueOK ⟨nx,[withVs p V]⟩=true:=queue_one (by have:=hp.id0;omega) hnx2 (prop_ok hp hV) hnx
 unfold expire
 rw[hq,if_neg (by decide)]
 have:decide (size<(withVs p V).expires)=false:=decide_eq_false (by show ¬ size<p.expires;omega)
 simp[List.filter_cons,this]
def prop54 (id:Int) (path dg:ByteArray) (size window:Int):Proposal:=⟨id,path,dg,size,size+window,[]⟩
theorem prop54_ok {id size window:Int} {path dg:ByteArray} (h0:0<=id) (h1:id<1099511627776) (hp:pathOK path=true) (hb:belongs path ⟨#[97]⟩=true) (hd:Sig.digest dg=true) (hs:0<=size/\size<=late) (hw:1<=window/\window<=256):PropOK (prop54 id path dg size window):=
 ⟨h0,h1,hp,hb,hd,hs.1,hs.2,by show size<size+window;omega,by show size+window<=size+256;omega⟩
theorem digest_seed (b:Nat):Sig.digest (Lane.seedB b)=true:=decide_eq_true (seedB_size b)
theorem submit_empty {nx size window:Int} {path dg:ByteArray} (h0:0<=nx) (h1:nx<1099511627776) (hp:pathOK path=true) (hd:Sig.digest dg=true) (hs:0<=size/\size<=late) (hw:1<=window/\window<=256):
 submit ⟨nx,[]⟩ size window path dg=(⟨nx+1,[prop54 nx path dg size window]⟩,nx,0):=by
 have hq:queueOK ⟨nx,[]⟩=true:=by
  unfold queueOK late
  simp only[chainOK,List.length_nil,Bool.and_true,Bool.and_eq_true,decide_eq_true_eq]
  omega
 unfold submit
 rw[hq,hp,hd,if_neg (by decide),if_neg (by have:=hs;have:=hw;omega),if_neg (by decide),if_neg (by decide),if_neg (by simp),if_neg (by simp[late];omega)]
 rfl
end Own
end
section
open Go Go.RowKit Go.Maps
namespace Own
theorem Idx.find {α : Type} {p : α -> Bool} {l:List α} {i:Int} (h:Idx p l i):(i<0/\l.find? p=none)\/∃ j:Nat,∃ hj:j<l.length,i=(j:Int)/\l.find? p=some l[j]:=by
 rcases h with ⟨rfl,h1,_⟩ | ⟨j,hj,rfl,h1,h2,h3⟩
 ·exact .inl ⟨by omega,h1⟩
 ·exact .inr ⟨j,hj,rfl,h1⟩
end Own
theorem rvWithdraw_any (q:Own.Queue) (id:Int) (pv:Value) (w:World) (hM:MaxL w) (hP:Own.PropsC w pv q.props) (hls:q.props.length<=1000000) (hlm:∀ p∈q.props,p.votes.length<=3000000):
 Calls Tryz.prog 14 #[.agg #[.int .i64 q.next,pv],.int .i64 id] w fun e w' => (∃ qv,e=.returned (.tuple #[qv,.int .i64 (Own.withdraw q id).2])/\Own.QOut w (Own.withdraw q id).1 qv w')/\Below w.heap.size w w' :=by
 obtain⟨R,hR⟩:∃ R,R=Own.withdraw q id:=⟨_,rfl⟩
 rw[<- hR]
 unfold Own.withdraw at hR
 obtain⟨a,c,rfl⟩:=hP.len
 obtain⟨nx,L⟩:=q
 dsimp only at*
 have hb1:Below w.heap.size w (((w.alloc (.cells #[.int .i64 nx,.slice a L.length c] 24)).alloc (.cells #[.int .i64 id] 3)).alloc (.cells #[.int .i64 0,.slice none 0 0] 24)):=(((Below.refl _ _).alloc (Nat.le_refl _) _).alloc (by simp) _).alloc (by simp;omega) _
 have a0:=((At.new w 24 #[.int .i64 nx,.slice a L.length c]).alloc (.cells #[.int .i64 id] 3)).alloc (.cells #[.int .i64 0,.slice none 0 0] 24)
 have a1:=(At.new1 w (.cells #[.int .i64 nx,.slice a L.length c] 24) 3 #[.int .i64 id]).alloc (.cells #[.int .i64 0,.slice none 0 0] 24)
 have a2:At (((w.alloc (.cells #[.int .i64 nx,.slice a L.length c] 24)).alloc (.cells #[.int .i64 id] 3)).alloc (.cells #[.int .i64 0,.slice none 0 0] 24)) (w.heap.size+1+1) 24 #[.int .i64 0,.slice none 0 0]:=by
  have:=At.new1 (w.alloc (.cells #[.int .i64 nx,.slice a L.length c] 24)) (.cells #[.int .i64 id] 3) 24 #[.int .i64 0,.slice none 0 0]
  rwa [World.size_alloc] at this
 have hz1:w.heap.size+3<=(((w.alloc (.cells #[.int .i64 nx,.slice a L.length c] 24)).alloc (.cells #[.int .i64 id] 3)).alloc (.cells #[.int .i64 0,.slice none 0 0] 24)).heap.size:=by simp
 obtain⟨c0,c1⟩:=a0.c2
 have hval:=rvValid_any ⟨nx,L⟩ (.slice a L.length c) _ (hM.below hb1) (hP.below hb1) (by show L.length<=_;omega) (fun p hp=>by have:=hlm p hp;omega)
 have HV:=zh hval;have HP:=zh (hP.below hb1);have HB:=zh hb1;have HA0:=zh a0;have HA1:=zh a1;have HA2:=zh a2;have HLM:=zh hlm;have HR:=zh hR
 clear hval hP hM hb1 a0 a1 a2 hlm hR
 go_enter Tryz.func14,Tryz.ntmps14
 go_wp2_with fail
 generalize ((w.alloc (.cells #[.int .i64 nx,.slice a L.length c] 24)).alloc (.cells #[.int .i64 id] 3)).alloc (.cells #[.int .i64 0,.slice none 0 0] 24)=w1 at*
 refine HV.out.mono ?_
 rintro e w2 ⟨rfl,hb2⟩
 have a0:=HA0.out.below hb2 (by omega);have a1:=HA1.out.below hb2 (by omega);have a2:=HA2.out.below hb2 (by omega)
 have x0:=a0.cell 0;have x1:=a0.cell 1
 have r0:=a2.cell 0;have r1:=a2.cell 1;have r2:=a2.free 0;have r3:=a2.free 1
 have z0:=a1.cell 0
 simp only[List.getElem?_toArray,List.getElem?_cons_zero,List.getElem?_cons_succ] at x0 x1 r0 r1 z0
 have hP2:=HP.out.below hb2
 have hB2:=HB.out.trans (hb2.mono HB.out.size)
 have hs2:w.heap.size+3<=w2.heap.size:=Nat.le_trans hz1 hb2.size
 have HA02:=zh a0;have HA12:=zh a1;have HA22:=zh a2;have HB2:=zh hB2
 have hfd:=rvFind_any nx id _ L w2 hP2 (by omega)
 have HFD:=zh hfd;have HP2:=zh hP2
 clear hP2 hB2 hb2 a0 a1 a2 c0 c1 hfd HV HP HB HA0 HA1 HA2
 cases hq:Own.queueOK ⟨nx,L⟩ with
 | false =>
   have e:R=(Own.Queue.none,1):=by rw[HR.out,hq];rfl
   have HE:=zh e;clear e
   go_wp2_with fail
   have F2:=(HA22.out.set 0 (.int .i64 0)).set 1 (.slice none 0 0)
   refine done_ct rfl rfl rfl (load_row F2 Tryz.underlying24 rfl info_Queue) ⟨⟨.agg #[.int .i64 0,.slice none 0 0],?_,?_⟩,?_⟩
   ·rw[HE.out];rfl
   ·rw[HE.out];exact⟨_,rfl,Own.POwn.nil _ _⟩
   ·exact(HB2.out.setCell (p:=⟨w.heap.size+1+1,0,none⟩) (by show w.heap.size<=w.heap.size+1+1;omega) _).setCell (p:=⟨w.heap.size+1+1,1,none⟩) (by show w.heap.size<=w.heap.size+1+1;omega) _
 | true =>
   have e:R=if (Own.findP L id).isNone=true then (Own.Queue.none,6) else (Own.without ⟨nx,L⟩ id,0):=by rw[HR.out,hq];rfl
   have HE:=zh e;clear e
   clear r0 r1 r2 r3
   go_wp2_with fail
   refine HFD.out.mono ?_
   rintro e w3 ⟨⟨i,rfl,hi⟩,hb3⟩
   have a0:=HA02.out.below hb3 (by omega);have a1:=HA12.out.below hb3 (by omega);have a2:=HA22.out.below hb3 (by omega)
   have y0:=a0.cell 0;have y1:=a0.cell 1
   have r0:=a2.cell 0;have r1:=a2.cell 1;have r2:=a2.free 0;have r3:=a2.free 1
   have u0:=a1.cell 0
   simp only[List.getElem?_toArray,List.getElem?_cons_zero,List.getElem?_cons_succ] at y0 y1 r0 r1 u0
   have hkp:=rvKept_any 48 #[.pointer (some ⟨w.heap.size+1,0,none⟩)] (by intros;rfl) (fun p:Own.Proposal => !decide (p.id=id)) nx _ L w3 (HP2.out.below hb3) hls HLM.out (fun W x u hb=>rvWithdraw1_any x u _ id W ((hb.cell (p:=⟨w.heap.size+1,0,none⟩) a1.lt).trans u0))
   have HKP:=zh hkp;have HA23:=zh a2;have HB3:=zh (HB2.out.trans (hb3.mono HB2.out.size))
   have hs3:=Nat.le_trans hs2 hb3.size
   have hfi:(i<0/\Own.findP L id=none)\/∃ j:Nat,∃ hj:j<L.length,i=(j:Int)/\Own.findP L id=some L[j]:=hi.find
   clear hkp a0 a1 a2 hb3 hi HA22 HA12 HA02 HB2 x0 x1 z0 u0
   rcases hfi with ⟨hi,hn⟩ | ⟨j,hj,rfl,hn⟩
   ·have di:decide (i<0)=true:=decide_eq_true hi
    have e:R=(Own.Queue.none,6):=by rw[HE.out,hn];rfl
    have HE2:=zh e;clear e
    go_wp2_with fail
    have F2:=(HA23.out.set 0 (.int .i64 0)).set 1 (.slice none 0 0)
    refine done_ct rfl rfl rfl (load_row F2 Tryz.underlying24 rfl info_Queue) ⟨⟨.agg #[.int .i64 0,.slice none 0 0],?_,?_⟩,?_⟩
    ·rw[HE2.out];rfl
    ·rw[HE2.out];exact⟨_,rfl,Own.POwn.nil _ _⟩
    ·exact(HB3.out.setCell (p:=⟨w.heap.size+1+1,0,none⟩) (by show w.heap.size<=w.heap.size+1+1;omega) _).setCell (p:=⟨w.heap.size+1+1,1,none⟩) (by show w.heap.size<=w.heap.size+1+1;omega) _
   ·have di:decide ((j:Int)<0)=false:=decide_eq_false (by omega)
    have e:R=(⟨nx,L.filter fun p => !decide (p.id=id)⟩,0):=by rw[HE.out,hn];rfl
    have HE2:=zh e;clear e
    clear r0 r1 r2 r3
    go_wp2_with fail
    refine HKP.out.mono ?_
    rintro e w4 ⟨⟨v',rfl,hpo⟩,hb4⟩
    obtain⟨va,vc,rfl⟩:=hpo.one
    obtain⟨M,hM⟩:∃ M,M=(L.filter fun p => !decide (p.id=id)).length:=⟨_,rfl⟩
    rw[<- hM] at hpo ⊢
    have a3:=HA23.out.below hb4 (by omega)
    have r0:=a3.cell 0;have r1:=a3.cell 1;have r2:=a3.free 0;have r3:=a3.free 1
    simp only[List.getElem?_toArray,List.getElem?_cons_zero,List.getElem?_cons_succ] at r0 r1
    have HA3:=zh a3;have HPO:=zh hpo;have HB4:=zh (HB3.out.trans (hb4.mono HB3.out.size))
    clear a3 hpo hb4 hM
    go_wp2_with fail
    have F2:=(HA3.out.set 0 (.int .i64 nx)).set 1 (.slice va M vc)
    refine done_ct rfl rfl rfl (load_row F2 Tryz.underlying24 rfl info_Queue) ⟨⟨.agg #[.int .i64 nx,.slice va M vc],?_,?_⟩,?_⟩
    ·rw[HE2.out];rfl
    ·rw[HE2.out]
     refine⟨_,rfl,Own.POwn.base (B:=w3.heap.size+3) (HPO.out.keep (by simp[World.setCell]) (fun k hk _=>?_)) (by omega)⟩
     have hk1:k≠w.heap.size+1+1:=by omega
     rw[heap_setCell_other _ _ _ _ hk1,heap_setCell_other _ _ _ _ hk1]
    ·exact(HB4.out.setCell (p:=⟨w.heap.size+1+1,0,none⟩) (by show w.heap.size<=w.heap.size+1+1;omega) _).setCell (p:=⟨w.heap.size+1+1,1,none⟩) (by show w.heap.size<=w.heap.size+1+1;omega) _
end
section
open Go Go.RowKit Go.Maps
theorem rvMessage_any (p:Own.Proposal) (ag:Bool) (v:Value) (w:World) (h0:0<=p.id) (h1:p.id<9223372036854775808) (h2:p.path.size<=1000000) (h3:p.digest.size<=1000000):
 Calls Tryz.prog 23 #[.agg #[.int .i64 p.id,.string p.path,.string p.digest,.int .i64 p.opened,.int .i64 p.expires,v],.bool ag] w fun e w' => e=.returned (.string (Own.messageOf p ag))/\Below w.heap.size w w' :=by
 obtain⟨R,hR⟩:∃ R,R=Own.messageOf p ag:=⟨_,rfl⟩
 rw[<- hR]
 unfold Own.messageOf at hR
 obtain⟨id,pa,di,op,ex,vs⟩:=p
 dsimp only at*
 obtain⟨n,rfl⟩:∃ n:Nat,id=(n:Int):=⟨id.toNat,by omega⟩
 rw[Int.toNat_natCast] at hR
 have a0:=At.new w 46 #[.int .i64 (n:Int),.string pa,.string di,.int .i64 op,.int .i64 ex,v]
 have hb1:Below w.heap.size w (w.alloc (.cells #[.int .i64 (n:Int),.string pa,.string di,.int .i64 op,.int .i64 ex,v] 46)):=(Below.refl _ _).alloc (Nat.le_refl _) _
 have c0:=a0.cell 0;have c1:=a0.cell 1
 simp only[List.getElem?_toArray,List.getElem?_cons_zero,List.getElem?_cons_succ] at c0 c1
 have HA:=zh a0;have HB:=zh hb1;have HR:=zh hR
 have H1:=zh h1;have H2:=zh h2;have H3:=zh h3
 clear hR a0 hb1 h0 h1 h2 h3
 go_enter Tryz.func23,Tryz.ntmps23
 cases ag with
 | true =>
   go_upto_region 4 with fail
   obtain⟨T,hT⟩:∃ T:ByteArray,T=⟨#[13]⟩:=⟨_,rfl⟩
   rw[<- hT]
   have zT:T.size=1:=by rw[hT];rfl
   have HT:=zh hT;clear hT
   generalize w.alloc (.cells #[.int .i64 (n:Int),.string pa,.string di,.int .i64 op,.int .i64 ex,v] 46)=w1 at*
   go_wp2_with fail
   refine(cUint_any n w1 (by have:=H1.out;omega)).mono ?_
   rintro e w2 ⟨rfl,hb2⟩
   have a2:=HA.out.below hb2 HA.out.lt
   have q1:=a2.cell 1;have q2:=a2.cell 2
   simp only[List.getElem?_toArray,List.getElem?_cons_zero,List.getElem?_cons_succ] at q1 q2
   have HA2:=zh a2;have HB2:=zh (HB.out.trans (hb2.mono HB.out.size))
   clear a2 hb2 c0 c1
   obtain⟨U,hU⟩:∃ U,U=Cod.uns n:=⟨_,rfl⟩
   rw[<- hU]
   have zU:U.size<=10:=by rw[hU];exact Cod.uns_le n
   have HU:=zh hU;clear hU
   go_wp2_with fail
   refine Lex.wp_region_lexN (fun j=>j=w.heap.size) [8] 10 [6,4] (by kernel_rfl) (by kernel_rfl) (by kernel_rfl) ?_
   simp only[Lex.wpCuts,List.take_succ_cons,List.take_zero,List.drop_succ_cons,List.drop_zero]
   go_wp2_with fail
   refine(cText_any pa _ (by have:=H2.out;omega)).mono ?_
   rintro e w3 ⟨rfl,hb3⟩
   have hb3' : Below w2.heap.size w2 w3:=(Below.refl w2.heap.size w2).drew.trans hb3
   have a3:=HA2.out.below hb3' HA2.out.lt
   have p2:=a3.cell 2
   simp only[List.getElem?_toArray,List.getElem?_cons_zero,List.getElem?_cons_succ] at p2
   have HB3:=zh hb3';have HA3:=zh a3
   clear hb3 hb3' a3
   obtain⟨TP,hTP⟩:∃ x,x=Cod.text pa:=⟨_,rfl⟩
   rw[<- hTP]
   have zP:TP.size<=1000010:=by rw[hTP];show(Cod.uns pa.size++pa).size<=_;rw[ByteArray.size_append];have:=Cod.uns_le pa.size;have:=H2.out;omega
   have HTP:=zh hTP;clear hTP
   go_wp2_with fail
   refine Lex.Mid.intro (fun j hj _=>by rw[hj];exact HB3.out.block _ HA2.out.lt) ?_
   go_wp2_with fail
   refine(cText_any di _ (by have:=H3.out;omega)).mono ?_
   rintro e w4 ⟨rfl,hb4⟩
   have hb4' : Below w2.heap.size w2 w4:=HB3.out.trans (hb4.mono HB3.out.size)
   have HB4:=zh hb4'
   clear hb4 hb4'
   obtain⟨TD,hTD⟩:∃ x,x=Cod.text di:=⟨_,rfl⟩
   rw[<- hTD]
   have zD:TD.size<=1000010:=by rw[hTD];show(Cod.uns di.size++di).size<=_;rw[ByteArray.size_append];have:=Cod.uns_le di.size;have:=H3.out;omega
   have HTD:=zh hTD;clear hTD
   go_wp2_with fail
   refine Lex.Mid.intro (fun j hj _=>by rw[hj];exact HB4.out.block _ HA2.out.lt) ?_
   go_wp2_with fail
   refine Lex.EndsN.intro (by kernel_rfl) ⟨⟨rfl,by show(w2.cell? ⟨w.heap.size,2,none⟩).isSome=true;rw[q2];rfl⟩,trivial⟩ ?_
   go_wp2_with fail
   go_ret
   refine⟨?_,HB2.out.trans (HB4.out.mono HB2.out.size)⟩
   rw[HR.out,HT.out,HU.out,HTP.out,HTD.out]
   rfl
 | false =>
   go_upto_region 4 with fail
   obtain⟨T,hT⟩:∃ T:ByteArray,T=⟨#[14]⟩:=⟨_,rfl⟩
   rw[<- hT]
   have zT:T.size=1:=by rw[hT];rfl
   have HT:=zh hT;clear hT
   generalize w.alloc (.cells #[.int .i64 (n:Int),.string pa,.string di,.int .i64 op,.int .i64 ex,v] 46)=w1 at*
   go_wp2_with fail
   refine(cUint_any n w1 (by have:=H1.out;omega)).mono ?_
   rintro e w2 ⟨rfl,hb2⟩
   have a2:=HA.out.below hb2 HA.out.lt
   have q1:=a2.cell 1;have q2:=a2.cell 2
   simp only[List.getElem?_toArray,List.getElem?_cons_zero,List.getElem?_cons_succ] at q1 q2
   have HA2:=zh a2;have HB2:=zh (HB.out.trans (hb2.mono HB.out.size))
   clear a2 hb2 c0 c1
   obtain⟨U,hU⟩:∃ U,U=Cod.uns n:=⟨_,rfl⟩
   rw[<- hU]
   have zU:U.size<=10:=by rw[hU];exact Cod.uns_le n
   have HU:=zh hU;clear hU
   go_wp2_with fail
   refine Lex.wp_region_lexN (fun j=>j=w.heap.size) [8] 10 [6,4] (by kernel_rfl) (by kernel_rfl) (by kernel_rfl) ?_
   simp only[Lex.wpCuts,List.take_succ_cons,List.take_zero,List.drop_succ_cons,List.drop_zero]
   go_wp2_with fail
   refine(cText_any pa _ (by have:=H2.out;omega)).mono ?_
   rintro e w3 ⟨rfl,hb3⟩
   have hb3' : Below w2.heap.size w2 w3:=(Below.refl w2.heap.size w2).drew.trans hb3
   have a3:=HA2.out.below hb3' HA2.out.lt
   have p2:=a3.cell 2
   simp only[List.getElem?_toArray,List.getElem?_cons_zero,List.getElem?_cons_succ] at p2
   have HB3:=zh hb3';have HA3:=zh a3
   clear hb3 hb3' a3
   obtain⟨TP,hTP⟩:∃ x,x=Cod.text pa:=⟨_,rfl⟩
   rw[<- hTP]
   have zP:TP.size<=1000010:=by rw[hTP];show(Cod.uns pa.size++pa).size<=_;rw[ByteArray.size_append];have:=Cod.uns_le pa.size;have:=H2.out;omega
   have HTP:=zh hTP;clear hTP
   go_wp2_with fail
   refine Lex.Mid.intro (fun j hj _=>by rw[hj];exact HB3.out.block _ HA2.out.lt) ?_
   go_wp2_with fail
   refine(cText_any di _ (by have:=H3.out;omega)).mono ?_
   rintro e w4 ⟨rfl,hb4⟩
   have hb4' : Below w2.heap.size w2 w4:=HB3.out.trans (hb4.mono HB3.out.size)
   have HB4:=zh hb4'
   clear hb4 hb4'
   obtain⟨TD,hTD⟩:∃ x,x=Cod.text di:=⟨_,rfl⟩
   rw[<- hTD]
   have zD:TD.size<=1000010:=by rw[hTD];show(Cod.uns di.size++di).size<=_;rw[ByteArray.size_append];have:=Cod.uns_le di.size;have:=H3.out;omega
   have HTD:=zh hTD;clear hTD
   go_wp2_with fail
   refine Lex.Mid.intro (fun j hj _=>by rw[hj];exact HB4.out.block _ HA2.out.lt) ?_
   go_wp2_with fail
   refine Lex.EndsN.intro (by kernel_rfl) ⟨⟨rfl,by show(w2.cell? ⟨w.heap.size,2,none⟩).isSome=true;rw[q2];rfl⟩,trivial⟩ ?_
   go_wp2_with fail
   go_ret
   refine⟨?_,HB2.out.trans (HB4.out.mono HB2.out.size)⟩
   rw[HR.out,HT.out,HU.out,HTP.out,HTD.out]
   rfl
end
end Go.Proofs.YtnijhlphcjjpbaaGreatDoor
