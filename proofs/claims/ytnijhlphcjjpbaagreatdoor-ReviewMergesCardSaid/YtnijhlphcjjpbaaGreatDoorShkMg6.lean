/- The references of owners and reviews: messages, copies of spaces, the authority of a path; The laws' own space: one space of n members; The roots of the keys with the seeds 0 to 5, reckoned by the kernel; Keys with the seeds 0 to 5 have different public keys; Keys with the seeds 0 to 5 have different public keys; The laws' space, plainly: it is valid, votes of its members are accepted, what they make is valid; The program's reviews: a proposal is withdrawn; The program's reviews: the message of a vote; Regions in which operations that make memory stand in no fixed order beside calls: one walk stands for all orders; where a block is made is left open; The laws' own ballot: a member's approval. -/
import Derived.Test.YtnijhlphcjjpbaaGreatDoorShkMg1
import Derived.Test.YtnijhlphcjjpbaaGreatDoorShkMg2
import Derived.Test.YtnijhlphcjjpbaaGreatDoorShkMg3
import Derived.Test.YtnijhlphcjjpbaaGreatDoorShkMg4
import Derived.Test.YtnijhlphcjjpbaaGreatDoorShkMg5
set_option linter.unusedVariables false
set_option linter.unusedSimpArgs false
set_option maxRecDepth 100000
set_option maxHeartbeats 4000000
namespace Go.Proofs.YtnijhlphcjjpbaaGreatDoor
section
open Go Go.RowKit Go.Maps
theorem r53copySpace_any (pre:ByteArray) (th:Int) (v:Value) (l:List Own.Member) (w:World) (h:Own.MembersC w v l) (hl:l.length<=3000000):
 Calls Tryz.prog 105 #[.agg #[.string pre,v,.int .i64 th]] w fun e w' => ∃ v',e=.returned (.agg #[.string pre,v',.int .i64 th])/\w'.ownsRow w.heap.size 73 2 v' l.length (l.flatMap Own.encM)/\Below w.heap.size w w' :=by
 obtain⟨a,c,rfl⟩:=h.len
 have F1:=zh (show Boxes w ((w.alloc (.cells #[.string pre,.slice a l.length c,.int .i64 th] 70)).alloc (.cells #[.string ⟨#[]⟩,.slice none 0 0,.int .i64 0] 70)) [(70,#[.string pre,.slice a l.length c,.int .i64 th]),(70,#[.string ⟨#[]⟩,.slice none 0 0,.int .i64 0])] from(((Fresh.nil w).push 70 #[.string pre,.slice a l.length c,.int .i64 th]).push 70 #[.string ⟨#[]⟩,.slice none 0 0,.int .i64 0]).boxes)
 have H:=zh (h.below F1.out.under)
 have hz:((w.alloc (.cells #[.string pre,.slice a l.length c,.int .i64 th] 70)).alloc (.cells #[.string ⟨#[]⟩,.slice none 0 0,.int .i64 0] 70)).heap.size=w.heap.size+2:=by simp
 clear h
 go_enter Tryz.func105,Tryz.ntmps105
 go_upto_region 1 with fail
 generalize (w.alloc (.cells #[.string pre,.slice a l.length c,.int .i64 th] 70)).alloc (.cells #[.string ⟨#[]⟩,.slice none 0 0,.int .i64 0] 70)=w1 at*
 obtain⟨x00,x01,x02⟩:=F1.out.d0_3 rfl
 have HX0:=zh (show(w1.cell? ⟨w.heap.size,0,none⟩).isSome=true by rw[x00];rfl)
 have HX1:=zh (show(w1.cell? ⟨w.heap.size,1,none⟩).isSome=true by rw[x01];rfl)
 have HX2:=zh (show(w1.cell? ⟨w.heap.size,2,none⟩).isSome=true by rw[x02];rfl)
 have hb2:Below w1.heap.size w1 (w1.drew.alloc (.cells #[] 73)):=(Below.refl w1.heap.size w1).drew.alloc (Nat.le_refl _) _
 have ho:=own_new0 w1.drew 73 2 w1.heap.size (by rw[drew_heap];exact Nat.le_refl _)
 rw[drew_heap] at ho
 have HO:=zh ho;have H2:=zh (Own.MembersC.rows (H.out.below hb2));have HB2:=zh hb2;have F2:=zh (F1.out.step hb2);have HZ:=zh hz
 clear hb2 hz ho
 have F3:=zh (F1.out.step ((Below.refl w1.heap.size w1).alloc (Nat.le_refl _) (.cells #[] 73)))
 have y00:(w1.alloc (.cells #[] 73)).cell? ⟨w.heap.size,0,none⟩=some (.string pre):=F3.out.cell 0 0 rfl rfl
 have y01:(w1.alloc (.cells #[] 73)).cell? ⟨w.heap.size,1,none⟩=some (.slice a l.length c):=F3.out.cell 0 1 rfl rfl
 have y02:(w1.alloc (.cells #[] 73)).cell? ⟨w.heap.size,2,none⟩=some (.int .i64 th):=F3.out.cell 0 2 rfl rfl
 refine Lex.wp_region_lexN (fun j=>j=w.heap.size) [1,4,7] 8 [6] (by kernel_rfl) (by kernel_rfl) (by kernel_rfl) ?_
 simp only[Lex.wpCuts,List.take_succ_cons,List.take_zero,List.drop_succ_cons,List.drop_zero]
 go_wp2_with (at_builtin;go_must (refine wp_append_rows elemMembers rfl _ _ rfl w1.heap.size 0 _ [] rfl HO.out (.slice a l.length c) l.length _ rfl H2.out (Own.one_M l) (by omega) (by omega) HB2.out.size ?_);intro v5 w5 ho5 hg5 _;rw[Nat.zero_add,List.nil_append] at ho5;obtain⟨va,vm,vc,rfl⟩:=own_slice ho5;have HO5:=zh ho5;have F5:=zh (F2.out.far (O:=w1.heap.size) (by have:=HZ.out;show w.heap.size+2<=w1.heap.size;omega) (own_up HO.out) hg5);have HG5:=zh hg5;clear ho5 hg5;have z00:w5.cell? ⟨w.heap.size,0,none⟩=some (.string pre):=F5.out.cell 0 0 rfl rfl;have z01:w5.cell? ⟨w.heap.size,1,none⟩=some (.slice a l.length c):=F5.out.cell 0 1 rfl rfl;have z02:w5.cell? ⟨w.heap.size,2,none⟩=some (.int .i64 th):=F5.out.cell 0 2 rfl rfl;have z10:w5.cell? ⟨w.heap.size+1,0,none⟩=some (.string ⟨#[]⟩):=F5.out.cell 1 0 rfl rfl;have z10f:w5.frozen? ⟨w.heap.size+1,0,none⟩=false:=F5.out.free 1 0 rfl;have z11:w5.cell? ⟨w.heap.size+1,1,none⟩=some (.slice none 0 0):=F5.out.cell 1 1 rfl rfl;have z11f:w5.frozen? ⟨w.heap.size+1,1,none⟩=false:=F5.out.free 1 1 rfl;have z12:w5.cell? ⟨w.heap.size+1,2,none⟩=some (.int .i64 0):=F5.out.cell 1 2 rfl rfl;have z12f:w5.frozen? ⟨w.heap.size+1,2,none⟩=false:=F5.out.free 1 2 rfl)
 have hlt:w.heap.size<w1.heap.size:=F1.out.lt (i:=0) (by show 0<2;omega)
 have hb5:w5.heap[w.heap.size]? = w1.heap[w.heap.size]? :=by
  have h1:=HG5.out.block w.heap.size (Nat.lt_of_lt_of_le hlt HB2.out.size) (fun e=>by have:=own_up HO.out _ e.symm;omega)
  rw[h1]
  exact HB2.out.block _ hlt
 have HB5:=zh hb5;clear hb5
 refine Lex.Mid.intro (fun j hj _=>by rw[hj];exact HB5.out) ?_
 go_wp2_with fail
 refine Lex.EndsN.intro (by kernel_rfl) ⟨⟨rfl,HX0.out⟩,⟨rfl,HX1.out⟩,⟨rfl,HX2.out⟩,trivial⟩ ?_
 go_wp2_with fail
 (try clear x00);(try clear x01);(try clear x02);(try clear x10f);(try clear x10);(try clear x11f);(try clear x11);(try clear x12f);(try clear x12)
 have G2:=(((F5.out.put 1 0 (.string pre) rfl).put 1 1 (.slice va vm vc) rfl).put 1 2 (.int .i64 th) rfl)
 refine done_c rfl rfl (load_row (G2.at1 1 rfl) Tryz.underlying70 rfl info_Space) ⟨_,rfl,?_,G2.under⟩
 have hz:=HZ.out
 refine own_base (own_keep HO5.out (fun k hk=>?_)) (by omega)
 have k0:=own_up HO5.out k hk
 have k2:k≠w.heap.size+1:=by omega
 rw[heap_setCell_other _ _ _ _ k2,heap_setCell_other _ _ _ _ k2,heap_setCell_other _ _ _ _ k2]
theorem r53Authority_any (o:Own.Owners) (s:ByteArray) (sv kv:Value) (w:World) (hS:Own.SpacesC w sv o.spaces) (hK:Own.KeysC w kv o.keys) (hls:o.spaces.length<=140737488355328) (hlk:o.keys.length<=140737488355328) (hlm:∀ x∈o.spaces,x.members.length<=140737488355328/\x.pre.size<=140737488355000) (hs:s.size<=140737488355328):
 Calls Tryz.prog 68 #[.agg #[.int .i64 o.count,sv,kv],.string s] w (AuthPost w (Own.authority o s)):=by
 obtain⟨R,hR⟩:∃ R,R=AuthPost w (Own.authority o s):=⟨_,rfl⟩
 rw[<- hR]
 obtain⟨A,hA⟩:∃ A,A=Own.authority o s:=⟨_,rfl⟩
 rw[<- hA] at hR
 unfold Own.authority at hA
 have HR:=zh hR;clear hR
 obtain⟨sa,sc,rfl⟩:=hS.len
 obtain⟨ka,kc,rfl⟩:=hK.len
 have hval:=fun W (hW:Below w.heap.size w W)=>r53Valid_any o _ _ W (hS.below hW) (hK.below hW) hls hlk (fun x hx=>by have:=hlm x hx;omega)
 obtain⟨OKb,hOKb⟩:∃ b,b=Own.ownersOK o:=⟨_,rfl⟩
 simp only[<- hOKb] at hval hA
 have hmem:OKb=true->o.spaces.length<=64/\∀ x∈o.spaces,x.pre.size<=64/\x.members.length<=8:=fun h=>by
  rw[h] at hOKb
  have:=Own.OK.of hOKb.symm
  exact⟨this.ls,fun x hx=>⟨(Own.SpOK.of (this.sp x hx)).pre,(Own.SpOK.of (this.sp x hx)).len⟩⟩
 obtain⟨cnt,S,K⟩:=o
 dsimp only at*
 have F1:=zh (show Boxes w ((w.alloc (.cells #[.int .i64 cnt,.slice sa S.length sc,.slice ka K.length kc] 38)).alloc (.cells #[.string ⟨#[]⟩,.slice none 0 0,.int .i64 0] 70)) [(38,#[.int .i64 cnt,.slice sa S.length sc,.slice ka K.length kc]),(70,#[.string ⟨#[]⟩,.slice none 0 0,.int .i64 0])] from(((Fresh.nil w).push 38 #[.int .i64 cnt,.slice sa S.length sc,.slice ka K.length kc]).push 70 #[.string ⟨#[]⟩,.slice none 0 0,.int .i64 0]).boxes)
 have HS:=zh hS;have HVAL:=zh (hval _ F1.out.under);have HM:=zh hmem;have HA:=zh hA
 clear hS hK hval hOKb hmem hlm hA
 have x00:((w.alloc (.cells #[.int .i64 cnt,.slice sa S.length sc,.slice ka K.length kc] 38)).alloc (.cells #[.string ⟨#[]⟩,.slice none 0 0,.int .i64 0] 70)).cell? ⟨w.heap.size,0,none⟩=some (.int .i64 cnt):=F1.out.cell 0 0 rfl rfl
 have x01:((w.alloc (.cells #[.int .i64 cnt,.slice sa S.length sc,.slice ka K.length kc] 38)).alloc (.cells #[.string ⟨#[]⟩,.slice none 0 0,.int .i64 0] 70)).cell? ⟨w.heap.size,1,none⟩=some (.slice sa S.length sc):=F1.out.cell 0 1 rfl rfl
 have x02:((w.alloc (.cells #[.int .i64 cnt,.slice sa S.length sc,.slice ka K.length kc] 38)).alloc (.cells #[.string ⟨#[]⟩,.slice none 0 0,.int .i64 0] 70)).cell? ⟨w.heap.size,2,none⟩=some (.slice ka K.length kc):=F1.out.cell 0 2 rfl rfl
 go_enter Tryz.func68,Tryz.ntmps68
 go_wp2_with fail
 generalize ((w.alloc (.cells #[.int .i64 cnt,.slice sa S.length sc,.slice ka K.length kc] 38)).alloc (.cells #[.string ⟨#[]⟩,.slice none 0 0,.int .i64 0] 70))=w1 at*
 refine HVAL.out.mono ?_
 rintro e w2 ⟨rfl,hb2⟩
 have F2:=zh (F1.out.step hb2)
 (try clear x00);(try clear x01);(try clear x02);(try clear x10f);(try clear x10);(try clear x11f);(try clear x11);(try clear x12f);(try clear x12)
 obtain⟨x00,x01,x02⟩:=F2.out.d0_3 rfl
 obtain⟨x10,x11,x12,x10f,x11f,x12f⟩:=F2.out.e1_3 rfl
 clear hb2 HVAL F1
 cases OKb with
 | false =>
   have e:A=none:=by rw[HA.out];rfl
   have HE:=zh e;clear e
   go_wp2_with fail
   have G2:=(((F2.out.put 1 0 (.string ⟨#[]⟩) rfl).put 1 1 (.slice none 0 0) rfl).put 1 2 (.int .i64 0) rfl)
   rw[HR.out,HE.out]
   refine done_ct rfl rfl rfl (load_row (G2.at1 1 rfl) Tryz.underlying70 rfl info_Space) ⟨rfl,G2.under⟩
 | true=>
 have hpa:=r53Path_any s w2 (by omega)
 have HPA:=zh hpa;clear hpa
 cases hp:Own.pathOK s with
 | false =>
   have e:A=none:=by rw[HA.out,hp];rfl
   have HE:=zh e;clear e
   go_wp2_with fail
   refine HPA.out.mono ?_
   rintro e w3 ⟨rfl,rfl⟩
   rw[hp]
   go_wp2_with fail
   have G2:=(((F2.out.put 1 0 (.string ⟨#[]⟩) rfl).put 1 1 (.slice none 0 0) rfl).put 1 2 (.int .i64 0) rfl)
   rw[HR.out,HE.out]
   refine done_ct rfl rfl rfl (load_row (G2.at1 1 rfl) Tryz.underlying70 rfl info_Space) ⟨rfl,G2.under⟩
 | true=>
 obtain⟨hl64,hmm⟩:=HM.out rfl
 have HP:=zh hmm
 obtain⟨B,hB⟩:∃ B:List Own.Space->Option Own.Space,B=Own.bestF s none:=⟨_,rfl⟩
 have hB0:B []=none:=by rw[hB];rfl
 have hBs:∀ k (hk:k<S.length),B (S.take (k+1))=Own.stepB s (B (S.take k)) S[k]:=fun k hk=>by rw[hB];exact Own.bestF_take s S k hk
 have hAB:A=B S:=by rw[HA.out,hp,hB];rfl
 have HBS:=zh hBs;have HAB:=zh hAB
 clear hmm hBs hAB HA HM hB
 go_wp2_with fail
 refine HPA.out.mono ?_
 rintro e w3 ⟨rfl,rfl⟩
 rw[hp]
 go_wp2_with fail
 (try clear x00);(try clear x01);(try clear x02);(try clear x10f);(try clear x10);(try clear x11f);(try clear x11);(try clear x12f);(try clear x12)
 go_loopw [6,7] (fun r i wr=>∃ k:Nat,k<=S.length/\i=.int .i64 k/\(∃ b,r=.int .i64 b/\Own.BestAt S (B (S.take k)) b)/\Boxes w wr [(38,#[.int .i64 cnt,.slice sa S.length sc,.slice ka K.length kc]),(70,#[.string ⟨#[]⟩,.slice none 0 0,.int .i64 0])]) (fun _ i _=>S.length - (intOf i).toNat)
 case atStart=>exact⟨0,by omega,rfl,⟨-1,rfl,.inl ⟨rfl,hB0⟩⟩,F2.out⟩
 case round=>
  obtain⟨k,hk,rfl,⟨bi,rfl,hbi⟩,hbx⟩:=hrel
  have G1:=zh hbx;clear hbx F2
  obtain⟨x00,x01,x02⟩:=G1.out.d0_3 rfl
  obtain⟨x10,x11,x12,x10f,x11f,x12f⟩:=G1.out.e1_3 rfl
  have HSW:=zh (HS.out.below G1.out.under)
  by_cases hlt:k<S.length
  case neg=>
   have hke:k=S.length:=by omega
   have dk:decide ((k:Int)<S.length)=false:=decide_eq_false (by omega)
   rw[hke,List.take_length,<- HAB.out] at hbi
   clear hke HBS HAB
   rcases hbi with ⟨rfl,h2⟩ | ⟨j,rfl,hj,h2⟩
   ·have HE:=zh h2;clear h2
    go_wp2_with fail
    have G2:=(((G1.out.put 1 0 (.string ⟨#[]⟩) rfl).put 1 1 (.slice none 0 0) rfl).put 1 2 (.int .i64 0) rfl)
    rw[HR.out,HE.out]
    refine done_ct rfl rfl rfl (load_row (G2.at1 1 rfl) Tryz.underlying70 rfl info_Space) ⟨rfl,G2.under⟩
   ·have dj:decide ((j:Int)<0)=false:=decide_eq_false (by omega)
    have HE:=zh h2;clear h2
    obtain⟨b,o,mv,ha,hbl,e0,e1,e2,hmv⟩:=Own.SpacesC.cells HSW.out hj
    subst ha
    have hp8:=(HP.out S[j] (List.getElem_mem hj)).2
    obtain⟨x,hx⟩:∃ x,x=S[j]:=⟨_,rfl⟩
    rw[<- hx] at e0 e2 hmv hp8 HE
    obtain⟨pre,M,th⟩:=x
    dsimp only at e0 e2 hmv hp8
    have HC:=zh (r53copySpace_any pre th mv M wr hmv (by omega))
    obtain⟨ma,mc,rfl⟩:=hmv.len
    clear hx hmv
    go_wp2_with fail
    refine HC.out.mono ?_
    rintro e w4 ⟨v',rfl,hov,hb4⟩
    obtain⟨va,vm,vc,rfl⟩:=own_slice hov
    have G4:=zh (G1.out.step hb4);have HOV:=zh hov
    have hz3:w.heap.size+2<=wr.heap.size:=G1.out.size
    (try clear x00);(try clear x01);(try clear x02);(try clear x10f);(try clear x10);(try clear x11f);(try clear x11);(try clear x12f);(try clear x12)
    obtain⟨x10,x11,x12,x10f,x11f,x12f⟩:=G4.out.e1_3 rfl
    clear hov hb4 e0 e1 e2
    go_wp2_with fail
    have G2:=(((G4.out.put 1 0 (.string pre) rfl).put 1 1 (.slice va vm vc) rfl).put 1 2 (.int .i64 th) rfl)
    rw[HR.out,HE.out]
    refine done_ct rfl rfl rfl (load_row (G2.at1 1 rfl) Tryz.underlying70 rfl info_Space) ⟨⟨_,rfl,?_⟩,G2.under⟩
    refine own_base (own_keep HOV.out (fun k hk=>?_)) (by omega)
    have k0:=own_up HOV.out k hk
    have k2:k≠w.heap.size+1:=by omega
    rw[heap_setCell_other _ _ _ _ k2,heap_setCell_other _ _ _ _ k2,heap_setCell_other _ _ _ _ k2]
  have dk:decide ((k:Int)<S.length)=true:=decide_eq_true (by omega)
  obtain⟨b,o,mv,ha,hbl,e0,_,_,_⟩:=Own.SpacesC.cells HSW.out hlt
  have hpk:=(HP.out S[k] (List.getElem_mem hlt)).1
  have hst:=HBS.out k hlt
  have hprev:∀ j (hj:j<S.length),wr.cell? ⟨b,o+j*3,none⟩=some (.string S[j].pre):=by
   intro j hj
   obtain⟨b',o',_,ha',_,e0,_⟩:=Own.SpacesC.cells HSW.out hj
   rw[ha] at ha'
   cases ha'
   exact e0
  subst ha
  obtain⟨pre,hpre⟩:∃ x,x=S[k].pre:=⟨_,rfl⟩
  rw[<- hpre] at e0 hpk
  have HPRE:=zh hpre;have HST:=zh hst;have HBI:=zh hbi;have HPREV:=zh hprev;have G2:=zh G1.out.drew
  have HBEL:=zh (fun W=>r53Belongs_any s pre W (by omega) (by omega))
  clear hprev hpre hst hbi
  cases hbg:Own.belongs s pre with
  | false =>
    have hn:B (S.take (k+1))=B (S.take k):=by rw[HST.out];unfold Own.stepB;rw[<- HPRE.out,hbg];rfl
    have HN:=zh hn
    clear hn
    go_wp2_with fail
    refine Lex.wp_region_lex (by kernel_rfl) (by kernel_rfl) ?_
    go_wp2_with fail
    refine(HBEL.out _).mono ?_
    rintro e3 w7 ⟨rfl,rfl⟩
    rw[hbg]
    go_wp2_with fail
    refine Lex.Ends.intro (by kernel_rfl) ?_
    go_wp2_with fail
    exact⟨⟨k+1,by omega,by go_num,⟨bi,rfl,by rw[HN.out];exact HBI.out⟩,G2.out⟩,by simp[intOf];omega⟩
  | true=>
  rcases HBI.out with ⟨h1,h2⟩ | ⟨j,h1,hj,h2⟩
  ·have hn:B (S.take (k+1))=some S[k]:=by rw[HST.out,h2];unfold Own.stepB;rw[<- HPRE.out,hbg];rfl
   have HN:=zh hn
   subst h1
   clear hn h2
   go_wp2_with fail
   refine Lex.wp_region_lex (by kernel_rfl) (by kernel_rfl) ?_
   go_wp2_with fail
   refine(HBEL.out _).mono ?_
   rintro e3 w7 ⟨rfl,rfl⟩
   rw[hbg]
   go_wp2_with fail
   refine Lex.Ends.intro (by kernel_rfl) ?_
   go_wp2_with fail
   exact⟨⟨k+1,by omega,by go_num,⟨k,rfl,.inr ⟨k,rfl,hlt,HN.out⟩⟩,G2.out⟩,by simp[intOf];omega⟩
  ·have g0:=HPREV.out j hj
   obtain⟨pn,hpn⟩:∃ x,x=S[j].pre:=⟨_,rfl⟩
   rw[<- hpn] at g0
   have hn:B (S.take (k+1))=if decide (pn.size<pre.size) then some S[k] else some S[j]:=by
    rw[HST.out,h2,hpn,HPRE.out];unfold Own.stepB;rw[<- HPRE.out,hbg,HPRE.out];rfl
   have HN:=zh hn
   subst h1
   have dj:decide ((j:Int)<0)=false:=decide_eq_false (by omega)
   clear hn h2 hpn
   by_cases hlg:pn.size<pre.size
   ·have dl:decide ((pn.size:Int)<(pre.size:Int))=true:=decide_eq_true (by omega)
    have dl' : decide (pn.size<pre.size)=true:=decide_eq_true hlg
    go_wp2_with fail
    refine Lex.wp_region_lex (by kernel_rfl) (by kernel_rfl) ?_
    go_wp2_with fail
    refine(HBEL.out _).mono ?_
    rintro e3 w7 ⟨rfl,rfl⟩
    rw[hbg]
    go_wp2_with fail
    refine Lex.Ends.intro (by kernel_rfl) ?_
    go_wp2_with fail
    exact⟨⟨k+1,by omega,by go_num,⟨k,rfl,.inr ⟨k,rfl,hlt,by rw[HN.out,dl'];rfl⟩⟩,G2.out⟩,by simp[intOf];omega⟩
   ·have dl:decide ((pn.size:Int)<(pre.size:Int))=false:=decide_eq_false (by omega)
    have dl' : decide (pn.size<pre.size)=false:=decide_eq_false hlg
    go_wp2_with fail
    refine Lex.wp_region_lex (by kernel_rfl) (by kernel_rfl) ?_
    go_wp2_with fail
    refine(HBEL.out _).mono ?_
    rintro e3 w7 ⟨rfl,rfl⟩
    rw[hbg]
    go_wp2_with fail
    refine Lex.Ends.intro (by kernel_rfl) ?_
    go_wp2_with fail
    exact⟨⟨k+1,by omega,by go_num,⟨j,rfl,.inr ⟨j,rfl,hj,by rw[HN.out,dl'];rfl⟩⟩,G2.out⟩,by simp[intOf];omega⟩
end
section
open Go Go.RowKit Go.Maps
namespace Own
def mems54 (n:Nat):List Member:=(List.range n).map mem54
def space54 (n:Nat) (th:Int):Space:=⟨⟨#[97]⟩,mems54 n,th⟩
theorem mems54_succ (n:Nat):mems54 (n+1)=mems54 n++[mem54 n]:=by
 unfold mems54
 rw[List.range_succ,List.map_append]
 rfl
theorem mems54_len (n:Nat):(mems54 n).length=n:=by
 unfold mems54
 rw[List.length_map,List.length_range]
end Own
theorem law54space_any (n:Nat) (th:Int) (w:World) (hn:n<=256):
 Calls Tryz.prog 33 #[.int .i64 n,.int .i64 th] w fun e w' => ∃ sv,e=.returned (.agg #[.int .i64 0,sv,.slice none 0 0])/\Own.SpacesC w' sv [Own.space54 n th]/\Below w.heap.size w w' :=by
 have F1:=zh (show Boxes w ((w.alloc (.cells #[.int .i64 0,.slice none 0 0,.slice none 0 0] 38)).alloc (.cells #[.string ⟨#[97]⟩,.slice none 0 0,.int .i64 th] 70)) [(38,#[.int .i64 0,.slice none 0 0,.slice none 0 0]),(70,#[.string ⟨#[97]⟩,.slice none 0 0,.int .i64 th])] from(((Fresh.nil w).push 38 #[.int .i64 0,.slice none 0 0,.slice none 0 0]).push 70 #[.string ⟨#[97]⟩,.slice none 0 0,.int .i64 th]).boxes)
 obtain⟨MS,hMS⟩:∃ MS,MS=Own.mems54:=⟨_,rfl⟩
 obtain⟨MM,hMM⟩:∃ MM,MM=Own.mem54:=⟨_,rfl⟩
 have hsu:∀ k,MS (k+1)=MS k++[MM k]:=fun k=>by rw[hMS,hMM];exact Own.mems54_succ k
 have hln:∀ k,(MS k).length=k:=fun k=>by rw[hMS];exact Own.mems54_len k
 have hz:MS 0=[]:=by rw[hMS];rfl
 have hmb:∀ (k:Nat) W,k<256->Calls Tryz.prog 37 #[.int .u8 k] W fun e w' => e=.returned (.agg #[.string (MM k).name,.string (MM k).pub])/\Below W.heap.size W w' :=fun k W hk=>by rw[hMM];exact law54member_any k W hk
 have HMS:=zh hMS;have HSU:=zh hsu;have HLN:=zh hln;have HMZ:=zh hz;have HMB:=zh hmb
 clear hMS hMM hsu hln hz hmb
 go_enter Tryz.func33,Tryz.ntmps33
 go_upto_region 2 with fail
 generalize ((w.alloc (.cells #[.int .i64 0,.slice none 0 0,.slice none 0 0] 38)).alloc (.cells #[.string ⟨#[97]⟩,.slice none 0 0,.int .i64 th] 70))=w1 at*
 go_wp2_with fail
 go_loopw [10] (fun i wr=>∃ (k:Nat) (v:Value),k<=n/\i=.int .i64 k/\wr.ownsRow (w.heap.size+2) 73 2 v (MS k).length ((MS k).flatMap Own.encM)/\Boxes w wr [(38,#[.int .i64 0,.slice none 0 0,.slice none 0 0]),(70,#[.string ⟨#[97]⟩,v,.int .i64 th])]) (fun i _=>n - (intOf i).toNat)
 case atStart=>exact⟨0,_,by omega,rfl,by rw[HMZ.out];exact⟨rfl,.inl ⟨rfl,rfl⟩⟩,F1.out⟩
 case round=>
  obtain⟨k,v,hk,rfl,hown,hbx⟩:=hrel
  obtain⟨va,vm,vc,rfl⟩:=own_slice hown
  obtain rfl:=own_len hown
  have HO:=zh hown;have G1:=zh hbx
  clear hown hbx F1
  by_cases hlt:k<n
  case neg=>
   have hke:k=n:=by omega
   have dk:decide ((k:Int)<n)=false:=decide_eq_false (by omega)
   subst hke
   have F2:=zh (G1.out.step ((Below.refl wr.heap.size wr).alloc (Nat.le_refl _) (.cells #[.string ⟨#[97]⟩,.slice va (MS k).length vc,.int .i64 th] 70)))
   have hup:=own_up HO.out
   have hwz:w.heap.size+2<=wr.heap.size:=G1.out.size
   have HUP:=zh hup;have HWZ:=zh hwz;clear hup hwz
   have y00:(wr.alloc (.cells #[.string ⟨#[97]⟩,.slice va (MS k).length vc,.int .i64 th] 70)).cell? ⟨w.heap.size,0,none⟩=some (.int .i64 0):=F2.out.cell 0 0 rfl rfl
   have y00f:(wr.alloc (.cells #[.string ⟨#[97]⟩,.slice va (MS k).length vc,.int .i64 th] 70)).frozen? ⟨w.heap.size,0,none⟩=false:=F2.out.free 0 0 rfl
   have y01:(wr.alloc (.cells #[.string ⟨#[97]⟩,.slice va (MS k).length vc,.int .i64 th] 70)).cell? ⟨w.heap.size,1,none⟩=some (.slice none 0 0):=F2.out.cell 0 1 rfl rfl
   have y01f:(wr.alloc (.cells #[.string ⟨#[97]⟩,.slice va (MS k).length vc,.int .i64 th] 70)).frozen? ⟨w.heap.size,1,none⟩=false:=F2.out.free 0 1 rfl
   have y02:(wr.alloc (.cells #[.string ⟨#[97]⟩,.slice va (MS k).length vc,.int .i64 th] 70)).cell? ⟨w.heap.size,2,none⟩=some (.slice none 0 0):=F2.out.cell 0 2 rfl rfl
   have y02f:(wr.alloc (.cells #[.string ⟨#[97]⟩,.slice va (MS k).length vc,.int .i64 th] 70)).frozen? ⟨w.heap.size,2,none⟩=false:=F2.out.free 0 2 rfl
   obtain⟨x10,x11,x12⟩:=G1.out.d1_3 rfl
   go_wp2_with fail
   have G2:=((F2.out.put 0 0 (.int .i64 0) rfl).put 0 1 (.slice (some ⟨wr.heap.size,0,none⟩) 1 1) rfl).put 0 2 (.slice none 0 0) rfl
   refine done_c rfl rfl (load_row (G2.at1 0 rfl) Tryz.underlying38 rfl info_Owners) ⟨_,rfl,?_,G2.under⟩
   have hwz:=HWZ.out
   have hns:=At.new wr 70 #[.string ⟨#[97]⟩,.slice va (MS k).length vc,.int .i64 th]
   have hn4:=((hns.far (p:=⟨w.heap.size,0,none⟩) (by simp;omega) (.int .i64 0)).far (p:=⟨w.heap.size,1,none⟩) (by simp;omega) (.slice (some ⟨wr.heap.size,0,none⟩) 1 1)).far (p:=⟨w.heap.size,2,none⟩) (by simp;omega) (.slice none 0 0)
   obtain⟨e0,e1,e2⟩:=hn4.c3
   have h8:=own_below HO.out ((Below.refl wr.heap.size wr).alloc (Nat.le_refl _) (.cells #[.string ⟨#[97]⟩,.slice va (MS k).length vc,.int .i64 th] 70))
   refine⟨some ⟨wr.heap.size,0,none⟩,1,rfl,.inr ⟨wr.heap.size,0,rfl,trivial,hn4.lt,fun i hi=>?_⟩⟩
   have hi0:i=0:=by simpa using hi
   subst hi0
   refine⟨[.string ⟨#[97]⟩,.slice va (MS k).length vc,.int .i64 th],rfl,?_,.slice va (MS k).length vc,rfl,?_⟩
   ·intro j u hj
    match j,hj with
    | 0,hj=>cases hj;exact e0
    | 1,hj=>cases hj;exact e1
    | 2,hj=>cases hj;exact e2
    | j+3,hj=>simp at hj
   ·have h4 :=own_keep (w' :=(((wr.alloc (.cells #[.string ⟨#[97]⟩,.slice va (MS k).length vc,.int .i64 th] 70)).setCell ⟨w.heap.size,0,none⟩ (.int .i64 0)).setCell ⟨w.heap.size,1,none⟩ (.slice (some ⟨wr.heap.size,0,none⟩) 1 1)).setCell ⟨w.heap.size,2,none⟩ (.slice none 0 0)) h8 (fun j hj => by
     have h1:=own_up h8 j hj
     have h2:j≠w.heap.size:=by omega
     rw[heap_setCell_other _ _ _ _ h2,heap_setCell_other _ _ _ _ h2,heap_setCell_other _ _ _ _ h2])
    show ListF 2 Own.RMember Own.anyF _ _ (Own.mems54 k)
    rw[<- HMS.out]
    exact rows_flat (enc:=Own.encM) (fun _=>rfl) (fun _=>rfl) (RowsC.own h4) rfl (fun _ _=>trivial)
  have dk:decide ((k:Int)<n)=true:=decide_eq_true (by omega)
  obtain⟨x10,x11,x12⟩:=G1.out.d1_3 rfl
  go_wp2_with fail
  refine Lex.wp_region_lexN (fun j=>j=w.heap.size+1) [1] 6 [5] (by kernel_rfl) (by kernel_rfl) (by kernel_rfl) ?_
  simp only[Lex.wpCuts,List.take_succ_cons,List.take_zero,List.drop_succ_cons,List.drop_zero]
  go_wp2_with fail
  have HX1:=zh (show(wr.cell? ⟨w.heap.size+1,1,none⟩).isSome=true by rw[x11];rfl)
  refine(HMB.out k _ (by omega)).mono ?_
  rintro e w5 ⟨rfl,hb5⟩
  obtain⟨M,hM⟩:∃ M,M=MM k:=⟨_,rfl⟩
  rw[<- hM]
  obtain⟨mn,mp⟩:=M
  have HM:=zh hM
  have hb6:Below wr.heap.size wr w5:=(Below.refl wr.heap.size wr).drew.trans hb5
  have hb8:Below w5.heap.size w5 (w5.alloc (.cells #[.string mn,.string mp] 73)):=(Below.refl _ _).alloc (Nat.le_refl _) _
  have HB8:=zh (hb6.trans (hb8.mono hb6.size))
  have hrw:=rows_new w5 73 #[.string mn,.string mp] 2 1 1 rfl
  have hwz:w.heap.size+2<=(w5.alloc (.cells #[.string mn,.string mp] 73)).heap.size:=Nat.le_trans G1.out.size HB8.out.size
  have HRW:=zh hrw;have HO8:=zh (own_below HO.out HB8.out);have G8:=zh (G1.out.step HB8.out);have HUP:=zh (own_up HO.out);have HWZ:=zh hwz
  have hkm:(MS k).length<=256:=by rw[HLN.out k];omega
  have HOB:=zh (G1.out.lt (i:=1) (by show 1<2;omega))
  have HB6:=zh hb6
  clear hb5 hb6 hb8 hrw hwz hM
  go_wp2_with fail
  refine Lex.Mid.intro (fun j hj _=>by rw[hj];exact HB6.out.block _ HOB.out) ?_
  go_wp2_with (at_builtin;go_must (refine wp_append_rows elemMembers rfl _ _ rfl (w.heap.size+2) (MS k).length (.slice va (MS k).length vc) ((MS k).flatMap Own.encM) rfl HO8.out (.slice (some ⟨w5.heap.size,0,none⟩) 1 1) 1 [.string mn,.string mp] rfl HRW.out (by intro u hu;simp at hu;rcases hu with rfl | rfl <;> rfl) (by omega) (by omega) HWZ.out ?_);intro v9 w9 ho9 hg9 hw9;obtain⟨ya,ym,yc,rfl⟩:=own_slice ho9;have HO9:=zh ho9;have HG9:=zh hg9;have G9:=zh (G8.out.far (O:=w.heap.size+2) (Nat.le_refl _) HUP.out hg9);have z10:w9.cell? ⟨w.heap.size+1,0,none⟩=some (.string ⟨#[97]⟩):=G9.out.cell 1 0 rfl rfl;have z10f:w9.frozen? ⟨w.heap.size+1,0,none⟩=false:=G9.out.free 1 0 rfl;have z11:w9.cell? ⟨w.heap.size+1,1,none⟩=some (.slice va (MS k).length vc):=G9.out.cell 1 1 rfl rfl;have z11f:w9.frozen? ⟨w.heap.size+1,1,none⟩=false:=G9.out.free 1 1 rfl;have z12:w9.cell? ⟨w.heap.size+1,2,none⟩=some (.int .i64 th):=G9.out.cell 1 2 rfl rfl;have z12f:w9.frozen? ⟨w.heap.size+1,2,none⟩=false:=G9.out.free 1 2 rfl;clear ho9 hg9 hw9)
  refine Lex.EndsN.intro (by kernel_rfl) ⟨⟨rfl,HX1.out⟩,trivial⟩ ?_
  go_wp2_with fail
  have hm1:MS (k+1)=MS k++[(⟨mn,mp⟩:Own.Member)]:=by rw[HSU.out k,HM.out]
  refine⟨⟨k+1,.slice ya ym yc,by omega,by go_num,?_,G9.out.put 1 1 _ rfl⟩,by simp[intOf];omega⟩
  rw[hm1]
  have h9:w9.ownsRow (w.heap.size+2) 73 2 (.slice ya ym yc) (MS k++[(⟨mn,mp⟩:Own.Member)]).length ((MS k++[(⟨mn,mp⟩:Own.Member)]).flatMap Own.encM):=by
   rw[List.length_append,List.flatMap_append]
   simpa [Own.encM] using HO9.out
  exact own_keep h9 (fun j hj=>heap_setCell_other _ _ _ _ (by have:=own_up h9 j hj;show j≠w.heap.size+1;omega))
end
section
open Go
namespace Lane
def packR (f:Nat->Nat):Nat->Nat->Nat
 | _,0=>0
 | s,n+1=>f s+18446744073709551616*packR f (s+1) n
theorem packR_eq (f:Nat->Nat):∀ (n s:Nat),packR f s n=packF n fun i=>f (s+i)
 | 0,_=>rfl
 | n + 1,s => by
   have e:packF (n+1) (fun i=>f (s+i))=f s+18446744073709551616*packF n (fun i=>f (s+1+i)):=by
    show f (s+0)+18446744073709551616*packF n (fun i=>f (s+(i+1)))=_
    congr 3
    funext i
    rw[Nat.add_assoc,Nat.add_comm 1 i]
   rw[e,<- packR_eq f n (s+1)]
   rfl
def forceV (v:V) (k:V->V):V:=force v.a fun a=>force v.b fun b=>force v.c fun c=>force v.d fun d=>force v.e fun e=>force v.f fun f=>force v.g fun g=>force v.h fun h=>k ⟨a,b,c,d,e,f,g,h⟩
theorem forceV_eq (v:V) (k:V->V):forceV v k=k v:=by
 unfold forceV
 simp only[force_eq]
def sJ (i:Nat):Nat:=i%12%6
def kJ (i:Nat):Nat:=i%12/6
def cJ (i:Nat):Nat:=i/12
def sec0 (M O:Nat):V:=compP M O (IVP O) (packR (fun i=>wd4 2 (sJ i) (sJ i) (sJ i)) 0 804) (packR (fun i=>wd4 (sJ i) (sJ i) (sJ i) (sJ i)) 0 804) (packR (fun i=>wd4 (sJ i) (sJ i) (sJ i) (sJ i)) 0 804) (packR (fun i=>wd4 (sJ i) (sJ i) (sJ i) (sJ i)) 0 804) (packR (fun i=>wd4 (sJ i) (sJ i) (sJ i) (sJ i)) 0 804) (packR (fun i=>wd4 (sJ i) (sJ i) (sJ i) (sJ i)) 0 804) (packR (fun i=>wd4 (sJ i) (sJ i) (sJ i) (sJ i)) 0 804) (packR (fun i=>wd4 (sJ i) (sJ i) (sJ i) (sJ i)) 0 804) (packR (fun i=>wd4 (sJ i) (kJ i) (cJ i) 128) 0 804) 0 0 0 0 0 0 (O*280)
def outJ (k:V->Bool):Bool:=force (packR (fun _=>4294967295) 0 804) fun M=>force (packR (fun _=>1) 0 804) fun O=>force (packR (fun i=>wd4 3 (kJ i) (cJ i) 0) 0 804) fun B=>
 let v:=(List.range' 0 15).foldl (fun v q=>forceV v fun v=>compS M O B q v) (sec0 M O)
 force v.a fun a=>force v.b fun b=>force v.c fun c=>force v.d fun d=>force v.e fun e=>force v.f fun f=>force v.g fun g=>force v.h fun h=>k ⟨a,b,c,d,e,f,g,h⟩
def lane (i P:Nat):Nat:=(P >>> (64*i))%18446744073709551616
def leafWs (G g:Nat) (R:V):List Nat:=(List.range 67).flatMap fun c=>R.list.map (lane (c*G+g))
def shW:Nat->List Nat->List Nat
 | t,[]=>[wd4 t 128 0 0]
 | t,w::ws=>(t*16777216+w/256)::shW (w%256) ws
def leafMsg (ws:List Nat):List Nat:=shW 0 ws++[0,0,0,0,0,0,17160]
def rootMsg (ws:List Nat):List Nat:=shW 1 ws++[0,0,0,0,0,0,0,0,0,0,0,0,0,0,520]
def forceL:List Nat->(List Nat->V)->V
 | [],k=>k []
 | x::l,k=>force x fun x=>forceL l fun l=>k (x::l)
def foldS:Nat->V->List Nat->V
 | 0,v,_=>v
 | n+1,v,ws=>forceV (cmp v ws) fun v=>foldS n v (ws.drop 16)
def leafV (R:V) (g:Nat):V:=forceL (leafMsg (leafWs 12 g R)) fun ws=>foldS 34 IVN ws
def rootV (R:V) (s:Nat):V:=forceL (rootMsg ((leafV R s).list++(leafV R (6+s)).list)) fun ws=>foldS 2 IVN ws
def diffs:List Nat->Bool
 | []=>true
 | x::l=>(l.all fun y => !Nat.beq x y)&&diffs l
theorem roots_diff:outJ (fun R=>diffs ((List.range 6).map fun s=>(rootV R s).a))=true:=by decide +kernel
end Lane
end
section
open Go
namespace Lane
theorem lane_pack:∀ (n i:Nat) (f:Nat->Nat),D f->i<n->lane i (packF n f)=f i
 | 0,_,_,_,h=>by cases h
 | n + 1,0,f,hf,_ => by
   unfold lane
   show((f 0+18446744073709551616*_) >>> (64*0))%_=_
   rw[Nat.mul_zero,Nat.shiftRight_zero,Nat.add_mul_mod_self_left]
   exact Nat.mod_eq_of_lt (hf 0)
 | n + 1,i + 1,f,hf,h => by
   have ih:=lane_pack n i (fun i=>f (i+1)) (fun i=>hf _) (by omega)
   unfold lane at ih ⊢
   show((f 0+18446744073709551616*packF n (fun i=>f (i+1))) >>> (64*(i+1)))%_=f (i+1)
   rw[show 64*(i+1)=64+64*i by omega,Nat.shiftRight_add]
   have e:(f 0+18446744073709551616*packF n (fun i=>f (i+1))) >>> 64=packF n (fun i=>f (i+1)):=by
    rw[Nat.shiftRight_eq_div_pow,show(2:Nat)^64=18446744073709551616 by decide,Nat.add_mul_div_left _ _ (by decide),Nat.div_eq_of_lt (hf 0),Nat.zero_add]
   rw[e]
   exact ih
theorem leafWs_pack (u:VF) (hu:u.ok) (g:Nat) (hg:g<12):leafWs 12 g (u.pack 804)=(List.range 67).flatMap fun c=>(u.at (c*12+g)).list:=by
 unfold leafWs
 rw[List.flatMap_def,List.flatMap_def]
 congr 1
 refine List.map_congr_left fun c hc=>?_
 have hc:=List.mem_range.1 hc
 have hl:c*12+g<804:=by omega
 unfold VF.pack V.list VF.at
 simp only[List.map_cons,List.map_nil]
 rw[lane_pack 804 _ _ hu.a.d hl,lane_pack 804 _ _ hu.b.d hl,lane_pack 804 _ _ hu.c.d hl,lane_pack 804 _ _ hu.d.d hl,lane_pack 804 _ _ hu.e.d hl,lane_pack 804 _ _ hu.f.d hl,lane_pack 804 _ _ hu.g.d hl,lane_pack 804 _ _ hu.h.d hl]
theorem shift_bytes:∀ (ws:List Nat) (t:Nat),t<256->(∀ w∈ws,w<4294967296)->(shW t ws).flatMap byteN=t.toUInt8::(ws.flatMap byteN++[128,0,0])
 | [],t,ht,_ => by
   unfold shW
   rw[List.flatMap_cons,List.flatMap_nil,List.append_nil,byteN4 ht (show 128<256 by omega) (show 0<256 by omega) (show 0<256 by omega)]
   rfl
 | w :: ws,t,ht,hw => by
   have h1:=hw w List.mem_cons_self
   have ih:=shift_bytes ws (w%256) (Nat.mod_lt _ (by omega)) (fun x hx=>hw x (List.mem_cons_of_mem _ hx))
   unfold shW
   rw[List.flatMap_cons,ih,List.flatMap_cons]
   have e:byteN (t*16777216+w/256)=[t.toUInt8,(w/16777216).toUInt8,(w/65536%256).toUInt8,(w/256%256).toUInt8]:=by
    unfold byteN
    rw[show(t*16777216+w/256)/16777216=t by omega,show(t*16777216+w/256)/65536%256=w/16777216 by omega,show(t*16777216+w/256)/256%256=w/65536%256 by omega,show(t*16777216+w/256)%256=w/256%256 by omega]
   rw[e]
   simp[byteN]
theorem shW_len:∀ (ws:List Nat) (t:Nat),(shW t ws).length=ws.length+1
 | [],_=>rfl
 | w :: ws,t => by
   unfold shW
   rw[List.length_cons,shW_len ws,List.length_cons]
theorem shW_lt:∀ (ws:List Nat) (t:Nat),t<256->(∀ w∈ws,w<4294967296)->∀ x∈shW t ws,x<4294967296
 | [],t,ht,_,x,hx => by
   have:x=wd4 t 128 0 0:=by simpa [shW] using hx
   rw[this]
   exact wd4_lt ht (by omega) (by omega) (by omega)
 | w :: ws,t,ht,hw,x,hx => by
   have h1:=hw w List.mem_cons_self
   unfold shW at hx
   rcases List.mem_cons.1 hx with rfl | hx
   ·omega
   ·exact shW_lt ws _ (Nat.mod_lt _ (by omega)) (fun y hy=>hw y (List.mem_cons_of_mem _ hy)) x hx
theorem foldS_eq:∀ (n:Nat) (v:V) (ws:List Nat),foldS n v ws=foldW n v ws:=by
 intro n
 induction n with
 | zero=>intro v ws;rw[foldS,foldW]
 | succ n ih=>intro v ws;rw[foldS,forceV_eq,ih,foldW]
theorem forceL_eq:∀ (l:List Nat) (k:List Nat->V),forceL l k=k l
 | [],k=>by rw[forceL]
 | x::l,k=>by rw[forceL,force_eq,forceL_eq l]
theorem cat_list:∀ l:List ByteArray,(Cod.cat l).data.toList=l.flatMap fun x=>x.data.toList
 | []=>rfl
 | x::l=>by rw[Cod.cat,Sha.app_list,cat_list l,List.flatMap_cons]
theorem flat_flat {α : Type} (f : α -> List Nat) (l:List α):(l.flatMap f).flatMap byteN=l.flatMap fun x=>(f x).flatMap byteN:=List.flatMap_assoc
def AllChains (u:VF):Prop:=∀ i,i<804->u.at i=chainG (wd4 3 (kJ i) (cJ i) 0) 15 0 (cmp IVN (secretW (sJ i) (kJ i) (cJ i)))
theorem leaf_w (s key:Nat) (hs:s<6) (hk:key<2) (u:VF) (hu:u.ok) (hu2:AllChains u):(Sig.leaf (seedB s) key).data.toList=(leafV (u.pack 804) (key*6+s)).list.flatMap byteN:=by
 have hg:key*6+s<12:=by omega
 obtain⟨ws,hws⟩:∃ ws,ws=leafWs 12 (key*6+s) (u.pack 804):=⟨_,rfl⟩
 have hw:=hws
 rw[leafWs_pack u hu _ hg] at hw
 have hlt:∀ w∈ws,w<4294967296:=fun w hm=>by
  rw[hw] at hm
  obtain⟨c,_,hm⟩:=List.mem_flatMap.1 hm
  exact list_lt (hu.at _) w hm
 have hlen:ws.length=536:=by
  rw[hw,List.length_flatMap]
  have:(List.range 67).map (fun c=>(u.at (c*12+(key*6+s))).list.length)=List.replicate 67 8:=by
   rw[List.eq_replicate_iff]
   refine⟨by simp,fun b hb=>?_⟩
   obtain⟨c,_,rfl⟩:=List.mem_map.1 hb
   rfl
  rw[this]
  rfl
 have hm:(Sig.b1 0++Cod.cat ((List.range 67).map fun c=>Sig.chain key c 0 15 (Sig.secret (seedB s) key c))).data.toList=0::ws.flatMap byteN:=by
  have key2:((List.range 67).map fun c=>Sig.chain key c 0 15 (Sig.secret (seedB s) key c)).flatMap (fun x=>x.data.toList)=(List.range 67).flatMap fun c=>((u.at (c*12+(key*6+s))).list).flatMap byteN:=by
   rw[List.flatMap_map,List.flatMap_def,List.flatMap_def]
   congr 1
   refine List.map_congr_left fun c hc=>?_
   have hc:=List.mem_range.1 hc
   have e1:sJ (c*12+(key*6+s))=s:=by unfold sJ;omega
   have e2:kJ (c*12+(key*6+s))=key:=by unfold kJ;omega
   have e3:cJ (c*12+(key*6+s))=c:=by unfold cJ;omega
   rw[hu2 _ (by omega),e1,e2,e3]
   exact(chain_w key c (by omega) (by omega) 15 0 _ _ (cmp_ok _ _) (secret_w s key c (by omega) (by omega) (by omega)) (by omega)).1
  rw[Sha.app_list,cat_list,hw,flat_flat,key2]
  rfl
 have hz:(Sig.b1 0++Cod.cat ((List.range 67).map fun c=>Sig.chain key c 0 15 (Sig.secret (seedB s) key c))).size=2145:=by
  rw[<- Sha.len_list,hm,List.length_cons,flat_len,hlen]
 unfold Sig.leaf Sig.leafOf leafV
 rw[forceL_eq,foldS_eq,<- hws]
 refine sha_w _ (leafMsg ws) 34 ?_ ?_ ?_
 ·rw[Sha.app_list,hm,pad_list _ 2145 hz]
  unfold leafMsg
  rw[List.flatMap_append,shift_bytes ws 0 (by omega) hlt]
  simp only[List.cons_append,List.append_assoc]
  rfl
 ·unfold leafMsg
  rw[List.length_append,shW_len,hlen]
  rfl
 ·intro w hmem
  unfold leafMsg at hmem
  rcases List.mem_append.1 hmem with h | h
  ·exact shW_lt ws 0 (by omega) hlt w h
  ·simp only[List.mem_cons,List.not_mem_nil,or_false] at h
   rcases h with rfl | rfl | rfl | rfl | rfl | rfl | rfl <;> simp
theorem leafV_ok (R:V) (g:Nat):Vok (leafV R g):=by
 unfold leafV
 rw[forceL_eq,foldS_eq]
 exact foldW_ok _ _ _ IVN_ok
theorem root_w (s:Nat) (hs:s<6) (u:VF) (hu:u.ok) (hu2:AllChains u):(Sig.root (Sig.leaves (seedB s) 2)).data.toList=(rootV (u.pack 804) s).list.flatMap byteN:=by
 have h0:=leaf_w s 0 hs (by omega) u hu hu2
 have h1:=leaf_w s 1 hs (by omega) u hu hu2
 rw[Nat.zero_mul,Nat.zero_add] at h0
 rw[Nat.one_mul] at h1
 have hl:Sig.leaves (seedB s) 2=[Sig.leaf (seedB s) 0,Sig.leaf (seedB s) 1]:=rfl
 rw[hl,Sig.root_two _ _ (Sig.leaf_size _ _) (Sig.leaf_size _ _)]
 obtain⟨ws,hws⟩:∃ ws,ws=(leafV (u.pack 804) s).list++(leafV (u.pack 804) (6+s)).list:=⟨_,rfl⟩
 have hlt:∀ w∈ws,w<4294967296:=fun w hm=>by
  rw[hws] at hm
  rcases List.mem_append.1 hm with hm | hm
  ·exact list_lt (leafV_ok _ _) w hm
  ·exact list_lt (leafV_ok _ _) w hm
 have hlen:ws.length=16:=by rw[hws,List.length_append];rfl
 have hm:(Sig.b1 1++Sig.leaf (seedB s) 0++Sig.leaf (seedB s) 1).data.toList=1::ws.flatMap byteN:=by
  rw[Sha.app_list,Sha.app_list,h0,h1,hws,List.flatMap_append]
  rfl
 have hz:(Sig.b1 1++Sig.leaf (seedB s) 0++Sig.leaf (seedB s) 1).size=65:=by
  rw[<- Sha.len_list,hm,List.length_cons,flat_len,hlen]
 unfold rootV
 rw[forceL_eq,foldS_eq,<- hws]
 refine sha_w _ (rootMsg ws) 2 ?_ ?_ ?_
 ·rw[Sha.app_list,hm,pad_list _ 65 hz]
  unfold rootMsg
  rw[List.flatMap_append,shift_bytes ws 1 (by omega) hlt]
  simp only[List.cons_append,List.append_assoc]
  rfl
 ·unfold rootMsg
  rw[List.length_append,shW_len,hlen]
  rfl
 ·intro w hmem
  unfold rootMsg at hmem
  rcases List.mem_append.1 hmem with h | h
  ·exact shW_lt ws 1 (by omega) hlt w h
  ·simp only[List.mem_cons,List.not_mem_nil,or_false] at h
   rcases h with rfl | rfl | rfl | rfl | rfl | rfl | rfl | rfl | rfl | rfl | rfl | rfl | rfl | rfl | rfl <;> simp
end Lane
end
section
open Go
namespace Lane
theorem pack_r (n:Nat) (f:Nat->Nat):packR f 0 n=packF n f:=by
 rw[packR_eq]
 congr 1
 funext i
 rw[Nat.zero_add]
def bnd (f:Nat->Nat) (i:Nat):Nat:=if i<804 then f i else 0
theorem packF_congr:∀ (n:Nat) (f g:Nat->Nat),(∀ i,i<n->f i=g i)->packF n f=packF n g
 | 0,_,_,_=>rfl
 | n + 1,f,g,h => by
   have ih:=packF_congr n (fun i=>f (i+1)) (fun i=>g (i+1)) (fun i hi=>h (i+1) (by omega))
   unfold packF
   rw[h 0 (by omega),ih]
theorem pack_b (f:Nat->Nat):packR f 0 804=packF 804 (bnd f):=by
 rw[pack_r]
 exact packF_congr 804 _ _ (fun i hi=>by unfold bnd;rw[if_pos hi])
theorem bnd_w {f:Nat->Nat} (h:∀ i,i<804->f i<4294967296):W (bnd f):=fun i=>by
 unfold bnd
 split
 ·exact h i (by assumption)
 ·simp
theorem bnd_at {f:Nat->Nat} {i:Nat} (h:i<804):bnd f i=f i:=by unfold bnd;rw[if_pos h]
theorem sJ_lt (i:Nat):sJ i<256:=by unfold sJ;omega
theorem kJ_lt (i:Nat):kJ i<256:=by unfold kJ;omega
theorem cJ_lt {i:Nat} (h:i<804):cJ i<256:=by unfold cJ;omega
theorem sec_pack:∃ u:VF,u.ok/\sec0 (mask 804) (ones 804)=u.pack 804/\∀ i,i<804->u.at i=cmp IVN (secretW (sJ i) (kJ i) (cJ i)):=by
 have w2:W (bnd fun i=>wd4 2 (sJ i) (sJ i) (sJ i)):=bnd_w fun i _=>wd4_lt (by omega) (sJ_lt i) (sJ_lt i) (sJ_lt i)
 have ws:W (bnd fun i=>wd4 (sJ i) (sJ i) (sJ i) (sJ i)):=bnd_w fun i _=>wd4_lt (sJ_lt i) (sJ_lt i) (sJ_lt i) (sJ_lt i)
 have w8:W (bnd fun i=>wd4 (sJ i) (kJ i) (cJ i) 128):=bnd_w fun i h=>wd4_lt (sJ_lt i) (kJ_lt i) (cJ_lt h) (by omega)
 have w0:W fun _=>0:=fun _=>by simp
 obtain⟨u,h1,h2,h3⟩:=comp_pack 804 VF.iv iv_ok _ _ _ _ _ _ _ _ _ (fun _=>0) (fun _=>0) (fun _=>0) (fun _=>0) (fun _=>0) (fun _=>0) (fun _=>280) w2 ws ws ws ws ws ws ws w8 w0 w0 w0 w0 w0 w0 (fun _=>by simp)
 have e3:packF 804 (fun _=>280)=ones 804*280:=(pack_const 804 280).symm
 rw[e3,pack_zero,<- iv_pack] at h2
 refine⟨u,h1,?_,fun i hi=>?_⟩
 ·unfold sec0
  rw[pack_b,pack_b,pack_b]
  exact h2
 ·rw[h3,bnd_at hi,bnd_at hi,bnd_at hi]
  unfold cmp secretW
  rfl
theorem out_pack:∃ u:VF,u.ok/\AllChains u/\∀ k,outJ k=k (u.pack 804):=by
 obtain⟨u0,h1,h2,h3⟩:=sec_pack
 have hb:∀ i,bnd (fun i=>wd4 3 (kJ i) (cJ i) 0) i+(0+15)<4294967296:=fun i=>by
  unfold bnd
  split
  ·rename_i h
   have:=cJ_lt h
   have:=kJ_lt i
   show wd4 3 (kJ i) (cJ i) 0+(0+15)<4294967296
   unfold wd4
   omega
  ·simp
 obtain⟨u,g1,g2,g3⟩:=chain_pack 804 (bnd fun i=>wd4 3 (kJ i) (cJ i) 0) 15 0 u0 h1 hb
 refine⟨u,g1,fun i hi=>?_,fun k=>?_⟩
 ·rw[g3,bnd_at hi,h3 i hi]
 ·unfold outJ
  simp only[force_eq,forceV_eq]
  rw[pack_b (fun i=>wd4 3 (kJ i) (cJ i) 0),pack_r 804 (fun _=>4294967295),pack_r 804 (fun _=>1)]
  show k _=_
  have e:(List.range' 0 15).foldl (fun v q=>compS (mask 804) (ones 804) (packF 804 (bnd fun i=>wd4 3 (kJ i) (cJ i) 0)) q v) (sec0 (mask 804) (ones 804))=u.pack 804:=by
   rw[h2]
   exact g2
  unfold mask ones at e
  rw[e]
theorem diffs_at:∀ (l:List Nat),diffs l=true->∀ i j (hi:i<l.length) (hj:j<l.length),i<j->l[i]≠l[j]
 | [],_,i,j,hi,_,_=>by cases hi
 | x :: l,h,i,j,hi,hj,hij => by
   unfold diffs at h
   rw[Bool.and_eq_true] at h
   cases i with
   | zero =>
     cases j with
     | zero=>omega
     | succ j =>
       have hj2:j<l.length:=by simpa using hj
       have:=List.all_eq_true.1 h.1 l[j] (List.getElem_mem hj2)
       intro e
       have e:x=l[j]:=e
       rw[<- e] at this
       simp at this
   | succ i =>
     cases j with
     | zero=>omega
     | succ j=>exact diffs_at l h.2 i j (by simpa using hi) (by simpa using hj) (by omega)
theorem byteN_inj {x y:Nat} (hx:x<4294967296) (hy:y<4294967296) (h:byteN x=byteN y):x=y:=by
 unfold byteN at h
 simp only[List.cons.injEq,and_true] at h
 obtain⟨h1,h2,h3,h4⟩:=h
 have n8:∀ n:Nat,n<256->(n.toUInt8).toNat=n:=fun n hn=>by simp[Nat.mod_eq_of_lt hn]
 have e1:=congrArg UInt8.toNat h1;have e2:=congrArg UInt8.toNat h2;have e3:=congrArg UInt8.toNat h3;have e4:=congrArg UInt8.toNat h4
 rw[n8 _ (by omega),n8 _ (by omega)] at e1 e2 e3 e4
 omega
theorem rootV_ok (R:V) (s:Nat):Vok (rootV R s):=by
 unfold rootV
 rw[forceL_eq,foldS_eq]
 exact foldW_ok _ _ _ IVN_ok
theorem pub_ne {s t:Nat} (hs:s<6) (ht:t<6) (h:s≠t):Sig.pubOf (seedB s)≠Sig.pubOf (seedB t):=by
 have key:∀ s t,s<t->t<6->Sig.pubOf (seedB s)≠Sig.pubOf (seedB t):=by
  intro s t hst ht e
  obtain⟨u,h1,h2,h3⟩:=out_pack
  have hd:=roots_diff
  rw[h3] at hd
  have hne:=diffs_at _ hd s t (by simp;omega) (by simp;omega) hst
  simp only[List.getElem_map,List.getElem_range] at hne
  have e2:Sig.root (Sig.leaves (seedB s) 2)=Sig.root (Sig.leaves (seedB t) 2):=by
   rw[<- Sig.pubOf_take,<- Sig.pubOf_take,e]
  have e3:=congrArg (fun x:ByteArray=>x.data.toList) e2
  rw[root_w s (by omega) u h1 h2,root_w t ht u h1 h2] at e3
  have e4:=congrArg (List.take 4) e3
  refine hne (byteN_inj (rootV_ok _ _).a (rootV_ok _ _).a ?_)
  have q:∀ v:V,(v.list.flatMap byteN).take 4=byteN v.a:=fun v=>by
   unfold V.list
   rw[List.flatMap_cons,List.take_append_of_le_length (by rw[byteN_len];exact Nat.le_refl _),List.take_of_length_le (by rw[byteN_len];exact Nat.le_refl _)]
  rwa [q,q] at e4
 rcases Nat.lt_or_ge s t with hst | hge
 ·exact key s t hst ht
 ·exact fun e=>key t s (by omega) hs e.symm
end Lane
end
section
open Go
namespace Own
/-! ### chains in order -/
theorem chain_of {α : Type} {ok : α -> Bool} {f : α -> ByteArray} : ∀ {l:List α} {p:Option α},(∀ x∈l,ok x=true)->Srt f l->(∀ q,p=some q->∀ x∈l,lessB (f q) (f x)=true)->chainOK ok (fun x y=>lessB (f x) (f y)) p l=true
 | [],_,_,_,_=>rfl
 | x :: l,p,ho,hs,hp => by
   have hs' :=List.pairwise_cons.1 hs
   have ih:=chain_of (p:=some x) (fun y hy=>ho y (List.mem_cons_of_mem _ hy)) hs'.2 (fun q hq y hy=>by cases hq;exact hs'.1 y hy)
   unfold chainOK
   rw[ho x List.mem_cons_self,ih]
   cases p with
   | none=>rfl
   | some q=>simp only[hp q rfl x List.mem_cons_self,Bool.and_self]
theorem nextOf_use:∀ {K:List KeyUse},Srt KeyUse.pub K->∀ (x:KeyUse) (p:ByteArray),nextOf (use K x) p=if x.pub=p then x.next else nextOf K p
 | [],_,x,p => by
   unfold use nextOf
   by_cases h:x.pub=p
   ·rw[if_pos h];simp[h]
   ·rw[if_neg h];simp[h]
 | k :: K,hs,x,p => by
   have hs' :=List.pairwise_cons.1 hs
   have hcons:∀ (y:KeyUse) (l:List KeyUse),nextOf (y::l) p=if y.pub=p then y.next else nextOf l p:=fun y l=>by
    unfold nextOf
    by_cases h:y.pub=p
    ·rw[if_pos h];simp[h]
    ·rw[if_neg h];simp[h]
   unfold use
   by_cases h1:lessB k.pub x.pub=true
   ·rw[if_pos h1,hcons,hcons,nextOf_use hs'.2 x p]
    by_cases hk:k.pub=p
    ·rw[if_pos hk,if_pos hk]
     rw[if_neg (fun hx=>by rw[hk,hx,lessB_irrefl] at h1;cases h1)]
    ·rw[if_neg hk,if_neg hk]
   ·rw[if_neg h1]
    by_cases h2:k.pub=x.pub
    ·rw[if_pos h2,hcons,hcons]
     by_cases hx:x.pub=p
     ·rw[if_pos hx,if_pos hx]
     ·rw[if_neg hx,if_neg hx,if_neg (by rw[h2];exact hx)]
    ·rw[if_neg h2,hcons]
/-! ### the space -/
structure KInv (K:List KeyUse):Prop where
 srt:Srt KeyUse.pub K
 ok:∀ k∈K,keyOK k=true
theorem KInv.nil:KInv []:=⟨List.Pairwise.nil,fun k hk=>by cases hk⟩
theorem mem_pub (b:Nat):(mem54 b).pub=Sig.pubOf (Lane.seedB b):=by unfold mem54;rfl
theorem sign_index (S:ByteArray) (i:Nat) (m:ByteArray):(Sig.signOf S i m).index=(i:Int):=by unfold Sig.signOf;rfl
theorem pub_ok (b:Nat):Sig.public_ (mem54 b).pub=true:=by
 show Sig.public_ (Sig.pubOf _)=true
 unfold Sig.public_
 rw[Sig.pubOf_size,Sig.pubOf_last]
 decide
theorem KInv.use {K:List KeyUse} (h:KInv K) (b:Nat) (n:Int) (h0:0<=n) (h2:n<=2):KInv (use K ⟨(mem54 b).pub,n⟩):=by
 rw[use_put]
 refine⟨h.srt.put _,fun k hk=>?_⟩
 rcases putB_mem _ _ _ hk with rfl | hk
 ·unfold keyOK
  rw[pub_ok,show((mem54 b).pub.get! 32)=1 from Sig.pubOf_last _]
  have e:(2:Int)^(1:UInt8).toNat=2:=by decide
  rw[e]
  simp only[Bool.true_and,Bool.and_eq_true,decide_eq_true_eq]
  exact⟨h0,h2⟩
 ·exact h.ok k hk
theorem name_lt {a b:Nat} (h:a<b) (hb:b<8):lessB (mem54 a).name (mem54 b).name=true:=by
 have:∀ b,b<8->∀ a,a<b->lessB (⟨#[109,(97+a%8).toUInt8]⟩:ByteArray) ⟨#[109,(97+b%8).toUInt8]⟩=true:=by decide +kernel
 exact this b hb a h
theorem name_ne {a b:Nat} (ha:a<8) (hb:b<8) (h:a≠b):(mem54 a).name≠(mem54 b).name:=by
 intro e
 rcases Nat.lt_or_gt_of_ne h with h | h
 ·have:=name_lt h hb
  rw[e,lessB_irrefl] at this;cases this
 ·have:=name_lt h ha
  rw[e,lessB_irrefl] at this;cases this
theorem pub_ne {a b:Nat} (ha:a<6) (hb:b<6) (h:a≠b):(mem54 a).pub≠(mem54 b).pub:=Lane.pub_ne ha hb h
theorem name_ok (b:Nat):nameOK (mem54 b).name=true:=rfl
theorem memOK (pre:List Member) (b:Nat) (h1:∀ x∈pre,x.pub≠(mem54 b).pub) (h2:∀ x,pre.getLast? = some x->lessB x.name (mem54 b).name=true):memberOK pre (mem54 b)=true:=by
 unfold memberOK
 rw[name_ok,pub_ok]
 have e:(pre.any fun x=>decide (x.pub=(mem54 b).pub))=false:=List.any_eq_false.2 fun x hx=>by simpa using h1 x hx
 rw[e]
 cases hl:pre.getLast? with
 | none=>rfl
 | some x=>simp only[h2 x hl];rfl
theorem mems_ok {n:Nat} (h1:1<=n) (h2:n<=3):membersOK (mems54 n)=true:=by
 have e:∀ n,n<=3->membersFrom [] (mems54 n)=true:=by
  intro n hn
  have a0:memberOK [] (mem54 0)=true:=memOK _ _ (fun x hx=>by cases hx) (fun x hx=>by cases hx)
  have a1:memberOK [mem54 0] (mem54 1)=true:=memOK _ _ (fun x hx=>by
   rw[List.mem_singleton.1 hx];exact pub_ne (by omega) (by omega) (by omega)) (fun x hx=>by cases hx;exact name_lt (by omega) (by omega))
  have a2:memberOK [mem54 0,mem54 1] (mem54 2)=true:=memOK _ _ (fun x hx=>by
   simp only[List.mem_cons,List.not_mem_nil,or_false] at hx
   rcases hx with rfl | rfl <;> exact pub_ne (by omega) (by omega) (by omega)) (fun x hx=>by cases hx;exact name_lt (by omega) (by omega))
  match n,hn with
  | 0,_=>rfl
  | 1,_=>show(memberOK [] (mem54 0)&&true)=true;rw[a0];rfl
  | 2,_=>show(memberOK [] (mem54 0)&&(memberOK [mem54 0] (mem54 1)&&true))=true;rw[a0,a1];rfl
  | 3,_=>show(memberOK [] (mem54 0)&&(memberOK [mem54 0] (mem54 1)&&(memberOK [mem54 0,mem54 1] (mem54 2)&&true)))=true;rw[a0,a1,a2];rfl
 unfold membersOK
 rw[mems54_len,e n h2]
 simp only[Bool.and_true,Bool.and_eq_true,decide_eq_true_eq]
 omega
theorem space_ok {n:Nat} {th:Int} (h1:1<=n) (h2:n<=3) (h3:1<=th) (h4:th<=n):spaceOK (space54 n th)=true:=by
 unfold spaceOK space54
 dsimp only
 rw[mems_ok h1 h2,mems54_len,show pathOK ⟨#[97]⟩=true by decide]
 simp only[Bool.true_and,Bool.and_eq_true,decide_eq_true_eq]
 exact⟨h3,h4⟩
def own54 (s:Space) (K:List KeyUse):Owners:=⟨0,[s],K⟩
theorem own_ok {s:Space} {K:List KeyUse} (hs:spaceOK s=true) (hK:KInv K):ownersOK (own54 s K)=true:=by
 unfold ownersOK own54
 have e1:chainOK spaceOK (fun x y=>lessB x.pre y.pre) none [s]=true:=by simp[chainOK,hs]
 have e2:chainOK keyOK (fun x y=>lessB x.pub y.pub) none K=true:=chain_of hK.ok hK.srt (fun q hq=>by cases hq)
 dsimp only
 rw[e1,e2]
 rfl
theorem auth54 {s:Space} {K:List KeyUse} (hs:spaceOK s=true) (hp:s.pre=⟨#[97]⟩) (hK:KInv K) {p:ByteArray} (h1:pathOK p=true) (h2:belongs p ⟨#[97]⟩=true):authority (own54 s K) p=some s:=by
 unfold authority
 rw[own_ok hs hK,h1]
 show bestF p none [s]=some s
 unfold bestF
 rw[hp,h2]
 rfl
theorem find54 {n b:Nat} (hb:b<n) (hn:n<=8):find (mems54 n) (mem54 b).name=some (mem54 b):=by
 unfold find
 rw[List.find?_eq_some_iff_append]
 refine⟨by simp,(List.range b).map mem54,((List.range' (b+1) (n - b - 1)).map mem54),?_,fun x hx=>?_⟩
 ·unfold mems54
  rw[<- List.map_cons,<- List.map_append]
  congr 1
  rw[List.range_eq_range',List.range_eq_range']
  have e:n=b+(n - b):=by omega
  conv=>lhs;rw[e,<- List.range'_append_1]
  congr 1
  have e2:n - b=(n - b - 1)+1:=by omega
  rw[e2,List.range'_succ]
  simp
 ·obtain⟨c,hc,rfl⟩:=List.mem_map.1 hx
  have:=List.mem_range.1 hc
  simpa using name_ne (by omega) (by omega) (by omega:c≠b)
/-! ### a queue of one proposal -/
theorem queue_one {nx:Int} {p:Proposal} (h0:0<=nx) (h1:nx<=1099511627776) (hp:proposalOK p=true) (h:p.id<nx):queueOK ⟨nx,[p]⟩=true:=by
 unfold queueOK late
 dsimp only
 have e:chainOK (fun p=>proposalOK p&&decide (p.id<nx)) (fun x y=>decide (x.id<y.id)) none [p]=true:=by simp[chainOK,hp,h]
 rw[e]
 simp only[Bool.and_true,Bool.and_eq_true,decide_eq_true_eq]
 exact⟨⟨h0,h1⟩,by show 1<=64;omega⟩
structure VInv (V:List Vote):Prop where
 srt:Srt Vote.name V
 ok:∀ v∈V,nameOK v.name=true
 len:V.length<=1000
theorem VInv.nil:VInv []:=⟨List.Pairwise.nil,(fun v hv=>by cases hv),by simp⟩
theorem putB_len {α : Type} (f : α -> ByteArray) (x : α):∀ l:List α,(putB f x l).length<=l.length+1
 | []=>Nat.le_refl _
 | y :: l => by
   unfold putB
   split
   ·have:=putB_len f x l
    simp only[List.length_cons];omega
   ·split <;> simp
theorem VInv.put {V:List Vote} (h:VInv V) (hl:V.length<1000) (x:Vote) (hx:nameOK x.name=true):VInv (putVote V x):=by
 rw[putVote_put]
 refine⟨h.srt.put _,fun v hv=>?_,by have:=putB_len Vote.name x V;omega⟩
 rcases putB_mem _ _ _ hv with rfl | hv
 ·exact hx
 ·exact h.ok v hv
structure PropOK (p:Proposal):Prop where
 id0:0<=p.id
 id1:p.id<1099511627776
 path:pathOK p.path=true
 bel:belongs p.path ⟨#[97]⟩=true
 dig:Sig.digest p.digest=true
 op:0<=p.opened/\p.opened<=late/\p.opened<p.expires/\p.expires<=p.opened+256
def withVs (p:Proposal) (V:List Vote):Proposal :={ p with votes:=V }
theorem prop_ok {p:Proposal} (h:PropOK p) {V:List Vote} (hV:VInv V):proposalOK (withVs p V)=true:=by
 unfold proposalOK withVs
 have e:chainOK (fun v=>nameOK v.name) (fun x y=>lessB x.name y.name) none V=true:=chain_of (f:=Vote.name) hV.ok hV.srt (fun q hq=>by cases hq)
 dsimp only
 rw[e,h.path,h.dig]
 have:=h.op
 have:=h.id0
 have:=hV.len
 simp only[Bool.and_true,Bool.true_and,Bool.and_eq_true,decide_eq_true_eq]
 omega
theorem msg_votes (p:Proposal) (V:List Vote) (ag:Bool):messageOf (withVs p V) ag=messageOf p ag:=rfl
def ballot54 (b:Nat) (i:Nat) (p:Proposal) (ag:Bool):Approval:=⟨(mem54 b).name,Sig.signOf (Lane.seedB b) i (messageOf p ag)⟩
theorem vote54 {n b i:Nat} {th nx:Int} {K:List KeyUse} {p:Proposal} {V:List Vote} {ag:Bool} (h1:n<=3) (h3:1<=th) (h4:th<=n) (hK:KInv K) (hp:PropOK p) (hV:VInv V) (hVl:V.length<1000) (hnx:p.id<nx) (hnx2:nx<=1099511627776) (hb:b<n) (hi:i<2) (hu:nextOf K (mem54 b).pub<=i):
 vote ⟨nx,[withVs p V]⟩ (own54 (space54 n th) K) p.id ag (ballot54 b i p ag)=(⟨nx,[withVs p (putVote V ⟨(mem54 b).name,(mem54 b).pub,ag⟩)]⟩,own54 (space54 n th) (use K ⟨(mem54 b).pub,(i:Int)+1⟩),0):=by
 have hn1:1<=n:=by omega
 have hsp:=space_ok hn1 h1 h3 h4
 have hq:queueOK ⟨nx,[withVs p V]⟩=true:=queue_one (by have:=hp.id0;omega) hnx2 (prop_ok hp hV) hnx
 have hf:findP [withVs p V] p.id=some (withVs p V):=by simp[findP,withVs]
 have hpl:=putB_len Vote.name ⟨(mem54 b).name,(mem54 b).pub,ag⟩ V
 unfold vote
 rw[hq,own_ok hsp hK]
 dsimp only
 rw[if_neg (by decide),hf]
 dsimp only
 rw[auth54 hsp rfl hK (show pathOK (withVs p V).path=true from hp.path) hp.bel]
 have hv:Sig.verify (mem54 b).pub (messageOf p ag) (Sig.signOf (Lane.seedB b) i (messageOf p ag))=true:=by rw[mem_pub];exact Sig.verify_sign (Lane.seedB b) i hi (messageOf p ag)
 have hx:=sign_index (Lane.seedB b) i (messageOf p ag)
 unfold ballot54
 generalize Sig.signOf (Lane.seedB b) i (messageOf p ag)=sg at*
 have hfm:find (space54 n th).members (mem54 b).name=some (mem54 b):=find54 hb (by omega)
 dsimp only
 rw[hfm]
 dsimp only
 rw[msg_votes,hv,if_neg (fun h=>by cases h),hx,if_neg (show ¬ (i:Int)<nextOf (own54 (space54 n th) K).keys (mem54 b).pub from Int.not_lt.2 hu)]
 rw[if_neg (show ¬ 1024<(putVote (withVs p V).votes ⟨(mem54 b).name,(mem54 b).pub,ag⟩).length by rw[putVote_put];show ¬ 1024<(putB Vote.name ⟨(mem54 b).name,(mem54 b).pub,ag⟩ V).length;omega)]
 have e:setP [withVs p V] { withVs p V with votes:=putVote (withVs p V).votes ⟨(mem54 b).name,(mem54 b).pub,ag⟩ } = [withVs p (putVote V ⟨(mem54 b).name,(mem54 b).pub,ag⟩)]:=by
  simp[setP,withVs]
 rw[e]
 rfl
/-! ### What is agreed -/
theorem agreed_gen {s:Space} {nx:Int} {K:List KeyUse} {p:Proposal} {V:List Vote} (hs:spaceOK s=true) (hpre:s.pre=⟨#[97]⟩) (hK:KInv K) (hp:PropOK p) (hV:VInv V) (hnx:p.id<nx) (hnx2:nx<=1099511627776):
 agreed ⟨nx,[withVs p V]⟩ (own54 s K) p.id=((V.filter (counts s)).all (·.agrees)&&decide (s.threshold<=((V.filter (counts s)).length:Int))):=by
 have hq:queueOK ⟨nx,[withVs p V]⟩=true:=queue_one (by have:=hp.id0;omega) hnx2 (prop_ok hp hV) hnx
 have hf:findP [withVs p V] p.id=some (withVs p V):=by simp[findP,withVs]
 unfold agreed
 rw[hq,own_ok hs hK]
 dsimp only
 rw[hf]
 show(true&&agreedP (withVs p V) (own54 s K))=_
 unfold agreedP
 rw[auth54 hs hpre hK (show pathOK (withVs p V).path=true from hp.path) hp.bel]
 rfl
def ByMem (n:Nat) (V:List Vote):Prop:=∀ v∈V,∃ b,b<n/\v.name=(mem54 b).name/\v.pub=(mem54 b).pub
theorem ByMem.nil (n:Nat):ByMem n []:=fun v hv=>by cases hv
theorem ByMem.put {n:Nat} {V:List Vote} (h:ByMem n V) {b:Nat} (hb:b<n) (ag:Bool):ByMem n (putVote V ⟨(mem54 b).name,(mem54 b).pub,ag⟩):=fun v hv=>by
 rw[putVote_put] at hv
 rcases putB_mem _ _ _ hv with rfl | hv
 ·exact⟨b,hb,rfl,rfl⟩
 ·exact h v hv
theorem counts_mem {n:Nat} {th:Int} {v:Vote} (h:∃ b,b<n/\v.name=(mem54 b).name/\v.pub=(mem54 b).pub):counts (space54 n th) v=true:=by
 obtain⟨b,hb,h1,h2⟩:=h
 unfold counts space54 mems54
 rw[List.any_eq_true]
 exact⟨mem54 b,List.mem_map.2 ⟨b,List.mem_range.2 hb,rfl⟩,by simp[h1,h2]⟩
theorem agreed54 {n:Nat} {th nx:Int} {K:List KeyUse} {p:Proposal} {V:List Vote} (h1:n<=3) (h3:1<=th) (h4:th<=n) (hK:KInv K) (hp:PropOK p) (hV:VInv V) (hM:ByMem n V) (hnx:p.id<nx) (hnx2:nx<=1099511627776):
 agreed ⟨nx,[withVs p V]⟩ (own54 (space54 n th) K) p.id=(V.all (·.agrees)&&decide (th<=(V.length:Int))):=by
 rw[agreed_gen (space_ok (by omega) h1 h3 h4) rfl hK hp hV hnx hnx2]
 have e:V.filter (counts (space54 n th))=V:=List.filter_eq_self.2 fun v hv=>counts_mem (hM v hv)
 rw[e]
 rfl
theorem mergeOK54 {n:Nat} {th nx size:Int} {K:List KeyUse} {p:Proposal} {V:List Vote} (h1:n<=3) (h3:1<=th) (h4:th<=n) (hK:KInv K) (hp:PropOK p) (hV:VInv V) (hM:ByMem n V) (hnx:p.id<nx) (hnx2:nx<=1099511627776):
 merge ⟨nx,[withVs p V]⟩ (own54 (space54 n th) K) size p.id=if p.expires<=size then (.none,.none,8) else if (V.all (·.agrees)&&decide (th<=(V.length:Int)))=false then (.none,.none,20) else (⟨nx,[]⟩,withVs p V,0):=by
 have hsp:=space_ok (show 1<=n by omega) h1 h3 h4
 have hq:queueOK ⟨nx,[withVs p V]⟩=true:=queue_one (by have:=hp.id0;omega) hnx2 (prop_ok hp hV) hnx
 have hf:findP [withVs p V] p.id=some (withVs p V):=by simp[findP,withVs]
 have ha:=agreed54 h1 h3 h4 hK hp hV hM hnx hnx2
 unfold agreed at ha
 rw[hq,own_ok hsp hK] at ha
 dsimp only at ha
 rw[hf] at ha
 have ha' : agreedP (withVs p V) (own54 (space54 n th) K)=(V.all (·.agrees)&&decide (th<=(V.length:Int))):=ha
 unfold merge
 rw[hq,own_ok hsp hK]
 dsimp only
 rw[if_neg (by decide),hf]
 dsimp only
 rw[ha']
 have e:without ⟨nx,[withVs p V]⟩ p.id=⟨nx,[]⟩:=by simp[without,withVs]
 rw[e]
 rfl
theorem withdraw54 {nx:Int} {p:Proposal} {V:List Vote} (hp:PropOK p) (hV:VInv V) (hnx:p.id<nx) (hnx2:nx<=1099511627776):withdraw ⟨nx,[withVs p V]⟩ p.id=(⟨nx,[]⟩,0):=by
 have hq:queueOK ⟨nx,[withVs p V]⟩=true:=queue_one (by have:=hp.id0;omega) hnx2 (prop_ok hp hV) hnx
 have hf:findP [withVs p V] p.id=some (withVs p V):=by simp[findP,withVs]
 have e:without ⟨nx,[withVs p V]⟩ p.id=⟨nx,[]⟩:=by simp[without,withVs]
 unfold withdraw
 rw[hq]
 dsimp only
 rw[hf,e]
 rfl
theorem expire54 {nx size:Int} {p:Proposal} {V:List Vote} (hp:PropOK p) (hV:VInv V) (hnx:p.id<nx) (hnx2:nx<=1099511627776) (he:p.expires<=size):expire ⟨nx,[withVs p V]⟩ size=⟨nx,[]⟩:=by
 have hq:queueOK ⟨nx,[withVs p V]⟩=true:=queue_one (by have:=hp.id0;omega) hnx2 (prop_ok hp hV) hnx
 unfold expire
 rw[hq,if_neg (by decide)]
 have:decide (size<(withVs p V).expires)=false:=decide_eq_false (by show ¬ size<p.expires;omega)
 simp[List.filter_cons,this]
def prop54 (id:Int) (path dg:ByteArray) (size window:Int):Proposal:=⟨id,path,dg,size,size+window,[]⟩
theorem prop54_ok {id size window:Int} {path dg:ByteArray} (h0:0<=id) (h1:id<1099511627776) (hp:pathOK path=true) (hb:belongs path ⟨#[97]⟩=true) (hd:Sig.digest dg=true) (hs:0<=size/\size<=late) (hw:1<=window/\window<=256):PropOK (prop54 id path dg size window):=
 ⟨h0,h1,hp,hb,hd,hs.1,hs.2,by show size<size+window;omega,by show size+window<=size+256;omega⟩
theorem digest_seed (b:Nat):Sig.digest (Lane.seedB b)=true:=decide_eq_true (seedB_size b)
theorem submit_empty {nx size window:Int} {path dg:ByteArray} (h0:0<=nx) (h1:nx<1099511627776) (hp:pathOK path=true) (hd:Sig.digest dg=true) (hs:0<=size/\size<=late) (hw:1<=window/\window<=256):
 submit ⟨nx,[]⟩ size window path dg=(⟨nx+1,[prop54 nx path dg size window]⟩,nx,0):=by
 have hq:queueOK ⟨nx,[]⟩=true:=by
  unfold queueOK late
  simp only[chainOK,List.length_nil,Bool.and_true,Bool.and_eq_true,decide_eq_true_eq]
  omega
 unfold submit
 rw[hq,hp,hd,if_neg (by decide),if_neg (by have:=hs;have:=hw;omega),if_neg (by decide),if_neg (by decide),if_neg (by simp),if_neg (by simp[late];omega)]
 rfl
end Own
end
section
open Go Go.RowKit Go.Maps
namespace Own
theorem Idx.find {α : Type} {p : α -> Bool} {l:List α} {i:Int} (h:Idx p l i):(i<0/\l.find? p=none)\/∃ j:Nat,∃ hj:j<l.length,i=(j:Int)/\l.find? p=some l[j]:=by
 rcases h with ⟨rfl,h1,_⟩ | ⟨j,hj,rfl,h1,h2,h3⟩
 ·exact .inl ⟨by omega,h1⟩
 ·exact .inr ⟨j,hj,rfl,h1⟩
end Own
theorem rvWithdraw_any (q:Own.Queue) (id:Int) (pv:Value) (w:World) (hM:MaxL w) (hP:Own.PropsC w pv q.props) (hls:q.props.length<=1000000) (hlm:∀ p∈q.props,p.votes.length<=3000000):
 Calls Tryz.prog 14 #[.agg #[.int .i64 q.next,pv],.int .i64 id] w fun e w' => (∃ qv,e=.returned (.tuple #[qv,.int .i64 (Own.withdraw q id).2])/\Own.QOut w (Own.withdraw q id).1 qv w')/\Below w.heap.size w w' :=by
 obtain⟨R,hR⟩:∃ R,R=Own.withdraw q id:=⟨_,rfl⟩
 rw[<- hR]
 unfold Own.withdraw at hR
 obtain⟨a,c,rfl⟩:=hP.len
 obtain⟨nx,L⟩:=q
 dsimp only at*
 have hb1:Below w.heap.size w (((w.alloc (.cells #[.int .i64 nx,.slice a L.length c] 24)).alloc (.cells #[.int .i64 id] 3)).alloc (.cells #[.int .i64 0,.slice none 0 0] 24)):=(((Below.refl _ _).alloc (Nat.le_refl _) _).alloc (by simp) _).alloc (by simp;omega) _
 have a0:=((At.new w 24 #[.int .i64 nx,.slice a L.length c]).alloc (.cells #[.int .i64 id] 3)).alloc (.cells #[.int .i64 0,.slice none 0 0] 24)
 have a1:=(At.new1 w (.cells #[.int .i64 nx,.slice a L.length c] 24) 3 #[.int .i64 id]).alloc (.cells #[.int .i64 0,.slice none 0 0] 24)
 have a2:At (((w.alloc (.cells #[.int .i64 nx,.slice a L.length c] 24)).alloc (.cells #[.int .i64 id] 3)).alloc (.cells #[.int .i64 0,.slice none 0 0] 24)) (w.heap.size+1+1) 24 #[.int .i64 0,.slice none 0 0]:=by
  have:=At.new1 (w.alloc (.cells #[.int .i64 nx,.slice a L.length c] 24)) (.cells #[.int .i64 id] 3) 24 #[.int .i64 0,.slice none 0 0]
  rwa [World.size_alloc] at this
 have hz1:w.heap.size+3<=(((w.alloc (.cells #[.int .i64 nx,.slice a L.length c] 24)).alloc (.cells #[.int .i64 id] 3)).alloc (.cells #[.int .i64 0,.slice none 0 0] 24)).heap.size:=by simp
 obtain⟨c0,c1⟩:=a0.c2
 have hval:=rvValid_any ⟨nx,L⟩ (.slice a L.length c) _ (hM.below hb1) (hP.below hb1) (by show L.length<=_;omega) (fun p hp=>by have:=hlm p hp;omega)
 have HV:=zh hval;have HP:=zh (hP.below hb1);have HB:=zh hb1;have HA0:=zh a0;have HA1:=zh a1;have HA2:=zh a2;have HLM:=zh hlm;have HR:=zh hR
 clear hval hP hM hb1 a0 a1 a2 hlm hR
 go_enter Tryz.func14,Tryz.ntmps14
 go_wp2_with fail
 generalize ((w.alloc (.cells #[.int .i64 nx,.slice a L.length c] 24)).alloc (.cells #[.int .i64 id] 3)).alloc (.cells #[.int .i64 0,.slice none 0 0] 24)=w1 at*
 refine HV.out.mono ?_
 rintro e w2 ⟨rfl,hb2⟩
 have a0:=HA0.out.below hb2 (by omega);have a1:=HA1.out.below hb2 (by omega);have a2:=HA2.out.below hb2 (by omega)
 have x0:=a0.cell 0;have x1:=a0.cell 1
 have r0:=a2.cell 0;have r1:=a2.cell 1;have r2:=a2.free 0;have r3:=a2.free 1
 have z0:=a1.cell 0
 simp only[List.getElem?_toArray,List.getElem?_cons_zero,List.getElem?_cons_succ] at x0 x1 r0 r1 z0
 have hP2:=HP.out.below hb2
 have hB2:=HB.out.trans (hb2.mono HB.out.size)
 have hs2:w.heap.size+3<=w2.heap.size:=Nat.le_trans hz1 hb2.size
 have HA02:=zh a0;have HA12:=zh a1;have HA22:=zh a2;have HB2:=zh hB2
 have hfd:=rvFind_any nx id _ L w2 hP2 (by omega)
 have HFD:=zh hfd;have HP2:=zh hP2
 clear hP2 hB2 hb2 a0 a1 a2 c0 c1 hfd HV HP HB HA0 HA1 HA2
 cases hq:Own.queueOK ⟨nx,L⟩ with
 | false =>
   have e:R=(Own.Queue.none,1):=by rw[HR.out,hq];rfl
   have HE:=zh e;clear e
   go_wp2_with fail
   have F2:=(HA22.out.set 0 (.int .i64 0)).set 1 (.slice none 0 0)
   refine done_ct rfl rfl rfl (load_row F2 Tryz.underlying24 rfl info_Queue) ⟨⟨.agg #[.int .i64 0,.slice none 0 0],?_,?_⟩,?_⟩
   ·rw[HE.out];rfl
   ·rw[HE.out];exact⟨_,rfl,Own.POwn.nil _ _⟩
   ·exact(HB2.out.setCell (p:=⟨w.heap.size+1+1,0,none⟩) (by show w.heap.size<=w.heap.size+1+1;omega) _).setCell (p:=⟨w.heap.size+1+1,1,none⟩) (by show w.heap.size<=w.heap.size+1+1;omega) _
 | true =>
   have e:R=if (Own.findP L id).isNone=true then (Own.Queue.none,6) else (Own.without ⟨nx,L⟩ id,0):=by rw[HR.out,hq];rfl
   have HE:=zh e;clear e
   clear r0 r1 r2 r3
   go_wp2_with fail
   refine HFD.out.mono ?_
   rintro e w3 ⟨⟨i,rfl,hi⟩,hb3⟩
   have a0:=HA02.out.below hb3 (by omega);have a1:=HA12.out.below hb3 (by omega);have a2:=HA22.out.below hb3 (by omega)
   have y0:=a0.cell 0;have y1:=a0.cell 1
   have r0:=a2.cell 0;have r1:=a2.cell 1;have r2:=a2.free 0;have r3:=a2.free 1
   have u0:=a1.cell 0
   simp only[List.getElem?_toArray,List.getElem?_cons_zero,List.getElem?_cons_succ] at y0 y1 r0 r1 u0
   have hkp:=rvKept_any 48 #[.pointer (some ⟨w.heap.size+1,0,none⟩)] (by intros;rfl) (fun p:Own.Proposal => !decide (p.id=id)) nx _ L w3 (HP2.out.below hb3) hls HLM.out (fun W x u hb=>rvWithdraw1_any x u _ id W ((hb.cell (p:=⟨w.heap.size+1,0,none⟩) a1.lt).trans u0))
   have HKP:=zh hkp;have HA23:=zh a2;have HB3:=zh (HB2.out.trans (hb3.mono HB2.out.size))
   have hs3:=Nat.le_trans hs2 hb3.size
   have hfi:(i<0/\Own.findP L id=none)\/∃ j:Nat,∃ hj:j<L.length,i=(j:Int)/\Own.findP L id=some L[j]:=hi.find
   clear hkp a0 a1 a2 hb3 hi HA22 HA12 HA02 HB2 x0 x1 z0 u0
   rcases hfi with ⟨hi,hn⟩ | ⟨j,hj,rfl,hn⟩
   ·have di:decide (i<0)=true:=decide_eq_true hi
    have e:R=(Own.Queue.none,6):=by rw[HE.out,hn];rfl
    have HE2:=zh e;clear e
    go_wp2_with fail
    have F2:=(HA23.out.set 0 (.int .i64 0)).set 1 (.slice none 0 0)
    refine done_ct rfl rfl rfl (load_row F2 Tryz.underlying24 rfl info_Queue) ⟨⟨.agg #[.int .i64 0,.slice none 0 0],?_,?_⟩,?_⟩
    ·rw[HE2.out];rfl
    ·rw[HE2.out];exact⟨_,rfl,Own.POwn.nil _ _⟩
    ·exact(HB3.out.setCell (p:=⟨w.heap.size+1+1,0,none⟩) (by show w.heap.size<=w.heap.size+1+1;omega) _).setCell (p:=⟨w.heap.size+1+1,1,none⟩) (by show w.heap.size<=w.heap.size+1+1;omega) _
   ·have di:decide ((j:Int)<0)=false:=decide_eq_false (by omega)
    have e:R=(⟨nx,L.filter fun p => !decide (p.id=id)⟩,0):=by rw[HE.out,hn];rfl
    have HE2:=zh e;clear e
    clear r0 r1 r2 r3
    go_wp2_with fail
    refine HKP.out.mono ?_
    rintro e w4 ⟨⟨v',rfl,hpo⟩,hb4⟩
    obtain⟨va,vc,rfl⟩:=hpo.one
    obtain⟨M,hM⟩:∃ M,M=(L.filter fun p => !decide (p.id=id)).length:=⟨_,rfl⟩
    rw[<- hM] at hpo ⊢
    have a3:=HA23.out.below hb4 (by omega)
    have r0:=a3.cell 0;have r1:=a3.cell 1;have r2:=a3.free 0;have r3:=a3.free 1
    simp only[List.getElem?_toArray,List.getElem?_cons_zero,List.getElem?_cons_succ] at r0 r1
    have HA3:=zh a3;have HPO:=zh hpo;have HB4:=zh (HB3.out.trans (hb4.mono HB3.out.size))
    clear a3 hpo hb4 hM
    go_wp2_with fail
    have F2:=(HA3.out.set 0 (.int .i64 nx)).set 1 (.slice va M vc)
    refine done_ct rfl rfl rfl (load_row F2 Tryz.underlying24 rfl info_Queue) ⟨⟨.agg #[.int .i64 nx,.slice va M vc],?_,?_⟩,?_⟩
    ·rw[HE2.out];rfl
    ·rw[HE2.out]
     refine⟨_,rfl,Own.POwn.base (B:=w3.heap.size+3) (HPO.out.keep (by simp[World.setCell]) (fun k hk _=>?_)) (by omega)⟩
     have hk1:k≠w.heap.size+1+1:=by omega
     rw[heap_setCell_other _ _ _ _ hk1,heap_setCell_other _ _ _ _ hk1]
    ·exact(HB4.out.setCell (p:=⟨w.heap.size+1+1,0,none⟩) (by show w.heap.size<=w.heap.size+1+1;omega) _).setCell (p:=⟨w.heap.size+1+1,1,none⟩) (by show w.heap.size<=w.heap.size+1+1;omega) _
end
section
open Go Go.RowKit Go.Maps
theorem rvMessage_any (p:Own.Proposal) (ag:Bool) (v:Value) (w:World) (h0:0<=p.id) (h1:p.id<9223372036854775808) (h2:p.path.size<=1000000) (h3:p.digest.size<=1000000):
 Calls Tryz.prog 23 #[.agg #[.int .i64 p.id,.string p.path,.string p.digest,.int .i64 p.opened,.int .i64 p.expires,v],.bool ag] w fun e w' => e=.returned (.string (Own.messageOf p ag))/\Below w.heap.size w w' :=by
 obtain⟨R,hR⟩:∃ R,R=Own.messageOf p ag:=⟨_,rfl⟩
 rw[<- hR]
 unfold Own.messageOf at hR
 obtain⟨id,pa,di,op,ex,vs⟩:=p
 dsimp only at*
 obtain⟨n,rfl⟩:∃ n:Nat,id=(n:Int):=⟨id.toNat,by omega⟩
 rw[Int.toNat_natCast] at hR
 have a0:=At.new w 46 #[.int .i64 (n:Int),.string pa,.string di,.int .i64 op,.int .i64 ex,v]
 have hb1:Below w.heap.size w (w.alloc (.cells #[.int .i64 (n:Int),.string pa,.string di,.int .i64 op,.int .i64 ex,v] 46)):=(Below.refl _ _).alloc (Nat.le_refl _) _
 have c0:=a0.cell 0;have c1:=a0.cell 1
 simp only[List.getElem?_toArray,List.getElem?_cons_zero,List.getElem?_cons_succ] at c0 c1
 have HA:=zh a0;have HB:=zh hb1;have HR:=zh hR
 have H1:=zh h1;have H2:=zh h2;have H3:=zh h3
 clear hR a0 hb1 h0 h1 h2 h3
 go_enter Tryz.func23,Tryz.ntmps23
 cases ag with
 | true =>
   go_upto_region 4 with fail
   obtain⟨T,hT⟩:∃ T:ByteArray,T=⟨#[13]⟩:=⟨_,rfl⟩
   rw[<- hT]
   have zT:T.size=1:=by rw[hT];rfl
   have HT:=zh hT;clear hT
   generalize w.alloc (.cells #[.int .i64 (n:Int),.string pa,.string di,.int .i64 op,.int .i64 ex,v] 46)=w1 at*
   go_wp2_with fail
   refine(cUint_any n w1 (by have:=H1.out;omega)).mono ?_
   rintro e w2 ⟨rfl,hb2⟩
   have a2:=HA.out.below hb2 HA.out.lt
   have q1:=a2.cell 1;have q2:=a2.cell 2
   simp only[List.getElem?_toArray,List.getElem?_cons_zero,List.getElem?_cons_succ] at q1 q2
   have HA2:=zh a2;have HB2:=zh (HB.out.trans (hb2.mono HB.out.size))
   clear a2 hb2 c0 c1
   obtain⟨U,hU⟩:∃ U,U=Cod.uns n:=⟨_,rfl⟩
   rw[<- hU]
   have zU:U.size<=10:=by rw[hU];exact Cod.uns_le n
   have HU:=zh hU;clear hU
   go_wp2_with fail
   refine Lex.wp_region_lexN (fun j=>j=w.heap.size) [8] 10 [6,4] (by kernel_rfl) (by kernel_rfl) (by kernel_rfl) ?_
   simp only[Lex.wpCuts,List.take_succ_cons,List.take_zero,List.drop_succ_cons,List.drop_zero]
   go_wp2_with fail
   refine(cText_any pa _ (by have:=H2.out;omega)).mono ?_
   rintro e w3 ⟨rfl,hb3⟩
   have hb3' : Below w2.heap.size w2 w3:=(Below.refl w2.heap.size w2).drew.trans hb3
   have a3:=HA2.out.below hb3' HA2.out.lt
   have p2:=a3.cell 2
   simp only[List.getElem?_toArray,List.getElem?_cons_zero,List.getElem?_cons_succ] at p2
   have HB3:=zh hb3';have HA3:=zh a3
   clear hb3 hb3' a3
   obtain⟨TP,hTP⟩:∃ x,x=Cod.text pa:=⟨_,rfl⟩
   rw[<- hTP]
   have zP:TP.size<=1000010:=by rw[hTP];show(Cod.uns pa.size++pa).size<=_;rw[ByteArray.size_append];have:=Cod.uns_le pa.size;have:=H2.out;omega
   have HTP:=zh hTP;clear hTP
   go_wp2_with fail
   refine Lex.Mid.intro (fun j hj _=>by rw[hj];exact HB3.out.block _ HA2.out.lt) ?_
   go_wp2_with fail
   refine(cText_any di _ (by have:=H3.out;omega)).mono ?_
   rintro e w4 ⟨rfl,hb4⟩
   have hb4' : Below w2.heap.size w2 w4:=HB3.out.trans (hb4.mono HB3.out.size)
   have HB4:=zh hb4'
   clear hb4 hb4'
   obtain⟨TD,hTD⟩:∃ x,x=Cod.text di:=⟨_,rfl⟩
   rw[<- hTD]
   have zD:TD.size<=1000010:=by rw[hTD];show(Cod.uns di.size++di).size<=_;rw[ByteArray.size_append];have:=Cod.uns_le di.size;have:=H3.out;omega
   have HTD:=zh hTD;clear hTD
   go_wp2_with fail
   refine Lex.Mid.intro (fun j hj _=>by rw[hj];exact HB4.out.block _ HA2.out.lt) ?_
   go_wp2_with fail
   refine Lex.EndsN.intro (by kernel_rfl) ⟨⟨rfl,by show(w2.cell? ⟨w.heap.size,2,none⟩).isSome=true;rw[q2];rfl⟩,trivial⟩ ?_
   go_wp2_with fail
   go_ret
   refine⟨?_,HB2.out.trans (HB4.out.mono HB2.out.size)⟩
   rw[HR.out,HT.out,HU.out,HTP.out,HTD.out]
   rfl
 | false =>
   go_upto_region 4 with fail
   obtain⟨T,hT⟩:∃ T:ByteArray,T=⟨#[14]⟩:=⟨_,rfl⟩
   rw[<- hT]
   have zT:T.size=1:=by rw[hT];rfl
   have HT:=zh hT;clear hT
   generalize w.alloc (.cells #[.int .i64 (n:Int),.string pa,.string di,.int .i64 op,.int .i64 ex,v] 46)=w1 at*
   go_wp2_with fail
   refine(cUint_any n w1 (by have:=H1.out;omega)).mono ?_
   rintro e w2 ⟨rfl,hb2⟩
   have a2:=HA.out.below hb2 HA.out.lt
   have q1:=a2.cell 1;have q2:=a2.cell 2
   simp only[List.getElem?_toArray,List.getElem?_cons_zero,List.getElem?_cons_succ] at q1 q2
   have HA2:=zh a2;have HB2:=zh (HB.out.trans (hb2.mono HB.out.size))
   clear a2 hb2 c0 c1
   obtain⟨U,hU⟩:∃ U,U=Cod.uns n:=⟨_,rfl⟩
   rw[<- hU]
   have zU:U.size<=10:=by rw[hU];exact Cod.uns_le n
   have HU:=zh hU;clear hU
   go_wp2_with fail
   refine Lex.wp_region_lexN (fun j=>j=w.heap.size) [8] 10 [6,4] (by kernel_rfl) (by kernel_rfl) (by kernel_rfl) ?_
   simp only[Lex.wpCuts,List.take_succ_cons,List.take_zero,List.drop_succ_cons,List.drop_zero]
   go_wp2_with fail
   refine(cText_any pa _ (by have:=H2.out;omega)).mono ?_
   rintro e w3 ⟨rfl,hb3⟩
   have hb3' : Below w2.heap.size w2 w3:=(Below.refl w2.heap.size w2).drew.trans hb3
   have a3:=HA2.out.below hb3' HA2.out.lt
   have p2:=a3.cell 2
   simp only[List.getElem?_toArray,List.getElem?_cons_zero,List.getElem?_cons_succ] at p2
   have HB3:=zh hb3';have HA3:=zh a3
   clear hb3 hb3' a3
   obtain⟨TP,hTP⟩:∃ x,x=Cod.text pa:=⟨_,rfl⟩
   rw[<- hTP]
   have zP:TP.size<=1000010:=by rw[hTP];show(Cod.uns pa.size++pa).size<=_;rw[ByteArray.size_append];have:=Cod.uns_le pa.size;have:=H2.out;omega
   have HTP:=zh hTP;clear hTP
   go_wp2_with fail
   refine Lex.Mid.intro (fun j hj _=>by rw[hj];exact HB3.out.block _ HA2.out.lt) ?_
   go_wp2_with fail
   refine(cText_any di _ (by have:=H3.out;omega)).mono ?_
   rintro e w4 ⟨rfl,hb4⟩
   have hb4' : Below w2.heap.size w2 w4:=HB3.out.trans (hb4.mono HB3.out.size)
   have HB4:=zh hb4'
   clear hb4 hb4'
   obtain⟨TD,hTD⟩:∃ x,x=Cod.text di:=⟨_,rfl⟩
   rw[<- hTD]
   have zD:TD.size<=1000010:=by rw[hTD];show(Cod.uns di.size++di).size<=_;rw[ByteArray.size_append];have:=Cod.uns_le di.size;have:=H3.out;omega
   have HTD:=zh hTD;clear hTD
   go_wp2_with fail
   refine Lex.Mid.intro (fun j hj _=>by rw[hj];exact HB4.out.block _ HA2.out.lt) ?_
   go_wp2_with fail
   refine Lex.EndsN.intro (by kernel_rfl) ⟨⟨rfl,by show(w2.cell? ⟨w.heap.size,2,none⟩).isSome=true;rw[q2];rfl⟩,trivial⟩ ?_
   go_wp2_with fail
   go_ret
   refine⟨?_,HB2.out.trans (HB4.out.mono HB2.out.size)⟩
   rw[HR.out,HT.out,HU.out,HTP.out,HTD.out]
   rfl
end
section
open Go Go.RowKit Go.Maps
namespace Lex
section
variable {P:Program} {ops:Array Oper} {Q:Exit->Act->World->Prop}
abbrev Grown (w w' : World):Prop:=Below w.heap.size w w'
structure Kept (lo:Nat) (w1 w' : World):Prop where
 size:w1.heap.size<=w'.heap.size
 block:∀ b,lo<=b->b<w1.heap.size->w'.heap[b]? = w1.heap[b]?
theorem Kept.refl (lo:Nat) (w:World):Kept lo w w:=⟨Nat.le_refl _,fun _ _ _=>rfl⟩
theorem Kept.of_below {lo:Nat} {w w' : World} (h:Below w.heap.size w w'):Kept lo w w' :=⟨h.size,fun b _ hb=>h.block b hb⟩
theorem Kept.grown {lo:Nat} {w1 w w' : World} (h:Kept lo w1 w) (hg:Grown w w'):Kept lo w1 w' :=
 ⟨Nat.le_trans h.size hg.size,fun b h1 h2=>(hg.block b (Nat.lt_of_lt_of_le h2 h.size)).trans (h.block b h1 h2)⟩
theorem Kept.kept {lo st:Nat} {w1 w w' : World} (h:Kept lo w1 w) (hs:st<=lo) (hg:Kept st w w'):Kept lo w1 w' :=
 ⟨Nat.le_trans h.size hg.size,fun b h1 h2=>(hg.block b (Nat.le_trans hs h1) (Nat.lt_of_lt_of_le h2 h.size)).trans (h.block b h1 h2)⟩
theorem Kept.at_ {w w' : World} {cs:Array Value} {t:TypeId} (h:Kept w.heap.size (w.alloc (.cells cs t)) w'):At w' w.heap.size t cs:=by
 have:=At.new w t cs
 unfold At at this ⊢
 rw[h.block _ (Nat.le_refl _) (by simp),this]
def Off (iv:List (Nat × Nat)) (lo hi:Nat):Prop:=∀ x∈iv,hi<=x.1\/x.2<=lo
def Bd (st:Nat) (iv:List (Nat × Nat)) (w:World):Prop:=st<=w.heap.size/\∀ x∈iv,x.2<=w.heap.size
theorem more_grown {w w' : World} (h:Grown w w'):More w w' :=fun i o hi=>by
 rw[h.block i (Array.getElem?_eq_some_iff.1 hi).1]
 exact hi
theorem Makes.below {α : Type} {s:Sem α} {w w' : World} {a : α} (h:Makes P s) (hr:s.run P w=.ok a w'):Below w.heap.size w w' :=by
 induction s generalizing w w' with
 | pure x =>
   simp only[Sem.run,Result.ok.injEq] at hr
   obtain⟨rfl,rfl⟩:=hr
   exact Below.refl _ _
 | program k ih=>exact ih P h hr
 | mark m k ih=>exact ih h hr
 | halt h0=>simp[Sem.run] at hr
 | load m ad k ih =>
   simp only[Sem.run] at hr
   split at hr
   ·exact ih _ (h _) hr
   ·split at hr
    ·exact ih _ (h _) hr
    ·simp at hr
 | getObj r k ih =>
   simp only[Sem.run] at hr
   split at hr
   ·simp at hr
   ·exact ih _ (h _) hr
   ·simp at hr
 | new o k ih =>
   simp only[Sem.run] at hr
   have h1:Below w.heap.size w { w with heap:=w.heap.push o } :=⟨rfl,rfl,rfl,by simp,fun k hk=>by
    show(w.heap.push o)[k]? = _
    rw[Array.getElem?_push]
    simp[Nat.ne_of_lt hk]⟩
   exact h1.trans ((ih _ (h _) hr).mono h1.size)
 | store m ad v k ih=>exact h.elim
 | shape r k ih=>exact h.elim
 | freeze ad n k ih=>exact h.elim
 | frozen ad k ih=>exact h.elim
 | setObj r o k ih=>exact h.elim
 | choose q k ih =>
   simp only[Sem.run] at hr
   split at hr
   ·exact((h _).run hr).elim
   ·exact((h _).run hr).elim
 | sys c k ih=>exact h.elim
theorem below_val {s:Sem Value} (h:Makes P s) {n:Next} {w w' : World} (hr:(s >>= fun x=>pure (.value x):Sem Next).run P w=.ok n w'):Below w.heap.size w w' :=by
 obtain⟨v,rfl,hv⟩:=run_val hr
 exact h.below hv
theorem below_of {o:Oper} {ρ : Operand->Value} (hk:kind P o=2) {n:Next} {w w' : World} (hr:(execOp ρ o).run P w=.ok n w'):Below w.heap.size w w' :=by
 obtain⟨dst,op,type,pos,after,guard⟩:=o
 cases op <;> simp only[kind] at hk <;> try (exact absurd hk (by decide))
 case alloc t=>exact below_val (makes_alloc _) hr
 case box t x=>exact below_val (makes_box _ _) hr
 case buildSlice t n ps=>exact below_val (makes_buildSlice _ _ _) hr
 all_goals (split at hk <;> cases hk)
theorem Yl.below2 {o:Oper} {a:Act} {w w' : World} {v:Value} (h:Yl P ops o a w v w') (hk:kind P o=2):Below w.heap.size w w' :=by
 rcases h with ⟨_,hr⟩ | ⟨_,_,rfl⟩
 ·exact below_of hk hr
 ·exact Below.refl _ _
theorem good_end {a a' : Act} {k:Nat} {o:Oper} (hk:ops[k]? = some o) (hkd:kind P o=0) (hg:goodAll P ops a' = true) (hsame:needs o=true->∀ t,t∈o.looksAt ops->a'.tmps[t]? = a.tmps[t]?):
 Region.wanted o (yielded ops a.tmps)=true->Quiet P (execOp a.eval o):=by
 intro hw
 refine quiet_of hkd ?_
 cases hn:needs o with
 | false=>exact good_free hn _
 | true =>
   replace hsame:=hsame hn
   have hg1:=Array.all_eq_true_iff_forall_mem.1 hg o (Array.mem_of_getElem? hk)
   have hev:∀ x∈o.op.operands,a'.eval x=a.eval x:=fun x hx=>eval_same fun t e=>hsame t (by
    subst e
    exact List.mem_append_left _ (List.mem_filterMap.2 ⟨.tmp t,by simpa using hx,rfl⟩))
   have hwn:Region.wanted o (yielded ops a'.tmps)=Region.wanted o (yielded ops a.tmps):=by
    unfold Region.wanted
    cases hgd:o.guard with
    | none=>rfl
    | some gw =>
      obtain⟨g,want⟩:=gw
      have:yielded ops a'.tmps g=yielded ops a.tmps g:=by
       unfold yielded
       cases hd:(ops[g]?).bind (·.dst) with
       | none=>rfl
       | some t =>
         have:=hsame t (by simp[Oper.looksAt,hgd,hd])
         simp[this]
      simp only[this]
   rw[hkd,hwn,hw] at hg1
   simp at hg1
   rw[<- good_congr o hev]
   exact hg1
theorem inB_end {B:Nat->Prop} {w0:World} {fl:List Nat} {a a' : Act} {k:Nat} {o:Oper} (hk:ops[k]? = some o) (hkd:kind P o=1) (hm:k∈fl) (hin:allIn B w0 ops a' fl)
 (hsame:∀ t,t∈o.looksAt ops->a'.tmps[t]? = a.tmps[t]?):Region.wanted o (yielded ops a.tmps)=true->Firm P (Same B w0) (execOp a.eval o):=by
 intro hw
 have hev:∀ x∈o.op.operands,a'.eval x=a.eval x:=fun x hx=>eval_same fun t e=>hsame t (by
  subst e
  exact List.mem_append_left _ (List.mem_filterMap.2 ⟨.tmp t,by simpa using hx,rfl⟩))
 have hwn:Region.wanted o (yielded ops a'.tmps)=Region.wanted o (yielded ops a.tmps):=by
  unfold Region.wanted
  cases hgd:o.guard with
  | none=>rfl
  | some gw =>
    obtain⟨g,want⟩:=gw
    have:yielded ops a'.tmps g=yielded ops a.tmps g:=by
     unfold yielded
     cases hd:(ops[g]?).bind (·.dst) with
     | none=>rfl
     | some t =>
       have:=hsame t (by simp[Oper.looksAt,hgd,hd])
       simp[this]
    simp only[this]
 have h1:=allIn_at hin k hm o hk (by rw[hwn];exact hw)
 refine firm_of hkd ?_
 obtain⟨dst,op,type,pos,after,guard⟩:=o
 cases op <;> simp only[inB] at h1 ⊢
 case load t x=>rw[<- hev x (by simp[Op.operands])];exact h1
/-! ### The walk -/
def plain (P:Program) (ops:Array Oper) (i:Nat):Bool:=match ops[i]? with | some o=>kind P o==0 || kind P o==1 | none=>false
def wpG (P:Program) (ops:Array Oper) (Q:Exit->Act->World->Prop) (S:World->Prop) (m:Nat) (fa:List Nat) (st:Nat):List Nat->List (Nat × Nat)->World->Act->World->Prop
 | [],_,wr,a,w=>w=wr/\Q .normal a w
 | i :: l,iv,wr,a,w =>
   if (i::l).any (fun x=>fa.contains x)=false then w=wr/\wpS P ops Q S m (i::l) a w
   else if fa.contains i=true then w=wr/\∀ w0,st<=w0.heap.size->wpOp P ops Q i (fun a1 w1=>∀ w',Grown w w' -> Kept w0.heap.size w1 w' -> Off iv w0.heap.size w1.heap.size->wpG P ops Q S m fa st l ((w0.heap.size,w1.heap.size)::iv) w' a1 w') a w0
   else if plain P ops i=true then wpOp P ops Q i (fun a1 w1=>wpG P ops Q S m fa st l iv wr a1 w1) a w
   else w=wr/\∀ w',Grown w w' -> wpOp P ops Q i (fun a1 w1=>S w1/\Kept st w' w1/\wpG P ops Q S m fa st l ((w'.heap.size,w1.heap.size)::iv) w1 a1 w1) a w'
section
variable {S:World->Prop} {m:Nat} {fa:List Nat} {st:Nat} {i:Nat} {l:List Nat} {iv:List (Nat × Nat)} {wr w:World} {a:Act}
theorem wpG_none (h:l.any (fun x=>fa.contains x)=false):wpG P ops Q S m fa st l iv wr a w↔w=wr/\wpS P ops Q S m l a w:=by
 cases l with
 | nil=>exact Iff.rfl
 | cons i l=>unfold wpG;rw[if_pos h]
theorem wpG_fa (h:fa.contains i=true):wpG P ops Q S m fa st (i::l) iv wr a w↔w=wr/\∀ w0,st<=w0.heap.size->wpOp P ops Q i (fun a1 w1=>∀ w',Grown w w' -> Kept w0.heap.size w1 w' -> Off iv w0.heap.size w1.heap.size->wpG P ops Q S m fa st l ((w0.heap.size,w1.heap.size)::iv) w' a1 w') a w0:=by
 conv=>lhs;unfold wpG
 rw[if_neg (by simp only[List.any_cons,h,Bool.true_or];decide),if_pos h]
theorem wpG_plain (h0:(i::l).any (fun x=>fa.contains x)=true) (h1:fa.contains i=false) (h:plain P ops i=true):wpG P ops Q S m fa st (i::l) iv wr a w↔wpOp P ops Q i (fun a1 w1=>wpG P ops Q S m fa st l iv wr a1 w1) a w:=by
 conv=>lhs;unfold wpG
 rw[if_neg (by rw[h0];decide),if_neg (by rw[h1];decide),if_pos h]
theorem wpG_wild (h0:(i::l).any (fun x=>fa.contains x)=true) (h1:fa.contains i=false) (h:plain P ops i=false):wpG P ops Q S m fa st (i::l) iv wr a w↔w=wr/\∀ w',Grown w w' -> wpOp P ops Q i (fun a1 w1=>S w1/\Kept st w' w1/\wpG P ops Q S m fa st l ((w'.heap.size,w1.heap.size)::iv) w1 a1 w1) a w' :=by
 conv=>lhs;unfold wpG
 rw[if_neg (by rw[h0];decide),if_neg (by rw[h1];decide),if_neg (by rw[h];decide)]
end
theorem wpG_iv {S:World->Prop} {m:Nat} {fa:List Nat} {st:Nat} : ∀ (l:List Nat) (iv iv2:List (Nat × Nat)) (wr:World) (a:Act) (w:World),(∀ x∈iv,x∈iv2)->wpG P ops Q S m fa st l iv wr a w->wpG P ops Q S m fa st l iv2 wr a w
 | [],_,_,_,_,_,_,h=>h
 | i :: l,iv,iv2,wr,a,w,hs,h => by
   cases h0:(i::l).any (fun x=>fa.contains x) with
   | false=>rw[wpG_none h0] at h ⊢;exact h
   | true =>
     cases h1:fa.contains i with
     | true =>
       rw[wpG_fa h1] at h ⊢
       refine⟨h.1,fun w0 hw0=>wpOp_mono (fun a1 w1 hh w' hg hk ho=>?_) (h.2 w0 hw0)⟩
       exact wpG_iv l _ _ _ _ _ (fun x hx=>by
        rcases List.mem_cons.1 hx with rfl | hx
        ·exact List.mem_cons_self
        ·exact List.mem_cons_of_mem _ (hs x hx)) (hh w' hg hk fun x hx=>ho x (hs x hx))
     | false =>
       cases h2:plain P ops i with
       | true =>
         rw[wpG_plain h0 h1 h2] at h ⊢
         exact wpOp_mono (fun a1 w1 hh=>wpG_iv l _ _ _ _ _ hs hh) h
       | false =>
         rw[wpG_wild h0 h1 h2] at h ⊢
         refine⟨h.1,fun w' hg=>wpOp_mono (fun a1 w1 hh=>⟨hh.1,hh.2.1,?_⟩) (h.2 w' hg)⟩
         exact wpG_iv l _ _ _ _ _ (fun x hx=>by
          rcases List.mem_cons.1 hx with rfl | hx
          ·exact List.mem_cons_self
          ·exact List.mem_cons_of_mem _ (hs x hx)) hh.2.2
/-! ### The condition -/
def okPairF (P:Program) (ops:Array Oper) (fl fa:List Nat) (a b:Nat):Bool:=
 match ops[a]?,ops[b]? with
 | some oa,some ob => oa.apart ops ob && (if fa.contains b then true else if fa.contains a then kind P ob == 0 || (kind P ob == 1 && fl.contains b)
    else kind P ob==0 || kind P oa==0 || (kind P oa==1&&kind P ob==1) || (kind P oa==1&&fl.contains a) || (kind P ob==1&&fl.contains b))
 | _,_=>false
def okAllF (P:Program) (ops:Array Oper) (fl fa:List Nat) (m:Nat):Bool:=
 Region.noSelect ops&&
 okRows ops (fun a b=>decide (b<m)&&okPairF P ops fl fa a b) ops.size ops.size 0 0&&
 ((List.range ops.size).all fun k => match ops[k]? with
   | some o => !needs o || (List.range ops.size).all fun i=>decide (i<k) || (match ops[i]? with | some o' => (match o'.dst with | some t => !(o.looksAt ops).contains t | none=>true) | none=>true)
   | none=>true)&&
 (fl.all fun k => match ops[k]? with
   | some o=>(List.range ops.size).all fun i=>decide (i<k) || (match ops[i]? with | some o' => (match o'.dst with | some t => !(o.looksAt ops).contains t | none=>true) | none=>true)
   | none=>true)&&
 (fa.all fun k=>decide (k<m)&&match ops[k]? with | some o=>kind P o==2 | none=>false)
structure OkF (P:Program) (ops:Array Oper) (fl fa:List Nat) (m:Nat):Prop where
 sel:∀ (j:Nat) (o:Oper) (cs:Array SelectCase) (b:Bool),ops[j]? = some o->o.op≠.select cs b
 top:∀ (b:Nat) (ob:Oper),ops[b]? = some ob->∀ e∈ob.after,Region.binds .any e=true->e.on<b
 pair:∀ b a,b<ops.size->a<b->waits ops ops.size b a=true\/(b<m/\okPairF P ops fl fa a b=true)
 keep:∀ (k:Nat) (o:Oper),ops[k]? = some o->needs o=true\/k∈fl->∀ i,k<=i->∀ (o' : Oper),ops[i]? = some o' -> ∀ t,o'.dst=some t->t ∉ o.looksAt ops
 float:∀ k,fa.contains k=true->k<m/\∀ o,ops[k]? = some o->kind P o=2
theorem okAllF_spec {fl fa:List Nat} {m:Nat} (h:okAllF P ops fl fa m=true):OkF P ops fl fa m:=by
 simp only[okAllF,Bool.and_eq_true,List.all_eq_true,List.mem_range] at h
 obtain⟨⟨⟨⟨h1,h2⟩,h3⟩,h4⟩,h5⟩:=h
 refine⟨fun j o cs b hj=>Region.noSelect_spec h1 j o cs b hj,fun b ob hb e he hbi=>?_,fun b a hb ha=>?_,fun k o hk hn i hki o' hi t ht=>?_,fun k hk=>?_⟩
 ·exact(okRows_waits h2 hb).1 e he hbi
 ·have:=(okRows_waits h2 (Array.getElem?_eq_getElem hb)).2 a ha
  simpa using this
 ·have hkl:k<ops.size:=(Array.getElem?_eq_some_iff.1 hk).1
  have hil:i<ops.size:=(Array.getElem?_eq_some_iff.1 hi).1
  have key:((List.range ops.size).all fun i=>decide (i<k) || (match ops[i]? with | some o' => (match o'.dst with | some t => !(o.looksAt ops).contains t | none=>true) | none=>true))=true:=by
   rcases hn with hn | hn
   ·have:=h3 k hkl
    rw[hk] at this
    simpa [hn] using this
   ·have:=h4 k hn
    rw[hk] at this
    exact this
  simp only[List.all_eq_true,List.mem_range] at key
  have:=key i hil
  rw[hi] at this
  simp only[ht,Bool.or_eq_true,decide_eq_true_eq] at this
  rcases this with this | this
  ·omega
  ·simpa using this
 ·have hm:k∈fa:=by simpa using hk
  obtain⟨q1,q2⟩:=h5 k hm
  refine⟨by simpa using q1,fun o ho=>?_⟩
  rw[ho] at q2
  simpa using q2
theorem OkF.apart {fl fa:List Nat} {a b:Nat} {oa ob:Oper} (h:okPairF P ops fl fa a b=true) (ha:ops[a]? = some oa) (hb:ops[b]? = some ob):oa.apart ops ob=true:=by
 simp only[okPairF,ha,hb,Bool.and_eq_true] at h
 exact h.1
/-! ### The walk comes to an end -/
section
variable {B:Nat->Prop} {wS:World} {fl fa:List Nat} {m st:Nat}
theorem mem_swap {α : Type} {x a b : α} {l:List α} (h:x∈a::b::l):x∈b::a::l:=by
 rcases List.mem_cons.1 h with rfl | h
 ·exact List.mem_cons_of_mem _ List.mem_cons_self
 ·rcases List.mem_cons.1 h with rfl | h
  ·exact List.mem_cons_self
  ·exact List.mem_cons_of_mem _ (List.mem_cons_of_mem _ h)
theorem tmps_step {i:Nat} {l:List Nat} {o:Oper} (hi:ops[i]? = some o) {a a1 a' : Act} (hR:Rch a o.dst a1) (ht:∀ t,(∀ j∈l,∀ o,ops[j]? = some o->o.dst≠some t)->a'.tmps[t]? = a1.tmps[t]?):
 ∀ t,(∀ j∈i::l,∀ o,ops[j]? = some o->o.dst≠some t)->a'.tmps[t]? = a.tmps[t]? :=fun t hn=>by
 obtain⟨v,ds,rfl⟩:=hR
 rw[ht t fun j hj o ho=>hn j (by simp[hj]) o ho]
 have:=hn i (by simp) _ hi
 cases hd:o.dst with
 | none=>rfl
 | some d =>
   have hne:d≠t:=fun e=>this (by rw[hd,e])
   simp[Act.put,Array.getElem?_setIfInBounds_ne hne]
theorem Bd.push {st:Nat} {iv:List (Nat × Nat)} {w w1:World} {lo:Nat} (h:Bd st iv w) (h1:w.heap.size<=w1.heap.size):Bd st ((lo,w1.heap.size)::iv) w1:=
 ⟨Nat.le_trans h.1 h1,fun x hx => by
   rcases List.mem_cons.1 hx with rfl | hx
   ·exact Nat.le_refl _
   ·exact Nat.le_trans (h.2 x hx) h1⟩
theorem Bd.off {st:Nat} {iv:List (Nat × Nat)} {w:World} {hi:Nat} (h:Bd st iv w):Off iv w.heap.size hi:=fun x hx=>.inr (h.2 x hx)
theorem wpG_end (hA:OkF P ops fl fa m):∀ (l:List Nat) (iv:List (Nat × Nat)) (wr:World) (a:Act) (w:World),(∀ i∈l,i<ops.size)->(l.any (fun x=>fa.contains x)=true->Bd st iv wr)->wpG P ops (EndsN P ops B wS fl Q) (Same B wS) m fa st l iv wr a w->
 ∃ a',(goodAll P ops a' = true/\allIn B wS ops a' fl)/\∀ t,(∀ i∈l,∀ o,ops[i]? = some o->o.dst≠some t)->a'.tmps[t]? = a.tmps[t]?
 | [],iv,wr,a,w,_,_,h=>⟨a,⟨h.2.2.1,h.2.2.2.1⟩,fun _ _=>rfl⟩
 | i :: l,iv,wr,a,w,hl,hb,h => by
   have hQ:NoExit (EndsN P ops B wS fl Q):=EndsN.noExit
   obtain⟨o,hi⟩:∃ o,ops[i]? = some o:=⟨_,Array.getElem?_eq_getElem (hl i (by simp))⟩
   cases h0:(i::l).any (fun x=>fa.contains x) with
   | false =>
     obtain⟨rfl,h'⟩:=(wpG_none h0).1 h
     have h2:=wpOps_post (fun e a w he=>ends_of_endsN he) _ _ _ (wpS_ops _ _ _ h')
     obtain⟨a',w',⟨_,hg,hin,_⟩,ht⟩:=fin (Q:=fun _ a w=>allIn B wS ops a fl/\Q .normal a w) (i::l) a w hl h2
     exact⟨a',⟨hg,hin⟩,ht⟩
   | true =>
     have hbd:=hb h0
     cases h1:fa.contains i with
     | true =>
       obtain⟨rfl,h'⟩:=(wpG_fa h1).1 h
       have hkd:=(hA.float i h1).2 o hi
       obtain⟨v,w1,hy,hK⟩:=yl_of hQ hi (fun _=>news_of hkd) (h' w hbd.1)
       have hb2:=hy.below2 hkd
       obtain⟨a',he,ht⟩:=wpG_end hA l _ w1 _ w1 (fun j hj=>hl j (by simp[hj])) (fun _=>hbd.push hb2.size) (hK w1 hb2 (Kept.refl _ _) hbd.off)
       exact⟨a',he,tmps_step hi (Rch.put_ a o.dst v) ht⟩
     | false =>
       cases h2:plain P ops i with
       | true =>
         obtain⟨a1,w1,hR,hK⟩:=wpOp_ex hQ hi ((wpG_plain h0 h1 h2).1 h)
         obtain⟨a',he,ht⟩:=wpG_end hA l iv wr a1 w1 (fun j hj=>hl j (by simp[hj])) (fun _=>hbd) hK
         exact⟨a',he,tmps_step hi hR ht⟩
       | false =>
         obtain⟨rfl,h'⟩:=(wpG_wild h0 h1 h2).1 h
         obtain⟨a1,w1,hR,_,hk,hK⟩:=wpOp_ex hQ hi (h' w (Below.refl _ _))
         obtain⟨a',he,ht⟩:=wpG_end hA l _ w1 a1 w1 (fun j hj=>hl j (by simp[hj])) (fun _=>hbd.push hk.size) hK
         exact⟨a',he,tmps_step hi hR ht⟩
theorem wpG_yields (hA:OkF P ops fl fa m) {i:Nat} {oi:Oper} (hi:ops[i]? = some oi) (hif:fa.contains i=true) {rest:List Nat} : ∀ (ks:List Nat) (iv:List (Nat × Nat)) (wr:World) (a:Act) (w:World),(∀ x∈ks++i::rest,x<ops.size)->(∀ k∈ks,okPairF P ops fl fa k i=true)->Bd st iv wr->
 wpG P ops (EndsN P ops B wS fl Q) (Same B wS) m fa st (ks++i::rest) iv wr a w->∀ wq,st<=wq.heap.size->∃ v w1,Yl P ops oi a wq v w1
 | [],iv,wr,a,w,hl,hp,hbd,h => fun wq hwq => by
   obtain⟨rfl,h'⟩:=(wpG_fa hif).1 h
   obtain⟨v,w1,hy,_⟩:=yl_of (EndsN.noExit) hi (fun _=>news_of ((hA.float i hif).2 oi hi)) (h' wq hwq)
   exact⟨v,w1,hy⟩
 | k :: ks,iv,wr,a,w,hl,hp,hbd,h => fun wq hwq => by
   have hQ:NoExit (EndsN P ops B wS fl Q):=EndsN.noExit
   obtain⟨ok,hk⟩:∃ o,ops[k]? = some o:=⟨_,Array.getElem?_eq_getElem (hl k (by simp))⟩
   have hap:=Oper.apart_spec (OkF.apart (hp k (by simp)) hk hi)
   have hsel:∀ cs b,oi.op≠.select cs b:=fun cs b=>hA.sel i oi cs b hi
   have h0:(k::(ks++i::rest)).any (fun x=>fa.contains x)=true:=by
    simp only[List.any_cons,List.any_append,hif,Bool.true_or,Bool.or_true]
   have back:∀ a1,Rch a ok.dst a1->(∃ v w1,Yl P ops oi a1 wq v w1)->∃ v w1,Yl P ops oi a wq v w1:=fun a1 hR ⟨v,w1,hy⟩=>by
    have he:=hR.exec (o:=oi) (ops:=ops) hsel hap.1
    exact⟨v,w1,hy.same ⟨he.1.symm,he.2.symm⟩⟩
   have hl' : ∀ x∈ks++i::rest,x<ops.size:=fun x hx=>hl x (by simp at hx ⊢;right;exact hx)
   have hp' : ∀ x∈ks,okPairF P ops fl fa x i=true:=fun x hx=>hp x (by simp[hx])
   have h:wpG P ops (EndsN P ops B wS fl Q) (Same B wS) m fa st (k::(ks++i::rest)) iv wr a w:=h
   cases h1:fa.contains k with
   | true =>
     obtain⟨rfl,h'⟩:=(wpG_fa h1).1 h
     have hkd:=(hA.float k h1).2 ok hk
     obtain⟨v,w1,hy,hK⟩:=yl_of hQ hk (fun _=>news_of hkd) (h' w hbd.1)
     have hb2:=hy.below2 hkd
     exact back _ (Rch.put_ a ok.dst v) (wpG_yields hA hi hif ks _ w1 _ w1 hl' hp' (hbd.push hb2.size) (hK w1 hb2 (Kept.refl _ _) hbd.off) wq hwq)
   | false =>
     cases h2:plain P ops k with
     | true =>
       obtain⟨a1,w1,hR,hK⟩:=wpOp_ex hQ hk ((wpG_plain h0 h1 h2).1 h)
       exact back _ hR (wpG_yields hA hi hif ks iv wr a1 w1 hl' hp' hbd hK wq hwq)
     | false =>
       obtain⟨rfl,h'⟩:=(wpG_wild h0 h1 h2).1 h
       obtain⟨a1,w1,hR,_,hkp,hK⟩:=wpOp_ex hQ hk (h' w (Below.refl _ _))
       exact back _ hR (wpG_yields hA hi hif ks _ w1 a1 w1 hl' hp' (hbd.push hkp.size) hK wq hwq)
/-! ### Steps -/
theorem plain_step (hA:OkF P ops fl fa m) {k:Nat} {ok:Oper} {L:List Nat} {iv:List (Nat × Nat)} {a:Act} {w:World} (hk:ops[k]? = some ok) (hkp:plain P ops k=true) (hkf:fa.contains k=false) (hl:∀ x∈k::L,x<ops.size) (hs:(k::L).Pairwise (· < ·))
 (hS:Same B wS w) (hb:(k::L).any (fun x=>fa.contains x)=true->Bd st iv w) (h:wpG P ops (EndsN P ops B wS fl Q) (Same B wS) m fa st (k::L) iv w a w):
 (∃ v,Yl P ops ok a w v w/\(∀ w2,More w w2->Yl P ops ok a w2 v w2)/\(kind P ok=0\/k∈fl->∀ w2,Same B wS w2->Yl P ops ok a w2 v w2)/\wpG P ops (EndsN P ops B wS fl Q) (Same B wS) m fa st L iv w (a.put ok.dst v) w):=by
 obtain⟨a',⟨hg,hin⟩,ht⟩:=wpG_end hA (k::L) iv w a w hl hb h
 have hsame:needs ok=true\/k∈fl->∀ t,t∈ok.looksAt ops->a'.tmps[t]? = a.tmps[t]? :=fun hn t hm=>ht t fun j hj o' ho' e=>hA.keep k ok hk hn j (by
  rcases List.mem_cons.1 hj with h | h
  ·omega
  ·have:=(List.pairwise_cons.1 hs).1 j h;omega) o' ho' t e hm
 have hkd:kind P ok=0\/kind P ok=1:=by simpa [plain,hk] using hkp
 have hq0:kind P ok=0->Region.wanted ok (yielded ops a.tmps)=true->Quiet P (execOp a.eval ok):=fun h0=>good_end hk h0 hg (fun hn=>hsame (.inl hn))
 have hre:Region.wanted ok (yielded ops a.tmps)=true->Reads P (execOp a.eval ok):=fun hw=>by
  rcases hkd with h0 | h1
  ·intro n w w' hr
   obtain⟨q1,q2,q3⟩:=hq0 h0 hw n w w' hr
   exact⟨q1,q2,fun w2 _=>q3 w2⟩
  ·exact reads_of h1
 have hcore:∃ v w',Yl P ops ok a w v w' /\ (∀ w'',w'' = w->w' = w'' -> wpG P ops (EndsN P ops B wS fl Q) (Same B wS) m fa st L iv w (a.put ok.dst v) w''):=by
  cases h0:(k::L).any (fun x=>fa.contains x) with
  | false =>
    have hL:L.any (fun x=>fa.contains x)=false:=by
     simp only[List.any_cons,Bool.or_eq_false_iff] at h0
     exact h0.2
    obtain⟨_,h⟩:=(wpG_none h0).1 h
    obtain⟨v,w',hy,hK⟩:=yl_of EndsN.noExit hk (fun hw=>(hre hw).news) (show wpOp P ops _ k (fun a' w' => (k<m->Same B wS w')/\wpS P ops (EndsN P ops B wS fl Q) (Same B wS) m L a' w') a w from h)
    refine⟨v,w',hy,fun w'' e1 e2=>(wpG_none hL).2 ⟨e1,?_⟩⟩
    rw[<- e2]
    exact hK.2
  | true =>
    obtain⟨v,w',hy,hK⟩:=yl_of EndsN.noExit hk (fun hw=>(hre hw).news) ((wpG_plain h0 hkf hkp).1 h)
    exact⟨v,w',hy,fun w'' _ e2=>by rw[<- e2];exact hK⟩
 obtain⟨v,w',hy,hK⟩:=hcore
 obtain⟨rfl,hm⟩:=hy.reads hre
 refine⟨v,hy,hm,fun hc=>?_,hK _ rfl rfl⟩
 have hf:Region.wanted ok (yielded ops a.tmps)=true->Firm P (Same B wS) (execOp a.eval ok):=by
  rcases hc with hc | hc
  ·exact fun hw=>(hq0 hc hw).firm
  ·rcases hkd with h0 | h1
   ·exact fun hw=>(hq0 h0 hw).firm
   ·exact inB_end hk h1 hc hin (hsame (.inr hc))
 exact(hy.firm hS hf).2
theorem wpG_of_yl {k:Nat} {ok:Oper} {L:List Nat} {iv:List (Nat × Nat)} {a:Act} {w:World} {v:Value} (hk:ops[k]? = some ok) (hkp:plain P ops k=true) (hkf:fa.contains k=false) (hS:Same B wS w) (hy:Yl P ops ok a w v w)
 (h:wpG P ops (EndsN P ops B wS fl Q) (Same B wS) m fa st L iv w (a.put ok.dst v) w):wpG P ops (EndsN P ops B wS fl Q) (Same B wS) m fa st (k::L) iv w a w:=by
 cases h0:(k::L).any (fun x=>fa.contains x) with
 | false =>
   have hL:L.any (fun x=>fa.contains x)=false:=by
    simp only[List.any_cons,Bool.or_eq_false_iff] at h0
    exact h0.2
   refine(wpG_none h0).2 ⟨rfl,?_⟩
   show wpOp P ops _ k (fun a' w' => (k<m->Same B wS w')/\wpS P ops (EndsN P ops B wS fl Q) (Same B wS) m L a' w') a w
   exact Yl.mk hk hy ⟨fun _=>hS,((wpG_none hL).1 h).2⟩
 | true=>exact(wpG_plain h0 hkf hkp).2 (Yl.mk hk hy h)
theorem wpG_of_wild {k:Nat} {L:List Nat} {iv:List (Nat × Nat)} {a:Act} {w:World} (hkp:plain P ops k=false) (hkf:fa.contains k=false)
 (h:∀ w',Grown w w' -> wpOp P ops (EndsN P ops B wS fl Q) k (fun a1 w1=>Same B wS w1/\Kept st w' w1/\wpG P ops (EndsN P ops B wS fl Q) (Same B wS) m fa st L ((w'.heap.size,w1.heap.size)::iv) w1 a1 w1) a w'):
 wpG P ops (EndsN P ops B wS fl Q) (Same B wS) m fa st (k::L) iv w a w:=by
 cases h0:(k::L).any (fun x=>fa.contains x) with
 | false =>
   have hL:L.any (fun x=>fa.contains x)=false:=by
    simp only[List.any_cons,Bool.or_eq_false_iff] at h0
    exact h0.2
   refine(wpG_none h0).2 ⟨rfl,?_⟩
   show wpOp P ops _ k (fun a' w' => (k<m->Same B wS w')/\wpS P ops (EndsN P ops B wS fl Q) (Same B wS) m L a' w') a w
   exact wpOp_mono (fun a1 w1 hh=>⟨fun _=>hh.1,((wpG_none hL).1 hh.2.2).2⟩) (h w (Below.refl _ _))
 | true=>exact(wpG_wild h0 hkf hkp).2 ⟨rfl,h⟩
theorem early (hA:OkF P ops fl fa m) {i:Nat} {oi:Oper} (hi:ops[i]? = some oi) (hif:fa.contains i=true) {rest:List Nat} {v:Value} {w0 w1:World} (hw0:st<=w0.heap.size):∀ (ks:List Nat) (iv:List (Nat × Nat)) (a:Act) (w:World),(∀ x∈ks++i::rest,x<ops.size)->(ks++i::rest).Pairwise (· < ·)->
 (∀ k∈ks,okPairF P ops fl fa k i=true)->Same B wS w->Bd st iv w->Yl P ops oi a w0 v w1->Kept w0.heap.size w1 w->Off iv w0.heap.size w1.heap.size->wpG P ops (EndsN P ops B wS fl Q) (Same B wS) m fa st (ks++i::rest) iv w a w->
 wpG P ops (EndsN P ops B wS fl Q) (Same B wS) m fa st (ks++rest) ((w0.heap.size,w1.heap.size)::iv) w (a.put oi.dst v) w
 | [],iv,a,w,hl,hs,hp,hS,hbd,hy,hkw,ho,h => by
   obtain⟨_,h⟩:=(wpG_fa hif).1 h
   obtain⟨v',w1',hy',hK⟩:=yl_of EndsN.noExit hi (fun _=>news_of ((hA.float i hif).2 oi hi)) (h w0 hw0)
   obtain⟨rfl,rfl⟩:=hy'.det hy
   exact hK w (Below.refl _ _) hkw ho
 | k :: ks,iv,a,w,hl,hs,hp,hS,hbd,hy,hkw,ho,h => by
   obtain⟨ok,hk⟩:∃ o,ops[k]? = some o:=⟨_,Array.getElem?_eq_getElem (hl k (by simp))⟩
   have hap:=Oper.apart_spec (OkF.apart (hp k (by simp)) hk hi)
   have hseli:∀ cs b,oi.op≠.select cs b:=fun cs b=>hA.sel i oi cs b hi
   have hselk:∀ cs b,ok.op≠.select cs b:=fun cs b=>hA.sel k ok cs b hk
   have hds:∀ t,oi.dst=some t->ok.dst≠some t:=fun t ht hk' => hap.2.1 t hk' ht
   have hs' :=List.pairwise_cons.1 hs
   have hl' : ∀ x∈ks++i::rest,x<ops.size:=fun x hx=>hl x (by simp at hx ⊢;right;exact hx)
   have hp' : ∀ x∈ks,okPairF P ops fl fa x i=true:=fun x hx=>hp x (by simp[hx])
   have h0:(k::(ks++i::rest)).any (fun x=>fa.contains x)=true:=by
    simp only[List.any_cons,List.any_append,hif,Bool.true_or,Bool.or_true]
   have h:wpG P ops (EndsN P ops B wS fl Q) (Same B wS) m fa st (k::(ks++i::rest)) iv w a w:=h
   show wpG P ops (EndsN P ops B wS fl Q) (Same B wS) m fa st (k::(ks++rest)) ((w0.heap.size,w1.heap.size)::iv) w (a.put oi.dst v) w
   cases h1:fa.contains k with
   | true =>
     obtain⟨_,h⟩:=(wpG_fa h1).1 h
     refine(wpG_fa h1).2 ⟨rfl,fun wk hwk=>xfer_in EndsN.noExit hk hselk hap.2.2 hds (h wk hwk) fun a1 w1k hR hK w' hg hkp hoff=>?_⟩
     have he:=hR.exec (o:=oi) (ops:=ops) hseli hap.1
     have hx:=hoff (w0.heap.size,w1.heap.size) List.mem_cons_self
     have h3:=early hA hi hif hw0 ks ((wk.heap.size,w1k.heap.size)::iv) a1 w' hl' hs'.2 hp' (hS.more (more_grown hg))
      ⟨Nat.le_trans hbd.1 hg.size,fun x hx => by
        rcases List.mem_cons.1 hx with rfl | hx
        ·exact hkp.size
        ·exact Nat.le_trans (hbd.2 x hx) hg.size⟩
      (hy.same he) (hkw.grown hg) (fun x hx' => by
        rcases List.mem_cons.1 hx' with rfl | hx'
        ·exact hx.symm
        ·exact ho x hx') (hK w' hg hkp fun x hx=>hoff x (List.mem_cons_of_mem _ hx))
     exact wpG_iv _ _ _ _ _ _ (fun x hx=>mem_swap hx) h3
   | false =>
     cases h2:plain P ops k with
     | true =>
       obtain⟨vk,hyk,hmk,_,hK⟩:=plain_step hA hk h2 h1 hl hs hS (fun _=>hbd) h
       have he:=(Rch.put_ a ok.dst vk).exec (o:=oi) (ops:=ops) hseli hap.1
       have hek:=(Rch.put_ a oi.dst v).exec (o:=ok) (ops:=ops) hselk hap.2.2
       have h3:=early hA hi hif hw0 ks iv (a.put ok.dst vk) w hl' hs'.2 hp' hS hbd (hy.same he) hkw ho hK
       refine wpG_of_yl hk h2 h1 hS (hyk.same hek) ?_
       rw[Act.put_comm a v vk hds]
       exact h3
     | false =>
       obtain⟨_,h⟩:=(wpG_wild h0 h1 h2).1 h
       refine wpG_of_wild h2 h1 fun w' hg=>xfer_in EndsN.noExit hk hselk hap.2.2 hds (h w' hg) fun a1 w1k hR hK=>?_
       obtain⟨hS1,hkp,hK⟩:=hK
       have he:=hR.exec (o:=oi) (ops:=ops) hseli hap.1
       have hkw' :=hkw.grown hg
       have h3:=early hA hi hif hw0 ks ((w'.heap.size,w1k.heap.size)::iv) a1 w1k hl' hs'.2 hp' hS1
        ⟨Nat.le_trans hbd.1 (Nat.le_trans hg.size hkp.size),fun x hx => by
          rcases List.mem_cons.1 hx with rfl | hx
          ·exact Nat.le_refl _
          ·exact Nat.le_trans (hbd.2 x hx) (Nat.le_trans hg.size hkp.size)⟩
        (hy.same he) (hkw'.kept hw0 hkp) (fun x hx' => by
          rcases List.mem_cons.1 hx' with rfl | hx'
          ·exact .inl hkw'.size
          ·exact ho x hx') hK
       exact⟨hS1,hkp,wpG_iv _ _ _ _ _ _ (fun x hx=>mem_swap hx) h3⟩
theorem frontS (hA:OkF P ops fl fa m) {i:Nat} (him:i<m) (hif:fa.contains i=false) {rest:List Nat} : ∀ (ks:List Nat) (a:Act) (w:World),(∀ k∈ks,fa.contains k=false)->Same B wS w->(∀ x∈ks++i::rest,x<ops.size)->(ks++i::rest).Pairwise (· < ·)->
 (∀ k∈ks,okPairF P ops fl fa k i=true)->wpS P ops (EndsN P ops B wS fl Q) (Same B wS) m (ks++i::rest) a w->wpS P ops (EndsN P ops B wS fl Q) (Same B wS) m (i::(ks++rest)) a w
 | [],_,_,_,_,_,_,_,h=>h
 | k :: ks,a,w,hkf,hS,hl,hs,hp,h => by
   have hs' :=List.pairwise_cons.1 hs
   have h0:=wpS_ops _ _ _ h
   have hki:k<i:=hs'.1 i (by simp)
   have h:wpOp P ops (EndsN P ops B wS fl Q) k (fun a' w' => (k<m->Same B wS w')/\wpS P ops (EndsN P ops B wS fl Q) (Same B wS) m (ks++i::rest) a' w') a w:=h
   have h1:wpOp P ops (EndsN P ops B wS fl Q) k (fun a' w' => Same B wS w' /\ wpS P ops (EndsN P ops B wS fl Q) (Same B wS) m (i::(ks++rest)) a' w') a w:=
    wpOp_mono (fun a' w' hh=>⟨hh.1 (by omega),frontS hA him hif ks a' w' (fun x hx=>hkf x (by simp[hx])) (hh.1 (by omega)) (fun x hx=>hl x (by simp at hx ⊢;right;exact hx)) hs'.2 (fun x hx=>hp x (by simp[hx])) hh.2⟩) h
   have hkl:k<ops.size:=hl k (by simp)
   have hil:i<ops.size:=hl i (by simp)
   obtain⟨ok,hk⟩:∃ o,ops[k]? = some o:=⟨_,Array.getElem?_eq_getElem hkl⟩
   obtain⟨oi,hi⟩:∃ o,ops[i]? = some o:=⟨_,Array.getElem?_eq_getElem hil⟩
   have hpk:=hp k (by simp)
   simp only[okPairF,hk,hi,hif,hkf k (by simp),if_false,Bool.false_eq_true,Bool.and_eq_true,Bool.or_eq_true,beq_iff_eq,List.contains_iff_mem] at hpk
   obtain⟨hap,hc⟩:=hpk
   have h2:wpOp P ops (EndsN P ops B wS fl Q) k (fun a' w' => Same B wS w' /\ wpOp P ops (EndsN P ops B wS fl Q) i (fun a'' w'' => Same B wS w'' /\ wpS P ops (EndsN P ops B wS fl Q) (Same B wS) m (ks++rest) a'' w'') a' w') a w:=
    wpOp_mono (fun a' w' hh=>⟨hh.1,wpOp_mono (fun a'' w'' h3=>⟨h3.1 him,h3.2⟩) (show wpOp P ops _ i (fun a'' w'' => (i<m->Same B wS w'')/\wpS P ops _ (Same B wS) m (ks++rest) a'' w'') a' w' from hh.2)⟩) h1
   have behind_i:∀ x∈k::ks++i::rest,∀ o',ops[x]? = some o' -> (needs oi=true\/i∈fl)->∀ t,o'.dst=some t->t ∉ oi.looksAt ops:=fun x hx o' ho' hn t ht=>by
    by_cases hxi:i<=x
    ·exact hA.keep i oi hi hn x hxi o' ho' t ht
    ·have hxm : x ∈ k :: ks :=by
      rcases List.mem_append.1 hx with h | h
      ·exact h
      ·rcases List.mem_cons.1 h with h | h
       ·omega
       ·have:=(List.pairwise_append.1 hs).2.1
        have:=(List.pairwise_cons.1 this).1 x h
        omega
     exact(Oper.apart_spec (OkF.apart (hp x hxm) ho' hi)).1 t ht
   have behind_k:∀ x∈k::ks++i::rest,∀ o',ops[x]? = some o' -> (needs ok=true\/k∈fl)->∀ t,o'.dst=some t->t ∉ ok.looksAt ops:=fun x hx o' ho' hn t ht=>by
    refine hA.keep k ok hk hn x ?_ o' ho' t ht
    rcases List.mem_cons.1 hx with h | h
    ·omega
    ·have:=hs'.1 x h;omega
   have h0g:wpOps P ops (Ends P ops (fun _ a w=>allIn B wS ops a fl/\Q .normal a w)) (k::ks++i::rest) a w:=wpOps_post (fun e a w he=>ends_of_endsN he) _ _ _ h0
   have h3:=swapS (S:=Same B wS) EndsN.noExit hk hi hap (fun cs b=>hA.sel k ok cs b hk) (fun cs b=>hA.sel i oi cs b hi) hS ?_ h2
   ·show wpOp P ops _ i (fun a' w' => (i<m->Same B wS w')/\wpS P ops _ (Same B wS) m (k::(ks++rest)) a' w') a w
    refine wpOp_mono (fun a' w' hh=>⟨fun _=>hh.1,?_⟩) h3
    show wpOp P ops _ k (fun a'' w'' => (k<m->Same B wS w'')/\wpS P ops _ (Same B wS) m (ks++rest) a'' w'') a' w'
    exact wpOp_mono (fun a'' w'' h4=>⟨fun _=>h4.1,h4.2⟩) hh.2
   ·rcases hc with (((hc | hc) | ⟨hc1,hc2⟩) | ⟨hc,hm⟩) | ⟨hc,hm⟩
    ·have hq:=good_here (l:=k::ks++i::rest) hl h0g hi hc fun hn x hx o' ho' t ht=>behind_i x hx o' ho' (.inl hn) t ht
     exact .inl ⟨fun hw=>(hq hw).firm,fun hw=>(hq hw).news⟩
    ·have hq:=good_here (l:=k::ks++i::rest) hl h0g hk hc fun hn x hx o' ho' t ht=>behind_k x hx o' ho' (.inl hn) t ht
     exact .inr (.inl ⟨fun hw=>(hq hw).firm,fun hw=>(hq hw).news⟩)
    ·exact .inr (.inr ⟨fun _=>reads_of hc1,fun _=>kind_news (.inl hc2)⟩)
    ·exact .inr (.inl ⟨inB_here (l:=k::ks++i::rest) hl h0 hk hc hm fun x hx o' ho' t ht=>behind_k x hx o' ho' (.inr hm) t ht,fun _=>kind_news (.inl hc)⟩)
    ·exact .inl ⟨inB_here (l:=k::ks++i::rest) hl h0 hi hc hm fun x hx o' ho' t ht=>behind_i x hx o' ho' (.inr hm) t ht,fun _=>kind_news (.inl hc)⟩
theorem any_not {l:List Nat} (h:l.any (fun x=>fa.contains x)=false):∀ x∈l,fa.contains x=false:=by
 intro x hx
 have:=List.any_eq_false.1 h x hx
 simpa using this
theorem any_sub {l l' : List Nat} (hs:∀ x∈l',x∈l) (h:l.any (fun x=>fa.contains x)=false):l'.any (fun x=>fa.contains x)=false:=
 List.any_eq_false.2 fun x hx=>by rw[any_not h x (hs x hx)];decide
theorem frontP (hA:OkF P ops fl fa m) {i:Nat} {oi:Oper} (hi:ops[i]? = some oi) (hip:plain P ops i=true) (hif:fa.contains i=false) {rest:List Nat} : ∀ (ks:List Nat) (iv:List (Nat × Nat)) (a:Act) (w:World),(∀ x∈ks++i::rest,x<ops.size)->(ks++i::rest).Pairwise (· < ·)->
 (∀ k∈ks,i<m/\okPairF P ops fl fa k i=true)->Same B wS w->((ks++i::rest).any (fun x=>fa.contains x)=true->Bd st iv w)->wpG P ops (EndsN P ops B wS fl Q) (Same B wS) m fa st (ks++i::rest) iv w a w->
 ∃ v,Yl P ops oi a w v w/\((∀ k∈ks,plain P ops k=true)\/(∀ w2,Same B wS w2->Yl P ops oi a w2 v w2))/\wpG P ops (EndsN P ops B wS fl Q) (Same B wS) m fa st (ks++rest) iv w (a.put oi.dst v) w
 | [],iv,a,w,hl,hs,hp,hS,hbd,h => by
   obtain⟨v,hy,_,_,hK⟩:=plain_step hA hi hip hif hl hs hS hbd h
   exact⟨v,hy,.inl (fun k hk=>by cases hk),hK⟩
 | k :: ks,iv,a,w,hl,hs,hp,hS,hbd,h => by
   obtain⟨ok,hk⟩:∃ o,ops[k]? = some o:=⟨_,Array.getElem?_eq_getElem (hl k (by simp))⟩
   obtain⟨him,hpk⟩:=hp k (by simp)
   have hap:=Oper.apart_spec (OkF.apart hpk hk hi)
   have hseli:∀ cs b,oi.op≠.select cs b:=fun cs b=>hA.sel i oi cs b hi
   have hselk:∀ cs b,ok.op≠.select cs b:=fun cs b=>hA.sel k ok cs b hk
   have hds:∀ t,oi.dst=some t->ok.dst≠some t:=fun t ht hk' => hap.2.1 t hk' ht
   have hs' :=List.pairwise_cons.1 hs
   have hl' : ∀ x∈ks++i::rest,x<ops.size:=fun x hx=>hl x (by simp at hx ⊢;right;exact hx)
   have hp' : ∀ x∈ks,i<m/\okPairF P ops fl fa x i=true:=fun x hx=>hp x (by simp[hx])
   have h:wpG P ops (EndsN P ops B wS fl Q) (Same B wS) m fa st (k::(ks++i::rest)) iv w a w:=h
   have hbd:(k::(ks++i::rest)).any (fun x=>fa.contains x)=true->Bd st iv w:=hbd
   obtain⟨a',⟨hg,hin⟩,ht⟩:=wpG_end hA (k::(ks++i::rest)) iv w a w hl hbd h
   have hsame:needs oi=true\/i∈fl->∀ t,t∈oi.looksAt ops->a'.tmps[t]? = a.tmps[t]? :=fun hn t hm=>ht t fun j hj o' ho' e=>by
    by_cases hij:i<=j
    ·exact hA.keep i oi hi hn j hij o' ho' t e hm
    ·have hxm : j ∈ k :: ks :=by
      rcases List.mem_append.1 (show j∈(k::ks)++i::rest from hj) with h | h
      ·exact h
      ·rcases List.mem_cons.1 h with h | h
       ·omega
       ·have:=(List.pairwise_append.1 (show((k::ks)++i::rest).Pairwise (· < ·) from hs)).2.1
        have:=(List.pairwise_cons.1 this).1 j h
        omega
     exact(Oper.apart_spec (OkF.apart (hp j hxm).2 ho' hi)).1 t e hm
   have hfirm:kind P oi=0\/(kind P oi=1/\i∈fl)->Region.wanted oi (yielded ops a.tmps)=true->Firm P (Same B wS) (execOp a.eval oi):=fun hc=>by
    rcases hc with hc | ⟨hc,hm⟩
    ·exact fun hw=>(good_end hi hc hg (fun hn=>hsame (.inl hn)) hw).firm
    ·exact inB_end hi hc hm hin (hsame (.inr hm))
   show ∃ v,Yl P ops oi a w v w/\((∀ x∈k::ks,plain P ops x=true)\/(∀ w2,Same B wS w2->Yl P ops oi a w2 v w2))/\wpG P ops (EndsN P ops B wS fl Q) (Same B wS) m fa st (k::(ks++rest)) iv w (a.put oi.dst v) w
   cases h2:plain P ops k with
   | true =>
     cases h1:fa.contains k with
     | true =>
       exfalso
       have:=(hA.float k h1).2 ok hk
       simp only[plain,hk,this] at h2
       exact absurd h2 (by decide)
     | false =>
       obtain⟨vk,hyk,hmk,hfk,hK⟩:=plain_step hA hk h2 h1 hl hs hS hbd h
       have he:=(Rch.put_ a ok.dst vk).exec (o:=oi) (ops:=ops) hseli hap.1
       have hbd' : (ks++i::rest).any (fun x=>fa.contains x)=true->Bd st iv w:=fun hx=>hbd (by simp only[List.any_cons,hx,Bool.or_true])
       obtain⟨v,hy,hc,h3⟩:=frontP hA hi hip hif ks iv (a.put ok.dst vk) w hl' hs'.2 hp' hS hbd' hK
       have hy' :=hy.same ⟨he.1.symm,he.2.symm⟩
       have hek:=(Rch.put_ a oi.dst v).exec (o:=ok) (ops:=ops) hselk hap.2.2
       refine⟨v,hy',?_,wpG_of_yl hk h2 h1 hS (hyk.same hek) (by rw[Act.put_comm a v vk hds];exact h3)⟩
       rcases hc with hc | hc
       ·exact .inl fun x hx => by
         rcases List.mem_cons.1 hx with rfl | hx
         ·exact h2
         ·exact hc x hx
       ·exact .inr fun w2 hw2=>(hc w2 hw2).same ⟨he.1.symm,he.2.symm⟩
   | false =>
     have hkd:¬ (kind P ok=0)/\¬ (kind P ok=1):=by simpa [plain,hk] using h2
     have hci:kind P oi=0\/(kind P oi=1/\i∈fl):=by
      simp only[okPairF,hk,hi,hif,if_false,Bool.false_eq_true,Bool.and_eq_true,Bool.or_eq_true,beq_iff_eq,List.contains_iff_mem,hkd.1,hkd.2,or_false,false_and,and_false,false_or] at hpk
      have:=hpk.2
      split at this
      ·simpa using this
      ·simpa [hkd.1,hkd.2] using this
     have hF:=hfirm hci
     cases h0:(k::(ks++i::rest)).any (fun x=>fa.contains x) with
     | false =>
       have hsub:∀ x∈k::(ks++rest),x∈k::(ks++i::rest):=fun x hx=>by simp at hx ⊢;rcases hx with h | h | h <;> simp[h]
       obtain⟨_,h⟩:=(wpG_none h0).1 h
       have h4:=frontS hA him hif (k::ks) a w (fun x hx=>any_not h0 x (by simp at hx ⊢;rcases hx with h | h <;> simp[h])) hS hl hs (fun x hx=>(hp x hx).2) h
       obtain⟨v,w',hy,hK⟩:=yl_of EndsN.noExit hi (fun hw n w w' hr=>by
        rcases hci with hc | ⟨hc,_⟩
        ·exact(good_end hi hc hg (fun hn=>hsame (.inl hn)) hw).news n w w' hr
        ·exact(reads_of hc).news n w w' hr) (show wpOp P ops _ i (fun a' w' => (i<m->Same B wS w')/\wpS P ops (EndsN P ops B wS fl Q) (Same B wS) m (k::(ks++rest)) a' w') a w from h4)
       obtain⟨rfl,hall⟩:=hy.firm hS hF
       exact⟨v,hy,.inr hall,(wpG_none (any_sub hsub h0)).2 ⟨rfl,hK.2⟩⟩
     | true =>
       have hbd0:=hbd h0
       have move:∀ {v:Value} (hall:∀ w2,Same B wS w2->Yl P ops oi a w2 v w2) (a1:Act) (w' : World) (iv' : List (Nat × Nat)),Rch a ok.dst a1->Same B wS w' -> Bd st iv' w' -> wpG P ops (EndsN P ops B wS fl Q) (Same B wS) m fa st (ks++i::rest) iv' w' a1 w' ->
        wpG P ops (EndsN P ops B wS fl Q) (Same B wS) m fa st (ks++rest) iv' w' (a1.put oi.dst v) w' :=fun {v} hall a1 w' iv' hR hS' hb' hK=>by
        obtain⟨v',hy',_,h3⟩:=frontP hA hi hip hif ks iv' a1 w' hl' hs'.2 hp' hS' (fun _=>hb') hK
        have he:=hR.exec (o:=oi) (ops:=ops) hseli hap.1
        obtain⟨rfl,_⟩:=hy'.det ((hall w' hS').same he)
        exact h3
       cases h1:fa.contains k with
       | true =>
         obtain⟨_,h⟩:=(wpG_fa h1).1 h
         obtain⟨vk,wk,hyk,hK⟩:=yl_of EndsN.noExit hk (fun _=>news_of ((hA.float k h1).2 ok hk)) (h w hbd0.1)
         have hgk:=hyk.below2 ((hA.float k h1).2 ok hk)
         have hSk:=hS.more (more_grown hgk)
         obtain⟨v,hy,_,_⟩:=frontP hA hi hip hif ks _ (a.put ok.dst vk) wk hl' hs'.2 hp' hSk (fun _=>hbd0.push hgk.size) (hK wk hgk (Kept.refl _ _) hbd0.off)
         have he:=(Rch.put_ a ok.dst vk).exec (o:=oi) (ops:=ops) hseli hap.1
         obtain⟨_,hall⟩:=(hy.same ⟨he.1.symm,he.2.symm⟩).firm hSk hF
         refine⟨v,hall w hS,.inr hall,(wpG_fa h1).2 ⟨rfl,fun w0 hw0=>xfer_in EndsN.noExit hk hselk hap.2.2 hds (h w0 hw0) fun a1 w1 hR hK w' hg hkp hoff=>?_⟩⟩
         refine move hall a1 w' _ hR (hS.more (more_grown hg)) ⟨Nat.le_trans hbd0.1 hg.size,fun x hx=>?_⟩ (hK w' hg hkp hoff)
         rcases List.mem_cons.1 hx with rfl | hx
         ·exact hkp.size
         ·exact Nat.le_trans (hbd0.2 x hx) hg.size
       | false =>
         obtain⟨_,h⟩:=(wpG_wild h0 h1 h2).1 h
         obtain⟨a1,w1,hR,hS1,hkp,hK⟩:=wpOp_ex EndsN.noExit hk (h w (Below.refl _ _))
         obtain⟨v,hy,_,_⟩:=frontP hA hi hip hif ks _ a1 w1 hl' hs'.2 hp' hS1 (fun _=>hbd0.push hkp.size) hK
         have he:=hR.exec (o:=oi) (ops:=ops) hseli hap.1
         obtain⟨_,hall⟩:=(hy.same ⟨he.1.symm,he.2.symm⟩).firm hS1 hF
         refine⟨v,hall w hS,.inr hall,wpG_of_wild h2 h1 fun w' hg=>xfer_in EndsN.noExit hk hselk hap.2.2 hds (h w' hg) fun a1 w1 hR hK=>?_⟩
         obtain⟨hS1,hkp,hK⟩:=hK
         refine⟨hS1,hkp,move hall a1 w1 _ hR hS1 ⟨Nat.le_trans hbd0.1 (Nat.le_trans hg.size hkp.size),fun x hx=>?_⟩ hK⟩
         rcases List.mem_cons.1 hx with rfl | hx
         ·exact Nat.le_refl _
         ·exact Nat.le_trans (hbd0.2 x hx) (Nat.le_trans hg.size hkp.size)
theorem frontW (hA:OkF P ops fl fa m) {i:Nat} {oi:Oper} (hi:ops[i]? = some oi) (hip:plain P ops i=false) (hif:fa.contains i=false) {rest:List Nat} (hrest:rest.any (fun x=>fa.contains x)=true):∀ (ks:List Nat) (iv:List (Nat × Nat)) (a:Act) (w:World),(∀ x∈ks++i::rest,x<ops.size)->(ks++i::rest).Pairwise (· < ·)->
 (∀ k∈ks,okPairF P ops fl fa k i=true)->Same B wS w->Bd st iv w->wpG P ops (EndsN P ops B wS fl Q) (Same B wS) m fa st (ks++i::rest) iv w a w->
 wpOp P ops (EndsN P ops B wS fl Q) i (fun a1 w1=>Same B wS w1/\Kept st w w1/\wpG P ops (EndsN P ops B wS fl Q) (Same B wS) m fa st (ks++rest) ((w.heap.size,w1.heap.size)::iv) w1 a1 w1) a w
 | [],iv,a,w,hl,hs,hp,hS,hbd,h=>((wpG_wild (by simp only[List.any_cons,hrest,Bool.or_true]) hif hip).1 h).2 w (Below.refl _ _)
 | k :: ks,iv,a,w,hl,hs,hp,hS,hbd,h => by
   obtain⟨ok,hk⟩:∃ o,ops[k]? = some o:=⟨_,Array.getElem?_eq_getElem (hl k (by simp))⟩
   have hpk:=hp k (by simp)
   have hap:=Oper.apart_spec (OkF.apart hpk hk hi)
   have hseli:∀ cs b,oi.op≠.select cs b:=fun cs b=>hA.sel i oi cs b hi
   have hselk:∀ cs b,ok.op≠.select cs b:=fun cs b=>hA.sel k ok cs b hk
   have hs' :=List.pairwise_cons.1 hs
   have hkd:¬ (kind P oi=0)/\¬ (kind P oi=1):=by simpa [plain,hi] using hip
   have hc:fa.contains k=false/\(kind P ok=0\/(kind P ok=1/\k∈fl)):=by
    simp only[okPairF,hk,hi,hif,if_false,Bool.false_eq_true,Bool.and_eq_true,Bool.or_eq_true,beq_iff_eq,List.contains_iff_mem,hkd.1,hkd.2,or_false,false_and,and_false,false_or] at hpk
    have:=hpk.2
    cases hfk:fa.contains k with
    | true=>rw[if_pos (by simpa using hfk)] at this;simp[hkd.1,hkd.2] at this
    | false =>
      rw[if_neg (by simpa using hfk)] at this
      exact⟨rfl,by simpa [hkd.1,hkd.2] using this⟩
   have hkp:plain P ops k=true:=by
    simp only[plain,hk,Bool.or_eq_true,beq_iff_eq]
    rcases hc.2 with h | h
    ·exact .inl h
    ·exact .inr h.1
   obtain⟨vk,hyk,_,hfk,hK⟩:=plain_step hA hk hkp hc.1 hl hs hS (fun _=>hbd) h
   have hall :=hfk (by rcases hc.2 with h | h
                       ·exact .inl h
                       ·exact .inr h.2)
   have h3:=frontW hA hi hip hif hrest ks iv (a.put ok.dst vk) w (fun x hx=>hl x (by simp at hx ⊢;right;exact hx)) hs'.2 (fun x hx=>hp x (by simp[hx])) hS hbd hK
   refine xfer_out EndsN.noExit hi hseli hap.1 hap.2.1 h3 fun a1 w1 hR hK1=>?_
   have he:=hR.exec (o:=ok) (ops:=ops) hselk hap.2.2
   exact⟨hK1.1,hK1.2.1,wpG_of_yl hk hkp hc.1 hK1.1 ((hall w1 hK1.1).same he) hK1.2.2⟩
theorem wpG_grow (hA:OkF P ops fl fa m):∀ (l:List Nat) (iv:List (Nat × Nat)) (a:Act) (w w2:World),(∀ x∈l,x<ops.size)->l.Pairwise (· < ·)->Same B wS w->(l.any (fun x=>fa.contains x)=true->Bd st iv w)->Grown w w2->l.any (fun x=>fa.contains x)=true->
 wpG P ops (EndsN P ops B wS fl Q) (Same B wS) m fa st l iv w a w->wpG P ops (EndsN P ops B wS fl Q) (Same B wS) m fa st l iv w2 a w2
 | [],iv,a,w,w2,_,_,_,_,_,h0,_=>by cases h0
 | k :: l,iv,a,w,w2,hl,hs,hS,hbd,hg,h0,h => by
   obtain⟨ok,hk⟩:∃ o,ops[k]? = some o:=⟨_,Array.getElem?_eq_getElem (hl k (by simp))⟩
   cases h1:fa.contains k with
   | true =>
     obtain⟨_,h⟩:=(wpG_fa h1).1 h
     exact(wpG_fa h1).2 ⟨rfl,fun w0 hw0=>wpOp_mono (fun a1 w1 hh w' hg' hkp ho=>hh w' (hg.trans (hg'.mono hg.size)) hkp ho) (h w0 hw0)⟩
   | false =>
     cases h2:plain P ops k with
     | true =>
       obtain⟨v,hy,hm,_,hK⟩:=plain_step hA hk h2 h1 hl hs hS hbd h
       have hL:l.any (fun x=>fa.contains x)=true:=by rw[List.any_cons,h1,Bool.false_or] at h0;exact h0
       exact wpG_of_yl hk h2 h1 (hS.more (more_grown hg)) (hm w2 (more_grown hg)) (wpG_grow hA l iv _ w w2 (fun x hx=>hl x (by simp[hx])) (List.pairwise_cons.1 hs).2 hS (fun _=>hbd h0) hg hL hK)
     | false =>
       obtain⟨_,h⟩:=(wpG_wild h0 h1 h2).1 h
       exact(wpG_wild h0 h1 h2).2 ⟨rfl,fun w' hg' => h w' (hg.trans (hg'.mono hg.size))⟩
/-! ### Any order -/
theorem any_of_F (hA:OkF P ops fl fa m):∀ (fuel:Nat) (l:List Nat) (listed:Array Bool) (iv:List (Nat × Nat)) (a:Act) (w:World),l.length=fuel->listed.size=ops.size->Closed ops listed->
 l.Pairwise (· < ·)->(∀ x,x∈l↔x<ops.size/\listed.getD x false=false)->((∃ x∈l,x<m)->Same B wS w)->(l.any (fun x=>fa.contains x)=true->Bd st iv w)->wpG P ops (EndsN P ops B wS fl Q) (Same B wS) m fa st l iv w a w->wpAny P .any ops (EndsN P ops B wS fl Q) fuel listed a w
 | 0,l,listed,iv,a,w,hlen,hsz,hcl,hs,hm,_,_,h => by
   have hl0:l=[]:=List.eq_nil_of_length_eq_zero hlen
   subst hl0
   refine⟨?_,h.2⟩
   refine List.eq_nil_iff_forall_not_mem.2 fun j hj=>?_
   obtain⟨h0,o,ho,_⟩:=mem_ready.1 hj
   have hjl:j<ops.size:=(Array.getElem?_eq_some_iff.1 ho).1
   have:=(hm j).2 ⟨hjl,getD_both h0⟩
   cases this
 | fuel + 1,l,listed,iv,a,w,hlen,hsz,hcl,hs,hm,hSl,hbd,h => by
   have both:∀ x,x<ops.size->listed.getD x false=false->listed.getD x true=false:=fun x hx hf=>getD_in (by omega) hf
   refine⟨fun hr=>?_,fun i hi=>?_⟩
   ·exfalso
    cases l with
    | nil=>cases hlen
    | cons k l =>
      have hm0:=(hm k).1 (by simp)
      obtain⟨o,ho⟩:∃ o,ops[k]? = some o:=⟨_,Array.getElem?_eq_getElem hm0.1⟩
      have:k∈Region.ready .any ops listed:=mem_ready.2 ⟨both k hm0.1 hm0.2,o,ho,fun e he hb=>by
       have hlt:=hA.top k o ho e he hb
       cases hx:listed.getD e.on false with
       | true=>rfl
       | false =>
         have hin:=(hm e.on).2 ⟨by omega,hx⟩
         rcases List.mem_cons.1 hin with h1 | h1
         ·omega
         ·have:=(List.pairwise_cons.1 hs).1 _ h1
          omega⟩
      rw[hr] at this
      cases this
   ·obtain⟨hun,oi,hoi,hall⟩:=mem_ready.1 hi
    have hil:i<ops.size:=(Array.getElem?_eq_some_iff.1 hoi).1
    have hin:i∈l:=(hm i).2 ⟨hil,getD_both hun⟩
    obtain⟨ks,rest,rfl⟩:=List.append_of_mem hin
    have hpw:=List.pairwise_append.1 hs
    have hlt:∀ x∈ks++i::rest,x<ops.size:=fun x hx=>((hm x).1 hx).1
    have hks:∀ k∈ks,i<m/\okPairF P ops fl fa k i=true:=fun k hk=>by
     have hki:k<i:=hpw.2.2 k hk i (by simp)
     rcases hA.pair i k hil hki with hw | hp
     ·have:=waits_listed hcl ops.size i k oi hoi hall hw
      have hk2:=((hm k).1 (by simp[hk])).2
      rw[hk2] at this
      cases this
     ·exact hp
    have hfr:wpOp P ops (EndsN P ops B wS fl Q) i (fun a' w' => (i<m->Same B wS w')/\∃ iv',((ks++rest).any (fun x=>fa.contains x)=true->Bd st iv' w')/\wpG P ops (EndsN P ops B wS fl Q) (Same B wS) m fa st (ks++rest) iv' w' a' w') a w:=by
     cases h0:(ks++i::rest).any (fun x=>fa.contains x) with
     | false =>
       obtain⟨_,h⟩:=(wpG_none h0).1 h
       have hn:(ks++rest).any (fun x=>fa.contains x)=false:=any_sub (fun x hx=>by simp at hx ⊢;rcases hx with h | h <;> simp[h]) h0
       have h4:wpS P ops (EndsN P ops B wS fl Q) (Same B wS) m (i::(ks++rest)) a w:=by
        cases ks with
        | nil=>exact h
        | cons k ks =>
          have him:=(hks k (by simp)).1
          exact frontS hA him (any_not h0 i (by simp)) (k::ks) a w (fun x hx=>any_not h0 x (by simp at hx ⊢;rcases hx with h | h <;> simp[h])) (hSl ⟨i,hin,him⟩) hlt hs (fun x hx=>(hks x hx).2) h
       exact wpOp_mono (fun a1 w1 hh=>⟨hh.1,iv,(fun hx=>by rw[hn] at hx;cases hx),(wpG_none hn).2 ⟨rfl,hh.2⟩⟩) (show wpOp P ops _ i (fun a' w' => (i<m->Same B wS w')/\wpS P ops (EndsN P ops B wS fl Q) (Same B wS) m (ks++rest) a' w') a w from h4)
     | true =>
       have hbd0:=hbd h0
       have hmem:∃ x∈ks++i::rest,x<m:=by
        obtain⟨x,hx,hxf⟩:=List.any_eq_true.1 h0
        exact⟨x,hx,(hA.float x hxf).1⟩
       have hS:=hSl hmem
       cases hif:fa.contains i with
       | true =>
         obtain⟨v,w1,hy⟩:=wpG_yields hA hoi hif ks iv w a w hlt (fun k hk=>(hks k hk).2) hbd0 h w hbd0.1
         have hg:=hy.below2 ((hA.float i hif).2 oi hoi)
         refine Yl.mk hoi hy ⟨fun _=>hS.more (more_grown hg),(w.heap.size,w1.heap.size)::iv,fun _=>hbd0.push hg.size,?_⟩
         have grow:wpG P ops (EndsN P ops B wS fl Q) (Same B wS) m fa st (ks++i::rest) iv w1 a w1:=wpG_grow hA (ks++i::rest) iv a w w1 hlt hs hS (fun _=>hbd0) hg h0 h
         exact early hA hoi hif hbd0.1 ks iv a w1 hlt hs (fun k hk=>(hks k hk).2) (hS.more (more_grown hg)) ⟨Nat.le_trans hbd0.1 hg.size,fun x hx=>Nat.le_trans (hbd0.2 x hx) hg.size⟩ hy (Kept.refl _ _) hbd0.off grow
       | false =>
         cases hip:plain P ops i with
         | true =>
           obtain⟨v,hy,_,hK⟩:=frontP hA hoi hip hif ks iv a w hlt hs hks hS hbd h
           exact Yl.mk hoi hy ⟨fun _=>hS,iv,fun _=>hbd0,hK⟩
         | false =>
           have hrest:rest.any (fun x=>fa.contains x)=true:=by
            have hkn:∀ k∈ks,fa.contains k=false:=fun k hk=>by
             obtain⟨ok,hok⟩:∃ o,ops[k]? = some o:=⟨_,Array.getElem?_eq_getElem (hlt k (by simp[hk]))⟩
             have hpk:=(hks k hk).2
             have hkd:¬ (kind P oi=0)/\¬ (kind P oi=1):=by simpa [plain,hoi] using hip
             cases hfk:fa.contains k with
             | false=>rfl
             | true =>
               simp only[okPairF,hok,hoi,hif,if_false,Bool.false_eq_true,Bool.and_eq_true,Bool.or_eq_true,beq_iff_eq,List.contains_iff_mem,hkd.1,hkd.2,or_false,false_and,and_false,false_or] at hpk
               have:=hpk.2
               rw[if_pos (by simpa using hfk)] at this
               simp[hkd.1,hkd.2] at this
            obtain⟨x,hx,hxf⟩:=List.any_eq_true.1 h0
            refine List.any_eq_true.2 ⟨x,?_,hxf⟩
            rcases List.mem_append.1 hx with h1 | h1
            ·rw[hkn x h1] at hxf;cases hxf
            ·rcases List.mem_cons.1 h1 with rfl | h1
             ·rw[hif] at hxf;cases hxf
             ·exact h1
           refine wpOp_mono (fun a1 w1 hh=>⟨fun _=>hh.1,_,fun _=>hbd0.push hh.2.1.size,hh.2.2⟩) (frontW hA hoi hip hif hrest ks iv a w hlt hs (fun k hk=>(hks k hk).2) hS hbd0 h)
    refine wpOp_mono (fun a' w' hh=>?_) hfr
    obtain⟨hS',iv',hb',hK⟩:=hh
    refine any_of_F hA fuel (ks++rest) _ iv' a' w' (by simp at hlen ⊢;omega) (by simp[hsz]) ?_ ?_ ?_ ?_ hb' hK
    ·intro j o ho hl e he hb
     by_cases hij:i=j
     ·subst hij
      have:o=oi:=Option.some.inj (ho.symm.trans hoi)
      subst this
      exact getD_set_true (hall e he hb)
     ·refine getD_set_true (hcl j o ho ?_ e he hb)
      rw[getD_set_ne false (by exact hij)] at hl
      exact hl
    ·exact List.pairwise_append.2 ⟨hpw.1,(List.pairwise_cons.1 hpw.2.1).2,fun x hx y hy=>hpw.2.2 x hx y (by simp[hy])⟩
    ·intro x
     have hx:=hm x
     have hne:x∈ks++rest->i≠x:=by
      intro hxm e
      subst e
      rcases List.mem_append.1 hxm with h1 | h1
      ·have:=hpw.2.2 i h1 i (by simp)
       omega
      ·have:=(List.pairwise_cons.1 hpw.2.1).1 i h1
       omega
     constructor
     ·intro hxm
      have h1:=hx.1 (by simp at hxm ⊢;rcases hxm with h | h <;> simp[h])
      exact⟨h1.1,by rw[getD_set_ne false (hne hxm)];exact h1.2⟩
     ·rintro⟨h1,h2⟩
      by_cases hix:i=x
      ·subst hix
       simp[hsz,h1] at h2
      ·rw[getD_set_ne false hix] at h2
       have:=hx.2 ⟨h1,h2⟩
       simp at this ⊢
       rcases this with h | h | h
       ·exact .inl h
       ·exact absurd h.symm hix
       ·exact .inr h
    ·rintro⟨x,hx,hxm⟩
     refine hS' ?_
     rcases List.mem_append.1 hx with h1 | h1
     ·exact(hks x h1).1
     ·have:=(List.pairwise_cons.1 hpw.2.1).1 x h1
      omega
/-! ### The walk in pieces -/
theorem upS (hA:OkF P ops fl fa m):∀ (l:List Nat) (a:Act) (w:World),(∀ x∈l,x<ops.size)->l.Pairwise (· < ·)->((∃ x∈l,x<m)->Same B wS w)->
 wpC P ops (EndsN P ops B wS fl Q) (Same B wS) m l a w->wpS P ops (EndsN P ops B wS fl Q) (Same B wS) m l a w
 | [],_,_,_,_,_,h=>h
 | i :: l,a,w,hl,hs,hS,h => by
   have h0:=wpC_ops _ _ _ h
   have hs' :=List.pairwise_cons.1 hs
   obtain⟨o,hi⟩:∃ o,ops[i]? = some o:=⟨_,Array.getElem?_eq_getElem (hl i (by simp))⟩
   have h:wpOp P ops (EndsN P ops B wS fl Q) i (fun a' w' => (i<m->wild P ops i=true->Same B wS w')/\wpC P ops (EndsN P ops B wS fl Q) (Same B wS) m l a' w') a w:=h
   show wpOp P ops (EndsN P ops B wS fl Q) i (fun a' w' => (i<m->Same B wS w')/\wpS P ops (EndsN P ops B wS fl Q) (Same B wS) m l a' w') a w
   have rec_:∀ a' w',(i<m->Same B wS w')->wpC P ops (EndsN P ops B wS fl Q) (Same B wS) m l a' w' -> wpS P ops (EndsN P ops B wS fl Q) (Same B wS) m l a' w' :=fun a' w' hS' hh=>
    upS hA l a' w' (fun x hx=>hl x (by simp[hx])) hs'.2 (fun⟨x,hx,hxm⟩=>hS' (by have:=hs'.1 x hx;omega)) hh
   by_cases him:i<m
   ·have hSw:=hS ⟨i,by simp,him⟩
    by_cases hwd:wild P ops i=true
    ·exact wpOp_mono (fun a' w' hh=>⟨fun hm=>hh.1 hm hwd,rec_ a' w' (fun hm=>hh.1 hm hwd) hh.2⟩) h
    ·have hn : Region.wanted o (yielded ops a.tmps) = true → News P (execOp a.eval o) :=by
      simp only[wild,hi,Bool.and_eq_true,bne_iff_ne,ne_eq,not_and,Classical.not_not] at hwd
      intro hw
      by_cases h0k:kind P o=0
      ·have h0g:wpOps P ops (Ends P ops (fun _ a w=>allIn B wS ops a fl/\Q .normal a w)) (i::l) a w:=wpOps_post (fun e a w he=>ends_of_endsN he) _ _ _ h0
       exact(good_here hl h0g hi h0k (fun hn x hx o' ho' t ht=>hA.keep i o hi (.inl hn) x (by
        rcases List.mem_cons.1 hx with h | h
        ·omega
        ·have:=hs'.1 x h;omega) o' ho' t ht) hw).news
      ·by_cases h1k:kind P o=1
       ·exact(reads_of h1k).news
       ·exact news_of (hwd ⟨h0k,h1k⟩)
     obtain⟨v,w',hy,hc,hh⟩:=yl_of EndsN.noExit hi hn h
     have hSw' : Same B wS w' :=hSw.more (hy.more hn)
     exact Yl.mk hi hy ⟨fun _=>hSw',rec_ _ _ (fun _=>hSw') hh⟩
   ·exact wpOp_mono (fun a' w' hh=>⟨fun hm=>absurd hm him,rec_ a' w' (fun hm=>absurd hm him) hh.2⟩) h
end
inductive Pc where
 | pure (n:Nat)
 | call
 | new
def PEnd (w:World) (K:Act->Prop):Exit->Act->World->Prop:=fun e a1 w1=>e=.normal/\w1=w/\K a1
def CEnd (S:World->Prop) (st:Nat) (w' : World) (K:Act->World->Prop):Exit->Act->World->Prop:=fun e a1 w1=>e=.normal/\S w1/\Kept st w' w1/\K a1 w1
def NEnd (w w0:World) (iv:List (Nat × Nat)) (K:Act->World->World->Prop):Exit->Act->World->Prop:=fun e a1 w1=>e=.normal/\∀ w',Grown w w' -> Kept w0.heap.size w1 w' -> Off iv w0.heap.size w1.heap.size->K a1 w1 w'
theorem PEnd.intro {w:World} {K:Act->Prop} {a:Act} (h:K a):PEnd w K .normal a w:=⟨rfl,rfl,h⟩
theorem CEnd.intro {S:World->Prop} {st:Nat} {w' : World} {K:Act->World->Prop} {a:Act} {w:World} (hS:S w) (hk:Kept st w' w) (h:K a w):CEnd S st w' K .normal a w:=⟨rfl,hS,hk,h⟩
theorem NEnd.intro {w w0 w1:World} {iv:List (Nat × Nat)} {K:Act->World->World->Prop} {a:Act} (h:∀ w',Grown w w' -> Kept w0.heap.size w1 w' -> Off iv w0.heap.size w1.heap.size->K a w1 w'):NEnd w w0 iv K .normal a w1:=⟨rfl,h⟩
def wpHav (P:Program) (ops:Array Oper) (Q:Exit->Act->World->Prop) (S:World->Prop) (st:Nat) (cs:List Nat):List Pc->List Oper->List (Nat × Nat)->Act->World->Prop
 | [],l,_,a,w=>wpCuts P ops Q S cs l a w
 | .pure n::ps,l,iv,a,w=>wpList P ops (PEnd w (fun a1=>wpHav P ops Q S st cs ps (l.drop n) iv a1 w)) (l.take n) a w
 | .call::ps,l,iv,a,w=>∀ w',Grown w w' -> wpList P ops (CEnd S st w' (fun a1 w1=>wpHav P ops Q S st cs ps (l.drop 1) ((w'.heap.size,w1.heap.size)::iv) a1 w1)) (l.take 1) a w'
 | .new::ps,l,iv,a,w=>∀ w0,st<=w0.heap.size->wpList P ops (NEnd w w0 iv (fun a1 w1 w' => wpHav P ops Q S st cs ps (l.drop 1) ((w0.heap.size,w1.heap.size)::iv) a1 w')) (l.take 1) a w0
def havOK (P:Program) (ops:Array Oper) (m:Nat) (fa:List Nat) (cs:List Nat):List Pc->Nat->Nat->Bool
 | [],n,k => !((List.range' k n).any fun x=>fa.contains x)&&cutOK P ops m cs n k
 | .pure c::ps,n,k=>decide (c<=n)&&((List.range c).all fun j=>plain P ops (k+j) && !fa.contains (k+j))&&((List.range' (k+c) (n - c)).any fun x=>fa.contains x)&&havOK P ops m fa cs ps (n - c) (k+c)
 | .call::ps,n,k=>decide (0<n) && !plain P ops k && !fa.contains k&&((List.range' k n).any fun x=>fa.contains x)&&havOK P ops m fa cs ps (n - 1) (k+1)
 | .new::ps,n,k=>decide (0<n)&&fa.contains k&&havOK P ops m fa cs ps (n - 1) (k+1)
theorem pure_spec {S:World->Prop} {m:Nat} {fa:List Nat} {st:Nat} {iv:List (Nat × Nat)} {wr:World} {K:Act->Prop} {L:List Nat} (hL:L.any (fun x=>fa.contains x)=true) (hK:∀ a,K a->wpG P ops Q S m fa st L iv wr a wr):∀ (l:List Oper) (k:Nat) (a:Act) (w:World),w=wr\/l≠[]->(∀ j,j<l.length->l[j]? = ops[k+j]?)->((List.range l.length).all fun j=>plain P ops (k+j) && !fa.contains (k+j))=true->
 wpList P ops (fun e a1 w1=>e=.normal/\w1=wr/\K a1) l a w->wpG P ops Q S m fa st (List.range' k l.length++L) iv wr a w
 | [],k,a,w,_,_,_,h => by
   obtain⟨_,rfl,h⟩:=(h:(_:Exit)=.normal/\_/\K a)
   exact hK a h
 | o :: l,k,a,w,_,hl,hw,h => by
   have h0:ops[k]? = some o:=by simpa using (hl 0 (by simp)).symm
   have hNE:NoExit (fun(e:Exit) (a1:Act) (w1:World)=>e=.normal/\w1=wr/\K a1):=fun _ _ _ he h=>he h.1
   have hh:=wpOp_exits (Q2:=Q) hNE (wpList_op h0 h)
   simp only[List.all_eq_true,List.mem_range,List.length_cons,Bool.and_eq_true,Bool.not_eq_true'] at hw
   have hk:=hw 0 (by omega)
   simp only[Nat.add_zero] at hk
   rw[List.length_cons,List.range'_succ,List.cons_append]
   refine(wpG_plain (by simp only[List.any_cons,List.any_append,hL,Bool.or_true]) hk.2 hk.1).2 (wpOp_mono (fun a1 w1 h1=>?_) hh)
   refine pure_spec hL hK l (k+1) a1 w1 ?_ (fun j hj=>?_) ?_ h1
   ·cases l with
    | nil=>exact .inl h1.2.1
    | cons _ _=>exact .inr (by simp)
   ·have:=hl (j+1) (by simp;omega)
    simpa [Nat.add_assoc,Nat.add_comm 1 j] using this
   ·simp only[List.all_eq_true,List.mem_range,Bool.and_eq_true,Bool.not_eq_true']
    intro j hj
    have:=hw (j+1) (by omega)
    rwa [show k+(j+1)=k+1+j from by omega] at this
section
variable {B:Nat->Prop} {wS:World} {fl fa:List Nat} {m st:Nat}
theorem hav_spec (hA:OkF P ops fl fa m) {cs:List Nat} : ∀ (ps:List Pc) (l:List Oper) (k:Nat) (iv:List (Nat × Nat)) (a:Act) (w:World),(∀ j,j<l.length->l[j]? = ops[k+j]?)->(k+l.length=ops.size)->Same B wS w->havOK P ops m fa cs ps l.length k=true->
 wpHav P ops (EndsN P ops B wS fl Q) (Same B wS) st cs ps l iv a w->wpG P ops (EndsN P ops B wS fl Q) (Same B wS) m fa st (List.range' k l.length) iv w a w
 | [],l,k,iv,a,w,hl,hsz,hS,hc,h => by
   simp only[havOK,Bool.and_eq_true,Bool.not_eq_true'] at hc
   refine(wpG_none hc.1).2 ⟨rfl,upS hA _ a w (fun x hx=>?_) List.pairwise_lt_range' (fun _=>hS) (cuts_spec cs l k a w hl hc.2 h)⟩
   have:=List.mem_range'_1.1 hx
   omega
 | .pure c :: ps,l,k,iv,a,w,hl,hsz,hS,hc,h => by
   simp only[havOK,Bool.and_eq_true,decide_eq_true_eq] at hc
   obtain⟨⟨⟨h1,h2⟩,h3⟩,h4⟩:=hc
   have hlen:(l.take c).length=c:=by simp;omega
   have hr:List.range' k l.length=List.range' k (l.take c).length++List.range' (k+c) (l.drop c).length:=by
    rw[hlen,List.length_drop,List.range'_append_1,show c+(l.length - c)=l.length from by omega]
   rw[hr]
   refine pure_spec (K:=fun a1=>wpHav P ops (EndsN P ops B wS fl Q) (Same B wS) st cs ps (l.drop c) iv a1 w) (by rw[List.length_drop];exact h3) (fun a1 hk=>hav_spec hA ps (l.drop c) (k+c) iv a1 w (fun j hj=>?_) (by rw[List.length_drop];omega) hS (by rw[List.length_drop];exact h4) hk) (l.take c) k a w (.inl rfl) (fun j hj=>?_) (by rw[hlen];exact h2) h
   ·rw[List.getElem?_drop,hl (c+j) (by simp at hj;omega),Nat.add_assoc]
   ·rw[List.getElem?_take,if_pos (by omega),hl j (by simp at hj;omega)]
 | .call :: ps,l,k,iv,a,w,hl,hsz,hS,hc,h => by
   simp only[havOK,Bool.and_eq_true,decide_eq_true_eq,Bool.not_eq_true'] at hc
   obtain⟨⟨⟨⟨h1,h2⟩,h3⟩,h4⟩,h5⟩:=hc
   cases l with
   | nil=>simp at h1
   | cons o l =>
     have h0:ops[k]? = some o:=by simpa using (hl 0 (by simp)).symm
     rw[List.length_cons,List.range'_succ] at h4 ⊢
     refine(wpG_wild h4 h3 h2).2 ⟨rfl,fun w' hg=>?_⟩
     have hNE:NoExit (fun(e:Exit) (a1:Act) (w1:World)=>e=.normal/\Same B wS w1/\Kept st w' w1/\wpHav P ops (EndsN P ops B wS fl Q) (Same B wS) st cs ps l ((w'.heap.size,w1.heap.size)::iv) a1 w1):=fun _ _ _ he h=>he h.1
     refine wpOp_mono (fun a1 w1 hh=>?_) (wpOp_exits (Q2:=EndsN P ops B wS fl Q) hNE (wpList_op h0 (l:=[]) (h w' hg)))
     obtain⟨_,hS1,hk,hK⟩:=(hh:(_:Exit)=.normal/\_)
     refine⟨hS1,hk,hav_spec hA ps l (k+1) _ a1 w1 (fun j hj=>?_) (by simp at hsz;omega) hS1 (by simpa using h5) hK⟩
     have:=hl (j+1) (by simp;omega)
     simpa [Nat.add_assoc,Nat.add_comm 1 j] using this
 | .new :: ps,l,k,iv,a,w,hl,hsz,hS,hc,h => by
   simp only[havOK,Bool.and_eq_true,decide_eq_true_eq] at hc
   obtain⟨⟨h1,h3⟩,h5⟩:=hc
   cases l with
   | nil=>simp at h1
   | cons o l =>
     have h0:ops[k]? = some o:=by simpa using (hl 0 (by simp)).symm
     rw[List.length_cons,List.range'_succ]
     refine(wpG_fa h3).2 ⟨rfl,fun w0 hw0=>?_⟩
     have hNE:NoExit (fun(e:Exit) (a1:Act) (w1:World)=>e=.normal/\∀ w',Grown w w' -> Kept w0.heap.size w1 w' -> Off iv w0.heap.size w1.heap.size->wpHav P ops (EndsN P ops B wS fl Q) (Same B wS) st cs ps l ((w0.heap.size,w1.heap.size)::iv) a1 w'):=fun _ _ _ he h=>he h.1
     refine wpOp_mono (fun a1 w1 hh w' hg hk ho=>?_) (wpOp_exits (Q2:=EndsN P ops B wS fl Q) hNE (wpList_op h0 (l:=[]) (h w0 hw0)))
     obtain⟨_,hK⟩:=(hh:(_:Exit)=.normal/\_)
     refine hav_spec hA ps l (k+1) _ a1 w' (fun j hj=>?_) (by simp at hsz;omega) (hS.more (more_grown hg)) (by simpa using h5) (hK w' hg hk ho)
     have:=hl (j+1) (by simp;omega)
     simpa [Nat.add_assoc,Nat.add_comm 1 j] using this
end
theorem any_hav {l:List Oper} {a:Act} {w:World} (B:Nat->Prop) (fl fa:List Nat) (m:Nat) (ps:List Pc) (cs:List Nat) (hA:okAllF P l.toArray fl fa m=true) (hC:havOK P l.toArray m fa cs ps l.length 0=true)
 (h:wpHav P l.toArray (EndsN P l.toArray B w fl Q) (Same B w) w.heap.size cs ps l [] a w):wpAny P .any l.toArray (EndsN P l.toArray B w fl Q) l.toArray.size (Array.replicate l.toArray.size false) a w:=by
 refine any_of_F (okAllF_spec hA) (st:=w.heap.size) l.toArray.size (List.range l.toArray.size) _ [] a _ (by simp) (by simp) ?_ List.pairwise_lt_range (fun x=>by
  constructor
  ·intro hx
   have:=List.mem_range.1 hx
   exact⟨this,by simp only[Array.getD_eq_getD_getElem?];simp at this ⊢;simp[this]⟩
  ·exact fun hx=>List.mem_range.2 hx.1) (fun _=>Same.refl _ _) (fun _=>⟨Nat.le_refl _,fun _ hx=>by cases hx⟩) ?_
 ·intro j o ho hl
  rw[getD_replicate_false] at hl
  cases hl
 ·rw[List.range_eq_range',show l.toArray.size=l.length from by simp]
  exact hav_spec (okAllF_spec hA) ps l 0 [] a w (by simp) (by simp) (Same.refl _ _) hC h
theorem wp_region_hav {id:Nat} {l:List Oper} {a:Act} {w:World} (B:Nat->Prop) (fl fa:List Nat) (m:Nat) (ps:List Pc) (cs:List Nat) (hm:P.follows .mixedOrders=true) (hA:okAllF P l.toArray fl fa m=true) (hC:havOK P l.toArray m fa cs ps l.length 0=true)
 (h:wpHav P l.toArray (EndsN P l.toArray B w.drew fl Q) (Same B w.drew) w.drew.heap.size cs ps l [] a w.drew):(Code.region id l.toArray true).wp P Q a w:=
 Code.wp_mono (Q:=EndsN P l.toArray B w.drew fl Q) (fun e a' w' he=>by obtain⟨rfl,_,_,h⟩:=he;exact h) (wp_region_any hm (any_hav B fl fa m ps cs hA hC h))
end
end Lex
end
section
open Go Go.RowKit Go.Maps
def BallotPost (w:World) (a:Own.Approval):Ending->World->Prop:=fun e w' => ∃ cv pv,e=.returned (.agg #[.string a.name,.int .i64 a.sig.index,cv,pv])/\w'.ownsRow w.heap.size 9 1 cv 67 (a.sig.chains.map Value.string)/\w'.ownsRow w.heap.size 9 1 pv 1 (a.sig.path.map Value.string)/\Below w.heap.size w w'
theorem info_Approval:(Tryz.prog.info? 43).map (·.size)=some 4:=by kernel_rfl
theorem field_mem (W:World) (a b:ByteArray):(Instr.field 73 (.agg #[.string a,.string b]) 0).run Tryz.prog W=.ok (.string a) W:=by kernel_rfl
theorem law54ballot_any (b i:Nat) (p:Own.Proposal) (ag:Bool) (v:Value) (w:World) (hb:b<256) (hi:i<2) (h0:0<=p.id) (h1:p.id<9223372036854775808) (h2:p.path.size<=1000000) (h3:p.digest.size<=1000000):
 Calls Tryz.prog 35 #[.int .u8 b,.int .i64 i,.agg #[.int .i64 p.id,.string p.path,.string p.digest,.int .i64 p.opened,.int .i64 p.expires,v],.bool ag] w (BallotPost w (Own.ballot54 b i p ag)):=by
 have hk:=fun W=>law54key_any b W hb
 have hm:=fun W=>law54member_any b W hb
 have hms:=fun W=>rvMessage_any p ag v W h0 h1 h2 h3
 have hzm:(Own.messageOf p ag).size<=140737488350000:=by
  have e1:=Cod.uns_le p.id.toNat;have e2:=Cod.uns_le p.path.size;have e3:=Cod.uns_le p.digest.size
  unfold Own.messageOf Cod.text
  simp only[ByteArray.size_append]
  have:(Sig.b1 (if ag then 13 else 14)).size=1:=rfl
  omega
 have hsg:=fun W=>r47Sign_any (Lane.seedB b) (Own.messageOf p ag) i W (seedB_size b) hi hzm
 obtain⟨R,hR⟩:∃ R,R=Own.ballot54 b i p ag:=⟨_,rfl⟩
 rw[<- hR]
 unfold Own.ballot54 at hR
 generalize Own.messageOf p ag=MG at*
 generalize Lane.seedB b=S at*
 generalize Own.mem54 b=m at*
 have HK:=zh hk;have HM:=zh hm;have HMS:=zh hms;have HSG:=zh hsg;have HR:=zh hR
 clear hk hm hms hsg hR hzm
 obtain⟨pid,ppa,pdi,pop,pex,pvs⟩:=p
 dsimp only at HMS ⊢
 have F1:=zh (show Boxes w ((w.alloc (.cells #[.int .i64 pid,.string ppa,.string pdi,.int .i64 pop,.int .i64 pex,v] 46)).alloc (.cells #[.string ⟨#[]⟩,.int .i64 0,.slice none 0 0,.slice none 0 0] 43)) [(46,#[.int .i64 pid,.string ppa,.string pdi,.int .i64 pop,.int .i64 pex,v]),(43,#[.string ⟨#[]⟩,.int .i64 0,.slice none 0 0,.slice none 0 0])] from(((Fresh.nil w).push 46 #[.int .i64 pid,.string ppa,.string pdi,.int .i64 pop,.int .i64 pex,v]).push 43 #[.string ⟨#[]⟩,.int .i64 0,.slice none 0 0,.slice none 0 0]).boxes)
 have hz:((w.alloc (.cells #[.int .i64 pid,.string ppa,.string pdi,.int .i64 pop,.int .i64 pex,v] 46)).alloc (.cells #[.string ⟨#[]⟩,.int .i64 0,.slice none 0 0,.slice none 0 0] 43)).heap.size=w.heap.size+2:=by simp
 have HZ:=zh hz;clear hz
 go_enter Tryz.func35,Tryz.ntmps35
 go_wp2_with fail
 generalize ((w.alloc (.cells #[.int .i64 pid,.string ppa,.string pdi,.int .i64 pop,.int .i64 pex,v] 46)).alloc (.cells #[.string ⟨#[]⟩,.int .i64 0,.slice none 0 0,.slice none 0 0] 43))=w1 at*
 refine(HK.out _).mono ?_
 rintro e w2 ⟨rfl,hb2⟩
 have hz2:w.heap.size+2<=w2.heap.size:=by have:=HZ.out;have:=hb2.size;omega
 have F2:=zh (F1.out.step hb2);have HZ2:=zh hz2
 clear hb2 hz2
 go_upto_region 3 with fail
 have hb3:Below w2.heap.size w2 (w2.alloc (.cells #[.string S,.int .i64 1,.int .i64 i] 113)):=(Below.refl _ _).alloc (Nat.le_refl _) _
 have hk3:=At.new w2 113 #[.string S,.int .i64 1,.int .i64 i]
 have F3:=zh (F2.out.step hb3);have K3:=zh hk3
 have hz3:w2.heap.size+1=(w2.alloc (.cells #[.string S,.int .i64 1,.int .i64 i] 113)).heap.size:=by simp
 have HZ3:=zh hz3
 clear hb3 hk3 hz3 F1 F2
 generalize w2.alloc (.cells #[.string S,.int .i64 1,.int .i64 i] 113)=w3 at*
 have K0:=zh (show w2.heap.size<w3.heap.size by have:=HZ3.out;omega)
 obtain⟨hk0,hk1,hk2⟩:=K3.out.c3
 obtain⟨x00,x01,x02,x03,x04,x05⟩:=F3.out.d0_6 rfl
 have hlw:w.heap.size<w3.heap.size:=F3.out.lt (i:=0) (by show 0<2;omega)
 have hlk:=K0.out
 have Y0:=zh (show(w3.drew.cell? ⟨w2.heap.size,0,none⟩).isSome=true from(congrArg Option.isSome hk0).trans rfl)
 have Y1:=zh (show(w3.drew.cell? ⟨w2.heap.size,1,none⟩).isSome=true from(congrArg Option.isSome hk1).trans rfl)
 have Y2:=zh (show(w3.drew.cell? ⟨w2.heap.size,2,none⟩).isSome=true from(congrArg Option.isSome hk2).trans rfl)
 go_cut [10,12] (fun v10 v12 wx=>∃ g cv pv,v10=.pointer (some ⟨g,0,none⟩)/\v12=.int .i64 0/\At wx g 41 #[.int .i64 i,cv,pv]/\wx.ownsRow w3.heap.size 9 1 cv 67 ((Sig.signOf S i MG).chains.map Value.string)/\wx.ownsRow w3.heap.size 9 1 pv 1 ((Sig.signOf S i MG).path.map Value.string)/\w3.heap.size<=g/\Below w3.heap.size w3 wx)
 case first=>
  refine Lex.wp_region_hav (fun k=>k=w2.heap.size) [0] [9,10] 13 [.pure 3,.call,.call,.pure 4,.new,.new] [1,1] (by kernel_rfl) (by kernel_rfl) (by kernel_rfl) ?_
  simp only[Lex.wpHav,Lex.wpCuts,List.take_succ_cons,List.take_zero,List.drop_succ_cons,List.drop_zero]
  have bd:Below w3.heap.size w3 w3.drew:=(Below.refl _ _).drew
  have BD:=zh bd
  have zd:w3.drew.heap.size=w3.heap.size:=by rw[drew_heap]
  have ZD:=zh zd
  clear bd zd
  go_wp2_with fail
  refine Lex.PEnd.intro ?_
  intro w4 hg4
  have BE4:=zh (BD.out.trans (hg4.mono BD.out.size));have BX4:=zh hg4
  clear hg4 hk0 hk1 hk2
  (try clear x00);(try clear x01);(try clear x02);(try clear x03);(try clear x04);(try clear x05);(try clear x10f);(try clear x10);(try clear x11f);(try clear x11);(try clear x12f);(try clear x12);(try clear x13f);(try clear x13)
  go_wp2_with fail
  refine(HMS.out _).mono ?_
  rintro e w5 ⟨rfl,hb5⟩
  have BE5:=zh (BE4.out.trans (hb5.mono BE4.out.size));have BX5:=zh (BX4.out.trans (hb5.mono BX4.out.size));have BB:=zh hb5
  clear hb5
  go_wp2_with fail
  refine Lex.CEnd.intro (fun j hj hjl=>by rw[hj];exact BX5.out.block _ (by rw[<- hj];exact hjl)) (Lex.Kept.of_below BB.out) ?_
  intro w6 hg6
  have BE6:=zh (BE5.out.trans (hg6.mono BE5.out.size));have BX6:=zh (BX5.out.trans (hg6.mono BX5.out.size))
  clear hg6
  go_wp2_with fail
  refine(HSG.out _).mono ?_
  rintro e w7 ⟨cv,pv,rfl,hoc,hop,hb7⟩
  obtain⟨ca,cm,cc,rfl⟩:=own_slice hoc
  obtain⟨pa,pm,pc,rfl⟩:=own_slice hop
  have BE7:=zh (BE6.out.trans (hb7.mono BE6.out.size));have BX7:=zh (BX6.out.trans (hb7.mono BX6.out.size));have BB7:=zh hb7;have OC:=zh hoc;have OP:=zh hop
  clear hb7 hoc hop
  go_wp2_with fail
  refine Lex.CEnd.intro (fun j hj hjl=>by rw[hj];exact BX7.out.block _ (by rw[<- hj];exact hjl)) (Lex.Kept.of_below BB7.out) ?_
  go_wp2_with fail
  refine Lex.PEnd.intro ?_
  intro w8 hw8
  go_wp2_with fail
  refine Lex.NEnd.intro (fun w9 hg9 hk9 ho9=>?_)
  have hs9:=hk9.at_
  have hl8:w3.heap.size<=w8.heap.size:=by rw[<- ZD.out];exact hw8
  obtain⟨gs,hgs⟩:∃ g,g=w8.heap.size:=⟨_,rfl⟩
  rw[<- hgs] at hs9 hl8
  have BE9:=zh (BE7.out.trans (hg9.mono BE7.out.size));have BX9:=zh (BX7.out.trans (hg9.mono BX7.out.size));have OC9:=zh (own_below OC.out hg9);have OP9:=zh (own_below OP.out hg9);have GS9:=zh hs9
  rw[<- hgs]
  clear hg9 hk9 ho9 hs9 hgs hw8
  intro w10 hw10
  go_wp2_with fail
  refine Lex.NEnd.intro (fun w11 hg11 hk11 ho11=>?_)
  have hs11:=hk11.at_
  have hl10:w3.heap.size<=w10.heap.size:=by rw[<- ZD.out];exact hw10
  obtain⟨gk,hgk⟩:∃ g,g=w10.heap.size:=⟨_,rfl⟩
  rw[<- hgk] at hs11 hl10
  have BE11:=zh (BE9.out.trans (hg11.mono BE9.out.size));have BX11:=zh (BX9.out.trans (hg11.mono BX9.out.size));have OC11:=zh (own_below OC9.out hg11);have OP11:=zh (own_below OP9.out hg11);have GS11:=zh (GS9.out.below hg11 GS9.out.lt);have GK11:=zh hs11
  rw[<- hgk]
  clear hg11 hk11 ho11 hs11 hgk hw10
  have s0:=GS11.out.cell 0;have s1:=GS11.out.cell 1;have s2:=GS11.out.cell 2;have s3:=GS11.out.free 0;have s4:=GS11.out.free 1;have s5:=GS11.out.free 2
  simp only[List.getElem?_toArray,List.getElem?_cons_zero,List.getElem?_cons_succ] at s0 s1 s2
  have k0:=GK11.out.cell 0;have k1:=GK11.out.cell 1;have k2:=GK11.out.cell 2;have k3:=GK11.out.free 0;have k4:=GK11.out.free 1;have k5:=GK11.out.free 2
  simp only[List.getElem?_toArray,List.getElem?_cons_zero,List.getElem?_cons_succ] at k0 k1 k2
  have hne:gs≠gk:=GS11.out.ne GK11.out (by decide)
  have h36:=BE6.out.size
  have hlk3:=K0.out
  go_wp2_with fail
  refine Lex.Mid.intro (fun j hj hjl=>by
   have h3:j≠gs:=by omega
   rw[heap_setCell_other _ _ _ _ h3,heap_setCell_other _ _ _ _ h3,heap_setCell_other _ _ _ _ h3]
   exact BX11.out.block _ hjl) ?_
  have K3:=zh (GK11.out.far (p:=⟨gs,0,none⟩) hne.symm (.int .i64 i))
  go_wp2_with fail
  refine Lex.Mid.intro (fun j hj hjl=>by
   have h3:j≠gs:=by omega
   have h4:j≠gk:=by omega
   rw[heap_setCell_other _ _ _ _ h4,heap_setCell_other _ _ _ _ h4,heap_setCell_other _ _ _ _ h4,heap_setCell_other _ _ _ _ h3,heap_setCell_other _ _ _ _ h3,heap_setCell_other _ _ _ _ h3]
   exact BX11.out.block _ hjl) ?_
  go_wp2_with fail
  refine Lex.EndsN.intro (by kernel_rfl) ⟨⟨rfl,Y0.out⟩,trivial⟩ ?_
  go_wp2_with fail
  go_meet
  have e1:=GS11.out.own_ne OC11.out (by decide);have e2:=GS11.out.own_ne OP11.out (by decide);have e3:=GK11.out.own_ne OC11.out (by decide);have e4:=GK11.out.own_ne OP11.out (by decide)
  have keep:∀ k,k≠gs->k≠gk->((((((w11.setCell ⟨gs,0,none⟩ (.int .i64 i)).setCell ⟨gs,1,none⟩ (.slice ca cm cc)).setCell ⟨gs,2,none⟩ (.slice pa pm pc)).setCell ⟨gk,0,none⟩ (.string S)).setCell ⟨gk,1,none⟩ (.int .i64 1)).setCell ⟨gk,2,none⟩ (.int .i64 (i+1))).heap[k]? = w11.heap[k]? :=fun k h3 h4=>by
   rw[heap_setCell_other _ _ _ _ h4,heap_setCell_other _ _ _ _ h4,heap_setCell_other _ _ _ _ h4,heap_setCell_other _ _ _ _ h3,heap_setCell_other _ _ _ _ h3,heap_setCell_other _ _ _ _ h3]
  refine⟨gs,_,_,rfl,rfl,(((((GS11.out.set 0 _).set 1 _).set 2 _).far (p:=⟨gk,0,none⟩) (by simp;omega) _).far (p:=⟨gk,1,none⟩) (by simp;omega) _).far (p:=⟨gk,2,none⟩) (by simp;omega) _,?_,?_,hl8,?_⟩
  ·exact own_keep (own_base OC11.out h36) (fun k hk=>keep k (fun e=>e1 (by rw[hk,e])) (fun e=>e3 (by rw[hk,e])))
  ·exact own_keep (own_base OP11.out h36) (fun k hk=>keep k (fun e=>e2 (by rw[hk,e])) (fun e=>e4 (by rw[hk,e])))
  ·exact((((((BE11.out.setCell (p:=⟨gs,0,none⟩) hl8 _).setCell (p:=⟨gs,1,none⟩) hl8 _).setCell (p:=⟨gs,2,none⟩) hl8 _).setCell (p:=⟨gk,0,none⟩) hl10 _).setCell (p:=⟨gk,1,none⟩) hl10 _).setCell (p:=⟨gk,2,none⟩) hl10 _)
 obtain⟨g,cv,pv,rfl,rfl,hg,hoc,hop,hgl,hbx⟩:=hcut
 obtain⟨ca,cm,cc,rfl⟩:=own_slice hoc
 obtain⟨pa,pm,pc,rfl⟩:=own_slice hop
 have F4:=zh (F3.out.step hbx);have OC:=zh hoc;have OP:=zh hop;have HG:=zh hg
 clear hk0 hk1 hk2 hbx hoc hop hg Y0 Y1 Y2 K3
 (try clear x00);(try clear x01);(try clear x02);(try clear x03);(try clear x04);(try clear x05);(try clear x10f);(try clear x10);(try clear x11f);(try clear x11);(try clear x12f);(try clear x12);(try clear x13f);(try clear x13)
 obtain⟨g0,g1,g2⟩:=HG.out.c3
 have hglc:=HG.out.lt
 have HX:=zh (show(wc.cell? ⟨g,0,none⟩).isSome=true by rw[g0];rfl)
 go_wp2_with fail
 refine Lex.wp_region_lexN (fun k=>k=g) [3] 4 [2,1] (by kernel_rfl) (by kernel_rfl) (by kernel_rfl) ?_
 simp only[Lex.wpCuts,List.take_succ_cons,List.take_zero,List.drop_succ_cons,List.drop_zero]
 go_wp2_with fail
 refine(HM.out _).mono ?_
 rintro e w5 ⟨rfl,hb5⟩
 obtain⟨mn,mp⟩:=m
 have hb5' : Below wc.heap.size wc w5:=(Below.refl wc.heap.size wc).drew.trans hb5
 have hg5:=HG.out.below hb5' hglc
 have F5:=zh (F4.out.step hb5');have OC5:=zh (own_below OC.out hb5');have OP5:=zh (own_below OP.out hb5');have HB5:=zh hb5'
 clear hb5 hb5' g0 g1 g2
 obtain⟨g0,g1,g2⟩:=hg5.c3
 clear hg5
 obtain⟨x10,x11,x12,x13,x10f,x11f,x12f,x13f⟩:=F5.out.e1_4 rfl
 go_wp2_with fail
 refine Lex.Mid.intro (fun j hj _=>by rw[hj];exact HB5.out.block _ hglc) ?_
 go_wp2_with fail
 rw[field_mem]
 go_wp2_with fail
 refine Lex.Mid.intro (fun j hj _=>by rw[hj];exact HB5.out.block _ hglc) ?_
 go_wp2_with fail
 refine Lex.EndsN.intro (by kernel_rfl) ⟨⟨rfl,HX.out⟩,trivial⟩ ?_
 go_wp2_with fail
 have G2:=(((F5.out.put 1 0 (.string mn) rfl).put 1 1 (.int .i64 i) rfl).put 1 2 (.slice ca cm cc) rfl).put 1 3 (.slice pa pm pc) rfl
 refine done_c rfl rfl (load_row (G2.at1 1 rfl) Tryz.underlying43 rfl info_Approval) ?_
 have hx:(Sig.signOf S i MG).index=(i:Int):=by unfold Sig.signOf;rfl
 have h3:w.heap.size+2<=w3.heap.size:=F3.out.size
 have hup1:=own_up OC5.out;have hup2:=own_up OP5.out
 have keep:∀ k,w3.heap.size<=k->((((w5.setCell ⟨w.heap.size+1,0,none⟩ (.string mn)).setCell ⟨w.heap.size+1,1,none⟩ (.int .i64 i)).setCell ⟨w.heap.size+1,2,none⟩ (.slice ca cm cc)).setCell ⟨w.heap.size+1,3,none⟩ (.slice pa pm pc)).heap[k]? = w5.heap[k]? :=fun k hk=>by
  have h4:k≠w.heap.size+1:=by omega
  rw[heap_setCell_other _ _ _ _ h4,heap_setCell_other _ _ _ _ h4,heap_setCell_other _ _ _ _ h4,heap_setCell_other _ _ _ _ h4]
 rw[HR.out]
 refine⟨.slice ca cm cc,.slice pa pm pc,(show Ending.returned (.agg #[.string mn,.int .i64 i,.slice ca cm cc,.slice pa pm pc])=.returned (.agg #[.string mn,.int .i64 (Sig.signOf S i MG).index,.slice ca cm cc,.slice pa pm pc]) by rw[hx]),own_keep (own_base OC5.out (by omega)) (fun k hk=>keep k (hup1 k hk)),own_keep (own_base OP5.out (by omega)) (fun k hk=>keep k (hup2 k hk)),G2.under⟩
end
section
open Go Go.RowKit Go.Maps
namespace Own
def NoStr (w:World) (b:Nat):Prop:=∀ i s,w.cell? ⟨b,i,none⟩≠some (.string s)
theorem NoStr.at_ {w:World} {b:Nat} {t:TypeId} {cs:Array Value} (h:At w b t cs) (hn:cs.toList.all (fun v=>match v with | .string _=>false | _=>true)=true):NoStr w b:=fun i s e=>by
 rw[At.cell h i,<- Array.getElem?_toList] at e
 have:=List.all_eq_true.1 hn _ (List.mem_of_getElem? e)
 cases this
theorem off_gen {α : Type} {size:Nat} {R:Elem α} {F:Nat->Prop} {w:World} {v:Value} {l:List α} {b:Nat} (h:ListF size R F w v l) (hb:NoStr w b) (hs:∀ F cs x,R F w cs x->∃ (j:Nat) (s:ByteArray),cs[j]? = some (.string s))
 (hR:∀ F cs x,R F w cs x->R (fun k=>k≠b) w cs x):ListF size R (fun k=>k≠b) w v l:=by
 obtain⟨a,c,hv,hn | ⟨b',o,ha,hF,hl,hall⟩⟩:=h
 ·exact⟨a,c,hv,.inl hn⟩
 ·by_cases h0:l.length=0
  ·exact⟨a,c,hv,.inl h0⟩
  ·refine⟨a,c,hv,.inr ⟨b',o,ha,?_,hl,fun i hi=>?_⟩⟩
   ·rintro rfl
    obtain⟨cs,h1,h2,h3⟩:=hall 0 (by omega)
    obtain⟨j,s,hj⟩:=hs _ _ _ h3
    exact hb _ _ (h2 j _ hj)
   ·obtain⟨cs,h1,h2,h3⟩:=hall i hi
    exact⟨cs,h1,h2,hR _ _ _ h3⟩
section
variable {w:World} {v:Value} {b:Nat} {F:Nat->Prop}
theorem members_off {l:List Member} (h:ListF 2 RMember F w v l) (hb:NoStr w b):ListF 2 RMember (fun k=>k≠b) w v l:=
 off_gen h hb (fun F cs x (hx:cs=_)=>⟨0,x.name,by rw[hx];rfl⟩) (fun F cs x (hx:cs=_)=>hx)
theorem keys_off {l:List KeyUse} (h:ListF 2 RKey F w v l) (hb:NoStr w b):ListF 2 RKey (fun k=>k≠b) w v l:=
 off_gen h hb (fun F cs x (hx:cs=_)=>⟨0,x.pub,by rw[hx];rfl⟩) (fun F cs x (hx:cs=_)=>hx)
theorem votes_off {l:List Vote} (h:ListF 3 RVote F w v l) (hb:NoStr w b):ListF 3 RVote (fun k=>k≠b) w v l:=
 off_gen h hb (fun F cs x (hx:cs=_)=>⟨0,x.name,by rw[hx];rfl⟩) (fun F cs x (hx:cs=_)=>hx)
theorem spaces_off {l:List Space} (h:ListF 3 RSpace F w v l) (hb:NoStr w b):ListF 3 RSpace (fun k=>k≠b) w v l:=
 off_gen h hb (fun F cs x ⟨u,h1,_⟩=>⟨0,x.pre,by rw[h1];rfl⟩) (fun F cs x ⟨u,h1,h2⟩=>⟨u,h1,members_off h2 hb⟩)
theorem props_off {l:List Proposal} (h:ListF 6 RProp F w v l) (hb:NoStr w b):ListF 6 RProp (fun k=>k≠b) w v l:=
 off_gen h hb (fun F cs x ⟨u,h1,_⟩=>⟨1,x.path,by rw[h1];rfl⟩) (fun F cs x ⟨u,h1,h2⟩=>⟨u,h1,votes_off h2 hb⟩)
end
section
variable {w w' : World} {v:Value} {b:Nat}
theorem PropsC.store {l:List Proposal} (h:PropsC w v l) (hb:NoStr w b) (hs:w.heap.size<=w'.heap.size) (hk:∀ k,k≠b->w'.heap[k]? = w.heap[k]?):PropsC w' v l:=((props_off h hb).keep hs (fun k hF _=>hk k hF)).mono (fun _ _ _=>trivial)
theorem SpacesC.store {l:List Space} (h:SpacesC w v l) (hb:NoStr w b) (hs:w.heap.size<=w'.heap.size) (hk:∀ k,k≠b->w'.heap[k]? = w.heap[k]?):SpacesC w' v l:=((spaces_off h hb).keep hs (fun k hF _=>hk k hF)).mono (fun _ _ _=>trivial)
theorem KeysC.store {l:List KeyUse} (h:KeysC w v l) (hb:NoStr w b) (hs:w.heap.size<=w'.heap.size) (hk:∀ k,k≠b->w'.heap[k]? = w.heap[k]?):KeysC w' v l:=((keys_off h hb).keep hs (fun k hF _=>hk k hF)).mono (fun _ _ _=>trivial)
end
end Own
end
section
open Go Go.RowKit Go.Maps
namespace Own
def POwnX (X:Nat->Prop) (B:Nat) (w:World) (v:Value) (L:List Proposal):Prop:=
 (∀ k,X k->k<w.heap.size)/\(∀ k,v.ownBlock=some k->¬ X k)/\∃ css:List (List Value),css.length=L.length/\w.ownsRow B 46 6 v L.length css.flatten/\∀ i (hi:i<L.length) (hi' : i<css.length),css[i].length=6/\RProp (fun k=>B<=k/\k<w.heap.size/\v.ownBlock≠some k/\¬ X k) w css[i] L[i]
theorem POwn.x {X:Nat->Prop} {B:Nat} {w w' : World} {v:Value} {L:List Proposal} (h:POwn B w v L) (hb:Below w.heap.size w w') (hX:∀ k,X k->w.heap.size<=k/\k<w'.heap.size):POwnX X B w' v L:=by
 obtain⟨css,h1,h2,h3⟩:=h
 refine⟨fun k hk=>(hX k hk).2,fun k e hk=>by have:=own_lt' h2 k e;have:=(hX k hk).1;omega,css,h1,own_below h2 hb,fun i hi hi' => ?_⟩
 obtain⟨h4,u,h5,h6⟩:=h3 i hi hi'
 exact⟨h4,u,h5,(h6.below hb).mono (fun k hk hl=>⟨hk.1,hl,hk.2.2,fun hx=>by have:=(hX k hx).1;have:=hk.2.1;omega⟩)⟩
theorem POwnX.drop {X:Nat->Prop} {B:Nat} {w:World} {v:Value} {L:List Proposal} (h:POwnX X B w v L):POwn B w v L:=by
 obtain⟨_,_,css,h1,h2,h3⟩:=h
 refine⟨css,h1,h2,fun i hi hi' => ?_⟩
 obtain⟨h4,u,h5,h6⟩:=h3 i hi hi'
 exact⟨h4,u,h5,h6.mono (fun k hk _=>⟨hk.1,hk.2.1,hk.2.2.1⟩)⟩
theorem POwnX.keep {X:Nat->Prop} {B:Nat} {w w' : World} {v:Value} {L:List Proposal} (h:POwnX X B w v L) (hs:w.heap.size<=w'.heap.size) (hk:∀ k,B<=k->k<w.heap.size->¬ X k->w'.heap[k]? = w.heap[k]?):POwnX X B w' v L:=by
 obtain⟨g1,g2,css,h1,h2,h3⟩:=h
 refine⟨fun k hx=>Nat.lt_of_lt_of_le (g1 k hx) hs,g2,css,h1,own_keep h2 (fun k e=>hk k (own_up h2 k e) (own_lt' h2 k e) (g2 k e)),fun i hi hi' => ?_⟩
 obtain⟨h4,u,h5,h6⟩:=h3 i hi hi'
 exact⟨h4,u,h5,(h6.keep hs (fun k hF hl=>hk k hF.1 hl hF.2.2.2)).mono (fun k hF hl=>⟨hF.1,hl,hF.2.2⟩)⟩
theorem POwnX.push {X:Nat->Prop} {B:Nat} {w w' : World} {v v' : Value} {L:List Proposal} {x:Proposal} {a:Option Addr} {c:Nat} {css:List (List Value)} (g1:∀ k,X k->k<w.heap.size) (g2:∀ k,v.ownBlock=some k->¬ X k) (h1:css.length=L.length)
 (h3:∀ i (hi:i<L.length) (hi' : i<css.length),css[i].length=6/\RProp (fun k=>B<=k/\k<w.heap.size/\v.ownBlock≠some k/\¬ X k) w css[i] L[i]) (hx:x.votes=[])
 (hv' : w'.ownsRow B 46 6 v' (L.length+1) (css.flatten++[.int .i64 x.id,.string x.path,.string x.digest,.int .i64 x.opened,.int .i64 x.expires,.slice a 0 c])) (hg:w.grownBy w' v.ownBlock) (ho:v'.ownBlock=v.ownBlock\/v'.ownBlock=some w.heap.size):POwnX X B w' v' (L++[x]):=by
 have hsz:w.heap.size<=w'.heap.size:=hg.size
 have hkp:∀ k,(B<=k/\k<w.heap.size/\v.ownBlock≠some k/\¬ X k)->k<w.heap.size->w'.heap[k]? = w.heap[k]? :=fun k hF hl=>hg.block k hl (fun e=>hF.2.2.1 e.symm)
 have hF:∀ k,(B<=k/\k<w.heap.size/\v.ownBlock≠some k/\¬ X k)->k<w'.heap.size->B<=k/\k<w'.heap.size/\v'.ownBlock≠some k/\¬ X k:=fun k hF hl=>⟨hF.1,hl,by
  rcases ho with ho | ho
  ·rw[ho];exact hF.2.2.1
  ·rw[ho];intro e;have:=Option.some.inj e;omega,hF.2.2.2⟩
 refine⟨fun k hk=>Nat.lt_of_lt_of_le (g1 k hk) hsz,fun k e hk=>?_,css++[[.int .i64 x.id,.string x.path,.string x.digest,.int .i64 x.opened,.int .i64 x.expires,.slice a 0 c]],by simp[h1],?_,fun i hi hi' => ?_⟩
 ·rcases ho with ho | ho
  ·exact g2 k (ho ▸ e) hk
  ·have:=g1 k hk
   rw[ho] at e
   have:=Option.some.inj e
   omega
 ·rw[List.flatten_append,List.length_append]
  simpa using hv'
 ·by_cases hl:i<L.length
  ·obtain⟨h4,u',h5,h6⟩:=h3 i hl (by omega)
   rw[List.getElem_append_left (by omega),List.getElem_append_left hl]
   exact⟨h4,u',h5,(h6.keep hsz hkp).mono hF⟩
  ·have e:i=L.length:=by simp at hi;omega
   subst e
   rw[List.getElem_append_right (by omega),List.getElem_append_right (by omega)]
   simp only[h1,Nat.sub_self,List.getElem_cons_zero]
   exact⟨rfl,_,rfl,by rw[hx];exact ListF.nil _ _⟩
end Own
theorem rvSubmit1_any (x:Own.Proposal) (u:Value) (g1 g2:Nat) (s d:ByteArray) (w:World) (hc:w.cell? ⟨g1,0,none⟩=some (.string s)) (hd:w.cell? ⟨g2,0,none⟩=some (.string d)):
 Calls Tryz.prog 41 (#[.agg #[.int .i64 x.id,.string x.path,.string x.digest,.int .i64 x.opened,.int .i64 x.expires,u]]++#[.pointer (some ⟨g1,0,none⟩),.pointer (some ⟨g2,0,none⟩)]) w fun e w' => e=.returned (.bool (decide (x.path=s)&&decide (x.digest=d)))/\Below w.heap.size w w' :=by
 obtain⟨i0,q1,q2,q3,i4,q5⟩:=x
 dsimp only
 obtain⟨R,hR⟩:∃ R,R=(decide (q1=s)&&decide (q2=d)):=⟨_,rfl⟩
 rw[<- hR]
 rw[<- bytes_beq,<- bytes_beq] at hR
 have hb1:Below w.heap.size w (w.alloc (.cells #[.int .i64 i0,.string q1,.string q2,.int .i64 q3,.int .i64 i4,u] 46)):=(Below.refl _ _).alloc (Nat.le_refl _) _
 have q:=(hb1.cell (p:=⟨g1,0,none⟩) (block_lt hc)).trans hc
 have q' :=(hb1.cell (p:=⟨g2,0,none⟩) (block_lt hd)).trans hd
 have HB:=zh hb1;have HR:=zh hR
 clear hb1 hc hd hR
 show Calls Tryz.prog 41 #[.agg #[.int .i64 i0,.string q1,.string q2,.int .i64 q3,.int .i64 i4,u],.pointer (some ⟨g1,0,none⟩),.pointer (some ⟨g2,0,none⟩)] w _
 go_enter Tryz.func41,Tryz.ntmps41
 cases h1:q1.toList==s.toList with
 | false =>
   have e:R=false:=by rw[HR.out,h1];rfl
   have HE:=zh e;clear e
   go_wp2_with fail
   go_ret
   exact⟨by rw[HE.out];rfl,HB.out⟩
 | true =>
   have e:R=(q2.toList==d.toList):=by rw[HR.out,h1];rfl
   have HE:=zh e;clear e
   go_wp2_with fail
   go_ret
   exact⟨by rw[HE.out];rfl,HB.out⟩
theorem rvSubmit_any (q:Own.Queue) (size window:Int) (s d:ByteArray) (pv:Value) (w:World) (hM:MaxL w) (hP:Own.PropsC w pv q.props) (hls:q.props.length<=1000000) (hlm:∀ p∈q.props,p.votes.length<=3000000):
 Calls Tryz.prog 12 #[.agg #[.int .i64 q.next,pv],.int .i64 size,.int .i64 window,.string s,.string d] w fun e w' => (∃ qv,e=.returned (.tuple #[qv,.int .i64 (Own.submit q size window s d).2.1,.int .i64 (Own.submit q size window s d).2.2])/\Own.QOut w (Own.submit q size window s d).1 qv w')/\Below w.heap.size w w' :=by
 obtain⟨R,hR⟩:∃ R,R=Own.submit q size window s d:=⟨_,rfl⟩
 rw[<- hR]
 unfold Own.submit Own.late at hR
 obtain⟨a,c,rfl⟩:=hP.len
 obtain⟨nx,L⟩:=q
 dsimp only at*
 have hb1:Below w.heap.size w ((((w.alloc (.cells #[.int .i64 nx,.slice a L.length c] 24)).alloc (.cells #[.string s] 9)).alloc (.cells #[.string d] 9)).alloc (.cells #[.int .i64 0,.slice none 0 0] 24)):=((((Below.refl _ _).alloc (Nat.le_refl _) _).alloc (by simp) _).alloc (by simp;omega) _).alloc (by simp;omega) _
 have a0:=(((At.new w 24 #[.int .i64 nx,.slice a L.length c]).alloc (.cells #[.string s] 9)).alloc (.cells #[.string d] 9)).alloc (.cells #[.int .i64 0,.slice none 0 0] 24)
 have a1:=((At.new1 w (.cells #[.int .i64 nx,.slice a L.length c] 24) 9 #[.string s]).alloc (.cells #[.string d] 9)).alloc (.cells #[.int .i64 0,.slice none 0 0] 24)
 have a2:At ((((w.alloc (.cells #[.int .i64 nx,.slice a L.length c] 24)).alloc (.cells #[.string s] 9)).alloc (.cells #[.string d] 9)).alloc (.cells #[.int .i64 0,.slice none 0 0] 24)) (w.heap.size+1+1) 9 #[.string d]:=by
  have:=(At.new1 (w.alloc (.cells #[.int .i64 nx,.slice a L.length c] 24)) (.cells #[.string s] 9) 9 #[.string d]).alloc (.cells #[.int .i64 0,.slice none 0 0] 24)
  rwa [World.size_alloc] at this
 have a3:At ((((w.alloc (.cells #[.int .i64 nx,.slice a L.length c] 24)).alloc (.cells #[.string s] 9)).alloc (.cells #[.string d] 9)).alloc (.cells #[.int .i64 0,.slice none 0 0] 24)) (w.heap.size+1+1+1) 24 #[.int .i64 0,.slice none 0 0]:=by
  have:=At.new1 ((w.alloc (.cells #[.int .i64 nx,.slice a L.length c] 24)).alloc (.cells #[.string s] 9)) (.cells #[.string d] 9) 24 #[.int .i64 0,.slice none 0 0]
  rwa [World.size_alloc,World.size_alloc] at this
 have hz1:w.heap.size+4<=((((w.alloc (.cells #[.int .i64 nx,.slice a L.length c] 24)).alloc (.cells #[.string s] 9)).alloc (.cells #[.string d] 9)).alloc (.cells #[.int .i64 0,.slice none 0 0] 24)).heap.size:=by simp
 obtain⟨c0,c1⟩:=a0.c2
 have hval:=rvValid_any ⟨nx,L⟩ (.slice a L.length c) _ (hM.below hb1) (hP.below hb1) (by show L.length<=_;omega) (fun p hp=>by have:=hlm p hp;omega)
 have HV:=zh hval;have HM:=zh (hM.below hb1);have HP:=zh (hP.below hb1);have HB:=zh hb1;have HA0:=zh a0;have HA1:=zh a1;have HA2:=zh a2;have HA3:=zh a3;have HLM:=zh hlm;have HR:=zh hR
 clear hval hP hM hb1 a0 a1 a2 a3 hlm hR
 go_enter Tryz.func12,Tryz.ntmps12
 go_wp2_with fail
 generalize (((w.alloc (.cells #[.int .i64 nx,.slice a L.length c] 24)).alloc (.cells #[.string s] 9)).alloc (.cells #[.string d] 9)).alloc (.cells #[.int .i64 0,.slice none 0 0] 24)=w1 at*
 refine HV.out.mono ?_
 rintro e w2 ⟨rfl,hb2⟩
 have a0:=HA0.out.below hb2 (by omega);have a1:=HA1.out.below hb2 (by omega);have a2:=HA2.out.below hb2 (by omega);have a3:=HA3.out.below hb2 (by omega)
 have x0:=a0.cell 0;have x1:=a0.cell 1
 have s0:=a1.cell 0;have d0:=a2.cell 0
 have r0:=a3.cell 0;have r1:=a3.cell 1;have r2:=a3.free 0;have r3:=a3.free 1
 simp only[List.getElem?_toArray,List.getElem?_cons_zero,List.getElem?_cons_succ] at x0 x1 s0 d0 r0 r1
 have hP2:=HP.out.below hb2
 have hB2:=HB.out.trans (hb2.mono HB.out.size)
 have hs2:w.heap.size+4<=w2.heap.size:=Nat.le_trans hz1 hb2.size
 have HM2:=zh (HM.out.below hb2);have HP2:=zh hP2;have B2:=zh hB2;have A02:=zh a0;have A12:=zh a1;have A22:=zh a2;have A32:=zh a3
 clear hP2 hB2 hb2 a0 a1 a2 a3 c0 c1 HV HP HB HM HA0 HA1 HA2 HA3
 cases hq:Own.queueOK ⟨nx,L⟩ with
 | false =>
   have e:R=(Own.Queue.none,0,1):=by rw[HR.out,hq];rfl
   have HE:=zh e;clear e
   go_wp2_with fail
   have F2:=(A32.out.set 0 (.int .i64 0)).set 1 (.slice none 0 0)
   refine done_ctt rfl rfl rfl rfl (load_row F2 Tryz.underlying24 rfl info_Queue) ⟨⟨.agg #[.int .i64 0,.slice none 0 0],?_,?_⟩,?_⟩
   ·rw[HE.out];rfl
   ·rw[HE.out];exact⟨_,rfl,Own.POwn.nil _ _⟩
   ·exact(B2.out.setCell (p:=⟨w.heap.size+1+1+1,0,none⟩) (by show w.heap.size<=w.heap.size+1+1+1;omega) _).setCell (p:=⟨w.heap.size+1+1+1,1,none⟩) (by show w.heap.size<=w.heap.size+1+1+1;omega) _
 | true=>
 rw[hq] at HR
 have HR2:=zh HR.out
 clear HR
 by_cases h1:size<0
 case pos=>
  have d1:decide (size<0)=true:=decide_eq_true h1
  have e:R=(Own.Queue.none,0,2):=by rw[HR2.out,if_neg (by decide),if_pos (.inl h1)]
  have HE:=zh e;clear e
  go_wp2_with fail
  have F2:=(A32.out.set 0 (.int .i64 0)).set 1 (.slice none 0 0)
  refine done_ctt rfl rfl rfl rfl (load_row F2 Tryz.underlying24 rfl info_Queue) ⟨⟨.agg #[.int .i64 0,.slice none 0 0],?_,?_⟩,?_⟩
  ·rw[HE.out];rfl
  ·rw[HE.out];exact⟨_,rfl,Own.POwn.nil _ _⟩
  ·exact(B2.out.setCell (p:=⟨w.heap.size+1+1+1,0,none⟩) (by show w.heap.size<=w.heap.size+1+1+1;omega) _).setCell (p:=⟨w.heap.size+1+1+1,1,none⟩) (by show w.heap.size<=w.heap.size+1+1+1;omega) _
 have d1:decide (size<0)=false:=decide_eq_false h1
 by_cases h2:1099511627776<size
 case pos=>
  have d2:decide (1099511627776<size)=true:=decide_eq_true h2
  have e:R=(Own.Queue.none,0,2):=by rw[HR2.out,if_neg (by decide),if_pos (.inr (.inl h2))]
  have HE:=zh e;clear e
  go_wp2_with fail
  have F2:=(A32.out.set 0 (.int .i64 0)).set 1 (.slice none 0 0)
  refine done_ctt rfl rfl rfl rfl (load_row F2 Tryz.underlying24 rfl info_Queue) ⟨⟨.agg #[.int .i64 0,.slice none 0 0],?_,?_⟩,?_⟩
  ·rw[HE.out];rfl
  ·rw[HE.out];exact⟨_,rfl,Own.POwn.nil _ _⟩
  ·exact(B2.out.setCell (p:=⟨w.heap.size+1+1+1,0,none⟩) (by show w.heap.size<=w.heap.size+1+1+1;omega) _).setCell (p:=⟨w.heap.size+1+1+1,1,none⟩) (by show w.heap.size<=w.heap.size+1+1+1;omega) _
 have d2:decide (1099511627776<size)=false:=decide_eq_false h2
 by_cases h3:window<1
 case pos=>
  have d3:decide (window<1)=true:=decide_eq_true h3
  have e:R=(Own.Queue.none,0,2):=by rw[HR2.out,if_neg (by decide),if_pos (.inr (.inr (.inl h3)))]
  have HE:=zh e;clear e
  go_wp2_with fail
  have F2:=(A32.out.set 0 (.int .i64 0)).set 1 (.slice none 0 0)
  refine done_ctt rfl rfl rfl rfl (load_row F2 Tryz.underlying24 rfl info_Queue) ⟨⟨.agg #[.int .i64 0,.slice none 0 0],?_,?_⟩,?_⟩
  ·rw[HE.out];rfl
  ·rw[HE.out];exact⟨_,rfl,Own.POwn.nil _ _⟩
  ·exact(B2.out.setCell (p:=⟨w.heap.size+1+1+1,0,none⟩) (by show w.heap.size<=w.heap.size+1+1+1;omega) _).setCell (p:=⟨w.heap.size+1+1+1,1,none⟩) (by show w.heap.size<=w.heap.size+1+1+1;omega) _
 have d3:decide (window<1)=false:=decide_eq_false h3
 by_cases h4:256<window
 case pos=>
  have d4:decide (256<window)=true:=decide_eq_true h4
  have e:R=(Own.Queue.none,0,2):=by rw[HR2.out,if_neg (by decide),if_pos (.inr (.inr (.inr h4)))]
  have HE:=zh e;clear e
  go_wp2_with fail
  have F2:=(A32.out.set 0 (.int .i64 0)).set 1 (.slice none 0 0)
  refine done_ctt rfl rfl rfl rfl (load_row F2 Tryz.underlying24 rfl info_Queue) ⟨⟨.agg #[.int .i64 0,.slice none 0 0],?_,?_⟩,?_⟩
  ·rw[HE.out];rfl
  ·rw[HE.out];exact⟨_,rfl,Own.POwn.nil _ _⟩
  ·exact(B2.out.setCell (p:=⟨w.heap.size+1+1+1,0,none⟩) (by show w.heap.size<=w.heap.size+1+1+1;omega) _).setCell (p:=⟨w.heap.size+1+1+1,1,none⟩) (by show w.heap.size<=w.heap.size+1+1+1;omega) _
 have d4:decide (256<window)=false:=decide_eq_false h4
 have e:=HR2.out
 rw[if_neg (by decide),if_neg (by omega)] at e
 have HR3:=zh e
 clear e HR2
 go_wp2_with fail
 refine(rvPath_any s w2 HM2.out).mono ?_
 rintro e w3 ⟨rfl,hb3⟩
 have a0:=A02.out.below hb3 (by omega);have a1:=A12.out.below hb3 (by omega);have a2:=A22.out.below hb3 (by omega);have a3:=A32.out.below hb3 (by omega)
 clear x0 x1 s0 d0 r0 r1 r2 r3 d1 d2 d3 d4
 have x0:=a0.cell 0;have x1:=a0.cell 1
 have s0:=a1.cell 0;have d0:=a2.cell 0
 have r0:=a3.cell 0;have r1:=a3.cell 1;have r2:=a3.free 0;have r3:=a3.free 1
 simp only[List.getElem?_toArray,List.getElem?_cons_zero,List.getElem?_cons_succ] at x0 x1 s0 d0 r0 r1
 have B3:=zh (B2.out.trans (hb3.mono B2.out.size));have P3:=zh (HP2.out.below hb3);have A03:=zh a0;have A13:=zh a1;have A23:=zh a2;have A33:=zh a3
 have hs3:=Nat.le_trans hs2 hb3.size
 clear a0 a1 a2 a3 hb3 A02 A12 A22 A32 HM2 HP2 B2
 cases hp:Own.pathOK s with
 | false =>
   have e:R=(Own.Queue.none,0,4):=by rw[HR3.out,if_pos hp]
   have HE:=zh e;clear e
   go_wp2_with fail
   have F2:=(A33.out.set 0 (.int .i64 0)).set 1 (.slice none 0 0)
   refine done_ctt rfl rfl rfl rfl (load_row F2 Tryz.underlying24 rfl info_Queue) ⟨⟨.agg #[.int .i64 0,.slice none 0 0],?_,?_⟩,?_⟩
   ·rw[HE.out];rfl
   ·rw[HE.out];exact⟨_,rfl,Own.POwn.nil _ _⟩
   ·exact(B3.out.setCell (p:=⟨w.heap.size+1+1+1,0,none⟩) (by show w.heap.size<=w.heap.size+1+1+1;omega) _).setCell (p:=⟨w.heap.size+1+1+1,1,none⟩) (by show w.heap.size<=w.heap.size+1+1+1;omega) _
 | true=>
 have e:=HR3.out
 rw[hp,if_neg (by decide)] at e
 by_cases h5:d.size=32
 case neg=>
  have d5:((d.size:Int)==32)=false:=beq_eq_false_iff_ne.2 (by omega)
  have hd:Sig.digest d=false:=decide_eq_false h5
  have e2:R=(Own.Queue.none,0,1):=by rw[e,if_pos hd]
  have HE:=zh e2;clear e e2 hd HR3
  go_wp2_with fail
  have F2:=(A33.out.set 0 (.int .i64 0)).set 1 (.slice none 0 0)
  refine done_ctt rfl rfl rfl rfl (load_row F2 Tryz.underlying24 rfl info_Queue) ⟨⟨.agg #[.int .i64 0,.slice none 0 0],?_,?_⟩,?_⟩
  ·rw[HE.out];rfl
  ·rw[HE.out];exact⟨_,rfl,Own.POwn.nil _ _⟩
  ·exact(B3.out.setCell (p:=⟨w.heap.size+1+1+1,0,none⟩) (by show w.heap.size<=w.heap.size+1+1+1;omega) _).setCell (p:=⟨w.heap.size+1+1+1,1,none⟩) (by show w.heap.size<=w.heap.size+1+1+1;omega) _
 have d5:((d.size:Int)==32)=true:=by rw[beq_iff_eq];omega
 have hd:Sig.digest d=true:=decide_eq_true h5
 rw[hd,if_neg (by decide)] at e
 have HR4:=zh e;have H5:=zh h5
 clear e hd HR3 h5
 have hcf:=cfProposals_any 41 #[.pointer (some ⟨w.heap.size+1,0,none⟩),.pointer (some ⟨w.heap.size+1+1,0,none⟩)] (by intros;rfl) (fun p:Own.Proposal=>decide (p.path=s)&&decide (p.digest=d)) _ L w3 P3.out (by omega) (fun W x u hb=>rvSubmit1_any x u _ _ s d W ((hb.cell (p:=⟨w.heap.size+1,0,none⟩) A13.out.lt).trans s0) ((hb.cell (p:=⟨w.heap.size+1+1,0,none⟩) A23.out.lt).trans d0))
 have HCF:=zh hcf
 clear hcf
 go_wp2_with fail
 refine HCF.out.mono ?_
 rintro e w4 ⟨rfl,hb4⟩
 have a0:=A03.out.below hb4 (by omega);have a1:=A13.out.below hb4 (by omega);have a2:=A23.out.below hb4 (by omega);have a3:=A33.out.below hb4 (by omega)
 clear x0 x1 s0 d0 r0 r1 r2 r3 d5
 have x0:=a0.cell 0;have x1:=a0.cell 1
 have s0:=a1.cell 0;have d0:=a2.cell 0
 have r0:=a3.cell 0;have r1:=a3.cell 1;have r2:=a3.free 0;have r3:=a3.free 1
 simp only[List.getElem?_toArray,List.getElem?_cons_zero,List.getElem?_cons_succ] at x0 x1 s0 d0 r0 r1
 have B4:=zh (B3.out.trans (hb4.mono B3.out.size));have P4:=zh (P3.out.below hb4);have A04:=zh a0;have A14:=zh a1;have A24:=zh a2;have A34:=zh a3
 have hs4:=Nat.le_trans hs3 hb4.size
 clear a0 a1 a2 a3 hb4 A03 A13 A23 A33 P3 B3 HCF
 cases hx:L.any (fun p=>decide (p.path=s)&&decide (p.digest=d)) with
 | true =>
   have e:R=(Own.Queue.none,0,5):=by rw[HR4.out,if_pos hx]
   have HE:=zh e;clear e
   go_wp2_with fail
   have F2:=(A34.out.set 0 (.int .i64 0)).set 1 (.slice none 0 0)
   refine done_ctt rfl rfl rfl rfl (load_row F2 Tryz.underlying24 rfl info_Queue) ⟨⟨.agg #[.int .i64 0,.slice none 0 0],?_,?_⟩,?_⟩
   ·rw[HE.out];rfl
   ·rw[HE.out];exact⟨_,rfl,Own.POwn.nil _ _⟩
   ·exact(B4.out.setCell (p:=⟨w.heap.size+1+1+1,0,none⟩) (by show w.heap.size<=w.heap.size+1+1+1;omega) _).setCell (p:=⟨w.heap.size+1+1+1,1,none⟩) (by show w.heap.size<=w.heap.size+1+1+1;omega) _
 | false=>
 have e:=HR4.out
 rw[hx,if_neg (by decide)] at e
 by_cases h6:L.length=64
 case pos=>
  have d6:((L.length:Int)==64)=true:=by rw[beq_iff_eq];omega
  have e2:R=(Own.Queue.none,0,7):=by rw[e,if_pos (.inl h6)]
  have HE:=zh e2;clear e e2 HR4
  go_wp2_with fail
  have F2:=(A34.out.set 0 (.int .i64 0)).set 1 (.slice none 0 0)
  refine done_ctt rfl rfl rfl rfl (load_row F2 Tryz.underlying24 rfl info_Queue) ⟨⟨.agg #[.int .i64 0,.slice none 0 0],?_,?_⟩,?_⟩
  ·rw[HE.out];rfl
  ·rw[HE.out];exact⟨_,rfl,Own.POwn.nil _ _⟩
  ·exact(B4.out.setCell (p:=⟨w.heap.size+1+1+1,0,none⟩) (by show w.heap.size<=w.heap.size+1+1+1;omega) _).setCell (p:=⟨w.heap.size+1+1+1,1,none⟩) (by show w.heap.size<=w.heap.size+1+1+1;omega) _
 have d6:((L.length:Int)==64)=false:=beq_eq_false_iff_ne.2 (by omega)
 by_cases h7:nx=1099511627776
 case pos=>
  have d7:(nx==1099511627776)=true:=by rw[beq_iff_eq];exact h7
  have e2:R=(Own.Queue.none,0,7):=by rw[e,if_pos (.inr h7)]
  have HE:=zh e2;clear e e2 HR4 h7
  go_wp2_with fail
  have F2:=(A34.out.set 0 (.int .i64 0)).set 1 (.slice none 0 0)
  refine done_ctt rfl rfl rfl rfl (load_row F2 Tryz.underlying24 rfl info_Queue) ⟨⟨.agg #[.int .i64 0,.slice none 0 0],?_,?_⟩,?_⟩
  ·rw[HE.out];rfl
  ·rw[HE.out];exact⟨_,rfl,Own.POwn.nil _ _⟩
  ·exact(B4.out.setCell (p:=⟨w.heap.size+1+1+1,0,none⟩) (by show w.heap.size<=w.heap.size+1+1+1;omega) _).setCell (p:=⟨w.heap.size+1+1+1,1,none⟩) (by show w.heap.size<=w.heap.size+1+1+1;omega) _
 have d7:(nx==1099511627776)=false:=beq_eq_false_iff_ne.2 h7
 rw[if_neg (by omega)] at e
 have HE:=zh e;have H7:=zh h7
 clear e HR4 h7
 have hkp:=rvKept_any 43 #[] (by intros;rfl) (fun _=>true) nx _ L w4 P4.out hls HLM.out (fun W x u hb=>rvAll_any x u W)
 have HKP:=zh hkp
 clear hkp r0 r1 r2 r3
 go_wp2_with fail
 refine HKP.out.mono ?_
 rintro e w5 ⟨⟨v',rfl,hpo⟩,hb5⟩
 have hfl:List.filter (fun _=>true) L=L:=List.filter_eq_self.2 (fun _ _=>rfl)
 rw[hfl] at hpo
 obtain⟨va,vc,rfl⟩:=hpo.one
 have hw:wrap64 (size+window)=size+window:=by unfold wrap64;omega
 have hn:0<=nx/\nx<=1099511627776:=by
  unfold Own.queueOK Own.late at hq
  simp only[Bool.and_eq_true,decide_eq_true_eq] at hq
  exact⟨hq.1.1.1,hq.1.1.2⟩
 have hw2:wrap64 (nx+1)=nx+1:=by have:=hn.1;have:=hn.2;unfold wrap64;omega
 have b56:Below w5.heap.size w5 (w5.alloc (.cells #[.int .i64 nx,.slice va L.length vc] 24)):=(Below.refl _ _).alloc (Nat.le_refl _) _
 have b46:=hb5.trans (b56.mono hb5.size)
 have a0:=A04.out.below b46 (by omega);have a1:=A14.out.below b46 (by omega);have a2:=A24.out.below b46 (by omega);have a3:=A34.out.below b46 (by omega)
 have o6:=At.new w5 24 #[.int .i64 nx,.slice va L.length vc]
 have p6:=(hpo.base (B' :=w4.heap.size) (by omega)).x (X:=fun k=>k=w5.heap.size) b56 (fun k hk=>by subst hk;exact⟨Nat.le_refl _,by simp⟩)
 clear x0 x1 s0 d0
 have x0:=a0.cell 0;have x1:=a0.cell 1
 have s0:=a1.cell 0;have d0:=a2.cell 0
 have r0:=a3.cell 0;have r1:=a3.cell 1;have r2:=a3.free 0;have r3:=a3.free 1
 simp only[List.getElem?_toArray,List.getElem?_cons_zero,List.getElem?_cons_succ] at x0 x1 s0 d0 r0 r1
 obtain⟨o0,o1⟩:=o6.c2
 have hs5:=hb5.size
 have hz6:w5.heap.size<(w5.alloc (.cells #[.int .i64 nx,.slice va L.length vc] 24)).heap.size:=by simp
 have B6:=zh (B4.out.trans (b46.mono B4.out.size));have A06:=zh a0;have A36:=zh a3;have O6:=zh o6;have P6:=zh p6;have HW:=zh hw;have HW2:=zh hw2
 clear a0 a1 a2 a3 o6 p6 hpo b46 b56 hb5 hfl hw hw2 hn hq hx h6 A04 A14 A24 A34 P4 B4 HKP d6 d7
 go_upto_region 14 with fail
 generalize w5.alloc (.cells #[.int .i64 nx,.slice va L.length vc] 24)=w6 at*
 have b67:Below w6.heap.size w6 (w6.alloc (.cells #[.int .i64 nx,.string s,.string d,.int .i64 size,.int .i64 (size+window),.slice none 0 0] 46)):=(Below.refl _ _).alloc (Nat.le_refl _) _
 have hrw:=rows_new w6 46 #[.int .i64 nx,.string s,.string d,.int .i64 size,.int .i64 (size+window),.slice none 0 0] 6 1 1 rfl
 have p7:=P6.out.keep b67.size (fun k _ hl _=>b67.block k hl)
 obtain⟨t1,t2,css,q1,q2,q3⟩:=p7
 have T1:=zh t1;have T2:=zh t2;have Q1:=zh q1;have Q2:=zh q2;have Q3:=zh q3;have HRW:=zh hrw
 have B7:=zh (B6.out.trans (b67.mono B6.out.size));have O7:=zh (O6.out.below b67 O6.out.lt);have A07:=zh (A06.out.below b67 A06.out.lt);have A37:=zh (A36.out.below b67 A36.out.lt)
 have hw46:w4.heap.size+3<=w6.heap.size\/w6.heap.size<w4.heap.size+3:=by omega
 have hOl:=O6.out.lt
 have hB6:=B6.out.size
 clear t1 t2 q1 q2 q3 hrw b67 r0 r1 r2 r3 hw46
 have hw56:w5.heap.size≠w.heap.size:=by omega
 go_upto_region 15 with (first
  | rw[HW.out]
  | (at_builtin;go_must (refine wp_append_rows elemProps rfl _ _ rfl w4.heap.size L.length (.slice va L.length vc) css.flatten rfl Q2.out (.slice (some ⟨w6.heap.size,0,none⟩) 1 1) 1 [.int .i64 nx,.string s,.string d,.int .i64 size,.int .i64 (size+window),.slice none 0 0] rfl HRW.out (by intro u hu;simp at hu;rcases hu with rfl | rfl | rfl | rfl | rfl | rfl <;> rfl) (by omega) (by omega) (by rw[World.size_alloc];omega) ?_);intro v9 w9 ho9 hg9 hw9;obtain⟨ya,ym,yc,rfl⟩:=own_slice ho9;have HP9:=zh (Own.POwnX.push (x:=⟨nx,s,d,size,size+window,[]⟩) T1.out T2.out Q1.out Q3.out rfl ho9 hg9 hw9);have HB9:=zh (below_own B7.out B7.out.size (own_base Q2.out (by omega)) hg9);have O9:=zh (O7.out.keep (hg9.block _ O7.out.lt (fun e=>T2.out _ e.symm rfl)));have A09:=zh (A07.out.keep (hg9.block _ A07.out.lt (fun e=>by have:=own_up Q2.out _ e.symm;omega)));have A39:=zh (A37.out.keep (hg9.block _ A37.out.lt (fun e=>by have:=own_up Q2.out _ e.symm;omega)));have hs9:=hg9.size;have c9:=O9.out.cell 1;have f9:=O9.out.free 1;clear ho9 hg9 hw9))
 have o10:At (w9.setCell ⟨w5.heap.size,1,none⟩ (.slice ya ym yc)) w5.heap.size 24 #[.int .i64 nx,.slice ya ym yc]:=O9.out.set 1 (.slice ya ym yc)
 have a10:=A09.out.far (p:=⟨w5.heap.size,1,none⟩) (by show w.heap.size≠w5.heap.size;omega) (.slice ya ym yc)
 have r10:=A39.out.far (p:=⟨w5.heap.size,1,none⟩) (by show w.heap.size+1+1+1≠w5.heap.size;omega) (.slice ya ym yc)
 have b10:=HB9.out.setCell (p:=⟨w5.heap.size,1,none⟩) (by show w.heap.size<=w5.heap.size;omega) (.slice ya ym yc)
 have p10:=HP9.out.keep (w' :=w9.setCell ⟨w5.heap.size,1,none⟩ (.slice ya ym yc)) (by simp[World.setCell]) (fun k _ _ hk=>heap_setCell_other _ _ _ _ hk)
 have O10:=zh o10;have A010:=zh a10;have R10:=zh r10;have B10:=zh b10;have P10:=zh p10
 have o0:=o10.cell 0;have o1:=o10.free 0
 simp only[List.getElem?_toArray,List.getElem?_cons_zero,List.getElem?_cons_succ] at o0
 clear o10 a10 r10 b10 p10 HB9 O9 A09 A39 HP9 c9 f9 hs9 Q1 Q2 Q3 T1 T2 HRW O7 A07 A37 B7 P6 O6 A06 A36 B6 x0 x1 s0 d0
 generalize w9.setCell ⟨w5.heap.size,1,none⟩ (.slice ya ym yc)=w10 at*
 go_upto_region 16 with (rw[HW2.out])
 have o11:At (w10.setCell ⟨w5.heap.size,0,none⟩ (.int .i64 (nx+1))) w5.heap.size 24 #[.int .i64 (nx+1),.slice ya ym yc]:=O10.out.set 0 (.int .i64 (nx+1))
 have a11:=A010.out.far (p:=⟨w5.heap.size,0,none⟩) (by show w.heap.size≠w5.heap.size;omega) (.int .i64 (nx+1))
 have r11:=R10.out.far (p:=⟨w5.heap.size,0,none⟩) (by show w.heap.size+1+1+1≠w5.heap.size;omega) (.int .i64 (nx+1))
 have b11:=B10.out.setCell (p:=⟨w5.heap.size,0,none⟩) (by show w.heap.size<=w5.heap.size;omega) (.int .i64 (nx+1))
 have p11:=P10.out.keep (w' :=w10.setCell ⟨w5.heap.size,0,none⟩ (.int .i64 (nx+1))) (by simp[World.setCell]) (fun k _ _ hk=>heap_setCell_other _ _ _ _ hk)
 have P11:=zh p11.drop;have B11:=zh b11;have R11:=zh r11
 have o2:=o11.cell 0;have o3:=o11.cell 1;have x0:=a11.cell 0
 have r0:=r11.cell 0;have r1:=r11.cell 1;have r2:=r11.free 0;have r3:=r11.free 1
 simp only[List.getElem?_toArray,List.getElem?_cons_zero,List.getElem?_cons_succ] at o2 o3 x0 r0 r1
 clear o11 a11 r11 b11 p11 o0 o1 O10 A010 R10 B10 P10
 generalize w10.setCell ⟨w5.heap.size,0,none⟩ (.int .i64 (nx+1))=w11 at*
 refine Lex.wp_region_lexN (fun k=>k=w.heap.size) [2] 4 [4] (by kernel_rfl) (by kernel_rfl) (by kernel_rfl) ?_
 simp only[Lex.wpCuts,List.take_succ_cons,List.take_zero,List.drop_succ_cons,List.drop_zero]
 go_wp2_with fail
 refine Lex.Mid.intro (fun k hk _=>by have hk3:k≠w.heap.size+1+1+1:=(by subst hk;omega);rw[drew_heap,drew_heap,heap_setCell_other _ _ _ _ hk3,heap_setCell_other _ _ _ _ hk3]) ?_
 go_wp2_with fail
 refine Lex.EndsN.intro (by kernel_rfl) ⟨⟨rfl,by show(w11.cell? ⟨w.heap.size,0,none⟩).isSome=true;rw[x0];rfl⟩,trivial⟩ ?_
 go_wp2_with fail
 have F2:=((R11.out.set 0 (.int .i64 (nx+1))).set 1 (.slice ya ym yc)).drew
 refine done_ctt rfl rfl rfl rfl (load_row F2 Tryz.underlying24 rfl info_Queue) ⟨⟨.agg #[.int .i64 (nx+1),.slice ya ym yc],?_,?_⟩,?_⟩
 ·rw[HE.out];rfl
 ·rw[HE.out]
  refine⟨_,rfl,Own.POwn.base (B:=w4.heap.size) (P11.out.keep (by rw[drew_heap];simp[World.setCell]) (fun k hk _=>?_)) (by omega)⟩
  have hk1:k≠w.heap.size+1+1+1:=by omega
  rw[drew_heap,heap_setCell_other _ _ _ _ hk1,heap_setCell_other _ _ _ _ hk1]
 ·exact((B11.out.setCell (p:=⟨w.heap.size+1+1+1,0,none⟩) (by show w.heap.size<=w.heap.size+1+1+1;omega) _).setCell (p:=⟨w.heap.size+1+1+1,1,none⟩) (by show w.heap.size<=w.heap.size+1+1+1;omega) _).drew
end
section
open Go Go.RowKit Go.Maps
theorem ba_beq (x y:ByteArray):(x==y)=decide (x=y):=by
 rw[Bool.eq_iff_iff,decide_eq_true_iff]
 constructor
 ·intro h
  cases x;cases y
  have h' : (_:Array UInt8)==_:=h
  exact congrArg ByteArray.mk (eq_of_beq h')
 ·rintro rfl
  cases x
  show(_:Array UInt8)==_
  exact BEq.rfl
theorem equalIn_string (D:Nat) (a c:ByteArray) (w:World):(Op.equalIn (D+1) 9 (.string a) (.string c)).run Tryz.prog w=.ok (a==c) w:=by
 rw[Op.equalIn]
 simp[Tryz.underlying9]
theorem equalIn_member (D:Nat) (a b c d:ByteArray) (w:World):(Op.equalIn (D+2) 73 (.agg #[.string a,.string b]) (.agg #[.string c,.string d])).run Tryz.prog w=.ok ((a==c)&&(b==d)) w:=by
 have hs:Tryz.prog.stoodInHeld 73=false:=by kernel_rfl
 have e1:=equalIn_string D a c w
 have e2:=equalIn_string D b d w
 have s1:∀ w,(sizeOf 9).run Tryz.prog w=.ok 1 w:=fun w=>by kernel_rfl
 have s2:∀ w,(isAgg 9).run Tryz.prog w=.ok false w:=fun w=>by kernel_rfl
 rw[Op.equalIn]
 cases h1:a==c <;> cases h2:b==d <;> rw[h1] at e1 <;> rw[h2] at e2 <;> simp[Tryz.underlying73,hs,part,e1,e2,s1,s2,Result.andThen]
theorem eql_member (a b c d:ByteArray) (w:World):(binOp .eql 73 (.agg #[.string a,.string b]) (.agg #[.string c,.string d])).run Tryz.prog w=.ok (.bool (decide (a=c)&&decide (b=d))) w:=by
 have h2:(Op.equal 73 (.agg #[.string a,.string b]) (.agg #[.string c,.string d])).run Tryz.prog w=.ok ((a==c)&&(b==d)) w:=equalIn_member 9998 a b c d w
 have h3:(decide (a=c)&&decide (b=d))=((a==c)&&(b==d)):=by
  rw[ba_beq,ba_beq]
 rw[h3]
 simp[binOp,h2,Result.andThen]
end
section
open Go Go.RowKit Go.Maps
def Own.sameM (x:Own.Member) (m:Own.Member):Bool:=decide (x.name=m.name)&&decide (x.pub=m.pub)
theorem ixMembers_any (v:Value) (l:List Own.Member) (nm pb:ByteArray) (w:World) (h:Own.MembersC w v l) (hl:l.length<=140737488355328):
 Calls Tryz.prog 135 #[v,.agg #[.string nm,.string pb]] w fun e w' => (∃ i,e=.returned (.int .i64 i)/\Own.Idx (Own.sameM ⟨nm,pb⟩) l i)/\Below w.heap.size w w' :=by
 obtain⟨a,c,rfl⟩:=h.len
 have hb1:Below w.heap.size w (w.alloc (.cells #[.string nm,.string pb] 73)):=(Below.refl _ _).alloc (Nat.le_refl _) _
 have ha:=At.new w 73 #[.string nm,.string pb]
 have HL:=zh (h.below hb1);have HB:=zh hb1;have HA:=zh ha
 clear h hb1 ha
 go_enter Tryz.func135,Tryz.ntmps135
 go_wp2_with fail
 generalize w.alloc (.cells #[.string nm,.string pb] 73)=w1 at*
 go_loopw [8] (fun i wr=>∃ k:Nat,∃ hk:k<=l.length,i=.int .i64 k/\(∀ j (hj:j<k),Own.sameM ⟨nm,pb⟩ (l[j]'(by omega))=false)/\Below w1.heap.size w1 wr) (fun i _=>l.length - (intOf i).toNat)
 case atStart=>exact⟨0,by omega,rfl,(fun j hj=>absurd hj (by omega)),Below.refl _ _⟩
 case round=>
  obtain⟨k,hk,rfl,hn,hb⟩:=hrel
  have HBW:=zh hb;have HN:=zh hn
  by_cases hlt:k<l.length
  case neg=>
   have hke:k=l.length:=by omega
   have dk:decide ((k:Int)<l.length)=false:=decide_eq_false (by omega)
   have hix:=Own.Idx.miss (p:=Own.sameM ⟨nm,pb⟩) (l:=l) (fun j hj=>hn j (by omega))
   have HIX:=zh hix
   clear hix hke hb hn
   go_wp2_with fail
   go_ret
   exact⟨⟨_,rfl,HIX.out⟩,HB.out.trans (HBW.out.mono HB.out.size)⟩
  have dk:decide ((k:Int)<l.length)=true:=decide_eq_true (by omega)
  obtain⟨b,o,ha,hbl,e0,e1⟩:=Own.MembersC.cells (HL.out.below hb) hlt
  subst ha
  have ar:=HA.out.below hb HA.out.lt
  obtain⟨c0,c1⟩:=ar.c2
  obtain⟨q0,hq0⟩:∃ x,x=l[k].name:=⟨_,rfl⟩
  obtain⟨q1,hq1⟩:∃ x,x=l[k].pub:=⟨_,rfl⟩
  have hsame:Own.sameM ⟨nm,pb⟩ l[k]=(decide (nm=q0)&&decide (pb=q1)):=by rw[hq0,hq1];rfl
  have heq:=eql_member nm pb q0 q1
  rw[<- hq0] at e0
  rw[<- hq1] at e1
  have HS:=zh hsame
  clear hb hn hq0 hq1 hsame ar
  obtain⟨S,hS⟩:∃ S,S=(decide (nm=q0)&&decide (pb=q1)):=⟨_,rfl⟩
  rw[<- hS] at HS heq
  clear hS
  cases S with
  | true =>
    have hix:=Own.Idx.hit hlt HS.out HN.out
    have HIX:=zh hix
    clear hix
    go_wp2_with fail
    go_quiet (fail)
    go_wp2_with fail
    go_ret
    exact⟨⟨_,rfl,HIX.out⟩,HB.out.trans ((below_drewN HBW.out nq).mono HB.out.size)⟩
  | false =>
    have hn2:∀ j (hj:j<k+1),Own.sameM ⟨nm,pb⟩ (l[j]'(by omega))=false:=fun j hj=>by
     by_cases e:j=k
     ·subst e;exact HS.out
     ·exact HN.out j (by omega)
    have HN2:=zh hn2
    clear hn2
    go_wp2_with fail
    go_quiet (fail)
    go_wp2_with fail
    go_round
    case measure=>simp[intOf];omega
    case rel=>exact⟨k+1,by omega,by go_num,HN2.out,below_drewN HBW.out nq⟩
theorem coMembers_any (v:Value) (l:List Own.Member) (nm pb:ByteArray) (w:World) (h:Own.MembersC w v l) (hl:l.length<=140737488355328):
 Calls Tryz.prog 110 #[v,.agg #[.string nm,.string pb]] w fun e w' => e=.returned (.bool (l.any (Own.sameM ⟨nm,pb⟩)))/\Below w.heap.size w w' :=by
 have hb1:Below w.heap.size w (w.alloc (.cells #[.string nm,.string pb] 73)):=(Below.refl _ _).alloc (Nat.le_refl _) _
 have HI:=zh (ixMembers_any v l nm pb _ (h.below hb1) hl);have HB1:=zh hb1
 clear h hb1
 go_enter Tryz.func110,Tryz.ntmps110
 go_wp2_with fail
 refine HI.out.mono ?_
 rintro e w2 ⟨⟨i,rfl,hi⟩,hb⟩
 have HB:=zh (HB1.out.trans (hb.mono HB1.out.size));have HJ:=zh hi.any;clear hb hi
 go_wp2_with fail
 go_ret
 exact⟨by rw[<- HJ.out];rfl,HB.out⟩
end
section
open Go Go.RowKit Go.Maps
namespace Own
theorem counts_same (s:Space) (v:Vote):counts s v=s.members.any (sameM ⟨v.name,v.pub⟩):=by
 unfold counts sameM
 congr 1
 funext m
 congr 1 <;> exact decide_eq_decide.2 eq_comm
def authS (a:Option Space):Space:=match a with
 | none=>⟨⟨#[]⟩,[],0⟩
 | some s=>s
theorem agreedP_eq (p:Proposal) (o:Owners):agreedP p o=((p.votes.filter (counts (authS (authority o p.path)))).all (·.agrees)&&((authority o p.path).isSome&&decide ((authS (authority o p.path)).threshold<=((p.votes.filter (counts (authS (authority o p.path)))).length:Int)))):=by
 unfold agreedP
 cases h:authority o p.path with
 | none=>simp
 | some s=>rfl
theorem AuthPost.vals {w w' : World} {r:Option Space} {e:Ending} (h:AuthPost w r e w'):(∃ v',e=.returned (.tuple #[.agg #[.string (authS r).pre,v',.int .i64 (authS r).threshold],.bool r.isSome])/\MembersC w' v' (authS r).members)/\Below w.heap.size w w' :=by
 obtain⟨h,hb⟩:=h
 refine⟨?_,hb⟩
 cases r with
 | none=>exact⟨_,h,ListF.nil _ _⟩
 | some s =>
   obtain⟨v',h1,h2⟩:=h
   exact⟨v',h1,MembersC.of (RowsC.own h2) rfl⟩
end Own
theorem rvAgreed_any (p:Own.Proposal) (o:Own.Owners) (v sv kv:Value) (w:World) (hM:MaxL w) (hV:Own.VotesC w v p.votes) (hS:Own.SpacesC w sv o.spaces) (hK:Own.KeysC w kv o.keys) (hlv:p.votes.length<=140737488355328) (hls:o.spaces.length<=140737488355328) (hlk:o.keys.length<=140737488355328) (hlm:∀ s∈o.spaces,s.members.length<=140737488355328):
 Calls Tryz.prog 72 #[.agg #[.int .i64 p.id,.string p.path,.string p.digest,.int .i64 p.opened,.int .i64 p.expires,v],.agg #[.int .i64 o.count,sv,kv]] w fun e w' => e=.returned (.bool (Own.agreedP p o))/\Below w.heap.size w w' :=by
 obtain⟨R,hR⟩:∃ R,R=Own.agreedP p o:=⟨_,rfl⟩
 rw[<- hR]
 rw[Own.agreedP_eq] at hR
 obtain⟨sa,sc,rfl⟩:=hS.len
 obtain⟨ka,kc,rfl⟩:=hK.len
 obtain⟨va,vc,rfl⟩:=hV.len
 obtain⟨id,pa,di,op,ex,V⟩:=p
 dsimp only at*
 have hb1:Below w.heap.size w ((w.alloc (.cells #[.int .i64 id,.string pa,.string di,.int .i64 op,.int .i64 ex,.slice va V.length vc] 46)).alloc (.cells #[.int .i64 o.count,.slice sa o.spaces.length sc,.slice ka o.keys.length kc] 38)):=((Below.refl _ _).alloc (Nat.le_refl _) _).alloc (by simp) _
 have a0:=(At.new w 46 #[.int .i64 id,.string pa,.string di,.int .i64 op,.int .i64 ex,.slice va V.length vc]).alloc (.cells #[.int .i64 o.count,.slice sa o.spaces.length sc,.slice ka o.keys.length kc] 38)
 have hau:=owAuthorityX_any o pa _ _ _ (hM.below hb1) (hS.below hb1) (hK.below hb1) hls hlk hlm
 have hau2:=hau.mono (fun e w' h=>Own.AuthPost.vals h)
 obtain⟨A,hA⟩:∃ A,A=Own.authority o pa:=⟨_,rfl⟩
 rw[<- hA] at hau2 hR
 obtain⟨⟨spre,M,th⟩,hS'⟩:∃ s,s=Own.authS A:=⟨_,rfl⟩
 rw[<- hS'] at hau2 hR
 obtain⟨ok,hok⟩:∃ b,b=A.isSome:=⟨_,rfl⟩
 rw[<- hok] at hau2 hR
 have hmb:M.length<=140737488355328:=by
  have e:M=(Own.authS A).members:=by rw[<- hS']
  rw[e]
  cases hh:A with
  | none=>exact Nat.zero_le _
  | some s=>exact hlm s (Own.authority_some (hA ▸ hh)).2.2.2
 have HMB:=zh hmb
 clear hA hS' hok hau hmb
 dsimp only at hau2 hR
 have HAU:=zh hau2;have HV:=zh (hV.below hb1);have HB:=zh hb1;have HA:=zh a0;have HR:=zh hR
 have c1:=a0.cell 1
 simp only[List.getElem?_toArray,List.getElem?_cons_zero,List.getElem?_cons_succ] at c1
 clear hau2 hM hV hS hK hb1 a0 hR
 go_enter Tryz.func72,Tryz.ntmps72
 go_wp2_with fail
 refine HAU.out.mono ?_
 rintro e w2 ⟨⟨mv,rfl,hmm⟩,hb2⟩
 obtain⟨ma,mc,rfl⟩:=hmm.len
 have b23:Below w2.heap.size w2 (w2.alloc (.cells #[.string spre,.slice ma M.length mc,.int .i64 th] 70)):=(Below.refl _ _).alloc (Nat.le_refl _) _
 have b13:=hb2.trans (b23.mono hb2.size)
 have a3:=HA.out.below b13 HA.out.lt
 have s3:=At.new w2 70 #[.string spre,.slice ma M.length mc,.int .i64 th]
 have d5:=a3.cell 5
 simp only[List.getElem?_toArray,List.getElem?_cons_zero,List.getElem?_cons_succ] at d5
 have HB3:=zh (HB.out.trans (b13.mono HB.out.size));have S3:=zh s3;have HV3:=zh (HV.out.below b13);have HM3:=zh (hmm.below b23)
 clear b23 b13 a3 s3 hmm hb2 HAU HV HB HA c1
 obtain⟨CN,hCN⟩:∃ CN,CN=Own.counts ⟨spre,M,th⟩:=⟨_,rfl⟩
 rw[<- hCN] at HR
 have hcn:∀ x:Own.Vote,CN x=M.any (Own.sameM ⟨x.name,x.pub⟩):=fun x=>by rw[hCN,Own.counts_same]
 have HCN:=zh hcn
 clear hCN hcn
 go_upto_region 4 with fail
 generalize w2.alloc (.cells #[.string spre,.slice ma M.length mc,.int .i64 th] 70)=w3 at*
 clear d5
 go_loopw [7,20] (fun n i wr=>∃ k:Nat,k<=V.length/\i=.int .i64 k/\n=.int .i64 (((V.take k).filter CN).length:Nat)/\((V.take k).filter CN).all (·.agrees)=true/\Below w3.heap.size w3 wr) (fun n i _=>V.length - (intOf i).toNat)
 case atStart=>exact⟨0,by omega,rfl,rfl,rfl,Below.refl _ _⟩
 case round=>
  obtain⟨k,hk,rfl,rfl,hall,hb⟩:=hrel
  have HBW:=zh hb
  have sr:=S3.out.below hb S3.out.lt
  have g1:=sr.cell 1;have g2:=sr.cell 2
  simp only[List.getElem?_toArray,List.getElem?_cons_zero,List.getElem?_cons_succ] at g1 g2
  obtain⟨N,hN⟩:∃ N:Nat,N=((V.take k).filter CN).length:=⟨_,rfl⟩
  rw[<- hN]
  by_cases hlt:k<V.length
  case neg=>
   have hke:k=V.length:=by omega
   have dk:decide ((k:Int)<V.length)=false:=decide_eq_false (by omega)
   rw[hke,List.take_length] at hall hN
   have e:R=(ok&&decide (th<=(N:Int))):=by rw[HR.out,hall,<- hN,Bool.true_and]
   have HE:=zh e
   clear e hall hN hke hb sr HR
   cases ok with
   | false =>
     go_wp2_with fail
     go_ret
     exact⟨by rw[HE.out];rfl,HB3.out.trans (HBW.out.mono HB3.out.size)⟩
   | true =>
     go_wp2_with fail
     go_ret
     exact⟨by rw[HE.out];rfl,HB3.out.trans (HBW.out.mono HB3.out.size)⟩
  have dk:decide ((k:Int)<V.length)=true:=decide_eq_true (by omega)
  obtain⟨b,o',ha,hbl,e0,e1,e2⟩:=Own.VotesC.cells (HV3.out.below hb) hlt
  subst ha
  have htk:(V.take (k+1)).filter CN=(V.take k).filter CN++(if CN V[k]=true then [V[k]] else []):=by
   have e:List.filter CN [V[k]]=if CN V[k]=true then [V[k]] else []:=by cases h:CN V[k] <;> simp[h]
   rw[List.take_succ_eq_append_getElem hlt,List.filter_append,e]
  have hNk:N<=k:=by
   rw[hN]
   have:=List.length_filter_le CN (List.take k V)
   have h2:(List.take k V).length=k:=by rw[List.length_take];omega
   omega
  have hbad:CN V[k]=true->V[k].agrees=false->R=false:=fun h1 h2=>by
   rw[HR.out]
   have:(V.filter CN).all (·.agrees)=false:=by
    rw[List.all_eq_false]
    exact⟨V[k],List.mem_filter.2 ⟨List.getElem_mem hlt,h1⟩,by rw[h2];decide⟩
   rw[this,Bool.false_and]
  have hcn:=HCN.out V[k]
  obtain⟨x,hx⟩:∃ x,x=V[k]:=⟨_,rfl⟩
  rw[<- hx] at e0 e1 e2 htk hbad hcn
  obtain⟨xn,xp,xa⟩:=x
  dsimp only at e0 e1 e2 hcn hbad
  obtain⟨C,hC⟩:∃ C,C=CN ⟨xn,xp,xa⟩:=⟨_,rfl⟩
  rw[<- hC] at hbad htk hcn
  have b4:Below wr.heap.size wr (wr.alloc (.cells #[.string xn,.string xp,.bool xa] 82)):=(Below.refl _ _).alloc (Nat.le_refl _) _
  have s4:=sr.alloc (.cells #[.string xn,.string xp,.bool xa] 82)
  have v4:=At.new wr 82 #[.string xn,.string xp,.bool xa]
  have f1:=s4.cell 1
  simp only[List.getElem?_toArray,List.getElem?_cons_zero,List.getElem?_cons_succ] at f1
  have hco:=coMembers_any _ M xn xp _ ((HM3.out.below hb).below b4) HMB.out
  rw[<- hcn] at hco
  have HCO:=zh hco;have HB4:=zh (hb.trans (b4.mono hb.size));have V4:=zh v4;have HBAD:=zh hbad;have HTK:=zh htk;have HALL:=zh hall;have HN:=zh hN
  clear hco b4 s4 v4 hbad htk hall hN hcn hC hx hb sr
  go_wp2_with fail
  refine HCO.out.mono ?_
  rintro e w5 ⟨rfl,hb5⟩
  have v5:=V4.out.below hb5 V4.out.lt
  have q2:=v5.cell 2
  simp only[List.getElem?_toArray,List.getElem?_cons_zero,List.getElem?_cons_succ] at q2
  have HB5:=zh (HB4.out.trans (hb5.mono HB4.out.size))
  clear hb5 v5
  cases C with
  | false =>
    go_wp2_with fail
    go_round
    case measure=>simp[intOf];omega
    case rel=>
     have h2:=HTK.out
     rw[if_neg (by decide),List.append_nil] at h2
     exact⟨k+1,by omega,by go_num,by rw[h2,<- HN.out],by rw[h2];exact HALL.out,HB5.out⟩
  | true=>
  cases xa with
  | false =>
    have e:=HBAD.out rfl rfl
    have HE:=zh e;clear e
    go_wp2_with fail
    go_ret
    exact⟨by rw[HE.out];rfl,HB3.out.trans (HB5.out.mono HB3.out.size)⟩
  | true =>
    have hw:wrap64 ((N:Int)+1)=((N+1:Nat):Int):=by unfold wrap64;omega
    have HW:=zh hw;clear hw
    go_wp2_with (rw[HW.out])
    go_round
    case measure=>simp[intOf];omega
    case rel=>
     have h2:=HTK.out
     rw[if_pos trivial] at h2
     refine⟨k+1,by omega,by go_num,?_,?_,HB5.out⟩
     ·rw[h2,List.length_append,<- HN.out]
      show Value.int .i64 ((N:Int)+1)=.int .i64 ((N+1:Nat):Int)
      rw[Int.natCast_add];rfl
     ·rw[h2,List.all_append,HALL.out];rfl
end
end Go.Proofs.YtnijhlphcjjpbaaGreatDoor
