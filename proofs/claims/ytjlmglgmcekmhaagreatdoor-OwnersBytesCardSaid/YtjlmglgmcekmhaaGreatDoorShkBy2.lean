/- The walk of OwnersBytes. -/
import Derived.Lib.SliceRun
import Derived.ProofKit
import Derived.SliceStrings
import Derived.Stop.Joined
import Derived.HandedShaped
import Derived.OpenShut
import Derived.Deep.Strs
import Derived.Deep.SlicePairs
import Derived.ChangeMaps5
import Derived.Test.YtjlmglgmcekmhaaGreatDoorRows
import Derived.Test.YtjlmglgmcekmhaaGreatDoorCards
import Derived.Test.YtjlmglgmcekmhaaGreatDoorTie
import Derived.LaidMore
import Derived.Lay
import Derived.SevenTiedAt
import Derived.Test.YtjlmglgmcekmhaaGreatDoorShkBy1
set_option linter.unusedVariables false
set_option linter.unusedSimpArgs false
set_option maxRecDepth 100000
set_option maxHeartbeats 1000000
namespace Go.Proofs.YtjlmglgmcekmhaaGreatDoor
section
open Go Go.RowKit Go.Maps
theorem zcC (op:Own.Op)(data:ByteArray)(mv av:Value)(w:World)(hM:Il w)(hm:Own.Af w mv op.members)(hA:Own.W9 w av op.Aa)(hml:op.members.length<=140737488355328)(hal:op.Aa.length<=140737488355328)
 (hz:op.pre.size<=140737488355328/\op.name.size<=140737488355328/\op.pub.size<=140737488355328) (hsz:∀ a∈op.Aa,∀ x∈a.sig.chains++a.sig.path,x.size<=140737488355328) (hidx:∀ a∈op.Aa,a.sig.index<9223372036854775808) (hds:data.size<=140737488355328):
 Calls Tryz.prog 4 #[Own.opV op mv av,.string data] w fun e w' => e=.returned (.bool true)/\Below w.heap.size w w':=by
 have hfo:=fun W (hW:Below w.heap.size w W)=>zcu op mv av W (hm.below hW) (hA.below hW) hml hal hz hsz
 have hen:=fun W (hW:Below w.heap.size w W) h1 h2=>Nu op mv av W (hM.below hW) (hm.below hW) (hA.below hW).out hml h1 h2
 have hre:=fun W (hW:Below w.heap.size w W) h1 h2=>zcj op mv av W (hm.below hW) (hA.below hW).out hml (by omega) h1 h2
 obtain⟨P,hP⟩:∃ P,P=Own.zcT op:=⟨_,rfl⟩
 have HP:=zh (show P->Own.Es op.Aa<=140737488000000/\∀ a∈op.Aa,a.sig.index<9223372036854775808/\a.sig.chains.length<=140737488355328/\a.sig.path.length<=140737488355328 by
  rw[hP]
  intro h
  have h2:=Own.zcF op.Aa fun a ha=>(h.2.2.2 a ha).1
  have h3:=h.2.2.1
  exact⟨by omega,fun a ha=>⟨hidx a ha,by have:=(h.2.2.2 a ha).2.1;omega,by have:=(h.2.2.2 a ha).2.2;omega⟩⟩)
 rw[<- hP] at hfo
 clear hP
 generalize Own.Dh op=EN at hen hre
 obtain⟨eb,ec⟩:=EN
 dsimp only at hen hre
 obtain⟨ma,mc,rfl⟩:=hm.len
 obtain⟨aa,ac,rfl,hap⟩:=id hA
 clear hap
 obtain⟨kd,pre,ms,th,nm,pb,aps⟩:=op
 unfold Own.opV at*
 dsimp only at*
 have HFO:=zh hfo;have HEN:=zh hen;have HRE:=zh hre;have HMX:=zh hM
 clear hfo hen hre hM hm hA hidx hsz
 have F1:=zh (show Au w _ [(29,#[.int .i64 kd,.string pre,.slice ma ms.length mc,.int .i64 th,.string nm,.string pb,.slice aa aps.length ac])] from((CY.nil w).push 29 #[.int .i64 kd,.string pre,.slice ma ms.length mc,.int .i64 th,.string nm,.string pb,.slice aa aps.length ac]).boxes)
 go_enter Tryz.func4,Tryz.ntmps4
 go_upto_region 1 with fail
 generalize (w.alloc (.cells #[.int .i64 kd,.string pre,.slice ma ms.length mc,.int .i64 th,.string nm,.string pb,.slice aa aps.length ac] 29))=w1 at*
 go_wp2_with fail
 refine(awake53_any _ (HMX.out.below F1.out.under)).mono ?_
 rintro e w2 ⟨rfl,hb⟩
 have F2:=zh (F1.out.step hb)
 clear hb F1
 obtain⟨x00,x01,x02,x03,x04,x05,x06⟩:=F2.out.JI rfl
 go_wp2_with fail
 refine(HFO.out w2 F2.out.under).mono ?_
 rintro e w3 ⟨b,rfl,hf,hb⟩
 have F3:=zh (F2.out.step hb);have HF1:=zh hf
 clear hb hf F2
 (try clear x00 x01 x02 x03 x04 x05 x06)
 cases b with
 | false =>
   clear HF1
   go_wp2_with fail
   go_ret
   exact⟨rfl,F3.out.under⟩
 | true=>
 obtain⟨hn1,hn2⟩:=HP.out (HF1.out rfl)
 have zdr:=zh (fun W hW=>HEN.out W hW hn1 hn2);have zds:=zh (fun W hW=>HRE.out W hW hn1 hn2)
 clear hn1 hn2 HF1 HP HEN HRE HFO
 by_cases h1:12000<data.size
 ·have d1:decide (12000<(data.size:Int))=true:=zt
  have d1' : decide (12000<data.size)=true:=decide_eq_true h1
  go_wp2_with fail
  go_ret
  exact⟨rfl,F3.out.under⟩
 have d1:decide (12000<(data.size:Int))=false:=zf
 have d1' : decide (12000<data.size)=false:=decide_eq_false h1
 have zd5:data.size<=12000:=by omega
 obtain⟨D,hD⟩:∃ D,D=Own.MJ data:=⟨_,rfl⟩
 have hdz:=Own.zcQ data
 have hde :=@Own.zcK data
 have hd1:=fun W (hW:Below w.heap.size w W)=>WZ data W (HMX.out.below hW) (by omega)
 have hd2:=fun W=>zci data W (by omega)
 simp only[<- hD] at hdz hde hd1 hd2
 obtain⟨⟨dk,dpre,dms,dth,dnm,dpb,zck⟩,dc⟩:=D
 unfold Own.eY Own.opV at hd1 hd2
 dsimp only at hdz hde hd1 hd2
 obtain⟨z1,z2,z3,z4⟩:=hdz
 dsimp only at z1 z2 z3 z4
 have HSO:=zh (fun v1 v2 v3 v4 W g1 g2 g3 g4=>Um ⟨dk,dpre,dms,dth,dnm,dpb,zck⟩ v1 v2 v3 v4 W g1 g3 g2 g4 (by show dms.length<=_;omega) (by show zck.length<=_;omega) (fun a ha=>by obtain⟨_,q2,q3⟩:=z4 a ha;exact⟨by omega,by omega⟩))
 have HE2:=zh (fun v1 v2 W (hW:Below w.heap.size w W) g1 g2=>Nu ⟨dk,dpre,dms,dth,dnm,dpb,zck⟩ v1 v2 W (HMX.out.below hW) g1 g2 (by show dms.length<=_;omega) (by show Own.Es zck<=_;omega) (fun a ha=>by obtain⟨q1,q2,q3⟩:=z4 a ha;exact⟨q1,by omega,by omega⟩))
 have HDE:=zh hde;have HD1:=zh hd1;have HD2:=zh hd2
 clear hde hd1 hd2 hD z1 z2 z3 z4 HMX
 unfold Own.opV at HSO HE2
 dsimp only at HSO HE2
 obtain⟨x00,x01,x02,x03,x04,x05,x06⟩:=F3.out.JI rfl
 go_wp2_with fail
 refine(zdr.out w3 F3.out.under).mono ?_
 rintro e w4 ⟨rfl,hb⟩
 have F4:=zh (F3.out.step hb)
 clear hb F3 zdr
 (try clear x00 x01 x02 x03 x04 x05 x06)
 obtain⟨x00,x01,x02,x03,x04,x05,x06⟩:=F4.out.JI rfl
 go_wp2_with fail
 refine(zds.out w4 F4.out.under).mono ?_
 rintro e w5 ⟨rfl,hb⟩
 have F5:=zh (F4.out.step hb)
 clear hb F4 zds
 (try clear x00 x01 x02 x03 x04 x05 x06)
 go_wp2_with fail
 refine(HD1.out w5 F5.out.under).mono ?_
 rintro e w6 ⟨⟨v1,v2,rfl,hm1,ha1⟩,hb⟩
 have hm1:=hm1.mono (G:=Own.aP) (fun _ _ _=>trivial);have ha1:=Own.eH ha1
 have F6:=zh (F5.out.step hb)
 obtain⟨pa,pc,rfl⟩:=hm1.len
 obtain⟨qa,qc,rfl,hap⟩:=id ha1
 clear hb F5 HD1 hap
 go_upto_region 8 with fail
 have hb:Below w6.heap.size w6 (w6.alloc (.cells #[.int .i64 dk,.string dpre,.slice pa dms.length pc,.int .i64 dth,.string dnm,.string dpb,.slice qa zck.length qc] 29)):=zb
 have A7:=zh (At.new w6 29 #[.int .i64 dk,.string dpre,.slice pa dms.length pc,.int .i64 dth,.string dnm,.string dpb,.slice qa zck.length qc])
 have F7:=zh (F6.out.step hb);have M7:=zh (hm1.below hb);have P7:=zh (ha1.below hb)
 clear hb hm1 ha1 F6
 generalize w6.alloc (.cells #[.int .i64 dk,.string dpre,.slice pa dms.length pc,.int .i64 dth,.string dnm,.string dpb,.slice qa zck.length qc] 29)=w7 at*
 obtain⟨g,hg⟩:∃ g,g=w6.heap.size:=⟨_,rfl⟩
 rw[<- hg] at A7 ⊢
 clear hg
 go_wp2_with fail
 refine(HD2.out w7).mono ?_
 rintro e w8 ⟨⟨v1,v2,rfl,hm2,ha2⟩,hb⟩
 have hm2:=hm2.mono (G:=Own.aP) (fun _ _ _=>trivial);have ha2:=Own.eH ha2
 have F8:=zh (F7.out.step hb);have M8:=zh (M7.out.below hb);have P8:=zh (P7.out.below hb);have A8:=zh (A7.out.below hb A7.out.lt)
 obtain⟨ra,rc,rfl⟩:=hm2.len
 obtain⟨ta,tc,rfl,hap⟩:=id ha2
 clear hb F7 HD2 hap M7 P7 A7
 go_upto_region 9 with fail
 have hb:Below w8.heap.size w8 (w8.alloc (.cells #[.int .i64 dk,.string dpre,.slice ra dms.length rc,.int .i64 dth,.string dnm,.string dpb,.slice ta zck.length tc] 29)):=zb
 have C9:=zh (At.new w8 29 #[.int .i64 dk,.string dpre,.slice ra dms.length rc,.int .i64 dth,.string dnm,.string dpb,.slice ta zck.length tc])
 have F9:=zh (F8.out.step hb);have M9:=zh (M8.out.below hb);have P9:=zh (P8.out.below hb);have A9:=zh (A8.out.below hb A8.out.lt);have N9:=zh (hm2.below hb);have Q9:=zh (ha2.below hb)
 clear hb hm2 ha2 F8 M8 P8 A8
 generalize w8.alloc (.cells #[.int .i64 dk,.string dpre,.slice ra dms.length rc,.int .i64 dth,.string dnm,.string dpb,.slice ta zck.length tc] 29)=w9 at*
 obtain⟨g2,hg⟩:∃ g,g=w8.heap.size:=⟨_,rfl⟩
 rw[<- hg] at C9 ⊢
 clear hg
 have a0:=A9.out.cell 0;have a1:=A9.out.cell 1;have a2:=A9.out.cell 2;have a3:=A9.out.cell 3;have a4:=A9.out.cell 4;have a5:=A9.out.cell 5;have a6:=A9.out.cell 6
 have c0:=C9.out.cell 0;have c1:=C9.out.cell 1;have c2:=C9.out.cell 2;have c3:=C9.out.cell 3;have c4:=C9.out.cell 4;have c5:=C9.out.cell 5;have c6:=C9.out.cell 6
 simp only[zg] at a0 a1 a2 a3 a4 a5 a6 c0 c1 c2 c3 c4 c5 c6
 go_wp2_with fail
 refine(HSO.out _ _ _ _ w9 M9.out P9.out.out N9.out Q9.out.out).mono ?_
 rintro e w10 ⟨rfl,hb⟩
 have F10:=zh (F9.out.step hb);have M10:=zh (M9.out.below hb);have P10:=zh (P9.out.below hb);have A10:=zh (A9.out.below hb A9.out.lt)
 clear hb HSO F9 M9 P9 A9 N9 Q9 C9 a0 a1 a2 a3 a4 a5 a6 c0 c1 c2 c3 c4 c5 c6
 by_cases hc:dc=0
 case neg=>
  have dz:(dc != 0)=true:=by rw[bne_iff_ne];exact hc
  go_wp2_with fail
  go_ret
  exact⟨rfl,F10.out.under⟩
 have zdy:=zh (HDE.out hc)
 subst hc
 have a0:=A10.out.cell 0;have a1:=A10.out.cell 1;have a2:=A10.out.cell 2;have a3:=A10.out.cell 3;have a4:=A10.out.cell 4;have a5:=A10.out.cell 5;have a6:=A10.out.cell 6
 simp only[zg] at a0 a1 a2 a3 a4 a5 a6
 go_wp2_with fail
 refine(HE2.out _ _ w10 F10.out.under M10.out P10.out.out).mono ?_
 rintro e w11 ⟨rfl,hb⟩
 have F11:=zh (F10.out.step hb)
 rw[zdy.out]
 clear hb
 go_wp2_with fail
 go_ret
 exact⟨by first|rfl|simp,F11.out.under⟩
theorem Al.opened {w:World}{a:Addr}{len cap:Nat}{ss:List ByteArray}(h:∀ i,i<ss.length->w.cell? (a.add i)=some (.string (ss.getD i ByteArray.empty)))(hl:len<=ss.length):Al w (.slice (some a) len cap) (ss.take len):=by
 have e:(ss.take len).length=len:=by rw[List.length_take];omega
 by_cases h0:len=0
 ·exact⟨_,_,by rw[e],.inl (by rw[e];exact h0)⟩
 ·obtain⟨b,o,sp⟩:=a
  cases sp with
  | none =>
    refine⟨_,_,by rw[e],.inr ⟨b,o,rfl,fun j hj=>?_⟩⟩
    rw[e] at hj
    have:=h j (by omega)
    have e2:(⟨b,o,none⟩:Addr).add j=⟨b,o+j,none⟩:=by unfold Addr.add;split<;>simp_all
    rw[e2] at this
    rw[this]
    have:(ss.take len).getD j ⟨#[]⟩=ss.getD j ByteArray.empty:=by simp[List.getD_eq_getElem?_getD,List.getElem?_take,hj];rfl
    rw[this]
  | some p =>
    exfalso
    have:=h 0 (by omega)
    unfold World.cell? Addr.add at this
    simp at this
    split at this<;>simp_all
open Go.ChangeShapes in
theorem zbY {H:Type}{P:Program}{e:TypeId} : ∀ (ss:List ByteArray),(DataW.weightsAll P e (strs (H:=H) ss)).all (· <= reachBytes)=true->∀ s∈ss,s.size<=reachBytes
 | [],_,_,h=>by cases h
 | x :: l,h,s,hs => by
   have e1:DataW.weightsAll P e (strs (H:=H) (x::l))=[x.data.toList.length]++DataW.weightsAll P e (strs (H:=H) l):=rfl
   rw[e1,List.all_append,Bool.and_eq_true] at h
   rcases List.mem_cons.1 hs with rfl|hs
   ·have:=h.1
    simp only[List.all_cons,List.all_nil,Bool.and_true,decide_eq_true_eq] at this
    rw[Array.length_toList] at this
    exact this
   ·exact zbY l h.2 s hs
theorem zcw:Tryz.prog.bytesOf 9=16:=by kernel_rfl
open Go.ChangeShapes Go.WideShapes in
theorem zcX {H:Type}{enc:TypeId × Value->H}{W:World}{a:Option Addr}{len cap:Nat}{d:DataW H}{p:List MemPlace}(h:DataW.Trod enc Tryz.prog W 0 (fun _=>true) true 68 (.slice a len cap) d p)
 (hz:(d.weights Tryz.prog 68).all (· <= reachBytes)=true):∃ xs:List ByteArray,Al W (.slice a len cap) xs/\(∀ z∈xs,z.size<=140737488355328)/\xs.length<=140737488355328:=by
 obtain⟨fuel,hf⟩:=h
 rcases open_strings Tryz.underlying68 Tryz.underlying9 (by kernel_rfl) hf with ⟨hcs,_⟩|⟨a',len',cap',ss,hcs,_,hl,hm,hn,hx2,hcell,_⟩
 ·have e:Value.slice a len cap=.slice none 0 0:=by simpa [Value.cells] using hcs
  rw[e]
  exact⟨[],⟨none,0,rfl,.inl rfl⟩,(fun z hz=>by cases hz),Nat.zero_le _⟩
 ·have e:Value.slice a len cap=.slice (some a') len' cap':=by simpa [Value.cells] using hcs
  rw[e]
  have hn' : ss.length=cap':=by simpa using hn
  have hd:d=.slice (strs (ss.take len')) (strs (ss.drop len')):=(Prod.mk.inj hx2).1
  rw[hd] at hz
  have hw:(DataW.slice (strs (H:=H) (ss.take len')) (strs (ss.drop len'))).weights Tryz.prog 68=((strs (H:=H) (ss.take len')).length+(strs (H:=H) (ss.drop len')).length)*Tryz.prog.bytesOf 9::(DataW.weightsAll Tryz.prog 9 (strs (H:=H) (ss.take len'))++DataW.weightsAll Tryz.prog 9 (strs (H:=H) (ss.drop len'))):=by
   simp only[DataW.weights,Tryz.underlying68]
  rw[hw,List.all_cons,List.all_append,Bool.and_eq_true,Bool.and_eq_true,zcw] at hz
  obtain⟨h1,h2,_⟩:=hz
  have e1:(strs (H:=H) (ss.take len')).length=len':=by unfold strs;rw[List.length_map,List.length_take];omega
  rw[e1] at h1
  have h1':=of_decide_eq_true h1
  unfold reachBytes at h1'
  refine⟨ss.take len',Al.opened hcell (by omega),fun z hz2=>?_,?_⟩
  ·have:=zbY _ h2 z hz2
   unfold reachBytes at this
   omega
  ·rw[List.length_take]
   omega
end
section
open Go Go.ChangeShapes Go.WideShapes Go.RowKit Go.Maps
section
variable {H:Type} {enc:TypeId × Value->H}
theorem zbH {a:Assume}{C:Checked}{os:Os}{f:FuncId}{fn:Func}{s:ChangeSpec}{conds:List PathCond}{apart fresh handsOn again:Bool}{X:World->Array Value->Prop}
 (hX:∀ (w w' : World) (args:Array Value),w.heap=w'.heap->X w args->X w' args)
 (own:ownKnob C.prog.godebug=none) (started:os.Started) (noInit:C.prog.inits.idxOf? f=none) (hfn:C.prog.funcs[f]? = some fn)
 (witness : ∃ (w : World) (tape : Tape) (i : Input),w.os = os ∧ (w.forCall tape i).Shaped C.prog ∧ i.vars = [] ∧ Input.okWide C.prog (w.forCall tape i) .any w.heap.size f i ∧
   ((s.pre enc C.prog fn conds apart (w.forCall tape i).memory i.args/\X (w.forCall tape i).memory i.args)/\sizedMet enc C.prog fn (OpenSpec.ofChange s) apart (w.forCall tape i).memory i.args)/\a.holds C.prog (lone (Frame.enter C.prog f i.args .normal) [] (w.forCall tape i)))
 (contract : ∀ (W : World) (base : Nat) (args : Array Value) (ds gs : List (DataW H)) (before : List MemPlace),
   (∀ (j:Nat) t v,fn.params[j]? = some t->args[j]? = some v->Value.okWide C.prog W .any base t v)->
   DataW.Whole enc C.prog fn.params.toList s.vars apart W args.toList ds gs before->
   conds.all (PathCond.test C.prog ⟨fn.params.toList,ds,s.plain.varTypes C.prog,gs⟩)=true->
   (DataW.weightsEach C.prog (fn.params.toList++s.plain.varTypes C.prog) (ds++gs)).all (· <= reachBytes)=true->X W args->W.ShapedOpen C.prog->
   a.holds C.prog (lone (Frame.enter C.prog f args .normal) [] W)->
   Calls C.prog f args W fun e W' => ∃ v,e=.returned v/\s.post enc C.prog fn apart fresh handsOn again W args v W'):
 ReturnsInHanded a C os f .any (fun w args=>(s.pre enc C.prog fn conds apart w args/\X w args)/\sizedMet enc C.prog fn (OpenSpec.ofChange s) apart w args) (s.post enc C.prog fn apart fresh handsOn again):=by
 refine returnsInHanded_of_calls own started noInit witness ?_
 intro w tape i _ hsh _ hok hpre hholds
 obtain⟨_,_,_,fn',hfn',_,_,_,_,hval⟩:=hok
 have e:fn' = fn:=Option.some.inj (hfn'.symm.trans hfn)
 subst e
 obtain⟨⟨⟨ds,gs,before,hw,hc⟩,hx⟩,hz⟩:=hpre
 have hw':=DataW.Whole.of_heap (w':=w.forCall tape i) (by rfl) hw
 refine(contract (w.forCall tape i) w.heap.size i.args ds gs before hval hw' hc (hz.weights hw) (hX _ _ _ (by rfl) hx) hsh hholds).mono fun e W' ⟨v,he,hp⟩=>?_
 subst he
 exact ChangeSpec.post_blind hp
theorem zcY {W:World}(h:W.ShapedOpen Tryz.prog):Il W:=
 Go.Proofs.cell_of_shapedOpen_int (zero:=#[.int .i64 0]) (t:=3) h (of_decide_eq_true (by kernel_rfl)) (by kernel_rfl) rfl (by kernel_rfl) (by kernel_rfl) Tryz.underlying3
end
end
section
open Go Go.ChangeShapes Go.WideShapes Go.RowKit Go.Maps
section
variable {H:Type} {enc:TypeId × Value->H}
theorem zbQ {P:Program}{e:TypeId}{p:Nat->Bool} : ∀ l:List (DataW H),(DataW.weightsAll P e l).all p=true->∀ d∈l,(d.weights P e).all p=true
 | [],_,_,h=>by cases h
 | x :: l,h,d,hd => by
   have e1:DataW.weightsAll P e (x::l)=x.weights P e++DataW.weightsAll P e l:=rfl
   rw[e1,List.all_append,Bool.and_eq_true] at h
   rcases List.mem_cons.1 hd with rfl|hd
   ·exact h.1
   ·exact zbQ l h.2 d hd
theorem zcZ {α : Type}{R:Elem α}{Good : α -> Prop}{T S:TypeId}{size B:Nat}(hu:Tryz.prog.underlying S=some (.slice T))(hsz:Tryz.prog.cellsOf T=size)(hby:Tryz.prog.bytesOf T=B)(hB:1<=B)(hs1:1<=size){W:World}
 (zcU:∀ (n:Nat) (cs:List Value) (x:DataW H × List MemPlace),cs.length=size->DataW.trod enc Tryz.prog W 0 (fun _=>true) true n T cs=some x->(x.1.weights Tryz.prog T).all (· <= reachBytes)=true->∃ o,R Own.aP W cs o/\Good o)
 {v:Value} {d:DataW H} {ps:List MemPlace} (h:DataW.Trod enc Tryz.prog W 0 (fun _=>true) true S v d ps) (hsl:∃ b len cap,v=.slice b len cap) (hz:(d.weights Tryz.prog S).all (· <= reachBytes)=true):
 ∃ l:List α,Aq size R Own.aP W v l/\(∀ o∈l,Good o)/\l.length<=140737488355328:=by
 obtain⟨a0,zbn,cap0,rfl⟩:=hsl
 obtain⟨n,hy⟩:=h
 rcases Deep.open_slice hu hy with ⟨hcs,_⟩|⟨a,len,cap,m,k,D,Pl,hcs,_,hl,_,hm,hx,hc⟩
 ·have e:Value.slice a0 zbn cap0=.slice none 0 0:=by simpa [Value.cells] using hcs
  rw[e]
  exact⟨[],Aq.nil _ _,(fun z hz=>by cases hz),Nat.zero_le _⟩
 ·have e:Value.slice a0 zbn cap0=.slice (some a) len cap:=by simpa [Value.cells] using hcs
  rw[e]
  have hm' : m=cap:=by rw[hm]<;>rfl
  have hd:=(Prod.mk.inj hx).1
  rw[hd] at hz
  have hw:(DataW.slice ((List.range len).map D) ((List.range (m-len)).map fun j=>D (len+j))).weights Tryz.prog S=
   (((List.range len).map D).length + ((List.range (m - len)).map fun j => D (len + j)).length) * Tryz.prog.bytesOf T ::
     (DataW.weightsAll Tryz.prog T ((List.range len).map D)++DataW.weightsAll Tryz.prog T ((List.range (m-len)).map fun j=>D (len+j))):=by
   simp only[DataW.weights,hu]
  rw[hw,List.all_cons,List.all_append,Bool.and_eq_true,Bool.and_eq_true,hby] at hz
  obtain⟨h1,h2,_⟩:=hz
  have h1':=of_decide_eq_true h1
  unfold reachBytes at h1'
  rw[List.length_map,List.length_range] at h1'
  have hlen' : len<=140737488355328:=by
   have:=Nat.mul_le_mul_left (len+((List.range (m-len)).map fun j=>D (len+j)).length) hB
   omega
  have each:∀ i,i<len->∃ (cs:List Value) (o : α),cs.length=size/\(∀ j,j<size->W.cell? (a.add (i*size+j))=cs[j]?)/\R Own.aP W cs o/\Good o:=by
   intro i hi
   obtain⟨cs',g1,g2⟩:=hc i (by omega)
   rw[hsz] at g1
   obtain⟨_,hlen,hcell⟩:=World.cells?_some g1
   have hzi:=zbQ _ h2 (D i) (List.mem_map.2 ⟨i,List.mem_range.2 hi,rfl⟩)
   obtain⟨o,q1,q2⟩:=zcU _ cs' _ hlen g2 hzi
   exact⟨cs',o,hlen,fun j hj=>by rw[<- Deep.add_add];exact hcell j hj,q1,q2⟩
  by_cases h0:len=0
  ·subst h0
   exact⟨[],Aq.nil _ _,(fun z hz=>by cases hz),Nat.zero_le _⟩
  have ho0:Nonempty α :=by
   obtain⟨_,o,_⟩:=each 0 (by omega)
   exact⟨o⟩
  obtain⟨O,hO⟩:∃ O:Nat -> α,∀ i,i<len->∃ cs:List Value,cs.length=size/\(∀ j,j<size->W.cell? (a.add (i*size+j))=cs[j]?)/\R Own.aP W cs (O i)/\Good (O i):=by
   refine⟨fun i=>if h:i<len then (each i h).choose_spec.choose else Classical.choice ho0,fun i hi=>?_⟩
   simp only[dif_pos hi]
   exact⟨_,(each i hi).choose_spec.choose_spec⟩
  have el:((List.range len).map O).length=len:=by rw[List.length_map,List.length_range]
  refine⟨(List.range len).map O,⟨_,_,by rw[el],.inr ?_⟩,?_,by rw[el];exact hlen'⟩
  ·obtain⟨b,o,sp⟩:=a
   obtain⟨cs0,l0,hcell,_⟩:=hO 0 (by omega)
   have hc0:=hcell 0 (by omega)
   have hsome:∃ u,cs0[0]? = some u:=⟨cs0[0]'(by omega),List.getElem?_eq_getElem (by omega)⟩
   obtain⟨u,hu0⟩:=hsome
   rw[hu0] at hc0
   cases sp with
   | some p =>
     exfalso
     unfold World.cell? Addr.add at hc0
     simp at hc0
     split at hc0<;>simp_all
   | none =>
     have ad:∀ q,(⟨b,o,none⟩:Addr).add q=⟨b,o+q,none⟩:=fun q=>by unfold Addr.add;split<;>simp_all
     refine⟨b,o,rfl,trivial,?_,?_⟩
     ·rw[ad] at hc0
      exact block_lt hc0
     ·intro i hi
      rw[el] at hi
      obtain⟨cs,k0,k1,k2,_⟩:=hO i hi
      simp only[List.getElem_map,List.getElem_range]
      refine⟨cs,k0,fun j u hj=>?_,k2⟩
      have hjl:j<cs.length:=(List.getElem?_eq_some_iff.1 hj).1
      have:=k1 j (by omega)
      rw[ad,hj] at this
      rw[Nat.add_assoc]
      exact this
  ·intro o ho
   obtain⟨i,hi,rfl⟩:=List.mem_map.1 ho
   obtain⟨_,_,_,_,q⟩:=hO i (List.mem_range.1 hi)
   exact q
end
end
section
open Go Go.ChangeShapes Go.WideShapes Go.RowKit Go.Maps
section
variable {H:Type} {enc:TypeId × Value->H}
theorem zdf:Tryz.prog.cellsOf 3=1:=by kernel_rfl
theorem zcg:Tryz.prog.cellsOf 9=1:=by kernel_rfl
def zcx (m:Own.Member):Prop:=m.name.size<=140737488355328/\m.pub.size<=140737488355328
theorem zbF {s:ByteArray}(h:s.data.toList.length<=reachBytes):s.size<=140737488355328:=by
 unfold reachBytes at h
 have e:s.size=s.data.toList.length:=by rw[Array.length_toList]<;>rfl
 omega
theorem zc4 {W:World}(n:Nat)(cs:List Value)(x:DataW H × List MemPlace)(hl:cs.length=2)(hy:DataW.trod enc Tryz.prog W 0 (fun _=>true) true n 76 cs=some x)(hz:(x.1.weights Tryz.prog 76).all (· <= reachBytes)=true):
 ∃ o,Own.DU Own.aP W cs o/\zcx o:=by
 match cs,hl with
 | [c0,c1],_ =>
   obtain⟨y0,y1,m,he,_,u0,u1⟩:=ChangeShapes.trod_struct2 Tryz.underlying76 hy
   simp only[zcg,List.drop,List.take] at u0 u1
   obtain⟨s,hs,rfl,_⟩:=DataW.trod_string Tryz.underlying9 u0
   obtain⟨t,ht,rfl,_⟩:=DataW.trod_string Tryz.underlying9 u1
   simp only[List.cons.injEq,and_true] at hs ht
   subst hs;subst ht
   have hw:x.1.weights Tryz.prog 76=[s.data.toList.length,t.data.toList.length]:=by
    rw[he]
    simp only[DataW.weights,Tryz.underlying76]
    rfl
   rw[hw] at hz
   simp only[List.all_cons,List.all_nil,Bool.and_true,Bool.and_eq_true,decide_eq_true_eq] at hz
   exact⟨⟨s,t⟩,rfl,zbF hz.1,zbF hz.2⟩
theorem zcs {W:World}{S T:TypeId}(hu:Tryz.prog.underlying S=some (.slice T)){n:Nat}{v:Value}{x:DataW H × List MemPlace}(hy:DataW.trod enc Tryz.prog W 0 (fun _=>true) true n S [v]=some x):∃ b len cap,v=.slice b len cap:=by
 rcases Deep.open_slice hu hy with ⟨hcs,_⟩|⟨a,len,cap,m,k,D,Pl,hcs,_⟩
 ·exact⟨none,0,0,by simpa using hcs⟩
 ·exact⟨_,len,cap,by simpa using hcs⟩
theorem zc5 {α : Type}{R:Elem α}{Good : α -> Prop}{T S:TypeId}{size B:Nat}(hu:Tryz.prog.underlying S=some (.slice T))(hsz:Tryz.prog.cellsOf T=size)(hby:Tryz.prog.bytesOf T=B)(hB:1<=B)(hs1:1<=size){W:World}
 (zcU:∀ (n:Nat) (cs:List Value) (x:DataW H × List MemPlace),cs.length=size->DataW.trod enc Tryz.prog W 0 (fun _=>true) true n T cs=some x->(x.1.weights Tryz.prog T).all (· <= reachBytes)=true->∃ o,R Own.aP W cs o/\Good o)
 {n:Nat} {v:Value} {x:DataW H × List MemPlace} (hy:DataW.trod enc Tryz.prog W 0 (fun _=>true) true n S [v]=some x) (hz:(x.1.weights Tryz.prog S).all (· <= reachBytes)=true):
 ∃ l:List α,Aq size R Own.aP W v l/\(∀ o∈l,Good o)/\l.length<=140737488355328:=by
 obtain⟨b,len,cap,rfl⟩:=zcs hu hy
 exact zcZ (ps:=x.2) hu hsz hby hB hs1 zcU ⟨n,hy⟩ ⟨b,len,cap,rfl⟩ hz
theorem zc6 {W:World}{n:Nat}{v:Value}{x:DataW H × List MemPlace}(hy:DataW.trod enc Tryz.prog W 0 (fun _=>true) true n 26 [v]=some x)(hz:(x.1.weights Tryz.prog 26).all (· <= reachBytes)=true):∃ l,Own.Af W v l/\(∀ o∈l,zcx o)/\l.length<=140737488355328:=
 zc5 (B:=32) Tryz.underlying26 (by kernel_rfl) (by kernel_rfl) (by decide) (by decide) zc4 hy hz
theorem zcO:Tryz.prog.cellsOf 26=1:=by kernel_rfl
theorem zdm {W:World}{base:Nat}{sp:Nat->Bool}{v:Value}{d:DataW H}{ps:List MemPlace}(hval:Value.okWide Tryz.prog W .any base 9 v)(h:DataW.Trod enc Tryz.prog W 0 sp true 9 v d ps)(hz:(d.weights Tryz.prog 9).all (· <= reachBytes)=true):
 ∃ s:ByteArray,v=.string s/\s.size<=140737488355328:=by
 obtain⟨s,rfl,rfl,_,_⟩:=ChangeMaps.open_string Tryz.underlying9 hval h
 refine⟨s,rfl,?_⟩
 simp only[DataW.weights,List.all_cons,List.all_nil,Bool.and_true,decide_eq_true_eq,Array.length_toList] at hz
 unfold reachBytes at hz
 have e:s.size=s.data.size:=rfl
 omega
theorem zdn:Tryz.prog.cellsOf 68=1:=by kernel_rfl
theorem zc7:Tryz.prog.cellsOf 70=3:=by kernel_rfl
theorem zcH {W:World}{S T:TypeId}(hu:Tryz.prog.underlying S=some (.slice T)){n:Nat}{v:Value}{x:DataW H × List MemPlace}(hy:DataW.trod enc Tryz.prog W 0 (fun _=>true) true n S [v]=some x):Eb v:=by
 rcases Deep.open_slice hu hy with ⟨hcs,_⟩|⟨a,len,cap,m,k,D,Pl,hcs,_,hl,_⟩
 ·exact⟨none,0,0,by simpa using hcs,Nat.le_refl _⟩
 ·exact⟨_,len,cap,by simpa using hcs,hl⟩
theorem zc8 {W:World}{n:Nat}{v:Value}{x:DataW H × List MemPlace}(hy:DataW.trod enc Tryz.prog W 0 (fun _=>true) true n 68 [v]=some x)(hz:(x.1.weights Tryz.prog 68).all (· <= reachBytes)=true):∃ xs:List ByteArray,Al W v xs/\(∀ z∈xs,z.size<=140737488355328)/\xs.length<=140737488355328:=by
 obtain⟨b,len,cap,rfl⟩:=zcs Tryz.underlying68 hy
 exact zcX (p:=x.2) ⟨n,hy⟩ hz
end
end
section
open Go Go.ChangeShapes Go.WideShapes Go.RowKit Go.Maps
section
variable {H:Type} {enc:TypeId × Value->H}
def GAp (a:Own.Ai):Prop:=a.name.size<=140737488355328/\(Lit.int .i64 a.sig.index).wf=true/\(∀ s∈a.sig.chains,s.size<=140737488355328)/\(∀ k∈a.sig.path,k.size<=140737488355328)/\a.sig.chains.length<=140737488355328/\a.sig.path.length<=140737488355328
theorem GAp.sizes {a:Own.Ai}(h:GAp a):a.name.size<=140737488355328/\∀ x∈a.sig.chains++a.sig.path,x.size<=140737488355328:=⟨h.1,fun x hx=>by
 rcases List.mem_append.1 hx with hx|hx
 ·exact h.2.2.1 x hx
 ·exact h.2.2.2.1 x hx⟩
theorem zda {W:World}(n:Nat)(cs:List Value)(x:DataW H × List MemPlace)(hl:cs.length=4)(hy:DataW.trod enc Tryz.prog W 0 (fun _=>true) true n 72 cs=some x)(hz:(x.1.weights Tryz.prog 72).all (· <= reachBytes)=true):
 ∃ o,Own.RAp Own.aP W cs o/\GAp o:=by
 match cs,hl with
 | [c0,c1,c2,c3],_ =>
   obtain⟨y0,y1,m,he,_,u0,u1⟩:=ChangeShapes.trod_struct2 Tryz.underlying72 hy
   simp only[zcg,zc7,List.drop,List.take] at u0 u1
   obtain⟨s,hs,e0,_⟩:=DataW.trod_string Tryz.underlying9 u0
   obtain⟨z0,z1,z2,m2,he2,_,g0,g1,g2⟩:=Deep.trod_struct3 Tryz.underlying70 u1
   simp only[zdf,zdn,List.drop,List.take] at g0 g1 g2
   obtain⟨a,ha,e1,wa⟩:=DataW.trod_int Tryz.underlying3 g0
   simp only[List.cons.injEq,and_true] at hs ha
   subst hs;subst ha
   have hd2:y1.1=.agg [.lit (.int .i64 a),z1.1,z2.1]:=by rw[he2,e1]
   have hd:x.1=.agg [.lit (.string s.data.toList),.agg [.lit (.int .i64 a),z1.1,z2.1]]:=by rw[<- hd2,he,e0]
   have hw:(DataW.agg [.lit (.string s.data.toList),.agg [.lit (.int .i64 a),z1.1,z2.1]]).weights Tryz.prog 72=s.data.toList.length::((z1.1.weights Tryz.prog 68++(z2.1.weights Tryz.prog 68++[]))++[]):=by
    simp only[DataW.weights,Tryz.underlying72]
    rfl
   rw[hd,hw] at hz
   simp only[List.all_cons,List.append_nil,List.all_append,Bool.and_eq_true,decide_eq_true_eq] at hz
   obtain⟨l,h1,h2,h3⟩:=zc8 g1 hz.2.1
   obtain⟨k,k1,k2,k3⟩:=zc8 g2 hz.2.2
   exact⟨⟨s,⟨a,l,k⟩⟩,⟨c2,c3,rfl,⟨h1,zcH Tryz.underlying68 g1,fun _ _ _=>trivial⟩,⟨k1,zcH Tryz.underlying68 g2,fun _ _ _=>trivial⟩⟩,zbF hz.1,wa,h2,k2,h3,k3⟩
theorem zdb {W:World}{n:Nat}{v:Value}{x:DataW H × List MemPlace}(hy:DataW.trod enc Tryz.prog W 0 (fun _=>true) true n 27 [v]=some x)(hz:(x.1.weights Tryz.prog 27).all (· <= reachBytes)=true):∃ l,Aq 4 Own.RAp Own.aP W v l/\(∀ a∈l,GAp a)/\l.length<=140737488355328:=by
 obtain⟨l,h1,h2,h3⟩:=zc5 (B:=72) Tryz.underlying27 (by kernel_rfl) (by kernel_rfl) (by decide) (by decide) zda hy hz
 exact⟨l,h1,h2,h3⟩
theorem zc9:Tryz.prog.cellsOf 27=1:=by kernel_rfl
theorem zcP:Tryz.prog.cellsOf 29=7:=by kernel_rfl
def GOp (o:Own.Op):Prop:=((Lit.int .i64 o.kind).wf=true/\(Lit.int .i64 o.threshold).wf=true)/\(o.pre.size<=140737488355328/\o.name.size<=140737488355328/\o.pub.size<=140737488355328)/\(∀ m∈o.members,zcx m)/\o.members.length<=140737488355328/\(∀ a∈o.Aa,GAp a)/\o.Aa.length<=140737488355328
theorem zdc {W:World}(n:Nat)(cs:List Value)(x:DataW H × List MemPlace)(hl:cs.length=7)(hy:DataW.trod enc Tryz.prog W 0 (fun _=>true) true n 29 cs=some x)(hz:(x.1.weights Tryz.prog 29).all (· <= reachBytes)=true):
 ∃ (o:Own.Op) (mv av:Value),cs=[.int .i64 o.kind,.string o.pre,mv,.int .i64 o.threshold,.string o.name,.string o.pub,av]/\Own.Af W mv o.members/\Aq 4 Own.RAp Own.aP W av o.Aa/\GOp o:=by
 match cs,hl with
 | [c0,c1,c2,c3,c4,c5,c6],_ =>
   obtain⟨xs,m,_,rfl,_,hlen,hf⟩:=DataW.trod_struct Tryz.underlying29 hy
   match xs,hlen with
   | [y0,y1,y2,y3,y4,y5,y6],_ =>
     have u0:=hf 0 _ rfl;have u1:=hf 1 _ rfl;have u2:=hf 2 _ rfl;have u3:=hf 3 _ rfl;have u4:=hf 4 _ rfl;have u5:=hf 5 _ rfl;have u6:=hf 6 _ rfl
     change DataW.trod enc Tryz.prog W 0 (fun _=>true) true m 3 (List.take (Tryz.prog.cellsOf 3) (List.drop 0 [c0,c1,c2,c3,c4,c5,c6]))=some y0 at u0
     change DataW.trod enc Tryz.prog W 0 (fun _=>true) true m 9 (List.take (Tryz.prog.cellsOf 9) (List.drop 1 [c0,c1,c2,c3,c4,c5,c6]))=some y1 at u1
     change DataW.trod enc Tryz.prog W 0 (fun _=>true) true m 26 (List.take (Tryz.prog.cellsOf 26) (List.drop 2 [c0,c1,c2,c3,c4,c5,c6]))=some y2 at u2
     change DataW.trod enc Tryz.prog W 0 (fun _=>true) true m 3 (List.take (Tryz.prog.cellsOf 3) (List.drop 3 [c0,c1,c2,c3,c4,c5,c6]))=some y3 at u3
     change DataW.trod enc Tryz.prog W 0 (fun _=>true) true m 9 (List.take (Tryz.prog.cellsOf 9) (List.drop 4 [c0,c1,c2,c3,c4,c5,c6]))=some y4 at u4
     change DataW.trod enc Tryz.prog W 0 (fun _=>true) true m 9 (List.take (Tryz.prog.cellsOf 9) (List.drop 5 [c0,c1,c2,c3,c4,c5,c6]))=some y5 at u5
     change DataW.trod enc Tryz.prog W 0 (fun _=>true) true m 27 (List.take (Tryz.prog.cellsOf 27) (List.drop 6 [c0,c1,c2,c3,c4,c5,c6]))=some y6 at u6
     simp only[zcg,zdf,zcO,zc9,List.drop,List.take] at u0 u1 u2 u3 u4 u5 u6
     obtain⟨a,ha,e0,wa⟩:=DataW.trod_int Tryz.underlying3 u0
     obtain⟨b,hb,e1,_⟩:=DataW.trod_string Tryz.underlying9 u1
     obtain⟨d,hd,e3,wd⟩:=DataW.trod_int Tryz.underlying3 u3
     obtain⟨e,hee,e4,_⟩:=DataW.trod_string Tryz.underlying9 u4
     obtain⟨f,hff,e5,_⟩:=DataW.trod_string Tryz.underlying9 u5
     have ha' : c0=.int .i64 a:=by simpa using ha
     have hb' : c1=.string b:=by simpa using hb
     have hd' : c3=.int .i64 d:=by simpa using hd
     have he' : c4=.string e:=by simpa using hee
     have hf' : c5=.string f:=by simpa using hff
     subst ha';subst hb';subst hd';subst he';subst hf'
     have hw:(DataW.agg ([y0,y1,y2,y3,y4,y5,y6].map (·.1))).weights Tryz.prog 29=b.data.toList.length::(y2.1.weights Tryz.prog 26++(e.data.toList.length::f.data.toList.length::(y6.1.weights Tryz.prog 27++[]))):=by
      simp only[DataW.weights,Tryz.underlying29,e0,e1,e3,e4,e5,List.map_cons,List.map_nil]
      rfl
     rw[hw] at hz
     simp only[List.all_cons,List.all_append,List.append_nil,Bool.and_eq_true,decide_eq_true_eq] at hz
     obtain⟨z1,z2,z3,z4,z5⟩:=hz
     obtain⟨l,h1,h2,h3⟩:=zc6 u2 z2
     obtain⟨k,k1,k2,k3⟩:=zdb u6 z5
     exact⟨⟨a,b,l,d,e,f,k⟩,c2,c6,rfl,h1,k1,⟨wa,wd⟩,⟨zbF z1,zbF z3,zbF z4⟩,h2,h3,k2,k3⟩
theorem zdu {W:World}{base:Nat}{v:Value}{d:DataW H}{ps:List MemPlace}(hval:Value.okWide Tryz.prog W .any base 29 v)(h:DataW.Trod enc Tryz.prog W 0 (fun _=>true) true 29 v d ps)(hz:(d.weights Tryz.prog 29).all (· <= reachBytes)=true):
 ∃ (o:Own.Op) (mv av:Value),v=Own.opV o mv av/\Own.Af W mv o.members/\Own.W9 W av o.Aa/\GOp o:=by
 obtain⟨cs,rfl,hs⟩:=okWide_struct Tryz.underlying29 hval
 rw[zcP] at hs
 match cs,hs with
 | ⟨[c0,c1,c2,c3,c4,c5,c6]⟩,_ =>
   obtain⟨n,hy⟩:=h
   simp only[Value.cells] at hy
   obtain⟨o,mv,av,hu,h1,h2,hg⟩:=zdc n [c0,c1,c2,c3,c4,c5,c6] (d,ps) rfl hy hz
   refine⟨o,mv,av,?_,h1,Own.eH h2,hg⟩
   unfold Own.opV
   rw[hu]
end
end
section
open Go Go.ChangeShapes Go.WideShapes Go.ChangeAt Go.RowKit
theorem zcA:ownKnob Tryz.prog.godebug=none:=by kernel_rfl
theorem zcb:laidOutB Tryz.prog=true:=by kernel_rfl
theorem zcl (os:Os)(started:os.Started)(H:Type)(enc:TypeId × Value->H):
 ReturnsInHanded {} Tryz.checked os 4 .any (fun w args=>(Rows.ownersBytesSpec.pre enc Tryz.prog Tryz.f4 Rows.ownersBytesRow.domain false w args/\laidMetH Tryz.prog Rows.ownersBytesRow.laid w)/\sizedMet enc Tryz.prog Tryz.f4 (OpenSpec.ofChange Rows.ownersBytesSpec) false w args)
  (Rows.ownersBytesSpec.post enc Tryz.prog Tryz.f4 false true false false):=by
 refine zbH (C:=Tryz.checked) (X:=fun w _=>laidMetH Tryz.prog Rows.ownersBytesRow.laid w) (fun _ _ _ hh h=>h.of_heap hh) zcA started (by kernel_rfl) Tryz.func4
  (ChangeSpec.witness_shaped (enc :=enc) (C :=Tryz.checked) (os :=os) (X :=fun w _ => laidMetH Tryz.prog Rows.ownersBytesRow.laid w) false (World.laidAll Tryz.prog os Rows.ownersBytesRow.laid) #[.agg #[.int .i64 0,.string ⟨#[]⟩,.slice none 0 0,.int .i64 0,.string ⟨#[]⟩,.string ⟨#[]⟩,.slice none 0 0],.string ⟨#[]⟩] 8 (World.laidAll_os _ _ _)
    (World.shaped_of_ZipB (by kernel_rfl) (by kernel_rfl)) (by kernel_rfl) (by kernel_rfl) (by kernel_rfl)
    (by rw[MakeChecks.laidMetH_plain _ _ _ (by kernel_rfl)];exact laidMet_laidAll _ (by kernel_rfl) (by kernel_rfl))) ?_
 intro W base args ds gs before hval0 hW _ hz0 _ hsh _
 have hM:=zcY hsh
 have hval:∀ (j:Nat) t v,Tryz.f4.params[j]? = some t->args[j]? = some v->Value.okWide Tryz.prog W .any base t v:=hval0
 have hW':=hW
 obtain⟨p,q,hA0,hV,rfl,_,_⟩:=hW
 have hA:DataW.TrodAll enc Tryz.prog W 0 (fun _=>true) true Tryz.f4.params.toList args.toList ds p:=hA0
 rw[Tryz.params4] at hA hval
 obtain⟨v0,v1,d0,d1,p0,p1,rfl,rfl,rfl,h0,h1⟩:=trodAll_two hA
 obtain⟨rfl,rfl⟩:=trodVars_none hV
 have e0:DataW.weightsEach Tryz.prog (Tryz.f4.params.toList++Rows.ownersBytesSpec.plain.varTypes Tryz.prog) ([d0,d1]++[])=d0.weights Tryz.prog 29++(d1.weights Tryz.prog 9++[]):=by
  rw[Tryz.params4]
  rfl
 have hz0:=e0 ▸ hz0
 simp only[List.all_append,List.all_nil,Bool.and_true,Bool.and_eq_true] at hz0
 have g0:=h0
 obtain⟨p0p,mv0,av0,rfl,zdz,zd0,zcV⟩:=zdu (hval 0 29 v0 rfl rfl) h0 hz0.1
 obtain⟨s1,rfl,zd1⟩:=zdm (hval 1 9 v1 rfl rfl) h1 hz0.2
 have e1:Rows.ownersBytesSpec.fn H ([d0,d1]++[]) = { results:=[.lit (.bool true)],args:=[d0,d1] } :=by simp[Rows.ownersBytesSpec]
 refine(zcC p0p s1 _ _ W hM zdz zd0 zcV.2.2.2.1 zcV.2.2.2.2.2 zcV.2.1 (fun a ha=>(zcV.2.2.2.2.1 a ha).sizes.2) (fun a ha=>by
  have:=(zcV.2.2.2.2.1 a ha).2.1
  have h2:IntKind.i64.max=9223372036854775807:=by decide
  simp[Lit.wf,IntKind.has] at this
  omega) zd1).mono fun e W' ⟨he,hb⟩=>?_
 subst he
 refine⟨_,rfl,_,_,_,[],p0++(p1++[]),[],by simpa using hW',?_,?_,?_,hb.frame _,fun h=>by cases h⟩
 ·rw[e1];exact trodAll_mk1 (shut_bool Tryz.underlying4 true)
 ·rw[e1];exact(trodAll_cons_mk (Below.trod zcb (by kernel_rfl) (of_decide_eq_true (by kernel_rfl)) h0 hb (fun z hz=>hW'.lt z (by simp[hz]))) (trodAll_cons_mk (Below.trod zcb (by kernel_rfl) (of_decide_eq_true (by kernel_rfl)) h1 hb (fun z hz=>hW'.lt z (by simp[hz]))) trodAll_mk0))
 ·rw[e1];rfl
theorem zcy:Rows.OwnersBytesSaid:=
 OpenClaim.holds_of_wide 4 Tryz.f4 rfl rfl rfl rfl rfl rfl rfl ⟨rfl,rfl,rfl,rfl,rfl⟩ rfl rfl rfl rfl rfl (by kernel_rfl) Tryz.func4 (by kernel_rfl)
  (of_decide_eq_true (by kernel_rfl)) (by unfold Func.isWrapper;first|(rw[if_pos (by decide +kernel)];kernel_rfl)|(rw[if_neg (by decide +kernel)];exact⟨rfl,rfl⟩))
  (fun os started H enc _=>zcl os started H enc)
theorem obytes_card:Rows.OwnersBytesCardSaid:=
 Claim7.holds_tied_plain_at .later [] [.data,.pinned] true Rows.ownersBytesCard.stood.harness false zcy (fun _ h=>by cases h) (by kernel_rfl) (fun _ h=>by cases h) ownersBytes_row_tie rfl ⟨rfl,rfl⟩ (by kernel_rfl) rfl
  (fun f fn hf hfn => by
    obtain rfl : f = 4 := Option.some.inj ((show Tryz.prog.funcNamed "modcert/modcertlaw53.OwnersBytes" = some 4 by kernel_rfl).symm.trans hf) |>.symm
    obtain rfl:fn=Tryz.f4:=(Option.some.inj (Tryz.func4.symm.trans hfn)).symm
    exact⟨by kernel_rfl,fun j t ht=>by
     rw[Tryz.params4] at ht
     have hm:t∈[29,9]:=by simpa using Array.mem_of_getElem? ht
     have hall:([29,9].all fun u => !Tryz.prog.wantsStandIn u)=true:=by kernel_rfl
     exact(show Tryz.prog.wantsStandIn t=false by simpa using List.all_eq_true.1 hall t hm)⟩)
  (by kernel_rfl)
end
end Go.Proofs.YtjlmglgmcekmhaaGreatDoor
