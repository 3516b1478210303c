/- Slices of strings as they are read. -/
import Derived.Test.YtjlmglgmcekmhaaGreatDoorProg
import Derived.WalkKit
import Derived.WalkSpells
import Derived.WalkLawsBesides
import Derived.Deep.Draws
import Derived.Deep.AppendLies
import Derived.Maps.AppendAt
import Derived.Lib.Hide
import Derived.Maps.OwnSet
import Derived.Lib.Bytes
import Derived.Laws.BytesArg
import Derived.Lib.SlBytesRow
import Derived.Test.YtjlmglgmcekmhaaGreatDoorChecked
import Derived.BigQuiet
import Derived.Deep.QuietTactic
import Derived.KernelRfl
import Derived.NoCompiler
import Derived.StillTail
import Derived.Deep.DeepCutAuto
import Derived.Lib.EndianBits
import Derived.Laws.ResultCell
import Derived.Deep.MidRow
import Derived.Deep.RegionHeld3
import Derived.Deep.DrawnRows
import Derived.Deep.Cut
import Derived.StillTailTactics
import Derived.Deep.RegionLaw
import Derived.Shelf.Strings.Builder1
import Derived.Shelf.Strings.Builder2
import Derived.Shelf.Strings.OnBuilder
import Derived.Shelf.Small.Utf8
import Derived.Shelf.Small.Bits
import Derived.Shelf.Small.Strs
import Derived.Shelf.Strings.BuilderF
import Derived.Shelf.Strings.BuilderK
import Derived.Shelf.Utf8.RuneCount
import Derived.Shelf.Strings.Builder2Cap
import Derived.Shelf.Strconv.Itoa0
import Derived.Shelf.LaysM
import Derived.Shelf.Strconv.Clone
import Derived.Shelf.Strings.Search1
import Derived.Shelf.Strings.Search2
import Derived.Shelf.Strings.Search3
import Derived.Shelf.Strings.Count
import Derived.Shelf.Strings.Shaped
import Derived.Shelf.Strings.Prefix
import Derived.Shelf.Strings.Split
import Derived.Shelf.Strings.SplitShaped
import Derived.Shelf.Unicode.Decode
import Derived.Shelf.Strings.Runes
import Derived.Shelf.Strings.RuneCount
import Derived.Shelf.Strings.Explode
import Derived.Shelf.Bits.Mul64
import Derived.Shelf.Strings.Repeat
import Derived.Shelf.Unicode.DecodeSlow
import Derived.Shelf.Unicode.DecodeAny
import Derived.Shelf.Strings.BuilderCap
import Derived.Shelf.Slices.Turned
import Derived.Ground.SlgnProg
import Derived.Shelf.SlicesE.Index
import Derived.Shelf.SlicesE.Clone
import Derived.Ground.SlgfProg
import Derived.Shelf.SlicesE.IndexFunc
import Derived.Shelf.SlicesQ.IndexFunc
import Derived.OwnWalk
import Derived.Laws.BitsLemmas
import Derived.Laws.AppendOwn
import Derived.Deep.AppendSrc
import Derived.Lib.ConvBytes
import Derived.Lib.Split
import Derived.Lib.SplitLaws
import Derived.Laws.EntriesVeiled
import Derived.Maps.RangeWalk
import Derived.StringKeys
import Derived.Lib.OthersKept
import Derived.Deep.LoopGhost
import Derived.OrdersIn
import Derived.RangeFuncCalls
import Derived.TacticsIn
import Derived.RangeFuncNested
import Derived.RangeFuncBound
import Derived.RangeFuncLeaves
import Derived.OwnWalkIn
import Derived.TacticsInMore
import Derived.LoopNIn
import Derived.LoopIn
import Derived.Lib.Builder
import Derived.Lib.FrozenHead
import Derived.Lib.AppendStr
import Derived.Lib.Overlaps
import Derived.Laws.Externs
import Derived.Lib.AppendZeros
import Derived.Laws.IdiomCopy
import Derived.Laws.CopyRow
import Derived.Test.YtjlmglgmcekmhaaGreatDoorShkC1
import Derived.Test.YtjlmglgmcekmhaaGreatDoorShkC2
import Derived.Test.YtjlmglgmcekmhaaGreatDoorShkC3
import Derived.Test.YtjlmglgmcekmhaaGreatDoorShkC4
import Derived.Test.YtjlmglgmcekmhaaGreatDoorShkC5
import Derived.Test.YtjlmglgmcekmhaaGreatDoorShkC6
import Derived.Test.YtjlmglgmcekmhaaGreatDoorShkC7
import Derived.Test.YtjlmglgmcekmhaaGreatDoorShkC8
set_option linter.unusedVariables false
set_option linter.unusedSimpArgs false
set_option maxRecDepth 100000
set_option maxHeartbeats 8000000
namespace Go.Proofs.YtjlmglgmcekmhaaGreatDoor
section
open Go Go.RowKit Go.Maps
theorem zbM {w:World}{ops:Array Oper}{rest:List Oper}{o:Oper}{a:Act}{Q:Exit->Act->World->Prop}(hgd:o.guard=none)(s x:Operand)(ho:o.op=.call { callee:=.builtin .append,args:=#[s,x],argTypes:=#[68,68] })
 (base n:Nat) (v:Value) (xs:List Value) (hs:a.eval s=v) (hown:w.ownsRow base 9 1 v n xs) (y:Value) (ys:List ByteArray) (hx:a.eval x=y) (hy:Al w y ys) (hn:n+ys.length<=4000000) (hb:base<=w.heap.size)
 (h:∀ v' w',w'.ownsRow base 9 1 v' (n+ys.length) (xs++ys.map Value.string)->w.grownBy w' v.ownBlock->wpList Tryz.prog ops Q rest (a.put o.dst v') w'):wpList Tryz.prog ops Q (o::rest) a w:=by
 obtain⟨i1,hi,hz0,hz1,hz2⟩:=info_parts XJ
 obtain⟨ya,yc,rfl,hc⟩:=hy
 cases ya with
 | none =>
   have h0:ys.length=0:=by
    rcases hc with h0|⟨b,o,e,_⟩
    ·exact h0
    ·cases e
   have hys:ys=[]:=List.eq_nil_of_length_eq_zero h0
   subst hys
   refine wpList_plain hgd fun K hK=>?_
   have hrun:=PG (P:=Tryz.prog) (w:=w) base 68 o.type 9 i1 1 Tryz.underlying68 hi v n yc xs hown
   unfold Oper.wp
   have hx' : a.eval x=.slice none 0 yc:=hx
   simp[execOp,ho,resolve,invoke,builtin,hs,hx',hrun,Result.andThen]
   exact hK _ _ (h v w (by simpa using hown) ⟨rfl,rfl,rfl,Nat.le_refl _,fun _ _ _=>rfl⟩)
 | some p =>
   refine wpList_append_own w hgd s x 68 ho base 9 i1 (.string ⟨#[]⟩) 1 16 Tryz.underlying68 hi hz0 hz1 hz2 rfl (by omega) v n xs hs hown p ys.length yc (ys.map Value.string) hx (by simp) (fun j u hj=>?_) (fun u hu=>by obtain⟨z,_,rfl⟩:=List.mem_map.1 hu;rfl) (by unfold maxLen;omega) (by omega) hb (fun v' w' h1 h2 _=>h v' w' h1 h2)
   have hjl:j<ys.length:=by
    have:=(List.getElem?_eq_some_iff.1 hj).1
    simpa using this
   rcases hc with h0|⟨b,o',e,hcell⟩
   ·omega
   ·cases e
    have hadd:(⟨b,o',none⟩:Addr).add j=⟨b,o' + j,none⟩:=by unfold Addr.add;split<;>simp_all
    rw[hadd,hcell j hjl]
    simp[List.getElem?_map,hjl] at hj
    rw[<- hj]
    simp[List.getD_eq_getElem?_getD,hjl]
theorem zbC (s:ByteArray)(w:World)(hs:s.size<=140737488350000):
 Calls Tryz.prog 79 #[.string s] w fun e w' => e=.returned (.string (Cod.text s))/\Below w.heap.size w w':=by
 have hu:=Cod.Ce s.size
 have ht:Cod.uns s.size++s=Cod.text s:=rfl
 have HT:=zh ht;clear ht
 go_enter Tryz.func79,Tryz.ntmps79
 go_wp2_with fail
 refine(ZL s.size _ (by omega)).mono ?_
 rintro e w1 ⟨rfl,hb1⟩
 have HB:=zh hb1;clear hb1
 generalize Cod.uns s.size=u at*
 go_wp2_with fail
 go_ret
 exact⟨by rw[HT.out]<;>rfl,HB.out⟩
def zbS (xs:List ByteArray):Nat:=(xs.map ByteArray.size).sum
def zcz (xs:List ByteArray):Bool:=decide (xs.length<=70)&&decide (zbS xs<=20000)
theorem zcm (xs:List ByteArray)(k:Nat)(h:k<xs.length):zbS (xs.take (k+1))=zbS (xs.take k)+xs[k].size:=by
 unfold zbS
 rw[List.take_succ_eq_append_getElem h,List.map_append,List.sum_append]
 simp
theorem zcc (v:Value)(xs:List ByteArray)(w:World)(h:Al w v xs)(hx:∀ x∈xs,x.size<=140737488355328)(hl:xs.length<=60000):
 Calls Tryz.prog 147 #[v] w fun e w' => e=.returned (.bool (zcz xs))/\w' = w:=by
 obtain⟨a,c,rfl⟩:=h.len
 have htk:∀ k,k<=xs.length->zbS (xs.take k)<=k*140737488355328:=by
  intro k
  induction k with
  | zero=>intro _;simp[zbS]
  | succ k ih =>
    intro hk
    rw[zcm xs k (by omega)]
    have h1:=ih (by omega)
    have h2:=hx _ (List.getElem_mem (show k<xs.length by omega))
    omega
 obtain⟨R,hR⟩:∃ R,R=zcz xs:=⟨_,rfl⟩
 rw[<- hR]
 unfold zcz at hR
 have HR:=zh hR;have HV:=zh h;have HTK:=zh htk;have HX:=zh hx;clear hR h htk hx
 go_enter Tryz.func147,Tryz.ntmps147
 go_wp2_with fail
 go_loopw [3,4] (fun n i wr=>∃ k:Nat,k<=xs.length/\i=.int .i64 k/\n=.int .i64 ((zbS (xs.take k):Nat):Int)/\wr=w) (fun _ i _=>xs.length-(intOf i).toNat)
 case atStart=>exact⟨0,by omega,rfl,rfl,rfl⟩
 case round=>
  obtain⟨k,hk,rfl,rfl,rfl⟩:=hrel
  have hT:=HTK.out k hk
  have hT2:zbS (xs.take k)<=9223372036854775000:=by omega
  by_cases hlt:k<xs.length
  ·have dk:decide ((k:Int)<xs.length)=true:=by simp;omega
   obtain⟨b,o,rfl⟩:=HV.out.addrOf hlt
   have ce:=HV.out.cellAt hlt
   obtain⟨s,hs⟩:∃ s,s=xs.getD k ⟨#[]⟩:=⟨_,rfl⟩
   rw[<- hs] at ce
   have hsx:s=xs[k]:=by rw[hs];simp[List.getD_eq_getElem?_getD,hlt]
   have hstep:zbS (xs.take (k+1))=zbS (xs.take k)+s.size:=by rw[zcm xs k hlt,hsx]
   have hss:s.size<=140737488355328:=HX.out s (by rw[hsx];exact List.getElem_mem hlt)
   have hn1:=HTK.out (k+1) hlt
   rw[hstep] at hn1
   generalize zbS (xs.take k)=T at*
   have HST:=zh hstep;clear hstep hs hsx
   go_wp2_with fail
   exact⟨⟨k+1,by omega,by go_num,by rw[HST.out];go_num,by first|rfl|trivial⟩,by simp[intOf];omega⟩
  ·have dk:decide ((k:Int)<xs.length)=false:=by simp;omega
   have hall:zbS (xs.take k)=zbS xs:=by rw[List.take_of_length_le (by omega)]
   rw[hall] at hT2 ⊢
   clear hall hT
   by_cases h1:xs.length<=70
   ·have e1:decide ((xs.length:Int)<=70)=true:=by simp;omega
    by_cases h2:zbS xs<=20000
    ·have e2:decide (((zbS xs:Nat):Int)<=20000)=true:=by simp;omega
     have hf:R=true:=by rw[HR.out,decide_eq_true h1,decide_eq_true h2]<;>rfl
     have HF:=zh hf;clear hf
     go_wp2_with fail
     go_ret
     exact⟨by rw[HF.out]<;>rfl,rfl⟩
    ·have e2:decide (((zbS xs:Nat):Int)<=20000)=false:=by simp;omega
     have hf:R=false:=by rw[HR.out,decide_eq_false h2];simp
     have HF:=zh hf;clear hf
     go_wp2_with fail
     go_ret
     exact⟨by rw[HF.out]<;>rfl,rfl⟩
   ·have e1:decide ((xs.length:Int)<=70)=false:=by simp;omega
    have hf:R=false:=by rw[HR.out,decide_eq_false h1];simp
    have HF:=zh hf;clear hf
    go_wp2_with fail
    go_ret
    exact⟨by rw[HF.out]<;>rfl,rfl⟩
section
variable {P:Program} {w:World} {ops:Array Oper} {rest:List Oper} {o:Oper} {a:Act} {Q:Exit->Act->World->Prop}
end
theorem zcI (w:World)(x:Obj)(e:TypeId)(cs:Array Value)(size n c:Nat)(hs:cs.size=n*size):Bc ((w.alloc x).alloc (.cells cs e)) (.slice (some ⟨w.heap.size+1,0,none⟩) n c) size n cs.toList:=by
 have:=Cx (w.alloc x) e cs size n c hs
 rwa [World.size_alloc] at this
end
section
open Go Go.RowKit Go.Maps
section
variable {P:Program} {fn:Func} {tmps:Array Value} {w:World} {Q:Ending->World->Prop}
theorem zbN {p u u' : Tmp}{t1:TypeId}{b1:Nat}{v1 x x' : Value}(h:fn.results=#[.cell p t1,.tmp u,.tmp u'])(hp:tmps.getD p undef=.pointer (some ⟨b1,0,none⟩))(hu:tmps.getD u undef=x)(hu' : tmps.getD u' undef=x')
 (l1:(loadVar t1 ⟨b1,0,none⟩).run P w=.ok v1 w) (hQ:Q (.returned (.tuple #[v1,x,x'])) w):bodyPost P fn Q Exit.ret { tmps:=tmps,defers:=[] } w:=by
 refine bodyPost_ret (v:=.tuple #[v1,x,x']) ?_ rfl hQ
 have e:(results fn tmps).run P w=((asAddr (tmps.getD p undef)).run P w).andThen fun a w₁ => ((loadVar t1 a).run P w₁).andThen fun x w₂ => .ok (.tuple #[x,tmps.getD u undef,tmps.getD u' undef]) w₂ :=by
  simp only[results,h]
  simp[Sem.run_bind,Result.andThen]
 show(results fn tmps).run P w=_
 rw[e,hp,hu,hu']
 simp[asAddr,l1]
end
theorem zbO {P:Program}{ops:Array Oper}{Q:Exit->Act->World->Prop}{a:Act}{w:World}{rest:List Oper}{o:Oper}(hw:Region.wanted o (yielded ops a.tmps)=true)
 (h:wpList P ops Q ({ o with guard:=none } :: rest) a w):wpList P ops Q (o::rest) a w:=by
 unfold wpList at h ⊢
 rw[if_pos hw]
 rw[if_pos (by simp[Region.wanted])] at h
 exact h
end
section
open Go
namespace Own
def zbV:Bool->List UInt8->Bool
 | f,[] => !f
 | f,c::l=>if c=47 then !f&&zbV true l else zbV false l
theorem zc0 (l:List UInt8):(dV l=zbV true l)/\(Nam.cuts l).tail.all (fun p => !p.isEmpty)=zbV false l:=by
 induction l with
 | nil=>exact⟨rfl,rfl⟩
 | cons c l ih =>
   by_cases h:c=47
   ·subst h
    have e:Nam.cuts (47::l)=[]::Nam.cuts l:=by simp[Nam.cuts]
    constructor
    ·unfold dV zbV
     rw[e]
     simp
    ·rw[e,List.tail_cons]
     unfold zbV
     rw[if_pos rfl]
     show dV l=_
     rw[ih.1]
     rfl
   ·have e:Nam.cuts (c::l)=(c::(Nam.cuts l).headD [])::(Nam.cuts l).tail:=by rw[Nam.cuts,if_neg h]
    constructor
    ·unfold dV zbV
     rw[e,if_neg h,List.all_cons]
     simpa using ih.2
    ·rw[e,List.tail_cons]
     unfold zbV
     rw[if_neg h]
     exact ih.2
end Own
namespace Own
theorem zbB {s:ByteArray}{a b c:Nat}{x y:ByteArray}(h1:a<=b)(h2:b<=c)(hx:s.extract a b=x)(hy:s.extract b c=y):s.extract a c=x++y:=by
 rw[Cod.Ht s a b c h1 h2,hx,hy]
theorem zcD (s:ByteArray)(a:Nat):s.extract a a=⟨#[]⟩:=by
 apply Sha.BG
 rw[Sha.Cj]
 simp
theorem zca {s:ByteArray} : ∀ {n a b:Nat} {l:List Member},a<=s.size->IL s n a=some (l,b)->a<=b/\b<=s.size/\s.extract a b=Cod.cat (l.map AV)/\l.length=n
 | 0,a,b,l,ha,h => by
   cases h
   exact⟨Nat.le_refl _,ha,by rw[zcD]<;>rfl,rfl⟩
 | n + 1,a,b,l,ha,h => by
   unfold IL at h
   cases h1:Cod.rdT s a with
   | none=>rw[h1] at h;cases h
   | some y =>
     obtain⟨nm,a1⟩:=y
     simp only[h1] at h
     cases h2:Cod.rdT s a1 with
     | none=>simp only[h2] at h;cases h
     | some y =>
       obtain⟨pb,a2⟩:=y
       simp only[h2] at h
       cases h3:IL s n a2 with
       | none=>simp only[h3] at h;cases h
       | some y =>
         obtain⟨l',d⟩:=y
         simp only[h3] at h
         cases h
         obtain⟨p1,p2,p3⟩:=Cod.Mc h1
         obtain⟨q1,q2,q3⟩:=Cod.Mc h2
         obtain⟨t1,t2,t3,t4⟩:=zca q2 h3
         refine⟨by omega,t2,?_,by simp[t4]⟩
         have e:Cod.cat ((⟨nm,pb⟩::l').map AV)=(Cod.text nm++Cod.text pb)++Cod.cat (l'.map AV):=rfl
         rw[e]
         exact zbB (by omega) t1 (zbB (by omega) (by omega) p3 q3) t3
theorem zcd {s:ByteArray}{a b:Nat}{x:Sig.T}(h:UD s a=some (x,b)):a<b/\b<=s.size/\s.extract a b=Bw x/\0<=x.index/\x.index<9223372036854775808:=by
 unfold UD at h
 cases h1:Cod.rdN s a with
 | none=>rw[h1] at h;cases h
 | some y =>
   obtain⟨i,a1⟩:=y
   simp only[h1] at h
   cases h2:Cod.Br s a1 with
   | none=>simp only[h2] at h;cases h
   | some y =>
     obtain⟨ch,a2⟩:=y
     simp only[h2] at h
     cases h3:Cod.Br s a2 with
     | none=>simp only[h3] at h;cases h
     | some y =>
       obtain⟨pa,d⟩:=y
       simp only[h3] at h
       cases h
       obtain⟨p1,p2,p3,p4⟩:=Cod.Fa h1
       obtain⟨q1,q2,q3⟩:=Cod.Md h2
       obtain⟨t1,t2,t3⟩:=Cod.Md h3
       refine⟨by omega,t2,?_,by show(0:Int)<=(i:Int);omega,by show(i:Int)<_;omega⟩
       unfold Bw
       dsimp only
       rw[Int.toNat_natCast]
       exact zbB (by omega) (by omega) p3 (zbB (by omega) (by omega) q3 t3)
theorem zce {s:ByteArray} : ∀ {n a b:Nat} {l:List Ai},a<=s.size->MI s n a=some (l,b)->a<=b/\b<=s.size/\s.extract a b=Cod.cat (l.map Ay)/\l.length=n
 | 0,a,b,l,ha,h => by
   cases h
   exact⟨Nat.le_refl _,ha,by rw[zcD]<;>rfl,rfl⟩
 | n + 1,a,b,l,ha,h => by
   unfold MI at h
   cases h1:Cod.rdT s a with
   | none=>rw[h1] at h;cases h
   | some y =>
     obtain⟨nm,a1⟩:=y
     simp only[h1] at h
     cases h2:UD s a1 with
     | none=>simp only[h2] at h;cases h
     | some y =>
       obtain⟨sg,a2⟩:=y
       simp only[h2] at h
       cases h3:MI s n a2 with
       | none=>simp only[h3] at h;cases h
       | some y =>
         obtain⟨l',d⟩:=y
         simp only[h3] at h
         cases h
         obtain⟨p1,p2,p3⟩:=Cod.Mc h1
         obtain⟨q1,q2,q3,_⟩:=zcd h2
         obtain⟨t1,t2,t3,t4⟩:=zce q2 h3
         refine⟨by omega,t2,?_,by simp[t4]⟩
         have e:Cod.cat ((⟨nm,sg⟩::l').map Ay)=(Cod.text nm++Bw sg)++Cod.cat (l'.map Ay):=rfl
         rw[e]
         exact zbB (by omega) t1 (zbB (by omega) (by omega) p3 q3) t3
theorem zcJ {s:ByteArray}{op:Op}{e:Nat}(h:iE s=some (op,e)):e<=s.size/\s.extract 0 e=CW op++(Cod.uns op.Aa.length++Cod.cat (op.Aa.map Ay))/\0<=op.kind/\op.kind<9223372036854775808/\0<=op.threshold/\op.threshold<9223372036854775808:=by
 unfold iE at h
 cases h1:Cod.rdN s 0 with
 | none=>rw[h1] at h;cases h
 | some y=>
 obtain⟨k,a1⟩:=y
 simp only[h1] at h
 cases h2:Cod.rdT s a1 with
 | none=>simp only[h2] at h;cases h
 | some y=>
 obtain⟨pre,a2⟩:=y
 simp only[h2] at h
 cases h3:Cod.rdN s a2 with
 | none=>simp only[h3] at h;cases h
 | some y=>
 obtain⟨n,a3⟩:=y
 simp only[h3] at h
 by_cases hn:8<n
 ·rw[if_pos hn] at h;cases h
 rw[if_neg hn] at h
 cases h4:IL s n a3 with
 | none=>simp only[h4] at h;cases h
 | some y=>
 obtain⟨ms,a4⟩:=y
 simp only[h4] at h
 cases h5:Cod.rdN s a4 with
 | none=>simp only[h5] at h;cases h
 | some y=>
 obtain⟨t,a5⟩:=y
 simp only[h5] at h
 cases h6:Cod.rdT s a5 with
 | none=>simp only[h6] at h;cases h
 | some y=>
 obtain⟨nm,a6⟩:=y
 simp only[h6] at h
 cases h7:Cod.rdT s a6 with
 | none=>simp only[h7] at h;cases h
 | some y=>
 obtain⟨pb,a7⟩:=y
 simp only[h7] at h
 cases h8:Cod.rdN s a7 with
 | none=>simp only[h8] at h;cases h
 | some y=>
 obtain⟨m,a8⟩:=y
 simp only[h8] at h
 by_cases hm:8<m
 ·rw[if_pos hm] at h;cases h
 rw[if_neg hm] at h
 cases h9:MI s m a8 with
 | none=>simp only[h9] at h;cases h
 | some y=>
 obtain⟨aps,a9⟩:=y
 simp only[h9] at h
 cases h
 obtain⟨p11,p12,p13,p14⟩:=Cod.Fa h1
 obtain⟨p21,p22,p23⟩:=Cod.Mc h2
 obtain⟨p31,p32,p33,p34⟩:=Cod.Fa h3
 obtain⟨p41,p42,p43,p44⟩:=zca p32 h4
 obtain⟨p51,p52,p53,p54⟩:=Cod.Fa h5
 obtain⟨p61,p62,p63⟩:=Cod.Mc h6
 obtain⟨p71,p72,p73⟩:=Cod.Mc h7
 obtain⟨p81,p82,p83,p84⟩:=Cod.Fa h8
 obtain⟨p91,p92,p93,p94⟩:=zce p82 h9
 refine⟨p92,?_,by show(0:Int)<=(k:Int);omega,by show(k:Int)<_;omega,by show(0:Int)<=(t:Int);omega,by show(t:Int)<_;omega⟩
 unfold CW
 dsimp only
 rw[Int.toNat_natCast,Int.toNat_natCast,p44,p94]
 exact zbB (Nat.zero_le _) (by omega) (zbB (Nat.zero_le _) (by omega) p13 (zbB (by omega) (by omega) p23 (zbB (by omega) (by omega) p33 (zbB (by omega) (by omega) p43 (zbB (by omega) (by omega) p53 (zbB (by omega) (by omega) p63 p73)))))) (zbB (by omega) (by omega) p83 p93)
theorem zcK {s:ByteArray}(h:(MJ s).2=0):Dh (MJ s).1=(s,0):=by
 unfold MJ at h ⊢
 cases h1:iE s with
 | none=>rw[h1] at h;simp at h
 | some y =>
   obtain⟨op,e⟩:=y
   simp only[h1] at h ⊢
   by_cases hc:(decide (e=s.size)&&Fv op)=true
   ·rw[if_pos hc]
    simp only[Bool.and_eq_true,decide_eq_true_eq] at hc
    obtain⟨rfl,hf⟩:=hc
    obtain⟨_,h2,_⟩:=zcJ h1
    unfold Dh
    dsimp only
    rw[if_pos hf,<- h2]
    congr 1
    apply Sha.BG
    rw[Sha.Cj,List.drop_zero,Nat.sub_zero,List.take_of_length_le (by rw[Sha.Bo];exact Nat.le_refl _)]
   ·rw[if_neg hc] at h
    simp at h
end Own
end
section
open Go Go.RowKit Go.Maps
namespace Own
def zc1 (L:List UInt8)(i:Nat):Prop:=L[i]? = some 47/\(i=0\/∀ c,L[i+1]? = some c->c=47)
theorem zbZ:∀ (L:List UInt8) (f:Bool),zbV f L=true↔((f=true->L≠[]/\L[0]? ≠ some 47)/\∀ i:Nat,L[i]? = some 47->∃ c:UInt8,L[i+1]? = some c/\c≠47)
 | [],f => by
   have h:∀ i:Nat,([]:List UInt8)[i]? = some 47->∃ c:UInt8,([]:List UInt8)[i+1]? = some c/\c≠47:=fun i hi=>by simp at hi
   cases f with
   | false=>exact⟨fun _=>⟨fun e=>(by cases e),h⟩,fun _=>rfl⟩
   | true=>exact⟨fun e=>(by cases e),fun e=>absurd rfl (e.1 rfl).1⟩
 | c :: l,f => by
   unfold zbV
   by_cases h:c=47
   ·subst h
    rw[if_pos rfl,Bool.and_eq_true,zbZ l true]
    constructor
    ·rintro⟨h1,h2,h3⟩
     refine⟨fun hf=>(by rw[hf] at h1;cases h1),fun i hi=>?_⟩
     cases i with
     | zero =>
       obtain⟨h4,h5⟩:=h2 rfl
       cases l with
       | nil=>exact absurd rfl h4
       | cons d l=>exact⟨d,rfl,fun e=>h5 (by rw[e]<;>rfl)⟩
     | succ i=>exact h3 i hi
    ·rintro⟨h1,h2⟩
     refine⟨?_,fun _=>?_,fun i hi=>h2 (i+1) hi⟩
     ·cases f with
      | false=>rfl
      | true=>exact absurd rfl (h1 rfl).2
     ·obtain⟨d,h4,h5⟩:=h2 0 rfl
      have h4:l[0]? = some d:=h4
      refine⟨fun e=>(by rw[e] at h4;cases h4),fun e=>h5 ?_⟩
      rw[e] at h4
      exact(Option.some.inj h4).symm
   ·rw[if_neg h,zbZ l false]
    constructor
    ·rintro⟨_,h3⟩
     refine⟨fun _=>⟨by simp,fun e=>h (Option.some.inj e)⟩,fun i hi=>?_⟩
     cases i with
     | zero=>exact absurd (Option.some.inj hi) h
     | succ i=>exact h3 i hi
    ·rintro⟨_,h2⟩
     exact⟨fun e=>(by cases e),fun i hi=>h2 (i+1) hi⟩
theorem zcn (L:List UInt8)(h:L≠[]):dV L=true↔∀ i,¬ zc1 L i:=by
 rw[(zc0 L).1,zbZ]
 constructor
 ·rintro⟨h1,h2⟩ i ⟨h3,h4⟩
  rcases h4 with rfl|h4
  ·exact(h1 rfl).2 h3
  ·obtain⟨c,h5,h6⟩:=h2 i h3
   exact h6 (h4 c h5)
 ·intro hb
  refine⟨fun _=>⟨h,fun e=>hb 0 ⟨e,.inl rfl⟩⟩,fun i hi=>?_⟩
  cases hn:L[i+1]? with
  | none=>exact absurd ⟨hi,.inr (fun c hc=>by rw[hn] at hc;cases hc)⟩ (hb i)
  | some c=>exact⟨c,rfl,fun e=>hb i ⟨hi,.inr (fun d hd=>by rw[hn] at hd;rw[<- Option.some.inj hd];exact e)⟩⟩
end Own
theorem zdo {s:ByteArray}{k:Nat}(h:k<s.size):s.data.toList[k]? = some s[k]:=by
 rw[Array.getElem?_toList]
 exact Array.getElem?_eq_getElem h
theorem zco {s:ByteArray}{k:Nat}(h:s.size<=k):s.data.toList[k]? = none:=by
 rw[Array.getElem?_toList]
 exact Array.getElem?_eq_none h
theorem zdd {c:UInt8}(n:Nat)(hn:n<256)(h:(c.toNat:Int)=n):c=n.toUInt8:=by
 apply UInt8.toNat_inj.1
 rw[show(n.toUInt8).toNat=n from by simp[Nat.mod_eq_of_lt hn]]
 omega
theorem zc2 (s:ByteArray)(w:World)(hs:s.size<=9223372036854775000):Calls Tryz.prog 33 #[.string s] w fun e w' => e=.returned (.bool (Own.BI s))/\w' = w:=by
 obtain⟨R,hR⟩:∃ R,R=Own.BI s:=⟨_,rfl⟩
 rw[<- hR]
 have HR:=zh hR;clear hR
 go_enter Tryz.func33,Tryz.ntmps33
 go_wp2_with fail
 go_loopw [3] (fun i wr=>∃ k:Nat,k<=s.size/\i=.int .i64 k/\(∀ j,j<k->¬ Own.zc1 s.data.toList j)/\wr=w) (fun i _=>s.size-(intOf i).toNat)
 case atStart=>exact⟨0,by omega,rfl,(fun j hj=>absurd hj (by omega)),rfl⟩
 case round=>
  obtain⟨k,hk,rfl,hgo,rfl⟩:=hrel
  by_cases hlt:k<s.size
  case neg=>
   have dk:decide ((k:Int)<(s.size:Int))=false:=zf
   have e:R=(decide (1<=(s.size:Int))&&decide ((s.size:Int)<=64)):=by
    rw[HR.out]
    unfold Own.BI
    by_cases h0:s.data.toList=[]
    ·have : s.size = 0 :=by
      have:=congrArg List.length h0
      rw[Array.length_toList] at this
      exact this
     rw[this];rfl
    ·have : Own.dV s.data.toList = true :=(Own.zcn _ h0).2 fun i hi => by
      by_cases hik:i<k
      ·exact hgo i hik hi
      ·have:=hi.1
       rw[zco (by omega)] at this
       cases this
     rw[this,Bool.and_true,show decide (1<=s.size)=decide (1<=(s.size:Int)) from decide_eq_decide.2 (by omega),show decide (s.size<=64)=decide ((s.size:Int)<=64) from decide_eq_decide.2 (by omega)]
   have HE:=zh e;clear e hgo
   by_cases h1:1<=(s.size:Int)
   ·have d1:decide (1<=(s.size:Int))=true:=decide_eq_true h1
    go_wp2_with fail
    go_ret
    exact⟨by rw[HE.out,d1]<;>rfl,rfl⟩
   ·have d1:decide (1<=(s.size:Int))=false:=decide_eq_false h1
    go_wp2_with fail
    go_ret
    exact⟨by rw[HE.out,d1]<;>rfl,rfl⟩
  have dk:decide ((k:Int)<(s.size:Int))=true:=zt
  have hbad:Own.zc1 s.data.toList k->R=false:=fun hb=>by
   rw[HR.out]
   unfold Own.BI
   have:Own.dV s.data.toList=false:=by
    cases hp:Own.dV s.data.toList with
    | false=>rfl
    | true=>exact absurd hb ((Own.zcn _ (fun e=>by have:=hb.1;rw[e] at this;cases this)).1 hp k)
   rw[this,Bool.and_false]
  have hnx:¬ Own.zc1 s.data.toList k->∀ j,j<k+1->¬ Own.zc1 s.data.toList j:=fun h j hj=>by
   rcases(by omega:j<k\/j=k) with h1|rfl
   ·exact hgo j h1
   ·exact h
  have h0:s.data.toList[k]? = some s[k]:=zdo hlt
  have HBAD:=zh hbad;have HNX:=zh hnx;have H0:=zh h0
  clear hbad hnx hgo h0
  by_cases h47:(s[k].toNat:Int)=47
  case neg=>
   have d47:((s[k].toNat:Int)==47)=false:=beq_eq_false_iff_ne.2 h47
   have hn:=HNX.out (by intro hb;have:=hb.1;rw[H0.out] at this;exact h47 (by rw[Option.some.inj this]<;>rfl))
   have HN:=zh hn;clear hn
   go_wp2_with fail
   exact⟨⟨k+1,by omega,by go_num,HN.out,(by first|rfl|trivial)⟩,by simp[intOf];omega⟩
  have d47:((s[k].toNat:Int)==47)=true:=beq_iff_eq.2 h47
  have hc:s[k]=47:=zdd 47 (by omega) h47
  have HC:=zh hc;clear hc
  by_cases hk0:k=0
  ·have dk0:((k:Int)==0)=true:=beq_iff_eq.2 (by omega)
   have HK0:=zh hk0;clear hk0
   have e:R=false:=HBAD.out (by exact⟨by rw[H0.out,HC.out],.inl HK0.out⟩)
   have HE:=zh e;clear e
   go_wp2_with fail
   go_ret
   exact⟨by rw[HE.out]<;>rfl,rfl⟩
  have dk0:((k:Int)==0)=false:=beq_eq_false_iff_ne.2 (by omega)
  by_cases hkl:(k:Int)=(s.size:Int)-1
  ·have dkl:((k:Int)==(s.size:Int)-1)=true:=beq_iff_eq.2 hkl
   have HKL:=zh hkl;clear hkl
   have e:R=false:=HBAD.out (by exact⟨by rw[H0.out,HC.out],.inr (fun c hc=>by have:=HKL.out;rw[zco (by omega)] at hc;cases hc)⟩)
   have HE:=zh e;clear e
   go_wp2_with fail
   go_ret
   exact⟨by rw[HE.out]<;>rfl,rfl⟩
  have dkl:((k:Int)==(s.size:Int)-1)=false:=beq_eq_false_iff_ne.2 hkl
  have hk1:k+1<s.size:=by omega
  have h1:s.data.toList[k+1]? = some s[k+1]:=zdo hk1
  have H1:=zh h1;clear h1
  by_cases h48:(s[k+1].toNat:Int)=47
  ·have d48:((s[k+1].toNat:Int)==47)=true:=beq_iff_eq.2 h48
   have e:R=false:=HBAD.out (by exact⟨by rw[H0.out,HC.out],.inr (fun c hc=>by rw[H1.out] at hc;rw[<- Option.some.inj hc];exact zdd 47 (by omega) h48)⟩)
   have HE:=zh e;clear e
   go_wp2_with fail
   go_ret
   exact⟨by rw[HE.out]<;>rfl,rfl⟩
  ·have d48:((s[k+1].toNat:Int)==47)=false:=beq_eq_false_iff_ne.2 h48
   have hn:=HNX.out (by intro hb;exact hb.2.elim hk0 (fun h=>h48 (by rw[h _ H1.out]<;>rfl)))
   have HN:=zh hn;clear hn
   go_wp2_with fail
   exact⟨⟨k+1,by omega,by go_num,HN.out,(by first|rfl|trivial)⟩,by simp[intOf];omega⟩
theorem zbA (p:ByteArray)(w:World):Calls Tryz.prog 75 #[.string p] w fun e w' => e=.returned (.bool (Sig.Bn p))/\w' = w:=by
 obtain⟨R,hR⟩:∃ R,R=Sig.Bn p:=⟨_,rfl⟩
 rw[<- hR]
 unfold Sig.Bn at hR
 have HR:=zh hR;clear hR
 go_enter Tryz.func75,Tryz.ntmps75
 by_cases h33:p.size=33
 case neg=>
  have d1:((p.size:Int)==33)=false:=by rw[beq_eq_false_iff_ne];omega
  have hx:R=false:=by rw[HR.out,decide_eq_false h33]<;>rfl
  have HX:=zh hx;clear hx
  go_wp2_with fail
  go_ret
  exact⟨by rw[HX.out]<;>rfl,rfl⟩
 have d1:((p.size:Int)==33)=true:=by rw[beq_iff_eq];omega
 have h32:32<p.size:=by omega
 have hg:p.get! 32=p[32]:=getElem!_pos p.data 32 h32
 have hxl:p[32].toNat<256:=p[32].toNat_lt
 have hx:R=decide ((p[32].toNat:Int)<=6):=by
  rw[HR.out,decide_eq_true h33,hg,Bool.true_and,decide_eq_decide]
  omega
 have HX:=zh hx;clear hx
 go_wp2_with fail
 go_ret
 exact⟨by rw[HX.out]<;>rfl,rfl⟩
theorem zcp {α : Type}{l:List α}{p : α -> Bool}{j:Nat}(h:j<l.length)(h1:(l.take j).any p=false)(h2:p l[j]=false):(l.take (j+1)).any p=false:=by
 rw[List.take_succ_eq_append_getElem h,List.any_append,h1]
 simp[h2]
theorem zbT (v:Value)(l:List Own.Member)(w:World)(h:Own.Af w v l)(hl:l.length<=140737488355328):
 Calls Tryz.prog 113 #[v] w fun e w' => e=.returned (.bool (Own.Co l))/\Below w.heap.size w w':=by
 obtain⟨R,hR⟩:∃ R,R=Own.Co l:=⟨_,rfl⟩
 rw[<- hR]
 unfold Own.Co at hR
 obtain⟨a,c,rfl⟩:=h.len
 have HR:=zh hR;have HL:=zh h;clear hR h
 go_enter Tryz.func113,Tryz.ntmps113
 go_wp2_with fail
 go_loopw [3] (fun i wr=>∃ k:Nat,k<=l.length/\i=.int .i64 k/\Own.Am [] (l.take k)=true/\Below w.heap.size w wr) (fun i _=>l.length-(intOf i).toNat)
 case atStart=>exact⟨0,by omega,rfl,rfl,Below.refl _ _⟩
 case round=>
  obtain⟨k,hk,rfl,hok,hb⟩:=hrel
  have HB:=zh hb
  by_cases hlt:k<l.length
  case neg=>
   have hke:k=l.length:=by omega
   have dk:decide ((k:Int)<l.length)=false:=zf
   have e:R=(decide (1<=(l.length:Int))&&decide ((l.length:Int)<=8)):=by
    rw[hke,List.take_length] at hok
    rw[HR.out,hok,Bool.and_true,show decide (1<=l.length)=decide (1<=(l.length:Int)) from decide_eq_decide.2 (by omega),show decide (l.length<=8)=decide ((l.length:Int)<=8) from decide_eq_decide.2 (by omega)]
   have HE:=zh e;clear e hok hb hke
   by_cases h1:1<=(l.length:Int)
   ·have d1:decide (1<=(l.length:Int))=true:=decide_eq_true h1
    have d1' : decide (1<=l.length)=true:=zt
    go_wp2_with fail
    go_ret
    exact⟨by rw[HE.out,d1]<;>rfl,HB.out⟩
   ·have d1:decide (1<=(l.length:Int))=false:=decide_eq_false h1
    have d1' : decide (1<=l.length)=false:=zf
    go_wp2_with fail
    go_ret
    exact⟨by rw[HE.out,d1]<;>rfl,HB.out⟩
  have dk:decide ((k:Int)<l.length)=true:=zt
  have hra:R=false\/(Own.CX (l.take k) l[k]=true):=by
   cases hm:Own.CX (l.take k) l[k] with
   | true=>exact .inr rfl
   | false=>refine .inl ?_;rw[HR.out,Own.RG l k hlt,hok,hm];simp
  have hra:Own.CX (l.take k) l[k]=false->R=false:=fun hm=>by
   rcases hra with h|h
   ·exact h
   ·rw[hm] at h;cases h
  have htk:Own.Am [] (l.take (k+1))=Own.CX (l.take k) l[k]:=by rw[Own.Oi l k hlt,hok,Bool.true_and]
  have hmo:Own.CX (l.take k) l[k]=(Own.EG l[k].name&&Sig.Bn l[k].pub && !((l.take k).any fun x=>decide (x.pub=l[k].pub))&&(match (l.take k).getLast? with|none=>true|some x=>Own.Aj x.name l[k].name)):=rfl
  have hlk:=HL.out.below hb
  obtain⟨b,o,ha,hbl,c0,c1⟩:=Own.Af.cells hlk hlt
  have JL:∀ j,k=j+1->∃ x:Own.Member,wr.cell? ⟨b,o+j*2,none⟩=some (.string x.name)/\(l.take k).getLast? = some x:=by
   intro j hj
   obtain⟨b',o',ha',_,e0,_⟩:=Own.Af.cells hlk (i:=j) (by omega)
   rw[ha] at ha'
   cases ha'
   have hg:=Own.getLast_take l j (by omega)
   rw[<- hj] at hg
   exact⟨_,e0,hg⟩
  subst ha
  obtain⟨nm,hnm⟩:∃ x,x=l[k].name:=⟨_,rfl⟩
  obtain⟨pb,hpb⟩:∃ x,x=l[k].pub:=⟨_,rfl⟩
  rw[<- hnm,<- hpb] at hmo
  rw[<- hnm] at c0
  rw[<- hpb] at c1
  rw[hmo] at hra htk
  have HPB:=zh hpb.symm
  have HRA:=zh hra;have HTK:=zh htk;have RH:=zh JL
  clear hra htk hmo JL hnm hpb hok hlk hb hbl
  by_cases h1:(nm.size:Int)<1
  ·have d1:decide ((nm.size:Int)<1)=true:=decide_eq_true h1
   have d1' : decide (nm.size<1)=true:=zt
   have hn:Own.EG nm=false:=by unfold Own.EG;rw[zf];rfl
   have e:R=false:=HRA.out (by rw[hn]<;>rfl)
   have HE:=zh e;clear e hn
   go_wp2_with fail
   refine Lex.zl ?_
   go_wp2_with fail
   refine Lex.ze ?_
   go_wp2_with fail
   go_ret
   exact⟨by rw[HE.out]<;>rfl,(HB.out).drew⟩
  have d1:decide ((nm.size:Int)<1)=false:=decide_eq_false h1
  have d1' : decide (nm.size<1)=false:=zf
  by_cases h2:32<(nm.size:Int)
  ·have d2:decide (32<(nm.size:Int))=true:=decide_eq_true h2
   have d2' : decide (32<nm.size)=true:=zt
   have hn:Own.EG nm=false:=by unfold Own.EG;rw[decide_eq_false (show ¬ nm.size<=32 by omega),Bool.and_false]
   have e:R=false:=HRA.out (by rw[hn]<;>rfl)
   have HE:=zh e;clear e hn
   go_wp2_with fail
   refine Lex.zl ?_
   go_wp2_with fail
   refine Lex.ze ?_
   go_wp2_with fail
   go_ret
   exact⟨by rw[HE.out]<;>rfl,(HB.out).drew⟩
  have d2:decide (32<(nm.size:Int))=false:=decide_eq_false h2
  have d2' : decide (32<nm.size)=false:=zf
  have hn:Own.EG nm=true:=by unfold Own.EG;rw[decide_eq_true (show 1<=nm.size by omega),decide_eq_true (show nm.size<=32 by omega)];rfl
  have hra:=HRA.out;have htk:=HTK.out
  rw[hn,Bool.true_and] at hra htk
  clear HRA HTK hn
  cases hp:Sig.Bn pb with
  | false =>
    have e:R=false:=hra (by rw[hp]<;>rfl)
    have HE:=zh e;clear e hra htk
    go_wp2_with fail
    refine Lex.zl ?_
    go_wp2_with fail
    refine(zbA pb _).mono ?_
    rintro e2 w2 ⟨rfl,rfl⟩
    rw[hp]
    go_wp2_with fail
    refine Lex.ze ?_
    go_wp2_with fail
    go_ret
    exact⟨by rw[HE.out]<;>rfl,(HB.out).drew⟩
  | true=>
  rw[hp,Bool.true_and] at hra htk
  rcases Nat.eq_zero_or_pos k with hk0|hkp
  ·have hl0:(l.take k).getLast? = none:=by rw[hk0]<;>rfl
   rw[hl0] at hra htk
   simp only[Bool.and_true] at hra htk
   have HRA:=zh hra;have HTK:=zh htk
   have dz:decide ((0:Int)<(k:Int))=false:=zf
   have dz' : decide (0<k)=false:=zf
   have HK0:=zh hk0
   have HBD:=zh HB.out.drew
   clear hl0 hra htk hk0
   go_wp2_with fail
   refine Lex.zl ?_
   go_wp2_with fail
   refine(zbA pb _).mono ?_
   rintro e2 w2 ⟨rfl,rfl⟩
   rw[hp]
   go_wp2_with fail
   refine Lex.ze ?_
   go_wp2_with fail
   clear c0 c1 hp
   go_loopw [4] (fun q wr=>∃ j:Nat,j<=k/\q=.int .i64 j/\((l.take k).take j).any (fun x=>decide (x.pub=pb))=false/\Below w.heap.size w wr) (fun q _=>k-(intOf q).toNat)
   case atStart=>exact⟨0,by omega,rfl,rfl,HBD.out⟩
   case round=>
    obtain⟨j,hj,rfl,hno,hb⟩:=hrel
    have HB3:=zh hb
    have HNO:=zh hno
    by_cases hjl:j<k
    case neg=>
     have hje:j=k:=by omega
     have dj:decide ((j:Int)<(k:Int))=false:=zf
     have htl:((l.take k).take j)=l.take k:=by rw[hje,List.take_take,Nat.min_self]
     have hok:Own.Am [] (l.take (k+1))=true:=by rw[htl] at hno;rw[HTK.out,hno];rfl
     have zdg:=zh hok;clear hok hno htl hje hb
     go_wp2_with fail
     exact⟨⟨k+1,by omega,by go_num,zdg.out,HB3.out⟩,by simp[intOf];omega⟩
    have dj:decide ((j:Int)<(k:Int))=true:=zt
    obtain⟨b2,o2,ha2,zb6,_,f1⟩:=Own.Af.cells (HL.out.below hb) (show j<l.length by omega)
    obtain⟨b3,o3,ha3,zdh,_,g1⟩:=Own.Af.cells (HL.out.below hb) hlt
    cases ha2;cases ha3
    rw[HPB.out] at g1
    have hjt:j<(l.take k).length:=by rw[List.length_take];omega
    have hjg:(l.take k)[j]=l[j]:=List.getElem_take
    obtain⟨pj,hpj⟩:∃ x,x=l[j].pub:=⟨_,rfl⟩
    rw[<- hpj] at f1
    have hbeq:(pj.toList==pb.toList)=decide ((l.take k)[j].pub=pb):=by rw[bytes_beq,hjg,hpj]
    have HBE:=zh hbeq;have HJT:=zh hjt
    clear hbeq hjg hpj hno hb zb6 zdh
    cases hc:(pj.toList==pb.toList) with
    | true =>
      have hany:(l.take k).any (fun x=>decide (x.pub=pb))=true:=List.any_eq_true.2 ⟨_,List.getElem_mem HJT.out,by rw[<- HBE.out];exact hc⟩
      have e:R=false:=HRA.out (by rw[hany]<;>rfl)
      have HE:=zh e;clear e hany
      go_wp2_with fail
      refine Lex.zl ?_
      go_wp2_with fail
      refine Lex.ze ?_
      go_wp2_with fail
      go_ret
      exact⟨by rw[HE.out]<;>rfl,(HB3.out).drew⟩
    | false =>
      have hn2:=zcp (p:=fun x=>decide (x.pub=pb)) HJT.out HNO.out (by rw[<- HBE.out];exact hc)
      have HN2:=zh hn2;clear hn2
      go_wp2_with fail
      refine Lex.zl ?_
      go_wp2_with fail
      refine Lex.ze ?_
      go_wp2_with fail
      exact⟨⟨j+1,by omega,by go_num,HN2.out,HB3.out.drew⟩,by simp[intOf];omega⟩
  obtain⟨j0,hj0⟩:∃ j,k=j+1:=⟨k-1,by omega⟩
  obtain⟨x,e0,hx⟩:=RH.out j0 hj0
  rw[hx] at hra htk
  have Ol:(!((l.take k).any fun x=>decide (x.pub=pb))&&Own.Aj x.name nm)=false->R=false:=hra
  have Nh:Own.Am [] (l.take (k+1))=(!((l.take k).any fun x=>decide (x.pub=pb))&&Own.Aj x.name nm):=htk
  unfold Own.Aj at Ol Nh
  have dz:decide ((0:Int)<(k:Int))=true:=zt
  have dz' : decide (0<k)=true:=zt
  have ek:(k:Int)-1=(j0:Int):=by omega
  have hjl:j0<l.length:=by omega
  have HBD:=zh HB.out.drew
  cases hlb:Op.bytesLess x.name.toList nm.toList with
  | false =>
    have e:R=false:=Ol (by rw[hlb,Bool.and_false])
    have HE:=zh e;clear e hra htk Ol Nh hx hj0
    go_wp2_with fail
    refine Lex.zl ?_
    go_wp2_with fail
    refine(zbA pb _).mono ?_
    rintro e2 w2 ⟨rfl,rfl⟩
    rw[hp]
    go_wp2_with fail
    refine Lex.ze ?_
    go_wp2_with fail
    go_ret
    exact⟨by rw[HE.out]<;>rfl,(HB.out).drew⟩
  | true =>
    rw[hlb,Bool.and_true] at Nh Ol
    have HTK:=zh Nh;have HRA:=zh Ol
    clear hra htk Ol Nh hx
    have HJ0:=zh hj0;clear hj0
    go_wp2_with fail
    refine Lex.zl ?_
    go_wp2_with fail
    refine(zbA pb _).mono ?_
    rintro e2 w2 ⟨rfl,rfl⟩
    rw[hp]
    go_wp2_with fail
    refine Lex.ze ?_
    go_wp2_with fail
    clear c0 c1 e0 hp hlb ek
    go_loopw [4] (fun q wr=>∃ j:Nat,j<=k/\q=.int .i64 j/\((l.take k).take j).any (fun x=>decide (x.pub=pb))=false/\Below w.heap.size w wr) (fun q _=>k-(intOf q).toNat)
    case atStart=>exact⟨0,by omega,rfl,rfl,HBD.out⟩
    case round=>
     obtain⟨j,hj,rfl,hno,hb⟩:=hrel
     have HB3:=zh hb
     have HNO:=zh hno
     by_cases hjl:j<k
     case neg=>
      have hje:j=k:=by omega
      have dj:decide ((j:Int)<(k:Int))=false:=zf
      have htl:((l.take k).take j)=l.take k:=by rw[hje,List.take_take,Nat.min_self]
      have hok:Own.Am [] (l.take (k+1))=true:=by rw[htl] at hno;rw[HTK.out,hno];rfl
      have zdg:=zh hok;clear hok hno htl hje hb
      go_wp2_with fail
      exact⟨⟨k+1,by omega,by go_num,zdg.out,HB3.out⟩,by simp[intOf];omega⟩
     have dj:decide ((j:Int)<(k:Int))=true:=zt
     obtain⟨b2,o2,ha2,zb6,_,f1⟩:=Own.Af.cells (HL.out.below hb) (show j<l.length by omega)
     obtain⟨b3,o3,ha3,zdh,_,g1⟩:=Own.Af.cells (HL.out.below hb) hlt
     cases ha2;cases ha3
     rw[HPB.out] at g1
     have hjt:j<(l.take k).length:=by rw[List.length_take];omega
     have hjg:(l.take k)[j]=l[j]:=List.getElem_take
     obtain⟨pj,hpj⟩:∃ x,x=l[j].pub:=⟨_,rfl⟩
     rw[<- hpj] at f1
     have hbeq:(pj.toList==pb.toList)=decide ((l.take k)[j].pub=pb):=by rw[bytes_beq,hjg,hpj]
     have HBE:=zh hbeq;have HJT:=zh hjt
     clear hbeq hjg hpj hno hb zb6 zdh
     cases hc:(pj.toList==pb.toList) with
     | true =>
       have hany:(l.take k).any (fun x=>decide (x.pub=pb))=true:=List.any_eq_true.2 ⟨_,List.getElem_mem HJT.out,by rw[<- HBE.out];exact hc⟩
       have e:R=false:=HRA.out (by rw[hany]<;>rfl)
       have HE:=zh e;clear e hany
       go_wp2_with fail
       refine Lex.zl ?_
       go_wp2_with fail
       refine Lex.ze ?_
       go_wp2_with fail
       go_ret
       exact⟨by rw[HE.out]<;>rfl,(HB3.out).drew⟩
     | false =>
       have hn2:=zcp (p:=fun x=>decide (x.pub=pb)) HJT.out HNO.out (by rw[<- HBE.out];exact hc)
       have HN2:=zh hn2;clear hn2
       go_wp2_with fail
       refine Lex.zl ?_
       go_wp2_with fail
       refine Lex.ze ?_
       go_wp2_with fail
       exact⟨⟨j+1,by omega,by go_num,HN2.out,HB3.out.drew⟩,by simp[intOf];omega⟩
theorem zcB (s:Sig.T)(cv pv:Value)(w:World)(hc:Al w cv s.chains)(hp:Al w pv s.path)(hcc:Eb cv)(hsz:∀ x∈s.chains++s.path,x.size<=140737488355328):
 Calls Tryz.prog 96 #[.agg #[.int .i64 s.index,cv,pv]] w fun e w' => ∃ b,e=.returned (.bool b)/\(b=true->s.chains.length<=80/\s.path.length<=20)/\Below w.heap.size w w':=by
 obtain⟨ca,cc,rfl⟩:=hc.len
 obtain⟨pa,pc,rfl⟩:=hp.len
 obtain⟨_,_,_,he,hcl⟩:=hcc
 cases he
 have HC:=zh hc;have HP:=zh hp;have HSZ:=zh hsz
 clear hc hp hsz
 go_enter Tryz.func96,Tryz.ntmps96
 have hb1:Below w.heap.size w (w.alloc (.cells #[.int .i64 s.index,.slice ca s.chains.length cc,.slice pa s.path.length pc] 70)):=zb
 have ha1:At (w.alloc (.cells #[.int .i64 s.index,.slice ca s.chains.length cc,.slice pa s.path.length pc] 70)) w.heap.size 70 #[.int .i64 s.index,.slice ca s.chains.length cc,.slice pa s.path.length pc]:=At.new w _ _
 have hlw:w.heap.size<(w.alloc (.cells #[.int .i64 s.index,.slice ca s.chains.length cc,.slice pa s.path.length pc] 70)).heap.size:=by simp
 have HC1:=zh (HC.out.below hb1);have HP1:=zh (HP.out.below hb1)
 have HB1:=zh hb1;have HA1:=zh ha1
 clear hb1 ha1
 obtain⟨c0,c1,c2⟩:=HA1.out.c3
 go_wp2_with fail
 generalize w.alloc (.cells #[.int .i64 s.index,.slice ca s.chains.length cc,.slice pa s.path.length pc] 70)=w1 at*
 by_cases h1:s.chains.length<=80
 case neg=>
  have d1:decide (s.chains.length<=80)=false:=decide_eq_false h1
  have d1' : decide ((s.chains.length:Int)<=80)=false:=zf
  go_wp2_with fail
  refine Lex.zn (fun j=>j=w.heap.size) [13,15,21] 32 [20,3,1] ?_
  simp only[Lex.Bp,zd]
  go_wp2_with fail
  refine Lex.Mid.intro (fun j hj _=>rfl) ?_
  go_wp2_with fail
  refine Lex.Mid.intro (fun j hj _=>rfl) ?_
  go_wp2_with fail
  refine Lex.Mid.intro (fun j hj _=>rfl) ?_
  go_wp2_with fail
  refine Lex.zk ⟨trivial,trivial,trivial,trivial⟩ ?_
  go_wp2_with fail
  go_ret
  exact⟨false,rfl,(fun h=>by cases h),HB1.out.drew⟩
 have d1:decide (s.chains.length<=80)=true:=decide_eq_true h1
 have d1' : decide ((s.chains.length:Int)<=80)=true:=zt
 by_cases h2:s.path.length<=20
 case neg=>
  have d2:decide (s.path.length<=20)=false:=decide_eq_false h2
  have d2' : decide ((s.path.length:Int)<=20)=false:=zf
  go_wp2_with fail
  refine Lex.zn (fun j=>j=w.heap.size) [13,15,21] 32 [20,3,1] ?_
  simp only[Lex.Bp,zd]
  go_wp2_with fail
  refine Lex.Mid.intro (fun j hj _=>rfl) ?_
  go_wp2_with fail
  refine Lex.Mid.intro (fun j hj _=>rfl) ?_
  go_wp2_with fail
  refine Lex.Mid.intro (fun j hj _=>rfl) ?_
  go_wp2_with fail
  refine Lex.zk ⟨trivial,trivial,trivial,trivial⟩ ?_
  go_wp2_with fail
  go_ret
  exact⟨false,rfl,(fun h=>by cases h),HB1.out.drew⟩
 have d2:decide (s.path.length<=20)=true:=decide_eq_true h2
 have d2' : decide ((s.path.length:Int)<=20)=true:=zt
 have hmid:s.chains.length/2<=s.chains.length:=by omega
 have hcap2:s.chains.length/2<=cc:=by omega
 have hown0:(w1.drew.alloc (.cells #[] 9)).ownsRow w1.heap.size 9 1 (.slice (some ⟨w1.heap.size,0,none⟩) 0 0) 0 []:=Mr w1.drew 9 1 w1.heap.size (Nat.le_refl _)
 go_wp2_with fail
 refine Lex.zn (fun j=>j=w.heap.size) [13,15,21] 32 [20,3,1] ?_
 simp only[Lex.Bp,zd]
 have htk:=HC1.out.qN (c':=cc) hmid
 have htl:(s.chains.take (s.chains.length/2)).length=s.chains.length/2:=by rw[List.length_take];omega
 have zd2:s.chains.length/2<=40:=by omega
 have HTK:=zh htk;have zde:=zh hown0;have HTL:=zh htl;clear htk hown0 htl
 go_wp2_with (at_builtin;go_must (refine zbO (by rfl) ?_;refine zbM rfl _ _ rfl w1.heap.size 0 _ [] rfl zde.out (.slice ca (s.chains.length/2) cc) (s.chains.take (s.chains.length/2)) rfl ((HTK.out.below (Below.refl _ _).drew).below zb) (by rw[HTL.out];omega) (by simp) ?_);intro v5 w5 ho5 hg5;rw[Nat.zero_add,HTL.out,List.nil_append] at ho5;obtain⟨va,vm,vc,rfl⟩:=Ac ho5;obtain rfl:=Ba ho5;have hb5:Below w1.heap.size w1 w5:=Bh (((Below.refl w1.heap.size w1).drew).alloc (Nat.le_refl _) _) (by simp) zde.out hg5;have q2:=(hb5.cell (p:=⟨w.heap.size,2,none⟩) hlw).trans c2;have q1:=(hb5.cell (p:=⟨w.heap.size,1,none⟩) hlw).trans c1;have HO5:=zh ho5;have HB5:=zh hb5;clear ho5 hg5 hb5)
 refine Lex.Mid.intro (fun j hj _=>by rw[hj];exact HB5.out.block _ hlw) ?_
 have hz5:=HB5.out.size
 go_wp2_with (at_builtin;go_must (refine zbO (by rfl) ?_;refine zbM rfl _ _ rfl w1.heap.size _ _ _ rfl HO5.out (.slice pa s.path.length pc) s.path rfl (HP1.out.below HB5.out) (by omega) hz5 ?_);intro v6 w6 ho6 hg6;obtain⟨ua,um,uc,rfl⟩:=Ac ho6;obtain rfl:=Ba ho6;have hb6:Below w1.heap.size w1 w6:=Bh HB5.out hz5 HO5.out hg6;have q2:=(hb6.cell (p:=⟨w.heap.size,2,none⟩) hlw).trans c2;have q1:=(hb6.cell (p:=⟨w.heap.size,1,none⟩) hlw).trans c1;have HO6:=zh ho6;have HB6:=zh hb6;clear ho6 hg6 hb6)
 have iC:∀ j,j=w.heap.size->w6.heap[j]? = w1.drew.heap[j]? :=fun j hj=>by rw[hj];exact HB6.out.block _ hlw
 have hs6:Al w6 (.slice ua (s.chains.length/2+s.path.length) uc) (s.chains.take (s.chains.length/2)++s.path):=Al.own (by
  have:=HO6.out
  rw[<- List.map_append] at this
  have hl:(s.chains.take (s.chains.length/2)++s.path).length=s.chains.length/2+s.path.length:=by rw[List.length_append,HTL.out]
  rw[hl]
  exact this)
 have hf1:=zcc _ _ w6 hs6 (fun x hx=>HSZ.out x (by
  rcases List.mem_append.1 hx with h|h
  ·exact List.mem_append.2 (.inl (List.mem_of_mem_take h))
  ·exact List.mem_append.2 (.inr h))) (by rw[List.length_append,HTL.out];omega)
 have HF1:=zh hf1;have oH:=zh iC
 clear hf1 hs6 iC
 refine Lex.Mid.intro (fun j hj _=>oH.out j hj) ?_
 go_wp2_with fail
 refine HF1.out.mono ?_
 rintro e w7 ⟨rfl,rfl⟩
 generalize zcz (s.chains.take (s.chains.length/2)++s.path)=b1
 cases b1 with
 | false =>
   go_wp2_with fail
   refine Lex.Mid.intro (fun j hj _=>oH.out j hj) ?_
   go_wp2_with fail
   refine Lex.zk ⟨⟨rfl,zi c1⟩,⟨rfl,zi c1⟩,⟨rfl,zi c2⟩,trivial⟩ ?_
   go_wp2_with fail
   go_ret
   exact⟨false,rfl,(fun h=>by cases h),HB1.out.trans (HB6.out.mono HB1.out.size)⟩
 | true =>
   have hdl:(s.chains.drop (s.chains.length/2)).length=s.chains.length-s.chains.length/2:=List.length_drop ..
   have hdi:((s.chains.length:Int)-((s.chains.length/2:Nat):Int))=((s.chains.length-s.chains.length/2:Nat):Int):=by omega
   have zdp:∀ (u:Value),Al w7 u (s.chains.drop (s.chains.length/2))->_:=fun u hu=>zcc u _ w7 hu (fun x hx=>HSZ.out x (List.mem_append.2 (.inl (List.mem_of_mem_drop hx)))) (by rw[hdl];omega)
   have zcL:=zh zdp
   have HDL:=zh hdl
   have HC7:=zh (HC1.out.below HB6.out)
   clear zdp hdl hdi
   generalize zcz (s.chains.drop (s.chains.length/2))=b2 at*
   by_cases h0:0<s.chains.length
   ·obtain⟨b,o,rfl⟩:=HC1.out.addrOf h0
    go_wp2_with fail
    refine Lex.Mid.intro (fun j hj _=>oH.out j hj) ?_
    go_wp2_with fail
    refine(zcL.out _ (HC7.out.qO rfl)).mono ?_
    rintro e w8 ⟨rfl,rfl⟩
    go_wp2_with fail
    refine Lex.zk ⟨⟨rfl,zi c1⟩,⟨rfl,zi c1⟩,⟨rfl,zi c2⟩,trivial⟩ ?_
    go_wp2_with fail
    go_ret
    exact⟨_,rfl,(fun _=>⟨h1,h2⟩),HB1.out.trans (HB6.out.mono HB1.out.size)⟩
   ·cases ca with
    | none =>
      go_wp2_with fail
      refine Lex.Mid.intro (fun j hj _=>oH.out j hj) ?_
      go_wp2_with fail
      refine(zcL.out _ ⟨_,_,by rw[HDL.out],.inl (by rw[HDL.out];omega)⟩).mono ?_
      rintro e w8 ⟨rfl,rfl⟩
      go_wp2_with fail
      refine Lex.zk ⟨⟨rfl,zi c1⟩,⟨rfl,zi c1⟩,⟨rfl,zi c2⟩,trivial⟩ ?_
      go_wp2_with fail
      go_ret
      exact⟨_,rfl,(fun _=>⟨h1,h2⟩),HB1.out.trans (HB6.out.mono HB1.out.size)⟩
    | some p =>
      obtain⟨b,o,z⟩:=p
      cases z with
      | none =>
        by_cases hz:cc=s.chains.length/2
        case _=>
         go_wp2_with fail
         refine Lex.Mid.intro (fun j hj _=>oH.out j hj) ?_
         go_wp2_with fail
         refine(zcL.out _ ⟨_,_,by rw[HDL.out],.inl (by rw[HDL.out];omega)⟩).mono ?_
         rintro e w8 ⟨rfl,rfl⟩
         go_wp2_with fail
         refine Lex.zk ⟨⟨rfl,zi c1⟩,⟨rfl,zi c1⟩,⟨rfl,zi c2⟩,trivial⟩ ?_
         go_wp2_with fail
         go_ret
         exact⟨_,rfl,(fun _=>⟨h1,h2⟩),HB1.out.trans (HB6.out.mono HB1.out.size)⟩
        case _=>
         go_wp2_with fail
         refine Lex.Mid.intro (fun j hj _=>oH.out j hj) ?_
         go_wp2_with fail
         refine(zcL.out _ ⟨_,_,by rw[HDL.out],.inl (by rw[HDL.out];omega)⟩).mono ?_
         rintro e w8 ⟨rfl,rfl⟩
         go_wp2_with fail
         refine Lex.zk ⟨⟨rfl,zi c1⟩,⟨rfl,zi c1⟩,⟨rfl,zi c2⟩,trivial⟩ ?_
         go_wp2_with fail
         go_ret
         exact⟨_,rfl,(fun _=>⟨h1,h2⟩),HB1.out.trans (HB6.out.mono HB1.out.size)⟩
      | some z =>
        by_cases hz:cc=s.chains.length/2
        case _=>
         go_wp2_with fail
         refine Lex.Mid.intro (fun j hj _=>oH.out j hj) ?_
         go_wp2_with fail
         refine(zcL.out _ ⟨_,_,by rw[HDL.out],.inl (by rw[HDL.out];omega)⟩).mono ?_
         rintro e w8 ⟨rfl,rfl⟩
         go_wp2_with fail
         refine Lex.zk ⟨⟨rfl,zi c1⟩,⟨rfl,zi c1⟩,⟨rfl,zi c2⟩,trivial⟩ ?_
         go_wp2_with fail
         go_ret
         exact⟨_,rfl,(fun _=>⟨h1,h2⟩),HB1.out.trans (HB6.out.mono HB1.out.size)⟩
        case _=>
         go_wp2_with fail
         refine Lex.Mid.intro (fun j hj _=>oH.out j hj) ?_
         go_wp2_with fail
         refine(zcL.out _ ⟨_,_,by rw[HDL.out],.inl (by rw[HDL.out];omega)⟩).mono ?_
         rintro e w8 ⟨rfl,rfl⟩
         go_wp2_with fail
         refine Lex.zk ⟨⟨rfl,zi c1⟩,⟨rfl,zi c1⟩,⟨rfl,zi c2⟩,trivial⟩ ?_
         go_wp2_with fail
         go_ret
         exact⟨_,rfl,(fun _=>⟨h1,h2⟩),HB1.out.trans (HB6.out.mono HB1.out.size)⟩
namespace Own
def zdi (l:List Member):Prop:=l.length<=12/\∀ m∈l,m.name.size<=100/\m.pub.size<=100
def zcM (a:Ai):Prop:=a.name.size<=100/\a.sig.chains.length<=80/\a.sig.path.length<=20
def zbR (P:Prop)(w:World)(e:Ending)(w' : World):Prop:=∃ b,e=.returned (.bool b)/\(b=true->P)/\Below w.heap.size w w'
theorem zcE {α : Type}{P : α -> Prop}{l:List α}{k:Nat}(hk:l.length<=k)(h:∀ j (h:j<l.length),j<k->P l[j]):∀ x∈l,P x:=fun x hx=>by
 obtain⟨j,hj,rfl⟩:=List.getElem_of_mem hx
 exact h j hj (by omega)
theorem zcq {α : Type}{P : α -> Prop}{l:List α}{k:Nat}(hk:k<l.length)(h:∀ j (h:j<l.length),j<k->P l[j])(hp:P l[k]):∀ j (h:j<l.length),j<k+1->P l[j]:=fun j hj hjk=>by
 rcases(by omega:j<k\/j=k) with h1|rfl
 ·exact h j hj h1
 ·exact hp
end Own
theorem zbW (v:Value)(l:List Own.Member)(w:World)(h:Own.Af w v l)(hl:l.length<=140737488355328):
 Calls Tryz.prog 48 #[v] w (Own.zbR (Own.zdi l) w):=by
 obtain⟨Q,hQ⟩:∃ Q,Q=Own.zbR (Own.zdi l) w:=⟨_,rfl⟩
 rw[<- hQ]
 have HQ:=zh hQ;clear hQ
 obtain⟨a,c,rfl⟩:=h.len
 have HL:=zh h;clear h
 go_enter Tryz.func48,Tryz.ntmps48
 go_wp2_with fail
 go_loopw [3] (fun i wr=>∃ k:Nat,k<=l.length/\i=.int .i64 k/\(∀ j (h:j<l.length),j<k->l[j].name.size<=100/\l[j].pub.size<=100)/\Below w.heap.size w wr) (fun i _=>l.length-(intOf i).toNat)
 case atStart=>exact⟨0,by omega,rfl,(fun j _ h=>absurd h (by omega)),Below.refl _ _⟩
 case round=>
  obtain⟨k,hk,rfl,hno,hb⟩:=hrel
  have HN:=zh hno;have HB:=zh hb
  by_cases hlt:k<l.length
  case neg=>
   have dk:decide ((k:Int)<l.length)=false:=zf
   have hall:=Own.zcE (P:=fun m:Own.Member=>m.name.size<=100/\m.pub.size<=100) (by omega) hno
   have HA:=zh hall;clear hall hno hb
   go_wp2_with fail
   (try go_ret)
   rw[HQ.out]
   exact⟨_,rfl,(fun h=>⟨by have:=of_decide_eq_true h;omega,HA.out⟩),HB.out⟩
  have dk:decide ((k:Int)<l.length)=true:=zt
  obtain⟨b,o,ha,hbl,c0,c1⟩:=Own.Af.cells (HL.out.below hb) hlt
  subst ha
  have hn2:=fun hp=>Own.zcq (P:=fun m:Own.Member=>m.name.size<=100/\m.pub.size<=100) hlt hno hp
  obtain⟨x,hx⟩:∃ x,x=l[k].name:=⟨_,rfl⟩
  obtain⟨y,hy⟩:∃ x,x=l[k].pub:=⟨_,rfl⟩
  rw[<- hx] at c0
  rw[<- hy] at c1
  simp only[<- hx,<- hy] at hn2
  have HN2:=zh hn2
  clear hx hy hno hb hn2
  by_cases h1:100<(x.size:Int)
  ·have d1:decide (100<(x.size:Int))=true:=decide_eq_true h1
   have d1' : decide (100<x.size)=true:=zt
   go_wp2_with fail
   (try go_ret)
   rw[HQ.out]
   exact⟨false,rfl,(fun h=>by cases h),HB.out⟩
  have d1:decide (100<(x.size:Int))=false:=decide_eq_false h1
  have d1' : decide (100<x.size)=false:=zf
  by_cases h2:100<(y.size:Int)
  ·have d2:decide (100<(y.size:Int))=true:=decide_eq_true h2
   have d2' : decide (100<y.size)=true:=zt
   go_wp2_with fail
   (try go_ret)
   rw[HQ.out]
   exact⟨false,rfl,(fun h=>by cases h),HB.out⟩
  have d2:decide (100<(y.size:Int))=false:=decide_eq_false h2
  have d2' : decide (100<y.size)=false:=zf
  have hn:=HN2.out ⟨by omega,by omega⟩
  have HN3:=zh hn;clear hn
  go_wp2_with fail
  exact⟨⟨k+1,by omega,by go_num,HN3.out,HB.out⟩,by simp[intOf];omega⟩
namespace Own
theorem W9.below {w w' : World}{v:Value}{l:List Ai}(h:W9 w v l)(hb:Below w.heap.size w w'):W9 w' v l:=by
 obtain⟨a,c,rfl,h⟩:=h
 refine⟨a,c,rfl,fun i hi=>?_⟩
 obtain⟨b,o,cv,pv,h1,h2,h3,h4,h5,h6,h7,h8,h9⟩:=h i hi
 exact⟨b,o,cv,pv,h1,Nat.lt_of_lt_of_le h2 hb.size,(hb.cell (p:=⟨b,_,none⟩) h2).trans h3,(hb.cell (p:=⟨b,_,none⟩) h2).trans h4,(hb.cell (p:=⟨b,_,none⟩) h2).trans h5,(hb.cell (p:=⟨b,_,none⟩) h2).trans h6,h7.below hb,h8.below hb,h9⟩
end Own
theorem zbU (v:Value)(l:List Own.Ai)(w:World)(h:Own.W9 w v l)(hl:l.length<=140737488355328)(hsz:∀ a∈l,∀ x∈a.sig.chains++a.sig.path,x.size<=140737488355328):
 Calls Tryz.prog 38 #[v] w (Own.zbR (l.length<=5/\∀ a∈l,Own.zcM a) w):=by
 obtain⟨Q,hQ⟩:∃ Q,Q=Own.zbR (l.length<=5/\∀ a∈l,Own.zcM a) w:=⟨_,rfl⟩
 rw[<- hQ]
 have HQ:=zh hQ;clear hQ
 have HL:=zh h;have HSZ:=zh hsz
 obtain⟨a,c,rfl,_⟩:=h
 clear hsz
 go_enter Tryz.func38,Tryz.ntmps38
 go_wp2_with fail
 go_loopw [3] (fun i wr=>∃ k:Nat,k<=l.length/\i=.int .i64 k/\(∀ j (h:j<l.length),j<k->Own.zcM l[j])/\Below w.heap.size w wr) (fun i _=>l.length-(intOf i).toNat)
 case atStart=>exact⟨0,by omega,rfl,(fun j _ h=>absurd h (by omega)),Below.refl _ _⟩
 case round=>
  obtain⟨k,hk,rfl,hno,hb⟩:=hrel
  have HN:=zh hno;have HB:=zh hb
  by_cases hlt:k<l.length
  case neg=>
   have dk:decide ((k:Int)<l.length)=false:=zf
   have hall:=Own.zcE (P:=Own.zcM) (by omega) hno
   have HA:=zh hall;clear hall hno hb
   go_wp2_with fail
   (try go_ret)
   rw[HQ.out]
   exact⟨_,rfl,(fun hb' => ⟨by have h5:=of_decide_eq_true hb';omega,HA.out⟩),HB.out⟩
  have dk:decide ((k:Int)<l.length)=true:=zt
  obtain⟨a',c',he,hcs⟩:=HL.out.below hb
  cases he
  obtain⟨b,o,cv,pv,rfl,hbl,e0,e1,e2,e3,hcv,hpv,hcc,_⟩:=hcs k hlt
  have hn2:=fun hp=>Own.zcq (P:=Own.zcM) hlt hno hp
  have hsz:=HSZ.out l[k] (List.getElem_mem hlt)
  obtain⟨x,hx⟩:∃ x,x=l[k]:=⟨_,rfl⟩
  rw[<- hx] at e0 e1 hcv hpv hsz
  simp only[<- hx] at hn2
  have hfw:=zcB x.sig cv pv wr hcv hpv hcc hsz
  have HFW:=zh hfw;have HN2:=zh hn2
  clear hx hno hb hn2 hsz hcv hpv hcc hfw hcs
  obtain⟨xn,⟨xi,xc,xp⟩⟩:=x
  dsimp only at*
  by_cases h1:100<(xn.size:Int)
  ·have d1:decide (100<(xn.size:Int))=true:=decide_eq_true h1
   have d1' : decide (100<xn.size)=true:=zt
   go_wp2_with fail
   (try go_ret)
   rw[HQ.out]
   exact⟨false,rfl,(fun h=>by cases h),HB.out⟩
  have d1:decide (100<(xn.size:Int))=false:=decide_eq_false h1
  have d1' : decide (100<xn.size)=false:=zf
  go_wp2_with fail
  refine HFW.out.mono ?_
  rintro e w2 ⟨q,rfl,hq,hb2⟩
  have HB2:=zh (HB.out.trans (hb2.mono HB.out.size))
  cases q with
  | false =>
    clear hq hb2
    go_wp2_with fail
    (try go_ret)
    rw[HQ.out]
    exact⟨false,rfl,(fun h=>by cases h),HB2.out⟩
  | true =>
    have hn:=HN2.out ⟨by show xn.size<=100;omega,hq rfl⟩
    have HN3:=zh hn;clear hn hq hb2
    go_wp2_with fail
    exact⟨⟨k+1,by omega,by go_num,HN3.out,HB2.out⟩,by simp[intOf];omega⟩
theorem zbG (n:Nat)(w:World)(hn:n<9223372036854775808):
 Calls Tryz.prog 66 #[.int .i64 n] w fun e w' => e=.returned (.string (Cod.uns n))/\Below w.heap.size w w':=by
 go_enter Tryz.func66,Tryz.ntmps66
 go_wp2_with fail
 refine(XK n _ hn).mono ?_
 rintro e w1 ⟨rfl,hb1⟩
 have HB:=zh hb1;clear hb1
 go_wp2_with fail
 go_ret
 exact⟨rfl,HB.out⟩
namespace Own
end Own
namespace Own
structure zdq (op:Op) (n:Nat):Prop where
 ms:op.members.length<=8
 aps:op.Aa.length<=8
 sum:Es op.Aa<=8*n
 all:∀ a∈op.Aa,a.sig.index<9223372036854775808/\a.sig.chains.length<=n/\a.sig.path.length<=n
theorem zcQ (s:ByteArray):zdq (MJ s).1 s.size:=by
 rw[nC]
 split
 ·have e1 : (stOp s).op.members.length ≤ 8 :=by
   unfold stOp nu.op
   dsimp only
   rw[LW]
   have:=Zf (s:=s) (m:=8) (r:=(stT s (stN s ⟨0,0⟩).2).2)
   exact this
  have hm:∀ r,(stC s 8 r).1<=8:=fun r=>Zf (s:=s) (m:=8) (r:=r)
  refine⟨e1,?_,?_,?_⟩
  ·unfold stOp nu.op
   dsimp only
   rw[Vh]
   exact hm _
  ·unfold stOp nu.op
   dsimp only
   exact Nat.le_trans (Vl s _ _) (Nat.mul_le_mul_right _ (hm _))
  ·unfold stOp nu.op
   dsimp only
   exact Vm s _ _
 ·exact⟨Nat.zero_le _,Nat.zero_le _,Nat.zero_le _,fun a h=>by cases h⟩
theorem zcF:∀ (l:List Ai),(∀ a∈l,a.name.size<=100)->Es l<=100*l.length
 | [],_=>Nat.le_refl _
 | a :: l,h => by
   have h1:=h a List.mem_cons_self
   have h2:=zcF l fun x hx=>h x (List.mem_cons_of_mem _ hx)
   show a.name.size+Es l<=100*(l.length+1)
   omega
end Own
end
section
open Go
namespace Own
def zbD (s:ByteArray)(a:Nat):Option (Sig.T × Nat):=match UD s a with
 | none=>none
 | some (x,b)=>if Dq x=true then some (x,b) else none
theorem zcN {s:ByteArray}{a b:Nat}{x:Sig.T}(h:zbD s a=some (x,b)):b<=s.size:=by
 unfold zbD at h
 cases h1:UD s a with
 | none=>rw[h1] at h;cases h
 | some y =>
   obtain⟨z,c⟩:=y
   rw[h1] at h
   dsimp only at h
   split at h
   ·cases h
    exact(zcd h1).2.1
   ·cases h
def zbE (s:ByteArray):Nat->Nat->Option (List Ai × Nat)
 | 0,a=>some ([],a)
 | n + 1,a => match Cod.rdT s a with
   | none=>none
   | some (nm,b) => match zbD s b with
     | none=>none
     | some (sg,c) => match zbE s n c with
       | none=>none
       | some (l,d)=>some (⟨nm,sg⟩::l,d)
theorem zcr {s:ByteArray} : ∀ (n a:Nat),zbE s n a=(match MI s n a with|none=>none|some (l,b)=>if (l.all fun x=>Dq x.sig)=true then some (l,b) else none)
 | 0,a=>rfl
 | n + 1,a => by
   unfold zbE MI
   cases h1:Cod.rdT s a with
   | none=>rfl
   | some y =>
     obtain⟨nm,b⟩:=y
     dsimp only
     unfold zbD
     cases h2:UD s b with
     | none=>rfl
     | some y =>
       obtain⟨sg,c⟩:=y
       dsimp only
       cases hv:Dq sg with
       | false =>
         rw[if_neg (by simp)]
         dsimp only
         cases h3:MI s n c with
         | none=>rfl
         | some y =>
           obtain⟨l,d⟩:=y
           dsimp only
           rw[List.all_cons,hv,Bool.false_and,if_neg (by simp)]
       | true =>
         rw[if_pos rfl]
         dsimp only
         rw[zcr n c]
         cases h3:MI s n c with
         | none=>rfl
         | some y =>
           obtain⟨l,d⟩:=y
           dsimp only
           rw[List.all_cons,hv,Bool.true_and]
           cases (l.all fun x=>Dq x.sig)<;>rfl
def zbP (s:ByteArray)(a:Nat):Option (List Ai × Nat):=match Cod.rdN s a with
 | none=>none
 | some (m,b)=>if 8<m then none else zbE s m b
def zcR (s:ByteArray):Option (Op × Nat):=match Cod.rdN s 0 with
 | none=>none
 | some (k,a1) => match Cod.rdT s a1 with
   | none=>none
   | some (pre,a2) => match Cod.rdN s a2 with
     | none=>none
     | some (n,a3) => if 8 < n then none else match IL s n a3 with
       | none=>none
       | some (ms,a4) => match Cod.rdN s a4 with
         | none=>none
         | some (t,a5) => match Cod.rdT s a5 with
           | none=>none
           | some (nm,a6) => match Cod.rdT s a6 with
             | none=>none
             | some (pb,a7) => match zbP s a7 with
               | none=>none
               | some (aps,a9)=>some (⟨k,pre,ms,t,nm,pb,aps⟩,a9)
theorem zcW (s:ByteArray):MJ s=(match zcR s with|none=>(.none,9)|some (op,e)=>if (decide (e=s.size)&&Eh op)=true then (op,0) else (.none,9)):=by
 unfold MJ iE zcR zbP
 cases Cod.rdN s 0 with
 | none=>rfl
 | some y =>
   obtain⟨k,a1⟩:=y
   dsimp only
   cases Cod.rdT s a1 with
   | none=>rfl
   | some y =>
     obtain⟨pre,a2⟩:=y
     dsimp only
     cases Cod.rdN s a2 with
     | none=>rfl
     | some y =>
       obtain⟨n,a3⟩:=y
       dsimp only
       by_cases hn:8<n
       ·rw[if_pos hn,if_pos hn]
       rw[if_neg hn,if_neg hn]
       cases IL s n a3 with
       | none=>rfl
       | some y =>
         obtain⟨ms,a4⟩:=y
         dsimp only
         cases Cod.rdN s a4 with
         | none=>rfl
         | some y =>
           obtain⟨t,a5⟩:=y
           dsimp only
           cases Cod.rdT s a5 with
           | none=>rfl
           | some y =>
             obtain⟨nm,a6⟩:=y
             dsimp only
             cases Cod.rdT s a6 with
             | none=>rfl
             | some y =>
               obtain⟨pb,a7⟩:=y
               dsimp only
               cases Cod.rdN s a7 with
               | none=>rfl
               | some y =>
                 obtain⟨m,a8⟩:=y
                 dsimp only
                 by_cases hm:8<m
                 ·rw[if_pos hm,if_pos hm]
                 rw[if_neg hm,if_neg hm,zcr]
                 cases MI s m a8 with
                 | none=>rfl
                 | some y =>
                   obtain⟨aps,a9⟩:=y
                   dsimp only
                   unfold Fv
                   dsimp only
                   cases (aps.all fun x=>Dq x.sig) with
                   | false =>
                     rw[Bool.and_false,Bool.and_false,if_neg (by simp),if_neg (by simp)]
                   | true =>
                     rw[Bool.and_true,if_pos rfl]
end Own
end
section
open Go Go.RowKit Go.Maps
def zdj (s:ByteArray)(a:Nat)(n i:Value):Prop:=
 ∃ k N : Nat,k ≤ 9 ∧ n = .int .u64 N ∧ i = .int .i64 (k : Int) ∧ N < 128 ^ k ∧ a + k ≤ s.size ∧
   Cod.rdL (s.data.toList.drop a) 0=match Cod.rdL (s.data.toList.drop (a+k)) k with
    | some (v,c)=>some (N+128^k*v,k+c)
    | none=>none
theorem zcS (N k:Nat)(b:UInt8)(hN:N<128^k)(hk:k<=9)(h9:k=9->b.toNat<=1):
 IntKind.u64.wrap ((N:Int)+IntKind.u64.wrap ((b.toNat:Int)%128*2^(7*k)))=((N+b.toNat%128*128^k:Nat):Int):=by
 have hP:b.toNat%128*128^k<=9223372036854775808/\N<9223372036854775808:=by
  by_cases h:k=9
  ·have:=h9 h
   subst h
   have h2:(128:Nat)^9=9223372036854775808:=by decide
   rw[h2] at hN ⊢
   omega
  ·have h5:128^k<=128^8:=Nat.pow_le_pow_right (by omega) (by omega)
   have h6:(128:Nat)^8=72057594037927936:=by decide
   rw[h6] at h5
   have:=Nat.mul_le_mul (show b.toNat%128<=127 by omega) h5
   omega
 have e1:((b.toNat:Int)%128*2^(7*k))=((b.toNat%128*128^k:Nat):Int):=by
  rw[bg]
  push_cast
  rfl
 rw[e1,wraps_u64 ((b.toNat%128*128^k:Nat):Int) (by omega) (by omega),wraps_u64 _ (by omega) (by omega)]
 omega
theorem zct (s:ByteArray)(a:Nat)(w:World)(ha:a<=s.size)(hs:s.size<=140737488355328):
 Calls Tryz.prog 141 #[.string s,.int .i64 a] w fun e w' => YM (Cod.rdU s a) e/\w' = w:=by
 obtain⟨R,hR⟩:∃ R,R=YM (Cod.rdU s a):=⟨_,rfl⟩
 rw[<- hR]
 have HR:=zh hR;clear hR
 go_enter Tryz.func141,Tryz.ntmps141
 go_wp2_with fail
 go_loopw [7,8] (fun n i wr=>zdj s a n i/\wr=w) (fun _ i _=>10-(intOf i).toNat)
 case atStart=>
  refine⟨⟨0,0,by omega,rfl,rfl,by simp,by omega,?_⟩,rfl⟩
  rw[Nat.add_zero]
  cases Cod.rdL (s.data.toList.drop a) 0 with
  | none=>rfl
  | some x=>obtain⟨v,c⟩:=x;simp
 case round=>
  obtain⟨⟨k,N,hk,rfl,rfl,hN,hak,hrd⟩,rfl⟩:=hrel
  have HRD:=zh hrd;have HN:=zh hN;clear hrd hN
  have zd3:decide ((k:Int)<10)=true:=by simp;omega
  by_cases hlt:a+k<s.size
  ·obtain⟨x,hx⟩:∃ x,s[a+k]=x:=⟨_,rfl⟩
   have hxb:x.toNat<256:=x.toNat_lt
   have hd:s.data.toList.drop (a+k)=x::s.data.toList.drop (a+k+1):=by
    rw[List.drop_eq_getElem_cons (by rw[Sha.Bo];exact hlt),<- hx]
    rfl
   have hr:=HRD.out
   rw[hd,mJ] at hr
   have HR2:=zh hr;clear hr hd HRD
   have dk:decide ((s.size:Int)<=(a:Int)+k)=false:=by simp;omega
   have hadd:((a:Int)+k+1)=((a+(k+1):Nat):Int):=by omega
   have yL:=zh hadd;clear hadd
   have hno:(k=9/\1<x.toNat)\/(x.toNat=0/\k≠0)->Cod.rdU s a=none:=by
    intro h
    have hr:=HR2.out
    unfold Cod.rdU
    rcases h with h|h
    ·rw[if_pos h] at hr
     rw[hr]
    ·by_cases h2:k=9/\1<x.toNat
     ·rw[if_pos h2] at hr
      rw[hr]
     ·rw[if_neg h2,if_pos (by omega),if_pos h] at hr
      rw[hr]
   have hyes:¬ (k=9/\1<x.toNat)->x.toNat<128->¬ (x.toNat=0/\k≠0)->Cod.rdU s a=some (N+x.toNat%128*128^k,a+(k+1)):=by
    intro h1 h2 h3
    have hr:=HR2.out
    rw[if_neg h1,if_pos h2,if_neg h3] at hr
    unfold Cod.rdU
    rw[hr,Nat.mod_eq_of_lt h2,Nat.mul_comm]
   have HNO:=zh hno;have zaE:=zh hyes;clear hno hyes
   by_cases hn:(k=9/\1<x.toNat)\/(x.toNat=0/\k≠0)
   ·have hfin : ∀ n b : Int,R (.returned (.tuple #[.int .u64 n,.int .i64 b,.bool false])) :=by
     intro n b
     rw[HR.out,HNO.out hn]
     exact⟨n,b,rfl⟩
    have HF:=zh hfin;clear hfin
    rcases hn with ⟨rfl,h1⟩|⟨h0,hk0⟩
    ·have h2:(1:Int)<x.toNat:=by omega
     go_wp2_with fail
     go_ret3
     exact⟨HF.out _ _,rfl⟩
    ·have e1:((k:Int)==0)=false:=by simp;omega
     have e2:((x.toNat:Int) != 0)=false:=by simp;omega
     go_wp2_with fail
     all_goals
      go_ret3
      exact⟨HF.out _ _,rfl⟩
   ·have hn1:¬ (k=9/\1<x.toNat):=fun h=>hn (.inl h)
    have hn2:¬ (x.toNat=0/\k≠0):=fun h=>hn (.inr h)
    have hk9:k=9->x.toNat<=1:=fun h=>by
     rcases Nat.lt_or_ge 1 x.toNat with h1|h1
     ·exact absurd ⟨h,h1⟩ hn1
     ·exact h1
    have hor:=zcS N k x HN.out hk hk9
    have HOR:=zh hor;have HK9:=zh hk9;have HN1:=zh hn1;have HN2:=zh hn2;clear hor hk9 hn hn1 hn2
    by_cases hb:x.toNat<128
    ·have hb2:(x.toNat:Int)<128:=by omega
     have hfin:R (.returned (.tuple #[.int .u64 ((N+x.toNat%128*128^k:Nat):Int),.int .i64 ((a:Int)+k+1),.bool true])):=by
      rw[HR.out,zaE.out HN1.out hb HN2.out,yL.out]
      rfl
     have HF:=zh hfin;clear hfin hb
     by_cases h0:x.toNat=0
     ·obtain rfl : k = 0 :=by
       rcases Nat.eq_zero_or_pos k with h|h
       ·exact h
       ·exact absurd ⟨h0,by omega⟩ HN2.out
      obtain rfl:N=0:=by have:=HN.out;simpa using this
      have hf:R (.returned (.tuple #[.int .u64 0,.int .i64 ((a:Int)+1),.bool true])):=by
       have h1:=HF.out
       rw[h0] at h1
       simpa using h1
      have hx2:s[a]=x:=by simpa using hx
      have HF2:=zh hf;clear hf hx
      go_wp2_with fail
      go_ret3
      exact⟨HF2.out,rfl⟩
     ·have e2:((x.toNat:Int) != 0)=true:=by simp;omega
      by_cases h9:k=9
      ·subst h9
       have h1:(x.toNat:Int)<=1:=by have:=HK9.out rfl;omega
       have hor:=HOR.out
       rw[show(2:Int)^(7*9)=9223372036854775808 by decide,wraps_u64 ((x.toNat:Int)%128*9223372036854775808) (by omega) (by omega)] at hor
       have zaF:=zh hor;clear hor
       go_wp2_with fail
       go_ret3
       refine⟨?_,rfl⟩
       rw[zaF.out]
       exact HF.out
      ·have e9:¬ ((k:Int)=9):=by omega
       by_cases hk0:k=0
       ·subst hk0
        have hor:=HOR.out
        rw[show(2:Int)^(7*0)=1 by decide,Int.mul_one,wraps_u64 ((x.toNat:Int)%128) (by omega) (by omega)] at hor
        have hx2:s[a]=x:=by simpa using hx
        have hf:=HF.out
        rw[show((a:Int)+((0:Nat):Int)+1)=(a:Int)+1 by omega] at hf
        have zdv:=zh hor;have HF0:=zh hf;clear hor hx hf
        go_wp2_with fail
        go_ret3
        refine⟨?_,rfl⟩
        first
         | exact HF0.out
         | (rw[zdv.out];exact HF0.out)
       ·go_wp2_with fail
        go_ret3
        refine⟨?_,rfl⟩
        rw[HOR.out]
        exact HF.out
    ·have hb2:¬ ((x.toNat:Int)<128):=by omega
     have h9:k≠9:=fun h=>by have:=HK9.out h;omega
     have e9:¬ ((k:Int)=9):=by omega
     have hr:=HR2.out
     rw[if_neg HN1.out,if_neg hb] at hr
     have HR3:=zh hr;clear hr hb
     have hN2:N+x.toNat%128*128^k<128^(k+1):=by
      have h1:=HN.out
      have h2:=Nat.mul_le_mul_right (128^k) (show x.toNat%128<=127 by omega)
      rw[Nat.pow_succ]
      omega
     have hr2:Cod.rdL (s.data.toList.drop a) 0=match Cod.rdL (s.data.toList.drop (a+(k+1))) (k+1) with
      | some (v,c)=>some ((N+x.toNat%128*128^k)+128^(k+1)*v,(k+1)+c)
      | none=>none:=by
      rw[HR3.out,show a+(k+1)=a+k+1 by omega]
      cases Cod.rdL (s.data.toList.drop (a+k+1)) (k+1) with
      | none=>rfl
      | some y =>
        obtain⟨v,c⟩:=y
        show some _=some _
        congr 2
        ·rw[Nat.pow_succ,Nat.mul_add,Nat.mul_comm (128^k) (x.toNat%128),Nat.mul_assoc,Nat.add_assoc]
        ·omega
     have HN3:=zh hN2;have HR4:=zh hr2;clear hN2 hr2
     go_wp2_with fail
     rw[HOR.out]
     exact⟨⟨⟨k+1,N+x.toNat%128*128^k,by omega,rfl,by go_num,HN3.out,by omega,HR4.out⟩,by first|rfl|trivial⟩,by simp[intOf];omega⟩
  ·have dk:decide ((s.size:Int)<=(a:Int)+k)=true:=by simp;omega
   have hd:s.data.toList.drop (a+k)=[]:=List.drop_eq_nil_of_le (by rw[Sha.Bo];omega)
   have hr:=HRD.out
   rw[hd] at hr
   have hfin:R (.returned (.tuple #[.int .u64 0,.int .i64 0,.bool false])):=by
    rw[HR.out]
    unfold Cod.rdU
    rw[hr]
    exact⟨0,0,rfl⟩
   have HF:=zh hfin;clear hfin hr hd
   go_wp2_with fail
   go_ret3
   exact⟨HF.out,rfl⟩
theorem zb8 (s:ByteArray)(a:Nat)(w:World)(ha:a<=s.size)(hs:s.size<=140737488355328):
 Calls Tryz.prog 86 #[.string s,.int .i64 a] w fun e w' => Nn (Cod.rdN s a) e/\w' = w:=by
 obtain⟨R,hR⟩:∃ R,R=Nn (Cod.rdN s a):=⟨_,rfl⟩
 rw[<- hR]
 have HR:=zh hR;clear hR
 go_enter Tryz.func86,Tryz.ntmps86
 go_wp2_with fail
 refine(zct s a _ ha hs).mono ?_
 rintro e w1 ⟨hp,rfl⟩
 cases hr:Cod.rdU s a with
 | none =>
   rw[hr] at hp
   obtain⟨n,b,rfl⟩:=hp
   have hf:∀ n b:Int,R (.returned (.tuple #[.int .i64 n,.int .i64 b,.bool false])):=by
    intro n b
    rw[HR.out]
    unfold Cod.rdN
    rw[hr]
    exact⟨n,b,rfl⟩
   have HF:=zh hf;clear hf hr
   go_wp2_with fail
   go_ret3
   exact⟨HF.out _ _,rfl⟩
 | some y =>
   obtain⟨v,b⟩:=y
   rw[hr] at hp
   have hp' : e=.returned (.tuple #[.int .u64 v,.int .i64 b,.bool true]):=hp
   subst hp'
   clear hp
   have hv:=(Cod.Xo hr).2.2.2
   by_cases hlt:v<9223372036854775808
   ·have hf : R (.returned (.tuple #[.int .i64 v,.int .i64 b,.bool true])) :=by
     rw[HR.out]
     unfold Cod.rdN
     simp only[hr,if_pos hlt]
     rfl
    have HF:=zh hf;clear hf hr
    have hz:¬ ((9223372036854775807:Int)<v):=by omega
    go_wp2_with fail
    go_ret3
    exact⟨HF.out,rfl⟩
   ·have hf : ∀ n b : Int,R (.returned (.tuple #[.int .i64 n,.int .i64 b,.bool false])) :=by
     intro n b
     rw[HR.out]
     unfold Cod.rdN
     simp only[hr,if_neg hlt]
     exact⟨n,b,rfl⟩
    have HF:=zh hf;clear hf hr
    have hz:((9223372036854775807:Int)<v):=by omega
    go_wp2_with fail
    go_ret3
    exact⟨HF.out _ _,rfl⟩
theorem zb9 (s:ByteArray)(a:Nat)(w:World)(ha:a<=s.size)(hs:s.size<=140737488355328):
 Calls Tryz.prog 87 #[.string s,.int .i64 a] w fun e w' => YO (Cod.rdT s a) e/\w' = w:=by
 obtain⟨R,hR⟩:∃ R,R=YO (Cod.rdT s a):=⟨_,rfl⟩
 rw[<- hR]
 have HR:=zh hR;clear hR
 go_enter Tryz.func87,Tryz.ntmps87
 go_wp2_with fail
 refine(zb8 s a _ ha hs).mono ?_
 rintro e w1 ⟨hp,rfl⟩
 cases hr:Cod.rdN s a with
 | none =>
   rw[hr] at hp
   obtain⟨n,b,rfl⟩:=hp
   have hf:R (.returned (.tuple #[.string ⟨#[]⟩,.int .i64 0,.bool false])):=by
    rw[HR.out]
    unfold Cod.rdT
    rw[hr]
    rfl
   have HF:=zh hf;clear hf hr
   go_wp2_with fail
   go_ret3
   exact⟨HF.out,rfl⟩
 | some y =>
   obtain⟨v,b⟩:=y
   rw[hr] at hp
   have hp' : e=.returned (.tuple #[.int .i64 v,.int .i64 b,.bool true]):=hp
   subst hp'
   clear hp
   obtain⟨g1,g2,_,g4⟩:=Cod.Fa hr
   by_cases hlt:v<=s.size-b
   ·have hf : R (.returned (.tuple #[.string (s.extract b (b + v)),.int .i64 ((b : Int) + v),.bool true])) :=by
     rw[HR.out]
     unfold Cod.rdT
     simp only[hr,if_pos hlt]
     show _=Ending.returned (.tuple #[.string (s.extract b (b+v)),.int .i64 ((b+v:Nat):Int),.bool true])
     rw[Int.natCast_add]
    have HF:=zh hf;clear hf hr
    have hz:¬ ((s.size:Int)-b<v):=by omega
    go_wp2_with fail
    go_ret3
    exact⟨HF.out,rfl⟩
   ·have hf : R (.returned (.tuple #[.string ⟨#[]⟩,.int .i64 0,.bool false])) :=by
     rw[HR.out]
     unfold Cod.rdT
     simp only[hr,if_neg hlt]
     rfl
    have HF:=zh hf;clear hf hr
    have hz:((s.size:Int)-b<v):=by omega
    go_wp2_with fail
    go_ret3
    exact⟨HF.out,rfl⟩
def zdk (s:ByteArray)(w0:World)(n a:Nat)(next out i:Value)(wr:World):Prop:=
 ∃ (k b : Nat) (xs : List ByteArray),k ≤ n ∧ xs.length = k ∧ i = .int .i64 k ∧ next = .int .i64 b ∧ b ≤ s.size ∧ wr.ownsRow w0.heap.size 9 1 out xs.length (xs.map Value.string) ∧ (∃ p c,out = .slice (some p) xs.length c) ∧ Below w0.heap.size w0 wr ∧
   Cod.Kw s n a=match Cod.Kw s (n-k) b with
    | some (l,c)=>some (xs++l,c)
    | none=>none
theorem zbK (s:ByteArray)(a:Nat)(w:World)(ha:a<=s.size)(hs:s.size<=1000000):
 Calls Tryz.prog 174 #[.string s,.int .i64 a] w (YS w (Cod.Br s a)):=by
 obtain⟨R,hR⟩:∃ R,R=YS w (Cod.Br s a):=⟨_,rfl⟩
 rw[<- hR]
 have HR:=zh hR;clear hR
 obtain⟨i0,hi,hz0,hz1,hz2⟩:=info_parts XJ
 go_enter Tryz.func174,Tryz.ntmps174
 go_wp2_with fail
 refine(zb8 s a _ ha (by omega)).mono ?_
 rintro e w1 ⟨hp,rfl⟩
 cases hr:Cod.rdN s a with
 | none =>
   rw[hr] at hp
   obtain⟨n,b,rfl⟩:=hp
   have hf:R (.returned (.tuple #[.slice none 0 0,.int .i64 0,.bool false])) w1:=by
    rw[HR.out]
    unfold Cod.Br
    rw[hr]
    exact⟨rfl,Below.refl _ _⟩
   have HF:=zh hf;clear hf hr
   go_wp2_with fail
   go_ret3
   exact HF.out
 | some y =>
   obtain⟨n,b⟩:=y
   rw[hr] at hp
   have hp' : e=.returned (.tuple #[.int .i64 n,.int .i64 b,.bool true]):=hp
   subst hp'
   clear hp
   obtain⟨g1,g2,_,g4⟩:=Cod.Fa hr
   by_cases hlt:n<=s.size-b
   ·have hz:¬ ((s.size:Int)-b<n):=by omega
    have hf:Cod.Br s a=Cod.Kw s n b:=by
     unfold Cod.Br
     simp only[hr,if_pos hlt]
    have HF:=zh hf;clear hf hr
    have hown0:(w1.alloc (.cells #[] 9)).ownsRow w1.heap.size 9 1 (.slice (some ⟨w1.heap.size,0,none⟩) 0 0) 0 []:=⟨rfl,.inr ⟨w1.heap.size,0,#[],rfl,Nat.le_refl _,At.new w1 _ _,Nat.le_refl _,by decide,rfl,rfl⟩⟩
    have hti:zdk s w1 n b (.int .i64 b) (.slice (some ⟨w1.heap.size,0,none⟩) 0 0) (.int .i64 0) (w1.alloc (.cells #[] 9)):=⟨0,b,[],Nat.zero_le _,rfl,rfl,rfl,g2,hown0,⟨_,_,rfl⟩,zb,by
     rw[Nat.sub_zero]
     cases Cod.Kw s n b with
     | none=>rfl
     | some y=>obtain⟨l,c⟩:=y;rfl⟩
    have HTI:=zh hti;clear hti hown0
    go_wp2_with fail
    go_loopw [8,10,11] (fun next out i wr=>zdk s w1 n b next out i wr) (fun _ _ i _=>n-(intOf i).toNat)
    case atStart=>exact HTI.out
    case round=>
     obtain⟨k,b2,xs,hk,hxl,rfl,rfl,hb2,how,⟨pp,pc,rfl⟩,hbl,htr⟩:=hrel
     have HOW:=zh how;have HBL:=zh hbl;have HTR:=zh htr;have HXL:=zh hxl
     have zd4:xs.length<=k:=by omega
     clear how hbl htr hxl
     by_cases hkn:k<n
     ·have dk:decide ((k:Int)<n)=true:=by simp;omega
      obtain⟨M,hM⟩:∃ M,n-k=M+1:=⟨n-k-1,by omega⟩
      have htr:=HTR.out
      rw[hM,Cod.Kw] at htr
      have HM:=zh hM;clear hM
      go_wp2_with fail
      refine(zb9 s b2 _ hb2 (by omega)).mono ?_
      rintro e w3 ⟨hp,rfl⟩
      cases hr3:Cod.rdT s b2 with
      | none =>
        rw[hr3] at hp
        have hp' : e=.returned (.tuple #[.string ⟨#[]⟩,.int .i64 0,.bool false]):=hp
        subst hp'
        rw[hr3] at htr
        have hf2:R (.returned (.tuple #[.slice none 0 0,.int .i64 0,.bool false])) w3:=by
         rw[HR.out,HF.out,htr]
         exact⟨rfl,HBL.out⟩
        have HF2:=zh hf2;clear hf2 hr3 hp htr
        go_wp2_with fail
        go_ret3
        exact HF2.out
      | some y =>
        obtain⟨x,b3⟩:=y
        rw[hr3] at hp
        have hp' : e=.returned (.tuple #[.string x,.int .i64 b3,.bool true]):=hp
        subst hp'
        simp only[hr3] at htr
        have hb3:=(Cod.Mc hr3).2.1
        have zdw:=zh htr;clear htr hr3 hp
        go_wp2_with (at_builtin;go_must (refine wpList_append_own_at _ rfl _ _ 68 rfl w1.heap.size 9 i0 _ 1 16 Tryz.underlying68 hi hz0 hz1 hz2 rfl (by omega) (.slice (some pp) xs.length pc) xs.length (xs.map Value.string) rfl (HOW.out.alloc _) ⟨w3.heap.size,0,none⟩ 1 1 [.string x] rfl rfl ?c1 ?c2 ?c3 ?c4 ?c5 ?_))
        case c1=>
         intro j u hj
         match j,hj with
         | 0,hj=>simp at hj;subst hj;simp[Addr.add]
        case c2=>intro u hu;simp at hu;subst hu;rfl
        case c3=>unfold maxLen;omega
        case c4=>omega
        case c5=>have:=HBL.out.size;simp;omega
        intro v4 w4 zdl hg4 _ _
        have hb4:Below w1.heap.size w1 w4:=Bh (HBL.out.alloc HBL.out.size _) (by have:=HBL.out.size;simp;omega) HOW.out hg4
        obtain⟨g2,cap2,rfl,_⟩:=Ct zdl (by omega)
        have rA:zdk s w1 n b (.int .i64 b3) (.slice (some ⟨g2,0,none⟩) (xs.length+1) cap2) (.int .i64 ((k:Int)+1)) w4:=by
         refine⟨k+1,b3,xs++[x],by omega,by rw[List.length_append,HXL.out]<;>rfl,by go_num,rfl,hb3,by rw[List.length_append,List.map_append];exact zdl,⟨⟨g2,0,none⟩,cap2,by rw[List.length_append]<;>rfl⟩,hb4,?_⟩
         rw[zdw.out,show n-(k+1)=M by have:=HM.out;omega]
         cases Cod.Kw s M b3 with
         | none=>rfl
         | some z=>obtain⟨l,c⟩:=z;simp
        have zaG:=zh rA;clear rA zdl hg4 hb4
        go_wp2_with fail
        exact⟨zaG.out,by simp[intOf];omega⟩
     ·have dk:decide ((k:Int)<n)=false:=by simp;omega
      have hkn2:k=n:=by omega
      have htr:=HTR.out
      rw[hkn2,Nat.sub_self] at htr
      have hf2:R (.returned (.tuple #[.slice (some pp) xs.length pc,.int .i64 b2,.bool true])) wr:=by
       rw[HR.out,HF.out,htr]
       simp only[Cod.Kw,List.append_nil]
       exact⟨_,rfl,Al.own HOW.out,Ak HOW.out,⟨_,_,rfl,(dR HOW.out).1⟩,HBL.out⟩
      have HF2:=zh hf2;clear hf2 htr hkn2
      go_wp2_with fail
      go_ret3
      exact HF2.out
   ·have hz:((s.size:Int)-b<n):=by omega
    have hf:R (.returned (.tuple #[.slice none 0 0,.int .i64 0,.bool false])) w1:=by
     rw[HR.out]
     unfold Cod.Br
     simp only[hr,if_neg hlt]
     exact⟨rfl,Below.refl _ _⟩
    have HF:=zh hf;clear hf hr
    go_wp2_with fail
    go_ret3
    exact HF.out
theorem zbX (v:Value)(xs:List ByteArray)(w:World)(hv:Al w v xs)(hx:∀ x∈xs,x.size<=140737488350000)(hl:xs.length<=140737488350000)(ht:(Cod.texts xs).size<=140737488355328):
 Calls Tryz.prog 132 #[v] w fun e w' => e=.returned (.string (Cod.texts xs))/\Below w.heap.size w w':=by
 obtain⟨a,c,rfl⟩:=hv.len
 have HV:=zh hv;have HX:=zh hx;have HT:=zh ht;clear hv hx ht
 have hts:Cod.texts xs=Cod.uns xs.length++Cod.cat (xs.map Cod.text):=rfl
 have HTS:=zh hts;clear hts
 generalize Cod.texts xs=T at*
 go_enter Tryz.func132,Tryz.ntmps132
 go_wp2_with fail
 refine(ZL xs.length _ (by omega)).mono ?_
 rintro e w1 ⟨rfl,hb1⟩
 obtain⟨u,hu2⟩:∃ u,u=Cod.uns xs.length:=⟨_,rfl⟩
 rw[<- hu2] at HTS ⊢
 have HB1:=zh hb1;clear hu2 hb1
 have hbig:∀ k,(u++Cod.cat ((xs.take k).map Cod.text)).size<=140737488355328:=fun k=>by
  have h1:=mM xs k
  have h2:=HT.out
  rw[HTS.out,Sha.Ag] at h2
  rw[Sha.Ag]
  omega
 have zdx:=zh hbig;clear hbig
 go_wp2_with fail
 go_loopw [3,4] (fun o i wr=>∃ k:Nat,k<=xs.length/\i=.int .i64 k/\o=.string (u++Cod.cat ((xs.take k).map Cod.text))/\Below w.heap.size w wr) (fun _ i _=>xs.length-(intOf i).toNat)
 case atStart=>exact⟨0,by omega,rfl,by rw[List.take_zero];show _=Value.string (u++⟨#[]⟩);rw[Ou],HB1.out⟩
 case round=>
  obtain⟨k,hk,rfl,rfl,hbl⟩:=hrel
  have HBL:=zh hbl;clear hbl
  by_cases hlt:k<xs.length
  ·have dk:decide ((k:Int)<xs.length)=true:=by simp;omega
   obtain⟨b,o,rfl⟩:=HV.out.addrOf hlt
   have ce:=(HV.out.below HBL.out).cellAt hlt
   obtain⟨s,hs⟩:∃ s,s=xs.getD k ⟨#[]⟩:=⟨_,rfl⟩
   rw[<- hs] at ce
   have hsx:s=xs[k]:=by rw[hs];simp[List.getD_eq_getElem?_getD,hlt]
   have hsz:s.size<=140737488350000:=HX.out s (by rw[hsx];exact List.getElem_mem hlt)
   have hstep:(u++Cod.cat ((xs.take k).map Cod.text))++Cod.text s=u++Cod.cat ((xs.take (k+1)).map Cod.text):=by rw[mK xs k hlt,hsx,ByteArray.append_assoc]
   have hb1:=zdx.out (k+1)
   rw[<- hstep] at hb1
   obtain⟨Y,hY⟩:∃ Y,Y=u++Cod.cat ((xs.take k).map Cod.text):=⟨_,rfl⟩
   rw[<- hY] at hstep hb1 ⊢
   rw[Sha.Ag] at hb1
   have HST:=zh hstep;clear hstep hY hs hsx
   go_wp2_with fail
   refine(zbC s _ hsz).mono ?_
   rintro e w2 ⟨rfl,hb2⟩
   have HB2:=zh (HBL.out.trans (hb2.mono HBL.out.size));clear hb2
   generalize Cod.text s=t at*
   go_wp2_with fail
   rw[HST.out]
   exact⟨⟨k+1,by omega,by go_num,rfl,HB2.out⟩,by simp[intOf];omega⟩
  ·have dk:decide ((k:Int)<xs.length)=false:=by simp;omega
   have hf:u++Cod.cat ((xs.take k).map Cod.text)=T:=by rw[List.take_of_length_le (by omega),HTS.out]
   rw[hf]
   clear hf
   go_wp2_with fail
   go_ret
   exact⟨rfl,HBL.out⟩
theorem zbL (s:Sig.T)(cv pv:Value)(w:World)(hc:Al w cv s.chains)(hp:Al w pv s.path)(hl:s.chains.length<=140737488355328)(hlp:s.path.length<=140737488355328):
 Calls Tryz.prog 130 #[.agg #[.int .i64 s.index,cv,pv]] w fun e w' => e=.returned (.bool (Own.Dq s))/\Below w.heap.size w w':=by
 obtain⟨R,hR⟩:∃ R,R=Own.Dq s:=⟨_,rfl⟩
 rw[<- hR]
 unfold Own.Dq at hR
 obtain⟨ca,cc,rfl⟩:=hc.len
 obtain⟨pa,pc,rfl⟩:=hp.len
 have HR:=zh hR;clear hR
 have F1:=zh (show Au w _ [(70,#[.int .i64 s.index,.slice ca s.chains.length cc,.slice pa s.path.length pc])] from((CY.nil w).push 70 #[.int .i64 s.index,.slice ca s.chains.length cc,.slice pa s.path.length pc]).boxes)
 have HC:=zh (hc.below F1.out.under);have HP:=zh (hp.below F1.out.under)
 clear hc hp
 go_enter Tryz.func130,Tryz.ntmps130
 go_upto_region 1 with fail
 generalize (w.alloc (.cells #[.int .i64 s.index,.slice ca s.chains.length cc,.slice pa s.path.length pc] 70))=w1 at*
 obtain⟨x00,x01,x02⟩:=F1.out.Fw rfl
 by_cases i1:0<=s.index
 case neg=>
  have e1:decide (0<=s.index)=false:=decide_eq_false i1
  have HE:=zh (show R=false by rw[HR.out,decide_eq_false i1]<;>rfl)
  go_wp2_with fail
  go_ret
  exact⟨by rw[HE.out]<;>rfl,F1.out.under⟩
 have e1:decide (0<=s.index)=true:=decide_eq_true i1
 by_cases i3:s.chains.length=67
 case neg=>
  have e3:((s.chains.length:Int)==67)=false:=by rw[beq_eq_false_iff_ne];omega
  have HE:=zh (show R=false by rw[HR.out,decide_eq_false i3];simp)
  go_wp2_with fail
  go_ret
  exact⟨by rw[HE.out]<;>rfl,F1.out.under⟩
 have e3:((s.chains.length:Int)==67)=true:=by rw[beq_iff_eq];omega
 have I3:=zh i3;clear i3
 by_cases i4:s.path.length<=6
 case neg=>
  have e4:decide ((s.path.length:Int)<=6)=false:=zf
  have e4' : decide (s.path.length<=6)=false:=decide_eq_false i4
  have HE:=zh (show R=false by rw[HR.out,decide_eq_false i4];simp)
  go_wp2_with fail
  go_ret
  exact⟨by rw[HE.out]<;>rfl,F1.out.under⟩
 have e4:decide ((s.path.length:Int)<=6)=true:=zt
 have e4' : decide (s.path.length<=6)=true:=decide_eq_true i4
 go_wp2_with fail
 refine(Ri _ s.chains w1 HC.out hl).mono ?_
 rintro e w2 ⟨rfl,rfl⟩
 rw[aG]
 cases hall:s.chains.all Sig.digest with
 | false =>
   have HE:=zh (show R=false by rw[HR.out,hall];simp)
   clear hall
   go_wp2_with fail
   go_ret
   exact⟨by rw[HE.out]<;>rfl,F1.out.under⟩
 | true=>
 have HE:=zh (show R=s.path.all Sig.digest by rw[HR.out,hall,e1,e4',decide_eq_true I3.out]<;>rfl)
 clear hall
 go_wp2_with fail
 refine(Ri _ s.path _ HP.out hlp).mono ?_
 rintro e w3 ⟨rfl,rfl⟩
 rw[aG]
 go_wp2_with fail
 go_ret
 exact⟨by rw[HE.out]<;>rfl,F1.out.under⟩
theorem zch (s:Sig.T)(cv pv:Value)(w:World)(hc:Al w cv s.chains)(hp:Al w pv s.path)(hi:s.index<9223372036854775808)(hl:s.chains.length<=140737488355328)(hlp:s.path.length<=140737488355328):
 Calls Tryz.prog 78 #[.agg #[.int .i64 s.index,cv,pv]] w fun e w' => e=.returned (.tuple #[.string (Own.Ka s).1,.int .i64 (Own.Ka s).2])/\Below w.heap.size w w':=by
 obtain⟨R,hR⟩:∃ R,R=Own.Ka s:=⟨_,rfl⟩
 rw[<- hR]
 unfold Own.Ka at hR
 obtain⟨ca,cc,rfl⟩:=hc.len
 obtain⟨pa,pc,rfl⟩:=hp.len
 have HR:=zh hR;clear hR
 have F1:=zh (show Au w _ [(70,#[.int .i64 s.index,.slice ca s.chains.length cc,.slice pa s.path.length pc])] from((CY.nil w).push 70 #[.int .i64 s.index,.slice ca s.chains.length cc,.slice pa s.path.length pc]).boxes)
 have HC:=zh (hc.below F1.out.under);have HP:=zh (hp.below F1.out.under)
 clear hc hp
 go_enter Tryz.func78,Tryz.ntmps78
 go_upto_region 1 with fail
 generalize (w.alloc (.cells #[.int .i64 s.index,.slice ca s.chains.length cc,.slice pa s.path.length pc] 70))=w1 at*
 obtain⟨x00,x01,x02⟩:=F1.out.Fw rfl
 have HVS:=zh (zbL s (.slice ca s.chains.length cc) (.slice pa s.path.length pc) w1 HC.out HP.out hl hlp)
 go_wp2_with fail
 refine HVS.out.mono ?_
 rintro e w3 ⟨rfl,hb3⟩
 have F3:=zh (F1.out.step hb3);have HC3:=zh (HC.out.below hb3);have HP3:=zh (HP.out.below hb3)
 clear hb3 HVS HC HP
 (try clear x00 x01 x02)
 obtain⟨x00,x01,x02⟩:=F3.out.Fw rfl
 cases hok:Own.Dq s with
 | false =>
   have HE:=zh (show R=(⟨#[]⟩,1) by rw[HR.out,hok]<;>rfl)
   clear hok
   go_wp2_with fail
   go_ret2
   exact⟨by rw[HE.out]<;>rfl,F3.out.under⟩
 | true=>
 have hok2:=hok
 unfold Own.Dq at hok2
 simp only[Bool.and_eq_true,decide_eq_true_eq] at hok2
 obtain⟨⟨⟨⟨i0,i3⟩,i4⟩,hall⟩,Pk⟩:=hok2
 have I3:=zh i3;clear i3
 obtain⟨n,hn⟩:∃ n:Nat,s.index=n:=⟨s.index.toNat,by omega⟩
 have hz1:∀ x∈s.chains,x.size=32:=fun x hx=>of_decide_eq_true (List.all_eq_true.1 hall x hx)
 have hz2:∀ x∈s.path,x.size=32:=fun x hx=>of_decide_eq_true (List.all_eq_true.1 Pk x hx)
 have t1:(Cod.texts s.chains).size<=3000:=by have:=Own.Jf s.chains hz1;have:=I3.out;omega
 have t2:=Own.Jf s.path hz2
 have t0:=Cod.Ce n
 have HE:=zh (show R=(Cod.uns n++(Cod.texts s.chains++Cod.texts s.path),0) by
  rw[HR.out,hok,if_pos rfl]
  unfold Own.Bw
  rw[hn]
  rfl)
 rw[hn] at x00 hi i0
 have Z1:=zh hz1;have Z2:=zh hz2
 clear hall Pk hz1 hz2 HR hn hok
 have y1:(w3.cell? ⟨w.heap.size,1,none⟩).isSome=true:=by rw[x01]<;>rfl
 have y2:(w3.cell? ⟨w.heap.size,2,none⟩).isSome=true:=by rw[x02]<;>rfl
 have Y1:=zh y1;have Y2:=zh y2
 clear y1 y2
 have hl3:w.heap.size<w3.heap.size:=F3.out.lt (i:=0) (by simp)
 go_wp2_with fail
 refine Lex.zn (fun k=>k=w.heap.size) [4,8] 10 [3,3,4] ?_
 simp only[Lex.Bp,zd]
 go_wp2_with fail
 refine(DI n _ (by omega)).mono ?_
 rintro e w4 ⟨rfl,hb4⟩
 have B4:=zh (show Below w3.heap.size w3 w4 from(Below.refl w3.heap.size w3).drew.trans hb4)
 have F4:=zh (F3.out.step B4.out);clear hb4
 (try clear x00 x01 x02)
 obtain⟨x00,x01,x02⟩:=F4.out.Fw rfl
 obtain⟨U,hU⟩:∃ U,U=Cod.uns n:=⟨_,rfl⟩
 rw[<- hU] at t0 HE ⊢
 clear hU
 go_wp2_with fail
 refine Lex.Mid.intro (fun k hk hkl=>by rw[hk];exact B4.out.block _ hl3) ?_
 go_wp2_with fail
 refine(zbX _ s.chains _ (HC3.out.below B4.out) (fun x hx=>by rw[Z1.out x hx];omega) (by have:=I3.out;omega) (by omega)).mono ?_
 rintro e w5 ⟨rfl,hb5⟩
 have B5:=zh (B4.out.trans (hb5.mono B4.out.size))
 have F5:=zh (F3.out.step B5.out);clear hb5
 (try clear x00 x01 x02)
 obtain⟨x00,x01,x02⟩:=F5.out.Fw rfl
 obtain⟨T1,hT1⟩:∃ T,T=Cod.texts s.chains:=⟨_,rfl⟩
 rw[<- hT1] at t1 HE ⊢
 clear hT1
 go_wp2_with fail
 refine Lex.Mid.intro (fun k hk hkl=>by rw[hk];exact B5.out.block _ hl3) ?_
 go_wp2_with fail
 refine(zbX _ s.path _ (HP3.out.below B5.out) (fun x hx=>by rw[Z2.out x hx];omega) (by omega) (by omega)).mono ?_
 rintro e w6 ⟨rfl,hb6⟩
 have B6:=zh (B5.out.trans (hb6.mono B5.out.size))
 have F6:=zh (F3.out.step B6.out);clear hb6
 obtain⟨T2,hT2⟩:∃ T,T=Cod.texts s.path:=⟨_,rfl⟩
 rw[<- hT2] at t2 HE ⊢
 clear hT2
 (try clear x00 x01 x02)
 go_wp2_with fail
 refine Lex.Mid.intro (fun k hk hkl=>by rw[hk];exact B6.out.block _ hl3) ?_
 go_wp2_with fail
 refine Lex.zk ⟨⟨rfl,Y1.out⟩,⟨rfl,Y2.out⟩,trivial⟩ ?_
 go_wp2_with fail
 (try go_ret2)
 exact⟨by rw[HE.out,ByteArray.append_assoc]<;>rfl,F6.out.under⟩
namespace Own
def zcG (w:World)(r:Option (Sig.T × Nat))(e:Ending)(w' : World):Prop:=match r with
 | some (x,b)=>(∃ cv pv,e=.returned (.tuple #[.agg #[.int .i64 x.index,cv,pv],.int .i64 b,.bool true])/\Al w' cv x.chains/\(∃ a c,cv=.slice (some a) x.chains.length c/\x.chains.length<=c)/\(∀ k,cv.ownBlock=some k->w.heap.size<=k)/\Al w' pv x.path/\(∃ a c,pv=.slice (some a) x.path.length c/\x.path.length<=c)/\(∀ k,pv.ownBlock=some k->w.heap.size<=k))/\Below w.heap.size w w'
 | none=>e=.returned (.tuple #[.agg #[.int .i64 0,.slice none 0 0,.slice none 0 0],.int .i64 0,.bool false])/\Below w.heap.size w w'
end Own
theorem zc3 (s:ByteArray)(a:Nat)(w:World)(ha:a<=s.size)(hs:s.size<=1000000):
 Calls Tryz.prog 142 #[.string s,.int .i64 a] w (Own.zcG w (Own.zbD s a)):=by
 obtain⟨R,hR⟩:∃ R,R=Own.zcG w (Own.zbD s a):=⟨_,rfl⟩
 rw[<- hR]
 have HR:=zh hR;clear hR
 go_enter Tryz.func142,Tryz.ntmps142
 go_wp2_with fail
 have A1:=zh (At.new w 70 #[.int .i64 0,.slice none 0 0,.slice none 0 0])
 have B1:=zh ((Below.refl w.heap.size w).alloc (Nat.le_refl _) (.cells #[.int .i64 0,.slice none 0 0,.slice none 0 0] 70))
 generalize w.alloc (.cells #[.int .i64 0,.slice none 0 0,.slice none 0 0] 70)=w1 at*
 refine(zb8 s a _ ha (by omega)).mono ?_
 rintro e w' ⟨hp,hww⟩;subst w'
 cases hr0:Cod.rdN s a with
 | none =>
   rw[hr0] at hp
   obtain⟨n,b,rfl⟩:=hp
   have HE:=zh (show Own.zbD s a=none by unfold Own.zbD Own.UD;simp only[hr0])
   clear hr0
   have z0:=A1.out.free 0;have z1:=A1.out.free 1;have z2:=A1.out.free 2
   obtain⟨c0,c1,c2⟩:=A1.out.c3
   have HA9:=zh (((A1.out.set 0 (.int .i64 0)).set 1 (.slice none 0 0)).set 2 (.slice none 0 0))
   go_wp2_with fail
   refine zbN rfl rfl rfl rfl (AJ HA9.out Tryz.underlying70 rfl Rs) ?_
   rw[HR.out,HE.out]
   exact⟨rfl,(((B1.out.setCell (p:=⟨w.heap.size,0,none⟩) (Nat.le_refl _) _).setCell (p:=⟨w.heap.size,1,none⟩) (Nat.le_refl _) _).setCell (p:=⟨w.heap.size,2,none⟩) (Nat.le_refl _) _)⟩
 | some y=>
 obtain⟨i,p1⟩:=y
 rw[hr0] at hp
 obtain rfl:=(show e=.returned (.tuple #[.int .i64 i,.int .i64 p1,.bool true]) from hp)
 obtain⟨_,l1,_,hi⟩:=Cod.Fa hr0
 clear hp
 have HR0:=zh hr0;clear hr0
 go_wp2_with fail
 refine(zbK s p1 _ l1 hs).mono ?_
 rintro e w2 hp
 cases hr1:Cod.Br s p1 with
 | none =>
   rw[hr1] at hp
   obtain⟨rfl,hb⟩:=(show e=.returned (.tuple #[.slice none 0 0,.int .i64 0,.bool false])/\Below w1.heap.size w1 w2 from hp)
   have HE:=zh (show Own.zbD s a=none by unfold Own.zbD Own.UD;simp only[HR0.out,hr1])
   have A2:=zh (A1.out.below hb A1.out.lt);have B2:=zh (B1.out.trans (hb.mono B1.out.size))
   clear hb hp hr1
   have z0:=A2.out.free 0;have z1:=A2.out.free 1;have z2:=A2.out.free 2
   obtain⟨c0,c1,c2⟩:=A2.out.c3
   have HA9:=zh (((A2.out.set 0 (.int .i64 0)).set 1 (.slice none 0 0)).set 2 (.slice none 0 0))
   go_wp2_with fail
   refine zbN rfl rfl rfl rfl (AJ HA9.out Tryz.underlying70 rfl Rs) ?_
   rw[HR.out,HE.out]
   exact⟨rfl,(((B2.out.setCell (p:=⟨w.heap.size,0,none⟩) (Nat.le_refl _) _).setCell (p:=⟨w.heap.size,1,none⟩) (Nat.le_refl _) _).setCell (p:=⟨w.heap.size,2,none⟩) (Nat.le_refl _) _)⟩
 | some y=>
 obtain⟨ch,p2⟩:=y
 rw[hr1] at hp
 obtain⟨v,rfl,hst,hfr,⟨ca,cc,rfl,hcc⟩,hb⟩:=(show ∃ v,e=.returned (.tuple #[v,.int .i64 p2,.bool true])/\Al w2 v ch/\(∀ k,v.ownBlock=some k->w1.heap.size<=k)/\(∃ a c,v=.slice (some a) ch.length c/\ch.length<=c)/\Below w1.heap.size w1 w2 from hp)
 have A2:=zh (A1.out.below hb A1.out.lt);have B2:=zh (B1.out.trans (hb.mono B1.out.size))
 have C2:=zh hst;have CC:=zh hcc;have CF:=zh (fun k hk=>Nat.lt_of_lt_of_le A1.out.lt (hfr k hk))
 have l2:p2<=s.size:=(Cod.Md hr1).2.1
 have hcl:ch.length<=s.size:=by have:=eU (s:=s) (r:=⟨p1,0⟩);rw[Own.ng,hr1] at this;exact this
 have HR1:=zh hr1
 clear hb hp hr1 hst hfr hcc
 go_wp2_with fail
 refine(zbK s p2 _ l2 hs).mono ?_
 rintro e w3 hp
 cases hr2:Cod.Br s p2 with
 | none =>
   rw[hr2] at hp
   obtain⟨rfl,hb⟩:=(show e=.returned (.tuple #[.slice none 0 0,.int .i64 0,.bool false])/\Below w2.heap.size w2 w3 from hp)
   have HE:=zh (show Own.zbD s a=none by unfold Own.zbD Own.UD;simp only[HR0.out,HR1.out,hr2])
   have A3:=zh (A2.out.below hb A2.out.lt);have B3:=zh (B2.out.trans (hb.mono B2.out.size))
   clear hb hp hr2
   have z0:=A3.out.free 0;have z1:=A3.out.free 1;have z2:=A3.out.free 2
   obtain⟨c0,c1,c2⟩:=A3.out.c3
   have HA9:=zh (((A3.out.set 0 (.int .i64 0)).set 1 (.slice none 0 0)).set 2 (.slice none 0 0))
   go_wp2_with fail
   refine zbN rfl rfl rfl rfl (AJ HA9.out Tryz.underlying70 rfl Rs) ?_
   rw[HR.out,HE.out]
   exact⟨rfl,(((B3.out.setCell (p:=⟨w.heap.size,0,none⟩) (Nat.le_refl _) _).setCell (p:=⟨w.heap.size,1,none⟩) (Nat.le_refl _) _).setCell (p:=⟨w.heap.size,2,none⟩) (Nat.le_refl _) _)⟩
 | some y=>
 obtain⟨pa,p3⟩:=y
 rw[hr2] at hp
 obtain⟨v,rfl,hst,hfr,⟨da,dc,rfl,hcc⟩,hb⟩:=(show ∃ v,e=.returned (.tuple #[v,.int .i64 p3,.bool true])/\Al w3 v pa/\(∀ k,v.ownBlock=some k->w2.heap.size<=k)/\(∃ a c,v=.slice (some a) pa.length c/\pa.length<=c)/\Below w2.heap.size w2 w3 from hp)
 have A3:=zh (A2.out.below hb A2.out.lt);have B3:=zh (B2.out.trans (hb.mono B2.out.size))
 have C3:=zh (C2.out.below hb)
 have D3:=zh hst;have DC:=zh hcc;have DF:=zh (fun k hk=>Nat.lt_of_lt_of_le A2.out.lt (hfr k hk))
 have hpl:pa.length<=s.size:=by have:=eU (s:=s) (r:=⟨p2,0⟩);rw[Own.ng,hr2] at this;exact this
 have HR2:=zh hr2
 clear hb hp hr2 hst hfr hcc C2 A1 B1 A2 B2
 go_upto_region 11 with fail
 have A4:=zh (A3.out.alloc (.cells #[.int .i64 i,.slice (some ca) ch.length cc,.slice (some da) pa.length dc] 70))
 have hba:Below w3.heap.size w3 (w3.alloc (.cells #[.int .i64 i,.slice (some ca) ch.length cc,.slice (some da) pa.length dc] 70)):=zb
 have B4:=zh (B3.out.trans (hba.mono B3.out.size))
 have C4:=zh (C3.out.below hba);have D4:=zh (D3.out.below hba)
 have E4:=zh (At.new w3 70 #[.int .i64 i,.slice (some ca) ch.length cc,.slice (some da) pa.length dc])
 clear hba A3 B3 C3 D3
 generalize w3.alloc (.cells #[.int .i64 i,.slice (some ca) ch.length cc,.slice (some da) pa.length dc] 70)=w4 at*
 generalize w3.heap.size=g at*
 obtain⟨x0,x1,x2⟩:=E4.out.c3
 have HVS:=zh (zbL ⟨i,ch,pa⟩ (.slice (some ca) ch.length cc) (.slice (some da) pa.length dc) w4 C4.out D4.out (by show ch.length<=_;omega) (by show pa.length<=_;omega))
 go_wp2_with fail
 refine HVS.out.mono ?_
 rintro e w5 ⟨rfl,hb⟩
 have A5:=zh (A4.out.below hb A4.out.lt);have B5:=zh (B4.out.trans (hb.mono B4.out.size))
 have C5:=zh (C4.out.below hb);have D5:=zh (D4.out.below hb);have E5:=zh (E4.out.below hb E4.out.lt)
 clear hb HVS x0 x1 x2 A4 B4 C4 D4 E4
 cases hok:Own.Dq ⟨i,ch,pa⟩ with
 | false =>
   have HE:=zh (show Own.zbD s a=none by unfold Own.zbD Own.UD;simp only[HR0.out,HR1.out,HR2.out,hok];rfl)
   clear hok
   have z0:=A5.out.free 0;have z1:=A5.out.free 1;have z2:=A5.out.free 2
   obtain⟨c0,c1,c2⟩:=A5.out.c3
   have HA9:=zh (((A5.out.set 0 (.int .i64 0)).set 1 (.slice none 0 0)).set 2 (.slice none 0 0))
   go_wp2_with fail
   refine zbN rfl rfl rfl rfl (AJ HA9.out Tryz.underlying70 rfl Rs) ?_
   rw[HR.out,HE.out]
   exact⟨rfl,(((B5.out.setCell (p:=⟨w.heap.size,0,none⟩) (Nat.le_refl _) _).setCell (p:=⟨w.heap.size,1,none⟩) (Nat.le_refl _) _).setCell (p:=⟨w.heap.size,2,none⟩) (Nat.le_refl _) _)⟩
 | true=>
 have HE:=zh (show Own.zbD s a=some (⟨i,ch,pa⟩,p3) by unfold Own.zbD Own.UD;simp only[HR0.out,HR1.out,HR2.out,hok];rfl)
 clear hok
 have z0:=A5.out.free 0;have z1:=A5.out.free 1;have z2:=A5.out.free 2
 obtain⟨c0,c1,c2⟩:=A5.out.c3;obtain⟨x0,x1,x2⟩:=E5.out.c3
 have HA9:=zh (((A5.out.set 0 (.int .i64 i)).set 1 (.slice (some ca) ch.length cc)).set 2 (.slice (some da) pa.length dc))
 go_wp2_with fail
 refine zbN rfl rfl rfl rfl (AJ HA9.out Tryz.underlying70 rfl Rs) ?_
 rw[HR.out,HE.out]
 have hk9:∀ (v:Value) (xs:List ByteArray),Al w5 v xs->(∀ k,v.ownBlock=some k->w.heap.size<k)->Al (((w5.setCell ⟨w.heap.size,0,none⟩ (.int .i64 i)).setCell ⟨w.heap.size,1,none⟩ (.slice (some ca) ch.length cc)).setCell ⟨w.heap.size,2,none⟩ (.slice (some da) pa.length dc)) v xs:=fun v xs h hf=>
  h.keep (fun k hk hl=>by
   have hne:k≠w.heap.size:=by have:=hf k hk;omega
   rw[zo hne,zo hne,zo hne])
 exact⟨⟨_,_,rfl,hk9 _ _ C5.out CF.out,⟨_,_,rfl,CC.out⟩,fun k hk=>Nat.le_of_lt (CF.out k hk),hk9 _ _ D5.out DF.out,⟨_,_,rfl,DC.out⟩,fun k hk=>Nat.le_of_lt (DF.out k hk)⟩,((B5.out.setCell (p:=⟨w.heap.size,0,none⟩) (Nat.le_refl _) _).setCell (p:=⟨w.heap.size,1,none⟩) (Nat.le_refl _) _).setCell (p:=⟨w.heap.size,2,none⟩) (Nat.le_refl _) _⟩
def Own.zbI (w:World)(r:Option (List Own.Ai × Nat))(e:Ending)(w' : World):Prop:=match r with
 | some (l,b)=>(∃ v,e=.returned (.tuple #[v,.int .i64 b,.bool true])/\Own.CJ w.heap.size w' v l)/\Below w.heap.size w w'
 | none=>e=.returned (.tuple #[.slice none 0 0,.int .i64 0,.bool false])/\Below w.heap.size w w'
theorem zcf (s:ByteArray)(a:Nat)(w:World)(ha:a<=s.size)(hs:s.size<=1000000):
 Calls Tryz.prog 88 #[.string s,.int .i64 a] w (Own.zbI w (Own.zbP s a)):=by
 obtain⟨R,hR⟩:∃ R,R=Own.zbI w (Own.zbP s a):=⟨_,rfl⟩
 rw[<- hR]
 have HR:=zh hR;clear hR
 go_enter Tryz.func88,Tryz.ntmps88
 go_wp2_with fail
 refine(zb8 s a _ ha (by omega)).mono ?_
 rintro e w' ⟨hp,hww⟩;subst w'
 cases hr0:Cod.rdN s a with
 | none =>
   rw[hr0] at hp
   obtain⟨n,b,rfl⟩:=hp
   have HE:=zh (show R=Own.zbI w none by rw[HR.out];unfold Own.zbP;simp only[hr0])
   clear hr0
   go_wp2_with fail
   go_ret3
   rw[HE.out]
   exact⟨rfl,Below.refl _ _⟩
 | some y=>
 obtain⟨m,p1⟩:=y
 rw[hr0] at hp
 obtain rfl:=(show e=.returned (.tuple #[.int .i64 m,.int .i64 p1,.bool true]) from hp)
 obtain⟨_,l1,_,hi⟩:=Cod.Fa hr0
 clear hp
 by_cases hm:8<m
 ·have HE:=zh (show R=Own.zbI w none by rw[HR.out];unfold Own.zbP;simp only[hr0,if_pos hm])
  have d8:decide ((8:Int)<m)=true:=zt
  clear hr0
  go_wp2_with fail
  go_ret3
  rw[HE.out]
  exact⟨rfl,Below.refl _ _⟩
 have d8:decide ((8:Int)<m)=false:=zf
 have HE:=zh (show R=Own.zbI w (Own.zbE s m p1) by rw[HR.out];unfold Own.zbP;simp only[hr0,if_neg hm])
 have m8:m<=8:=by omega
 clear hr0 hm HR
 go_wp2_with fail
 go_loopw [1,9,10] (fun at_ out i wr=>∃ (k:Nat) (la:List Own.Ai) (p:Nat),k<=m/\i=.int .i64 k/\at_=.int .i64 p/\la.length=k/\p<=s.size/\Own.CJ w.heap.size wr out la/\Below w.heap.size w wr/\Own.zbE s m p1=(match Own.zbE s (m-k) p with|some (l,c)=>some (la++l,c)|none=>none)) (fun _ _ i _=>m-(intOf i).toNat)
 case atStart=>
  refine⟨0,[],p1,by omega,rfl,rfl,rfl,l1,Own.CJ.nil _ _,Below.refl _ _,?_⟩
  rw[Nat.sub_zero]
  cases Own.zbE s m p1 with
  | none=>rfl
  | some y=>obtain⟨l,c⟩:=y;rfl
 case round=>
  obtain⟨k,la,p,hk,rfl,rfl,hll,hp,hown,hbl,htr⟩:=hrel
  obtain⟨ua,uc,rfl⟩:=hown.len
  have HO:=zh hown;have HB:=zh hbl;have HT:=zh htr;have HLL:=zh hll
  clear hown hbl htr hll
  by_cases hlt:k<m
  case neg=>
   have hke:k=m:=by omega
   have dk:decide ((k:Int)<m)=false:=zf
   have htr:=HT.out
   rw[hke,Nat.sub_self] at htr
   have HF:=zh (show R=Own.zbI w (some (la,p)) by rw[HE.out,htr];unfold Own.zbE;simp only[List.append_nil])
   clear htr hke
   go_wp2_with fail
   go_ret3
   rw[HF.out]
   exact⟨⟨_,rfl,HO.out⟩,HB.out⟩
  have dk:decide ((k:Int)<m)=true:=zt
  obtain⟨M,hM⟩:∃ M,m-k=M+1:=⟨m-k-1,by omega⟩
  have htr:=HT.out
  rw[hM,Own.zbE] at htr
  have HM:=zh hM;clear hM HT
  go_wp2_with fail
  refine(zb9 s p _ hp (by omega)).mono ?_
  rintro e w' ⟨hq,hww⟩;subst w'
  cases hr1:Cod.rdT s p with
  | none =>
    rw[hr1] at hq
    obtain rfl:=(show e=.returned (.tuple #[.string ⟨#[]⟩,.int .i64 0,.bool false]) from hq)
    simp only[hr1] at htr
    have HF:=zh (show R=Own.zbI w none by rw[HE.out,htr])
    clear hr1 htr hq
    go_wp2_with fail
    go_ret3
    rw[HF.out]
    exact⟨rfl,HB.out⟩
  | some y=>
  obtain⟨x,p2⟩:=y
  rw[hr1] at hq
  obtain rfl:=(show e=.returned (.tuple #[.string x,.int .i64 p2,.bool true]) from hq)
  simp only[hr1] at htr
  have l2:=(Cod.Mc hr1).2.1
  have HT:=zh htr
  clear hr1 htr hq
  go_wp2_with fail
  refine(zc3 s p2 _ l2 hs).mono ?_
  rintro e w3 hq
  cases hr2:Own.zbD s p2 with
  | none =>
    rw[hr2] at hq
    obtain⟨rfl,hb⟩:=(show e=.returned (.tuple #[.agg #[.int .i64 0,.slice none 0 0,.slice none 0 0],.int .i64 0,.bool false])/\Below wr.heap.size wr w3 from hq)
    have HF:=zh (show R=Own.zbI w none by have htr:=HT.out;rw[hr2] at htr;rw[HE.out,htr])
    have hb2:=HB.out.trans (hb.mono HB.out.size)
    have HB2:=zh (hb2.alloc hb2.size (.cells #[.int .i64 0,.slice none 0 0,.slice none 0 0] 70))
    clear hr2 hq hb hb2
    go_wp2_with fail
    go_ret3
    rw[HF.out]
    exact⟨rfl,HB2.out⟩
  | some y=>
  obtain⟨⟨ix,ch,pa⟩,p3⟩:=y
  rw[hr2] at hq
  obtain⟨⟨cv,pv,rfl,hcs,⟨ca,cm,rfl,hcc⟩,hcf,hps,⟨da,dm,rfl,hdc⟩,hdf⟩,hb⟩:=(show(∃ cv pv,e=.returned (.tuple #[.agg #[.int .i64 ix,cv,pv],.int .i64 p3,.bool true])/\Al w3 cv ch/\(∃ a c,cv=.slice (some a) ch.length c/\ch.length<=c)/\(∀ k,cv.ownBlock=some k->wr.heap.size<=k)/\Al w3 pv pa/\(∃ a c,pv=.slice (some a) pa.length c/\pa.length<=c)/\(∀ k,pv.ownBlock=some k->wr.heap.size<=k))/\Below wr.heap.size wr w3 from hq)
  have l3:p3<=s.size:=Own.zcN hr2
  have htr:=HT.out
  simp only[hr2] at htr
  have HT2:=zh (show Own.zbE s m p1=(match Own.zbE s (m-(k+1)) p3 with|some (l,c)=>some ((la++[⟨x,⟨ix,ch,pa⟩⟩])++l,c)|none=>none) by
   rw[htr,show m-(k+1)=M by have:=HM.out;omega]
   cases Own.zbE s M p3 with
   | none=>rfl
   | some z=>obtain⟨l,c⟩:=z;simp)
  have hba:Below w3.heap.size w3 ((w3.alloc (.cells #[.int .i64 ix,.slice (some ca) ch.length cm,.slice (some da) pa.length dm] 70)).alloc (.cells #[.string x,.int .i64 ix,.slice (some ca) ch.length cm,.slice (some da) pa.length dm] 72)):=zb.alloc (by simp) _
  have hbw:Below wr.heap.size wr ((w3.alloc (.cells #[.int .i64 ix,.slice (some ca) ch.length cm,.slice (some da) pa.length dm] 70)).alloc (.cells #[.string x,.int .i64 ix,.slice (some ca) ch.length cm,.slice (some da) pa.length dm] 72)):=hb.trans (hba.mono hb.size)
  have hBW:=HB.out.trans (hbw.mono HB.out.size)
  obtain⟨css,e1,e2,e3⟩:=HO.out.below hbw
  have hob:∀ k,(Value.slice ua la.length uc).ownBlock=some k->k<wr.heap.size:=by
   obtain⟨_,_,z2,_⟩:=id HO.out
   exact Own.IZ z2
  have hsz:=HB.out.size
  have hsc:Own.Jq (fun k=>w.heap.size<=k/\(Value.slice ua la.length uc).ownBlock≠some k) _ (.slice (some ca) ch.length cm) ch:=⟨hcs.below hba,⟨_,_,_,rfl,hcc⟩,fun _ k hk=>by
   have h1:=hcf k hk
   exact⟨by omega,fun e=>by have:=hob k e;omega⟩⟩
  have hsp:Own.Jq (fun k=>w.heap.size<=k/\(Value.slice ua la.length uc).ownBlock≠some k) _ (.slice (some da) pa.length dm) pa:=⟨hps.below hba,⟨_,_,_,rfl,hdc⟩,fun _ k hk=>by
   have h1:=hdf k hk
   exact⟨by omega,fun e=>by have:=hob k e;omega⟩⟩
  have hrw:=zcI w3 (.cells #[.int .i64 ix,.slice (some ca) ch.length cm,.slice (some da) pa.length dm] 70) 72 #[.string x,.int .i64 ix,.slice (some ca) ch.length cm,.slice (some da) pa.length dm] 4 1 1 rfl
  have E1:=zh e1;have E2:=zh e2;have E3:=zh e3;have HSC:=zh hsc;have HSP:=zh hsp;have HRW:=zh hrw;have HBW:=zh hBW
  have hsg:=At.new w3 70 #[.int .i64 ix,.slice (some ca) ch.length cm,.slice (some da) pa.length dm]
  obtain⟨y0,y1,y2⟩:=hsg.c3
  have zbs:la.length+1<=8:=by rw[HLL.out];omega
  have HGW:=zh hBW.size
  clear hq hr2 htr HT hcs hcc hcf hps hdc hdf hb hba hbw hBW e1 e2 e3 hob hsc hsp hrw hsg hsz HO
  go_wp2_with (at_builtin;go_must (refine Ah KX rfl _ _ rfl w.heap.size la.length (.slice ua la.length uc) css.flatten rfl E2.out (.slice (some ⟨w3.heap.size+1,0,none⟩) 1 1) 1 [.string x,.int .i64 ix,.slice (some ca) ch.length cm,.slice (some da) pa.length dm] rfl HRW.out (by intro u hu;simp at hu;rcases hu with rfl|rfl|rfl|rfl<;>rfl) (by omega) (by omega) HGW.out ?_);intro v9 w19 ho9 hg9 hw9;obtain⟨ya,ym,yc,rfl⟩:=Ac ho9;have AP9:=zh (Own.CJ.push (x:=⟨x,⟨ix,ch,pa⟩⟩) E1.out E2.out E3.out HSC.out HSP.out ho9 hg9 hw9);have HB9:=zh (HBW.out.grown hg9 HGW.out (fun k hk=>Ak E2.out k hk));clear ho9 hg9 hw9)
  exact⟨⟨k+1,la++[⟨x,⟨ix,ch,pa⟩⟩],p3,by omega,by go_num,rfl,by rw[List.length_append,HLL.out]<;>rfl,l3,AP9.out,HB9.out,HT2.out⟩,by simp[intOf];omega⟩
theorem zbJ (op:Own.Op)(mv av:Value)(w:World)(hm:Own.Af w mv op.members)(ha:∃ a c,av=.slice a op.Aa.length c)(hl:op.members.length<=140737488355328)(hps:op.pre.size<=9223372036854775000):
 Calls Tryz.prog 58 #[Own.opV op mv av] w fun e w' => e=.returned (.bool (Own.Eh op))/\Below w.heap.size w w':=by
 obtain⟨R,hR⟩:∃ R,R=Own.Eh op:=⟨_,rfl⟩
 rw[<- hR]
 unfold Own.Eh at hR
 obtain⟨PM,hPM⟩:∃ P,P=Own.U7 op:=⟨_,rfl⟩
 obtain⟨PN,hPN⟩:∃ P,P=Own.opName op:=⟨_,rfl⟩
 rw[<- hPM,<- hPN] at hR
 unfold Own.U7 at hPM
 unfold Own.opName at hPN
 unfold Own.opV
 obtain⟨aa,ac,rfl⟩:=ha
 obtain⟨kd,pre,ms,th,nm,pb,aps⟩:=op
 dsimp only at*
 obtain⟨ma,mc,rfl⟩:=hm.len
 have F1:=zh (show Au w _ [(29,#[.int .i64 kd,.string pre,.slice ma ms.length mc,.int .i64 th,.string nm,.string pb,.slice aa aps.length ac])] from((CY.nil w).push 29 #[.int .i64 kd,.string pre,.slice ma ms.length mc,.int .i64 th,.string nm,.string pb,.slice aa aps.length ac]).boxes)
 have hcp:=fun W=>zc2 pre W hps
 have hcm:=fun W (hW:Below w.heap.size w W)=>zbT _ ms W (hm.below hW) hl
 have hcq:=fun W=>zbA pb W
 have HCP:=zh hcp;have HCM:=zh hcm;have HCQ:=zh hcq
 have HR:=zh hR;have HPM:=zh hPM;have HPN:=zh hPN
 clear hm hcp hcm hcq hR hPM hPN
 have x00:(w.alloc (.cells #[.int .i64 kd,.string pre,.slice ma ms.length mc,.int .i64 th,.string nm,.string pb,.slice aa aps.length ac] 29)).cell? ⟨w.heap.size,0,none⟩=some (.int .i64 kd):=F1.out.cell 0 0 rfl rfl
 have x01:(w.alloc (.cells #[.int .i64 kd,.string pre,.slice ma ms.length mc,.int .i64 th,.string nm,.string pb,.slice aa aps.length ac] 29)).cell? ⟨w.heap.size,1,none⟩=some (.string pre):=F1.out.cell 0 1 rfl rfl
 have x02:(w.alloc (.cells #[.int .i64 kd,.string pre,.slice ma ms.length mc,.int .i64 th,.string nm,.string pb,.slice aa aps.length ac] 29)).cell? ⟨w.heap.size,2,none⟩=some (.slice ma ms.length mc):=F1.out.cell 0 2 rfl rfl
 have x03:(w.alloc (.cells #[.int .i64 kd,.string pre,.slice ma ms.length mc,.int .i64 th,.string nm,.string pb,.slice aa aps.length ac] 29)).cell? ⟨w.heap.size,3,none⟩=some (.int .i64 th):=F1.out.cell 0 3 rfl rfl
 have x04:(w.alloc (.cells #[.int .i64 kd,.string pre,.slice ma ms.length mc,.int .i64 th,.string nm,.string pb,.slice aa aps.length ac] 29)).cell? ⟨w.heap.size,4,none⟩=some (.string nm):=F1.out.cell 0 4 rfl rfl
 have x05:(w.alloc (.cells #[.int .i64 kd,.string pre,.slice ma ms.length mc,.int .i64 th,.string nm,.string pb,.slice aa aps.length ac] 29)).cell? ⟨w.heap.size,5,none⟩=some (.string pb):=F1.out.cell 0 5 rfl rfl
 have x06:(w.alloc (.cells #[.int .i64 kd,.string pre,.slice ma ms.length mc,.int .i64 th,.string nm,.string pb,.slice aa aps.length ac] 29)).cell? ⟨w.heap.size,6,none⟩=some (.slice aa aps.length ac):=F1.out.cell 0 6 rfl rfl
 go_enter Tryz.func58,Tryz.ntmps58
 by_cases h0:kd<0
 ·have d0:decide (kd<0)=true:=decide_eq_true h0
  have HE:=zh (show R=false by rw[HR.out,decide_eq_false (show ¬ 0<=kd by omega)]<;>rfl)
  go_wp2_with fail
  go_ret
  exact⟨by rw[HE.out]<;>rfl,F1.out.under⟩
 have d0:decide (kd<0)=false:=decide_eq_false h0
 by_cases h4:4<kd
 ·have d4:decide ((4:Int)<kd)=true:=decide_eq_true h4
  have HE:=zh (show R=false by rw[HR.out,decide_eq_true (show 0<=kd by omega),decide_eq_false (show ¬ kd<=4 by omega)]<;>rfl)
  go_wp2_with fail
  go_ret
  exact⟨by rw[HE.out]<;>rfl,F1.out.under⟩
 have d4:decide ((4:Int)<kd)=false:=decide_eq_false h4
 have hr1:R=(Own.BI pre&&decide (aps.length<=8)&&PM&&PN):=by rw[HR.out,decide_eq_true (show 0<=kd by omega),decide_eq_true (show kd<=4 by omega)]<;>rfl
 have HR1:=zh hr1;clear hr1 HR
 go_upto_region 1 with fail
 generalize (w.alloc (.cells #[.int .i64 kd,.string pre,.slice ma ms.length mc,.int .i64 th,.string nm,.string pb,.slice aa aps.length ac] 29))=w1 at*
 go_wp2_with fail
 refine(HCP.out w1).mono ?_
 rintro e w2 ⟨rfl,rfl⟩
 have F2:=F1
 cases hpo:Own.BI pre with
 | false =>
   have HE:=zh (show R=false by rw[HR1.out,hpo]<;>rfl)
   clear hpo
   go_wp2_with fail
   go_ret
   exact⟨by rw[HE.out]<;>rfl,F2.out.under⟩
 | true=>
 by_cases h8:8<aps.length
 ·have d8:decide ((8:Int)<(aps.length:Int))=true:=zt
  have d8' : decide (8<aps.length)=true:=decide_eq_true h8
  have HE:=zh (show R=false by rw[HR1.out,hpo,decide_eq_false (show ¬ aps.length<=8 by omega)]<;>rfl)
  clear hpo
  go_wp2_with fail
  go_ret
  exact⟨by rw[HE.out]<;>rfl,F2.out.under⟩
 have d8:decide ((8:Int)<(aps.length:Int))=false:=zf
 have d8' : decide (8<aps.length)=false:=decide_eq_false h8
 have hr2:R=(PM&&PN):=by rw[HR1.out,hpo,decide_eq_true (show aps.length<=8 by omega)]<;>rfl
 have HR2:=zh hr2;clear hr2 hpo HR1
 by_cases hk2:kd<=2
 ·have k3:(kd==3)=false:=by rw[beq_eq_false_iff_ne];omega
  have k4:(kd==4)=false:=by rw[beq_eq_false_iff_ne];omega
  have hpm:=HPM.out
  rw[if_neg (show ¬ (3:Int)<=kd by omega)] at hpm
  have Ub:=zh hpm;clear hpm HPM
  go_wp2_with fail
  refine(HCM.out w2 F2.out.under).mono ?_
  rintro e w3 ⟨rfl,hb3⟩
  have F3:=zh (F2.out.step hb3);clear hb3
  (try clear x00);(try clear x01);(try clear x02);(try clear x03);(try clear x04);(try clear x05);(try clear x06)
  obtain⟨x00,x01,x02,x03,x04,x05,x06⟩:=F3.out.JI rfl
  cases hmo:Own.Co ms with
  | false =>
    have HE:=zh (show R=false by rw[HR2.out,Ub.out,hmo]<;>rfl)
    clear hmo
    go_wp2_with fail
    go_ret
    exact⟨by rw[HE.out]<;>rfl,F3.out.under⟩
  | true=>
  by_cases ht1:th<1
  ·have dt:decide (th<1)=true:=decide_eq_true ht1
   have HE:=zh (show R=false by rw[HR2.out,Ub.out,decide_eq_false (show ¬ 1<=th by omega)];simp)
   clear hmo
   go_wp2_with fail
   go_ret
   exact⟨by rw[HE.out]<;>rfl,F3.out.under⟩
  have dt:decide (th<1)=false:=decide_eq_false ht1
  by_cases ht2:(ms.length:Int)<th
  ·have du:decide ((ms.length:Int)<th)=true:=decide_eq_true ht2
   have HE:=zh (show R=false by rw[HR2.out,Ub.out,decide_eq_false (show ¬ th<=(ms.length:Int) by omega)];simp)
   clear hmo
   go_wp2_with fail
   go_ret
   exact⟨by rw[HE.out]<;>rfl,F3.out.under⟩
  have du:decide ((ms.length:Int)<th)=false:=decide_eq_false ht2
  have hpn:=HPN.out
  rw[if_neg (show ¬ kd=4 by omega)] at hpn
  have HE0:=zh (show R=PN by rw[HR2.out,Ub.out,hmo,decide_eq_true (show 1<=th by omega),decide_eq_true (show th<=(ms.length:Int) by omega)]<;>rfl)
  have Uc:=zh hpn;clear hpn HPN hmo Ub HR2
  go_upto_region 8 with fail
  by_cases hn:nm=⟨#[]⟩
  case neg=>
   have q1:nm.toList.isEmpty=false:=by rw[Bool.eq_false_iff];exact fun h=>hn ((Own.Ef nm).1 h)
   have q2:(nm.toList==[])=false:=by rw[beq_eq_false_iff_ne];intro h;rw[h] at q1;cases q1
   have HE:=zh (show R=false by rw[HE0.out,Uc.out,decide_eq_false hn]<;>rfl)
   clear hn
   go_wp2_with fail
   go_ret
   exact⟨by rw[HE.out]<;>rfl,F3.out.under⟩
  have q1:nm.toList.isEmpty=true:=(Own.Ef nm).2 hn
  have q2:(nm.toList==[])=true:=by rw[List.isEmpty_iff.1 q1]<;>rfl
  have HN:=zh hn;clear hn
  by_cases hp:pb=⟨#[]⟩
  case neg=>
   have q3:pb.toList.isEmpty=false:=by rw[Bool.eq_false_iff];exact fun h=>hp ((Own.Ef pb).1 h)
   have q4:(pb.toList==[])=false:=by rw[beq_eq_false_iff_ne];intro h;rw[h] at q3;cases q3
   have HE:=zh (show R=false by rw[HE0.out,Uc.out,decide_eq_false hp];simp)
   clear hp
   go_wp2_with fail
   go_ret
   exact⟨by rw[HE.out]<;>rfl,F3.out.under⟩
  have q3:pb.toList.isEmpty=true:=(Own.Ef pb).2 hp
  have q4:(pb.toList==[])=true:=by rw[List.isEmpty_iff.1 q3]<;>rfl
  have HE:=zh (show R=true by rw[HE0.out,Uc.out,decide_eq_true HN.out,decide_eq_true hp]<;>rfl)
  clear hp
  go_wp2_with fail
  go_ret
  exact⟨by rw[HE.out]<;>rfl,F3.out.under⟩
 ·have hkd:kd=3\/kd=4:=by omega
  rcases hkd with hk|hk
  ·have k3:(kd==3)=true:=by rw[beq_iff_eq];exact hk
   have k4:(kd==4)=false:=by rw[beq_eq_false_iff_ne];omega
   have hpm:=HPM.out
   rw[if_pos (show(3:Int)<=kd by omega)] at hpm
   have Ub:=zh hpm;clear hpm HPM
   by_cases hl0:ms.length=0
   case neg=>
    have dl:decide ((0:Int)<(ms.length:Int))=true:=zt
    have dl' : decide (0<ms.length)=true:=zt
    have HE:=zh (show R=false by rw[HR2.out,Ub.out,decide_eq_false hl0]<;>rfl)
    go_wp2_with fail
    go_ret
    exact⟨by rw[HE.out]<;>rfl,F2.out.under⟩
   have dl:decide ((0:Int)<(ms.length:Int))=false:=zf
   have dl' : decide (0<ms.length)=false:=zf
   have HL0:=zh hl0;clear hl0
   by_cases ht0:th=0
   case neg=>
    have dt:(th != 0)=true:=by rw[bne_iff_ne];exact ht0
    have dt' : (th==0)=false:=by rw[beq_eq_false_iff_ne];exact ht0
    have HE:=zh (show R=false by rw[HR2.out,Ub.out,decide_eq_false ht0];simp)
    go_wp2_with fail
    go_ret
    exact⟨by rw[HE.out]<;>rfl,F2.out.under⟩
   have HT0:=zh ht0
   have dt:(th != 0)=false:=by rw[bne_eq_false_iff_eq];exact ht0
   have dt' : (th==0)=true:=by rw[beq_iff_eq];exact ht0
   clear ht0
   have HE0:=zh (show R=PN by rw[HR2.out,Ub.out,decide_eq_true HL0.out,decide_eq_true HT0.out]<;>rfl)
   clear Ub HR2
   have hpn:=HPN.out
   rw[if_neg (show ¬ kd=4 by omega)] at hpn
   have Uc:=zh hpn;clear hpn HPN hk
   go_upto_region 8 with fail
   by_cases hn:nm=⟨#[]⟩
   case neg=>
    have q1:nm.toList.isEmpty=false:=by rw[Bool.eq_false_iff];exact fun h=>hn ((Own.Ef nm).1 h)
    have q2:(nm.toList==[])=false:=by rw[beq_eq_false_iff_ne];intro h;rw[h] at q1;cases q1
    have HE:=zh (show R=false by rw[HE0.out,Uc.out,decide_eq_false hn]<;>rfl)
    clear hn
    go_wp2_with fail
    go_ret
    exact⟨by rw[HE.out]<;>rfl,F2.out.under⟩
   have q1:nm.toList.isEmpty=true:=(Own.Ef nm).2 hn
   have q2:(nm.toList==[])=true:=by rw[List.isEmpty_iff.1 q1]<;>rfl
   have HN:=zh hn;clear hn
   by_cases hp:pb=⟨#[]⟩
   case neg=>
    have q3:pb.toList.isEmpty=false:=by rw[Bool.eq_false_iff];exact fun h=>hp ((Own.Ef pb).1 h)
    have q4:(pb.toList==[])=false:=by rw[beq_eq_false_iff_ne];intro h;rw[h] at q3;cases q3
    have HE:=zh (show R=false by rw[HE0.out,Uc.out,decide_eq_false hp];simp)
    clear hp
    go_wp2_with fail
    go_ret
    exact⟨by rw[HE.out]<;>rfl,F2.out.under⟩
   have q3:pb.toList.isEmpty=true:=(Own.Ef pb).2 hp
   have q4:(pb.toList==[])=true:=by rw[List.isEmpty_iff.1 q3]<;>rfl
   have HE:=zh (show R=true by rw[HE0.out,Uc.out,decide_eq_true HN.out,decide_eq_true hp]<;>rfl)
   clear hp
   go_wp2_with fail
   go_ret
   exact⟨by rw[HE.out]<;>rfl,F2.out.under⟩
  ·have k3:(kd==3)=false:=by rw[beq_eq_false_iff_ne];omega
   have k4:(kd==4)=true:=by rw[beq_iff_eq];exact hk
   have hpm:=HPM.out
   rw[if_pos (show(3:Int)<=kd by omega)] at hpm
   have Ub:=zh hpm;clear hpm HPM
   by_cases hl0:ms.length=0
   case neg=>
    have dl:decide ((0:Int)<(ms.length:Int))=true:=zt
    have dl' : decide (0<ms.length)=true:=zt
    have HE:=zh (show R=false by rw[HR2.out,Ub.out,decide_eq_false hl0]<;>rfl)
    go_wp2_with fail
    go_ret
    exact⟨by rw[HE.out]<;>rfl,F2.out.under⟩
   have dl:decide ((0:Int)<(ms.length:Int))=false:=zf
   have dl' : decide (0<ms.length)=false:=zf
   have HL0:=zh hl0;clear hl0
   by_cases ht0:th=0
   case neg=>
    have dt:(th != 0)=true:=by rw[bne_iff_ne];exact ht0
    have dt' : (th==0)=false:=by rw[beq_eq_false_iff_ne];exact ht0
    have HE:=zh (show R=false by rw[HR2.out,Ub.out,decide_eq_false ht0];simp)
    go_wp2_with fail
    go_ret
    exact⟨by rw[HE.out]<;>rfl,F2.out.under⟩
   have HT0:=zh ht0
   have dt:(th != 0)=false:=by rw[bne_eq_false_iff_eq];exact ht0
   have dt' : (th==0)=true:=by rw[beq_iff_eq];exact ht0
   clear ht0
   have HE0:=zh (show R=PN by rw[HR2.out,Ub.out,decide_eq_true HL0.out,decide_eq_true HT0.out]<;>rfl)
   clear Ub HR2
   have hpn:=HPN.out
   rw[if_pos hk] at hpn
   have Uc:=zh hpn;clear hpn HPN hk
   go_upto_region 9 with fail
   by_cases n1:1<=nm.size
   case neg=>
    have m1:decide ((1:Int)<=(nm.size:Int))=false:=zf
    have m1' : decide (1<=nm.size)=false:=decide_eq_false n1
    have HE:=zh (show R=false by rw[HE0.out,Uc.out];unfold Own.EG;rw[decide_eq_false n1];rfl)
    go_wp2_with fail
    go_ret
    exact⟨by rw[HE.out]<;>rfl,F2.out.under⟩
   have m1:decide ((1:Int)<=(nm.size:Int))=true:=zt
   have m1' : decide (1<=nm.size)=true:=decide_eq_true n1
   by_cases n2:nm.size<=32
   case neg=>
    have m2:decide ((nm.size:Int)<=32)=false:=zf
    have m2' : decide (nm.size<=32)=false:=decide_eq_false n2
    have HE:=zh (show R=false by rw[HE0.out,Uc.out];unfold Own.EG;rw[decide_eq_false n2];simp)
    go_wp2_with fail
    go_ret
    exact⟨by rw[HE.out]<;>rfl,F2.out.under⟩
   have m2:decide ((nm.size:Int)<=32)=true:=zt
   have m2' : decide (nm.size<=32)=true:=decide_eq_true n2
   have HE:=zh (show R=Sig.Bn pb by rw[HE0.out,Uc.out];unfold Own.EG;rw[decide_eq_true n1,decide_eq_true n2];rfl)
   go_wp2_with fail
   refine(HCQ.out _).mono ?_
   rintro e _ ⟨rfl,rfl⟩
   go_wp2_with fail
   go_ret
   exact⟨by rw[HE.out]<;>rfl,F2.out.under⟩
structure Rd0 (w wr:World):Prop where
 at0:At wr w.heap.size 29 #[.int .i64 0,.string ⟨#[]⟩,.slice none 0 0,.int .i64 0,.string ⟨#[]⟩,.string ⟨#[]⟩,.slice none 0 0]
 at1:At wr (w.heap.size+1) 29 #[.int .i64 0,.string ⟨#[]⟩,.slice none 0 0,.int .i64 0,.string ⟨#[]⟩,.string ⟨#[]⟩,.slice none 0 0]
 bel:Below w.heap.size w wr
structure RdI (w:World) (cs:Array Value) (wr:World):Prop extends Rd0 w wr where
 op:At wr (w.heap.size+2) 29 cs
theorem RdI.under {w wr wr' : World}{cs:Array Value}(h:RdI w cs wr)(hb:Below wr.heap.size wr wr'):RdI w cs wr' :=
 ⟨⟨h.at0.below hb h.at0.lt,h.at1.below hb h.at1.lt,h.bel.trans (hb.mono h.bel.size)⟩,h.op.below hb h.op.lt⟩
theorem RdI.grown {w wr wr' : World}{cs:Array Value}(h:RdI w cs wr){row:Option Nat}(hg:wr.grownBy wr' row)(hr:∀ k,row=some k->w.heap.size+3<=k):RdI w cs wr' :=
 ⟨⟨h.at0.grown hg (fun e=>by have:=hr _ e.symm;omega),h.at1.grown hg (fun e=>by have:=hr _ e.symm;omega),h.bel.grown hg h.bel.size (fun k hk=>by have:=hr k hk;omega)⟩,h.op.grown hg (fun e=>by have:=hr _ e.symm;omega)⟩
theorem RdI.put {w wr:World}{cs:Array Value}(h:RdI w cs wr)(i:Nat)(u:Value):RdI w (cs.setIfInBounds i u) (wr.setCell ⟨w.heap.size+2,i,none⟩ u):=
 ⟨⟨h.at0.far (by show w.heap.size≠w.heap.size+2;omega) u,h.at1.far (by show w.heap.size+1≠w.heap.size+2;omega) u,h.bel.setCell (by show w.heap.size<=w.heap.size+2;omega) u⟩,h.op.set i u⟩
theorem zci (s:ByteArray)(w:World)(hs:s.size<=1000000):
 Calls Tryz.prog 27 #[.string s] w (Own.eY w (Own.MJ s)):=by
 obtain⟨D,hD⟩:∃ D,D=Own.MJ s:=⟨_,rfl⟩
 obtain⟨R,hR⟩:∃ R,R=Own.eY w D:=⟨_,rfl⟩
 rw[<- hD,<- hR]
 rw[Own.zcW] at hD
 unfold Own.zcR at hD
 have HR:=zh hR;have HD:=zh hD;clear hR hD
 go_enter Tryz.func27,Tryz.ntmps27
 go_wp2_with fail
 have hde:Rd0 w ((w.alloc (.cells #[.int .i64 0,.string ⟨#[]⟩,.slice none 0 0,.int .i64 0,.string ⟨#[]⟩,.string ⟨#[]⟩,.slice none 0 0] 29)).alloc (.cells #[.int .i64 0,.string ⟨#[]⟩,.slice none 0 0,.int .i64 0,.string ⟨#[]⟩,.string ⟨#[]⟩,.slice none 0 0] 29)):=
  ⟨(At.new w _ _).alloc _,At.new1 w _ _ _,zb.alloc (by simp) _⟩
 have hsz:((w.alloc (.cells #[.int .i64 0,.string ⟨#[]⟩,.slice none 0 0,.int .i64 0,.string ⟨#[]⟩,.string ⟨#[]⟩,.slice none 0 0] 29)).alloc (.cells #[.int .i64 0,.string ⟨#[]⟩,.slice none 0 0,.int .i64 0,.string ⟨#[]⟩,.string ⟨#[]⟩,.slice none 0 0] 29)).heap.size=w.heap.size+2:=by simp
 have O1:=zh hde;clear hde
 generalize (w.alloc (.cells #[.int .i64 0,.string ⟨#[]⟩,.slice none 0 0,.int .i64 0,.string ⟨#[]⟩,.string ⟨#[]⟩,.slice none 0 0] 29)).alloc (.cells #[.int .i64 0,.string ⟨#[]⟩,.slice none 0 0,.int .i64 0,.string ⟨#[]⟩,.string ⟨#[]⟩,.slice none 0 0] 29)=w1 at*
 have HSZ:=zh hsz;clear hsz
 go_wp2_with fail
 refine(zb8 s 0 _ (Nat.zero_le _) (by omega)).mono ?_
 rintro e w' ⟨hp,hww⟩;subst w'
 cases h1:Cod.rdN s 0 with
 | none =>
   rw[h1] at hp
   obtain⟨n,b,rfl⟩:=hp
   have HE:=zh (show D=(.none,9) by rw[HD.out,h1]<;>rfl)
   clear h1
   have y0:=O1.out.at0.free 0;have y1:=O1.out.at0.free 1;have y2:=O1.out.at0.free 2;have y3:=O1.out.at0.free 3;have y4:=O1.out.at0.free 4;have y5:=O1.out.at0.free 5;have y6:=O1.out.at0.free 6
   have z0:=O1.out.at0.cell 0;have z1:=O1.out.at0.cell 1;have z2:=O1.out.at0.cell 2;have z3:=O1.out.at0.cell 3;have z4:=O1.out.at0.cell 4;have z5:=O1.out.at0.cell 5;have z6:=O1.out.at0.cell 6
   have x0:=O1.out.at1.cell 0;have x1:=O1.out.at1.cell 1;have x2:=O1.out.at1.cell 2;have x3:=O1.out.at1.cell 3;have x4:=O1.out.at1.cell 4;have x5:=O1.out.at1.cell 5;have x6:=O1.out.at1.cell 6
   simp only[zg] at z0 z1 z2 z3 z4 z5 z6 x0 x1 x2 x3 x4 x5 x6
   go_wp2_with fail
   refine BJ rfl rfl rfl (AJ (At.Qc O1.out.at0 _ _ _ _ _ _ _) Tryz.underlying29 rfl EX) ?_
   rw[HR.out,HE.out]
   exact⟨⟨_,_,rfl,Aq.nil _ _,Aq.nil _ _⟩,WY (b:=w.heap.size) O1.out.bel (Nat.le_refl _) _ _ _ _ _ _ _⟩
 | some y=>
 obtain⟨kd,a1⟩:=y
 rw[h1] at hp
 obtain rfl:=(show e=.returned (.tuple #[.int .i64 kd,.int .i64 a1,.bool true]) from hp)
 have la1:=(Cod.Fa h1).2.1
 have hd:=HD.out
 rw[h1] at hd
 dsimp only at hd
 have HD:=zh hd
 clear hd hp
 go_wp2_with fail
 refine(zb9 s a1 _ la1 (by omega)).mono ?_
 rintro e w' ⟨hp,hww⟩;subst w'
 cases h2:Cod.rdT s a1 with
 | none =>
   rw[h2] at hp
   obtain rfl:=(show e=.returned (.tuple #[.string ⟨#[]⟩,.int .i64 0,.bool false]) from hp)
   have HE:=zh (show D=(.none,9) by rw[HD.out,h2]<;>rfl)
   clear h2
   have y0:=O1.out.at0.free 0;have y1:=O1.out.at0.free 1;have y2:=O1.out.at0.free 2;have y3:=O1.out.at0.free 3;have y4:=O1.out.at0.free 4;have y5:=O1.out.at0.free 5;have y6:=O1.out.at0.free 6
   have z0:=O1.out.at0.cell 0;have z1:=O1.out.at0.cell 1;have z2:=O1.out.at0.cell 2;have z3:=O1.out.at0.cell 3;have z4:=O1.out.at0.cell 4;have z5:=O1.out.at0.cell 5;have z6:=O1.out.at0.cell 6
   have x0:=O1.out.at1.cell 0;have x1:=O1.out.at1.cell 1;have x2:=O1.out.at1.cell 2;have x3:=O1.out.at1.cell 3;have x4:=O1.out.at1.cell 4;have x5:=O1.out.at1.cell 5;have x6:=O1.out.at1.cell 6
   simp only[zg] at z0 z1 z2 z3 z4 z5 z6 x0 x1 x2 x3 x4 x5 x6
   go_wp2_with fail
   refine BJ rfl rfl rfl (AJ (At.Qc O1.out.at0 _ _ _ _ _ _ _) Tryz.underlying29 rfl EX) ?_
   rw[HR.out,HE.out]
   exact⟨⟨_,_,rfl,Aq.nil _ _,Aq.nil _ _⟩,WY (b:=w.heap.size) O1.out.bel (Nat.le_refl _) _ _ _ _ _ _ _⟩
 | some y=>
 obtain⟨pre,a2⟩:=y
 rw[h2] at hp
 obtain rfl:=(show e=.returned (.tuple #[.string pre,.int .i64 a2,.bool true]) from hp)
 have la2:=(Cod.Mc h2).2.1
 have hd:=HD.out
 rw[h2] at hd
 dsimp only at hd
 have HD:=zh hd
 clear hd hp
 have HPS:=zh (show pre.size<=s.size by have:=mX (s:=s) (r:=⟨a1,0⟩);rw[Own.OI,h2] at this;exact this)
 go_wp2_with fail
 refine(zb8 s a2 _ la2 (by omega)).mono ?_
 rintro e w' ⟨hp,hww⟩;subst w'
 cases h3:Cod.rdN s a2 with
 | none =>
   rw[h3] at hp
   obtain⟨n,b,rfl⟩:=hp
   have HE:=zh (show D=(.none,9) by rw[HD.out,h3]<;>rfl)
   clear h3
   have y0:=O1.out.at0.free 0;have y1:=O1.out.at0.free 1;have y2:=O1.out.at0.free 2;have y3:=O1.out.at0.free 3;have y4:=O1.out.at0.free 4;have y5:=O1.out.at0.free 5;have y6:=O1.out.at0.free 6
   have z0:=O1.out.at0.cell 0;have z1:=O1.out.at0.cell 1;have z2:=O1.out.at0.cell 2;have z3:=O1.out.at0.cell 3;have z4:=O1.out.at0.cell 4;have z5:=O1.out.at0.cell 5;have z6:=O1.out.at0.cell 6
   have x0:=O1.out.at1.cell 0;have x1:=O1.out.at1.cell 1;have x2:=O1.out.at1.cell 2;have x3:=O1.out.at1.cell 3;have x4:=O1.out.at1.cell 4;have x5:=O1.out.at1.cell 5;have x6:=O1.out.at1.cell 6
   simp only[zg] at z0 z1 z2 z3 z4 z5 z6 x0 x1 x2 x3 x4 x5 x6
   go_wp2_with fail
   refine BJ rfl rfl rfl (AJ (At.Qc O1.out.at0 _ _ _ _ _ _ _) Tryz.underlying29 rfl EX) ?_
   rw[HR.out,HE.out]
   exact⟨⟨_,_,rfl,Aq.nil _ _,Aq.nil _ _⟩,WY (b:=w.heap.size) O1.out.bel (Nat.le_refl _) _ _ _ _ _ _ _⟩
 | some y=>
 obtain⟨n,a3⟩:=y
 rw[h3] at hp
 obtain rfl:=(show e=.returned (.tuple #[.int .i64 n,.int .i64 a3,.bool true]) from hp)
 have la3:=(Cod.Fa h3).2.1
 have hd:=HD.out
 rw[h3] at hd
 dsimp only at hd
 have HD:=zh hd
 clear hd hp
 by_cases hn:8<n
 ·have HE:=zh (show D=(.none,9) by rw[HD.out,if_pos hn]<;>rfl)
  have d8:decide ((8:Int)<n)=true:=zt
  have y0:=O1.out.at0.free 0;have y1:=O1.out.at0.free 1;have y2:=O1.out.at0.free 2;have y3:=O1.out.at0.free 3;have y4:=O1.out.at0.free 4;have y5:=O1.out.at0.free 5;have y6:=O1.out.at0.free 6
  have z0:=O1.out.at0.cell 0;have z1:=O1.out.at0.cell 1;have z2:=O1.out.at0.cell 2;have z3:=O1.out.at0.cell 3;have z4:=O1.out.at0.cell 4;have z5:=O1.out.at0.cell 5;have z6:=O1.out.at0.cell 6
  have x0:=O1.out.at1.cell 0;have x1:=O1.out.at1.cell 1;have x2:=O1.out.at1.cell 2;have x3:=O1.out.at1.cell 3;have x4:=O1.out.at1.cell 4;have x5:=O1.out.at1.cell 5;have x6:=O1.out.at1.cell 6
  simp only[zg] at z0 z1 z2 z3 z4 z5 z6 x0 x1 x2 x3 x4 x5 x6
  go_wp2_with fail
  refine BJ rfl rfl rfl (AJ (At.Qc O1.out.at0 _ _ _ _ _ _ _) Tryz.underlying29 rfl EX) ?_
  rw[HR.out,HE.out]
  exact⟨⟨_,_,rfl,Aq.nil _ _,Aq.nil _ _⟩,WY (b:=w.heap.size) O1.out.bel (Nat.le_refl _) _ _ _ _ _ _ _⟩
 have d8:decide ((8:Int)<n)=false:=zf
 have hd:=HD.out
 rw[if_neg hn] at hd
 have HD:=zh hd
 have n8:n<=8:=by omega
 clear hd hn h1 h2 h3
 go_wp2_with fail
 have hp0:RdI w #[.int .i64 kd,.string pre,.slice none 0 0,.int .i64 0,.string ⟨#[]⟩,.string ⟨#[]⟩,.slice none 0 0] (w1.alloc (.cells #[.int .i64 kd,.string pre,.slice none 0 0,.int .i64 0,.string ⟨#[]⟩,.string ⟨#[]⟩,.slice none 0 0] 29)):=
  ⟨⟨O1.out.at0.alloc _,O1.out.at1.alloc _,O1.out.bel.alloc O1.out.bel.size _⟩,by rw[<- HSZ.out];exact At.new _ _ _⟩
 have P0:=zh hp0;clear hp0
 rw[HSZ.out]
 generalize w1.alloc (.cells #[.int .i64 kd,.string pre,.slice none 0 0,.int .i64 0,.string ⟨#[]⟩,.string ⟨#[]⟩,.slice none 0 0] 29)=w2 at*
 clear O1 HSZ
 go_loopw [6,11] (fun at_ i wr=>∃ (k:Nat) (l:List Own.Member) (v:Value) (p:Nat),k<=n/\i=.int .i64 k/\at_=.int .i64 p/\l.length=k/\p<=s.size/\wr.ownsRow (w.heap.size+3) 76 2 v l.length (l.flatMap Own.Cy)/\RdI w #[.int .i64 kd,.string pre,v,.int .i64 0,.string ⟨#[]⟩,.string ⟨#[]⟩,.slice none 0 0] wr/\Own.IL s n a3=(match Own.IL s (n-k) p with|some (l2,c)=>some (l++l2,c)|none=>none)) (fun _ i _=>n-(intOf i).toNat)
 case atStart=>
  refine⟨0,[],_,a3,by omega,rfl,rfl,rfl,la3,⟨rfl,.inl ⟨rfl,rfl⟩⟩,P0.out,?_⟩
  rw[Nat.sub_zero]
  cases Own.IL s n a3 with
  | none=>rfl
  | some y=>obtain⟨l,c⟩:=y;rfl
 case round=>
  obtain⟨k,l,v,p,hk,rfl,rfl,hll,hp,hown,hpi,htr⟩:=hrel
  obtain⟨va,vm,vc,rfl⟩:=Ac hown
  obtain rfl:=Ba hown
  have HO:=zh hown;have P2:=zh hpi;have HT:=zh htr;have HLL:=zh hll
  clear hown hpi htr hll P0
  by_cases hlt:k<n
  case neg=>
   have hke:k=n:=by omega
   have dk:decide ((k:Int)<n)=false:=zf
   have htr:=HT.out
   rw[hke,Nat.sub_self] at htr
   rw[show Own.IL s 0 p=some ([],p) from rfl] at htr
   dsimp only at htr
   rw[List.append_nil] at htr
   have hd:=HD.out
   rw[htr] at hd
   dsimp only at hd
   have HD:=zh hd
   have ZM:=zh (show l.length<=8 by rw[HLL.out];omega)
   clear hd htr HT hk hke HLL
   have c3:=P2.out.op.cell 3;have c3f:=P2.out.op.free 3
   simp only[List.setIfInBounds_toArray,List.set_cons_zero,List.set_cons_succ,List.getElem?_toArray,List.getElem?_cons_zero,List.getElem?_cons_succ] at c3
   go_wp2_with fail
   refine(zb8 s p _ hp (by omega)).mono ?_
   rintro e w' ⟨hp,hww⟩;subst w'
   cases h5:Cod.rdN s p with
   | none =>
     rw[h5] at hp
     obtain⟨n',b',rfl⟩:=hp
     have HE:=zh (show D=(.none,9) by rw[HD.out,h5]<;>rfl)
     clear h5
     go_upto_region 24 with fail
     have P3:=zh (P2.out.put 3 (.int .i64 n'))
     have HO3:=zh (Ae (w':=wr.setCell ⟨w.heap.size+2,3,none⟩ (.int .i64 n')) HO.out (fun k hk=>zo (by have:=Ak HO.out k hk;show k≠w.heap.size+2;omega)))
     generalize wr.setCell ⟨w.heap.size+2,3,none⟩ (.int .i64 n')=w3 at*
     clear c3 c3f
     have y0:=P3.out.at0.free 0;have y1:=P3.out.at0.free 1;have y2:=P3.out.at0.free 2;have y3:=P3.out.at0.free 3;have y4:=P3.out.at0.free 4;have y5:=P3.out.at0.free 5;have y6:=P3.out.at0.free 6
     have z0:=P3.out.at0.cell 0;have z1:=P3.out.at0.cell 1;have z2:=P3.out.at0.cell 2;have z3:=P3.out.at0.cell 3;have z4:=P3.out.at0.cell 4;have z5:=P3.out.at0.cell 5;have z6:=P3.out.at0.cell 6
     have x0:=P3.out.at1.cell 0;have x1:=P3.out.at1.cell 1;have x2:=P3.out.at1.cell 2;have x3:=P3.out.at1.cell 3;have x4:=P3.out.at1.cell 4;have x5:=P3.out.at1.cell 5;have x6:=P3.out.at1.cell 6
     simp only[zg] at z0 z1 z2 z3 z4 z5 z6 x0 x1 x2 x3 x4 x5 x6
     go_wp2_with fail
     refine BJ rfl rfl rfl (AJ (At.Qc P3.out.at0 _ _ _ _ _ _ _) Tryz.underlying29 rfl EX) ?_
     rw[HR.out,HE.out]
     exact⟨⟨_,_,rfl,Aq.nil _ _,Aq.nil _ _⟩,WY (b:=w.heap.size) P3.out.bel (Nat.le_refl _) _ _ _ _ _ _ _⟩
   | some y=>
   obtain⟨th,a5⟩:=y
   rw[h5] at hp
   obtain rfl:=(show e=.returned (.tuple #[.int .i64 th,.int .i64 a5,.bool true]) from hp)
   have la5:=(Cod.Fa h5).2.1
   have hd:=HD.out
   rw[h5] at hd
   dsimp only at hd
   have HD:=zh hd
   clear hd hp h5
   go_upto_region 24 with fail
   have P3:=zh (P2.out.put 3 (.int .i64 th))
   have HO3:=zh (Ae (w':=wr.setCell ⟨w.heap.size+2,3,none⟩ (.int .i64 th)) HO.out (fun k hk=>zo (by have:=Ak HO.out k hk;show k≠w.heap.size+2;omega)))
   generalize wr.setCell ⟨w.heap.size+2,3,none⟩ (.int .i64 th)=w3 at*
   clear c3 c3f
   clear P2 HO
   have c4:=P3.out.op.cell 4;have c4f:=P3.out.op.free 4
   simp only[List.setIfInBounds_toArray,List.set_cons_zero,List.set_cons_succ,List.getElem?_toArray,List.getElem?_cons_zero,List.getElem?_cons_succ] at c4
   go_wp2_with fail
   refine(zb9 s a5 _ la5 (by omega)).mono ?_
   rintro e w' ⟨hp,hww⟩;subst w'
   cases h6:Cod.rdT s a5 with
   | none =>
     rw[h6] at hp
     obtain rfl:=(show e=.returned (.tuple #[.string ⟨#[]⟩,.int .i64 0,.bool false]) from hp)
     have HE:=zh (show D=(.none,9) by rw[HD.out,h6]<;>rfl)
     clear h6
     go_upto_region 27 with fail
     have P4:=zh (P3.out.put 4 (.string ⟨#[]⟩))
     have HO4:=zh (Ae (w':=w3.setCell ⟨w.heap.size+2,4,none⟩ (.string ⟨#[]⟩)) HO3.out (fun k hk=>zo (by have:=Ak HO3.out k hk;show k≠w.heap.size+2;omega)))
     generalize w3.setCell ⟨w.heap.size+2,4,none⟩ (.string ⟨#[]⟩)=w4 at*
     clear c4 c4f
     have y0:=P4.out.at0.free 0;have y1:=P4.out.at0.free 1;have y2:=P4.out.at0.free 2;have y3:=P4.out.at0.free 3;have y4:=P4.out.at0.free 4;have y5:=P4.out.at0.free 5;have y6:=P4.out.at0.free 6
     have z0:=P4.out.at0.cell 0;have z1:=P4.out.at0.cell 1;have z2:=P4.out.at0.cell 2;have z3:=P4.out.at0.cell 3;have z4:=P4.out.at0.cell 4;have z5:=P4.out.at0.cell 5;have z6:=P4.out.at0.cell 6
     have x0:=P4.out.at1.cell 0;have x1:=P4.out.at1.cell 1;have x2:=P4.out.at1.cell 2;have x3:=P4.out.at1.cell 3;have x4:=P4.out.at1.cell 4;have x5:=P4.out.at1.cell 5;have x6:=P4.out.at1.cell 6
     simp only[zg] at z0 z1 z2 z3 z4 z5 z6 x0 x1 x2 x3 x4 x5 x6
     go_wp2_with fail
     refine BJ rfl rfl rfl (AJ (At.Qc P4.out.at0 _ _ _ _ _ _ _) Tryz.underlying29 rfl EX) ?_
     rw[HR.out,HE.out]
     exact⟨⟨_,_,rfl,Aq.nil _ _,Aq.nil _ _⟩,WY (b:=w.heap.size) P4.out.bel (Nat.le_refl _) _ _ _ _ _ _ _⟩
   | some y=>
   obtain⟨nm,a6⟩:=y
   rw[h6] at hp
   obtain rfl:=(show e=.returned (.tuple #[.string nm,.int .i64 a6,.bool true]) from hp)
   have la6:=(Cod.Mc h6).2.1
   have hd:=HD.out
   rw[h6] at hd
   dsimp only at hd
   have HD:=zh hd
   clear hd hp h6
   go_upto_region 27 with fail
   have P4:=zh (P3.out.put 4 (.string nm))
   have HO4:=zh (Ae (w':=w3.setCell ⟨w.heap.size+2,4,none⟩ (.string nm)) HO3.out (fun k hk=>zo (by have:=Ak HO3.out k hk;show k≠w.heap.size+2;omega)))
   generalize w3.setCell ⟨w.heap.size+2,4,none⟩ (.string nm)=w4 at*
   clear c4 c4f
   clear P3 HO3
   have c5:=P4.out.op.cell 5;have c5f:=P4.out.op.free 5
   simp only[List.setIfInBounds_toArray,List.set_cons_zero,List.set_cons_succ,List.getElem?_toArray,List.getElem?_cons_zero,List.getElem?_cons_succ] at c5
   go_wp2_with fail
   refine(zb9 s a6 _ la6 (by omega)).mono ?_
   rintro e w' ⟨hp,hww⟩;subst w'
   cases h7:Cod.rdT s a6 with
   | none =>
     rw[h7] at hp
     obtain rfl:=(show e=.returned (.tuple #[.string ⟨#[]⟩,.int .i64 0,.bool false]) from hp)
     have HE:=zh (show D=(.none,9) by rw[HD.out,h7]<;>rfl)
     clear h7
     go_upto_region 30 with fail
     have P5:=zh (P4.out.put 5 (.string ⟨#[]⟩))
     have HO5:=zh (Ae (w':=w4.setCell ⟨w.heap.size+2,5,none⟩ (.string ⟨#[]⟩)) HO4.out (fun k hk=>zo (by have:=Ak HO4.out k hk;show k≠w.heap.size+2;omega)))
     generalize w4.setCell ⟨w.heap.size+2,5,none⟩ (.string ⟨#[]⟩)=w5 at*
     clear c5 c5f
     have y0:=P5.out.at0.free 0;have y1:=P5.out.at0.free 1;have y2:=P5.out.at0.free 2;have y3:=P5.out.at0.free 3;have y4:=P5.out.at0.free 4;have y5:=P5.out.at0.free 5;have y6:=P5.out.at0.free 6
     have z0:=P5.out.at0.cell 0;have z1:=P5.out.at0.cell 1;have z2:=P5.out.at0.cell 2;have z3:=P5.out.at0.cell 3;have z4:=P5.out.at0.cell 4;have z5:=P5.out.at0.cell 5;have z6:=P5.out.at0.cell 6
     have x0:=P5.out.at1.cell 0;have x1:=P5.out.at1.cell 1;have x2:=P5.out.at1.cell 2;have x3:=P5.out.at1.cell 3;have x4:=P5.out.at1.cell 4;have x5:=P5.out.at1.cell 5;have x6:=P5.out.at1.cell 6
     simp only[zg] at z0 z1 z2 z3 z4 z5 z6 x0 x1 x2 x3 x4 x5 x6
     go_wp2_with fail
     refine BJ rfl rfl rfl (AJ (At.Qc P5.out.at0 _ _ _ _ _ _ _) Tryz.underlying29 rfl EX) ?_
     rw[HR.out,HE.out]
     exact⟨⟨_,_,rfl,Aq.nil _ _,Aq.nil _ _⟩,WY (b:=w.heap.size) P5.out.bel (Nat.le_refl _) _ _ _ _ _ _ _⟩
   | some y=>
   obtain⟨pb,a7⟩:=y
   rw[h7] at hp
   obtain rfl:=(show e=.returned (.tuple #[.string pb,.int .i64 a7,.bool true]) from hp)
   have la7:=(Cod.Mc h7).2.1
   have hd:=HD.out
   rw[h7] at hd
   dsimp only at hd
   have HD:=zh hd
   clear hd hp h7
   go_upto_region 30 with fail
   have P5:=zh (P4.out.put 5 (.string pb))
   have HO5:=zh (Ae (w':=w4.setCell ⟨w.heap.size+2,5,none⟩ (.string pb)) HO4.out (fun k hk=>zo (by have:=Ak HO4.out k hk;show k≠w.heap.size+2;omega)))
   generalize w4.setCell ⟨w.heap.size+2,5,none⟩ (.string pb)=w5 at*
   clear c5 c5f
   clear P4 HO4
   have c6:=P5.out.op.cell 6;have c6f:=P5.out.op.free 6
   simp only[List.setIfInBounds_toArray,List.set_cons_zero,List.set_cons_succ,List.getElem?_toArray,List.getElem?_cons_zero,List.getElem?_cons_succ] at c6
   go_wp2_with fail
   refine(zcf s a7 _ la7 hs).mono ?_
   rintro e w6 hp
   cases h8:Own.zbP s a7 with
   | none =>
     rw[h8] at hp
     obtain⟨rfl,hb⟩:=(show e=.returned (.tuple #[.slice none 0 0,.int .i64 0,.bool false])/\Below w5.heap.size w5 w6 from hp)
     have HE:=zh (show D=(.none,9) by rw[HD.out,h8]<;>rfl)
     have P6:=zh (P5.out.under hb);have HO6:=zh (own_below HO5.out hb)
     clear h8 hp hb c6 c6f
     have c6:=P6.out.op.cell 6;have c6f:=P6.out.op.free 6
     simp only[List.setIfInBounds_toArray,List.set_cons_zero,List.set_cons_succ,List.getElem?_toArray,List.getElem?_cons_zero,List.getElem?_cons_succ] at c6
     go_upto_region 33 with fail
     have P7:=zh (P6.out.put 6 (.slice none 0 0))
     have HO7:=zh (Ae (w':=w6.setCell ⟨w.heap.size+2,6,none⟩ (.slice none 0 0)) HO6.out (fun k hk=>zo (by have:=Ak HO6.out k hk;show k≠w.heap.size+2;omega)))
     generalize w6.setCell ⟨w.heap.size+2,6,none⟩ (.slice none 0 0)=w7 at*
     clear c6 c6f
     have y0:=P7.out.at0.free 0;have y1:=P7.out.at0.free 1;have y2:=P7.out.at0.free 2;have y3:=P7.out.at0.free 3;have y4:=P7.out.at0.free 4;have y5:=P7.out.at0.free 5;have y6:=P7.out.at0.free 6
     have z0:=P7.out.at0.cell 0;have z1:=P7.out.at0.cell 1;have z2:=P7.out.at0.cell 2;have z3:=P7.out.at0.cell 3;have z4:=P7.out.at0.cell 4;have z5:=P7.out.at0.cell 5;have z6:=P7.out.at0.cell 6
     have x0:=P7.out.at1.cell 0;have x1:=P7.out.at1.cell 1;have x2:=P7.out.at1.cell 2;have x3:=P7.out.at1.cell 3;have x4:=P7.out.at1.cell 4;have x5:=P7.out.at1.cell 5;have x6:=P7.out.at1.cell 6
     simp only[zg] at z0 z1 z2 z3 z4 z5 z6 x0 x1 x2 x3 x4 x5 x6
     go_wp2_with fail
     refine BJ rfl rfl rfl (AJ (At.Qc P7.out.at0 _ _ _ _ _ _ _) Tryz.underlying29 rfl EX) ?_
     rw[HR.out,HE.out]
     exact⟨⟨_,_,rfl,Aq.nil _ _,Aq.nil _ _⟩,WY (b:=w.heap.size) P7.out.bel (Nat.le_refl _) _ _ _ _ _ _ _⟩
   | some y=>
   obtain⟨la,a9⟩:=y
   rw[h8] at hp
   obtain⟨⟨v,rfl,hap⟩,hb⟩:=(show(∃ v,e=.returned (.tuple #[v,.int .i64 a9,.bool true])/\Own.CJ w5.heap.size w6 v la)/\Below w5.heap.size w5 w6 from hp)
   obtain⟨ua,uc,rfl⟩:=hap.len
   have hg5:w.heap.size+2<w5.heap.size:=P5.out.op.lt
   have P6:=zh (P5.out.under hb);have HO6:=zh (own_below HO5.out hb)
   have AP6:=zh (hap.base (show w.heap.size+3<=w5.heap.size by omega))
   have hd:=HD.out
   rw[h8] at hd
   dsimp only at hd
   have HD:=zh hd
   clear hd h8 hp hb hap c6 c6f hg5
   have c6:=P6.out.op.cell 6;have c6f:=P6.out.op.free 6
   simp only[List.setIfInBounds_toArray,List.set_cons_zero,List.set_cons_succ,List.getElem?_toArray,List.getElem?_cons_zero,List.getElem?_cons_succ] at c6
   go_upto_region 33 with fail
   have P7:=zh (P6.out.put 6 (.slice ua la.length uc))
   have HO7:=zh (Ae (w':=w6.setCell ⟨w.heap.size+2,6,none⟩ (.slice ua la.length uc)) HO6.out (fun k hk=>zo (by have:=Ak HO6.out k hk;show k≠w.heap.size+2;omega)))
   have AP7:=zh (AP6.out.keep (w':=w6.setCell ⟨w.heap.size+2,6,none⟩ (.slice ua la.length uc)) (by simp[World.setCell]) (fun k hk _=>zo (by show k≠w.heap.size+2;omega)))
   generalize w6.setCell ⟨w.heap.size+2,6,none⟩ (.slice ua la.length uc)=w7 at*
   clear c6 c6f P6 HO6 AP6 P5 HO5
   by_cases he:a9=s.size
   case neg=>
    have de:((a9:Int) != (s.size:Int))=true:=by rw[bne_iff_ne];omega
    have HE:=zh (show D=(.none,9) by rw[HD.out,decide_eq_false he,Bool.false_and]<;>rfl)
    have y0:=P7.out.at0.free 0;have y1:=P7.out.at0.free 1;have y2:=P7.out.at0.free 2;have y3:=P7.out.at0.free 3;have y4:=P7.out.at0.free 4;have y5:=P7.out.at0.free 5;have y6:=P7.out.at0.free 6
    have z0:=P7.out.at0.cell 0;have z1:=P7.out.at0.cell 1;have z2:=P7.out.at0.cell 2;have z3:=P7.out.at0.cell 3;have z4:=P7.out.at0.cell 4;have z5:=P7.out.at0.cell 5;have z6:=P7.out.at0.cell 6
    have x0:=P7.out.at1.cell 0;have x1:=P7.out.at1.cell 1;have x2:=P7.out.at1.cell 2;have x3:=P7.out.at1.cell 3;have x4:=P7.out.at1.cell 4;have x5:=P7.out.at1.cell 5;have x6:=P7.out.at1.cell 6
    simp only[zg] at z0 z1 z2 z3 z4 z5 z6 x0 x1 x2 x3 x4 x5 x6
    go_wp2_with fail
    refine BJ rfl rfl rfl (AJ (At.Qc P7.out.at0 _ _ _ _ _ _ _) Tryz.underlying29 rfl EX) ?_
    rw[HR.out,HE.out]
    exact⟨⟨_,_,rfl,Aq.nil _ _,Aq.nil _ _⟩,WY (b:=w.heap.size) P7.out.bel (Nat.le_refl _) _ _ _ _ _ _ _⟩
   have de:((a9:Int) != (s.size:Int))=false:=by rw[bne_eq_false_iff_eq];omega
   have hpz:=P7.out.op
   have c0:=hpz.cell 0;have c1:=hpz.cell 1;have c2:=hpz.cell 2;have c3:=hpz.cell 3;have c4:=hpz.cell 4;have c5:=hpz.cell 5;have c6:=hpz.cell 6
   simp only[List.setIfInBounds_toArray,List.set_cons_zero,List.set_cons_succ,List.getElem?_toArray,List.getElem?_cons_zero,List.getElem?_cons_succ] at c0 c1 c2 c3 c4 c5 c6
   have hwf:=zbJ ⟨kd,pre,l,th,nm,pb,la⟩ (.slice va l.length vc) (.slice ua la.length uc) w7 (Cq (enc:=Own.Cy) (fun _=>rfl) (fun _=>rfl) (Bc.own HO7.out) rfl (fun _ _=>trivial)) ⟨_,_,rfl⟩ (by have:=ZM.out;show l.length<=_;omega) (by have:=HPS.out;show pre.size<=_;omega)
   unfold Own.opV at hwf
   dsimp only at hwf
   have HWF:=zh hwf
   have HE0:=zh (show D=if Own.Eh ⟨kd,pre,l,th,nm,pb,la⟩=true then (⟨kd,pre,l,th,nm,pb,la⟩,0) else (.none,9) by rw[HD.out,decide_eq_true he,Bool.true_and])
   clear hwf hpz HD he
   go_wp2_with fail
   refine HWF.out.mono ?_
   rintro e w8 ⟨rfl,hb⟩
   have P8:=zh (P7.out.under hb);have HO8:=zh (own_below HO7.out hb);have AP8:=zh (AP7.out.below hb)
   clear hb HWF c0 c1 c2 c3 c4 c5 c6 P7 HO7 AP7
   cases hok:Own.Eh ⟨kd,pre,l,th,nm,pb,la⟩ with
   | false =>
     have HE:=zh (show D=(.none,9) by rw[HE0.out,hok]<;>rfl)
     clear hok
     have y0:=P8.out.at0.free 0;have y1:=P8.out.at0.free 1;have y2:=P8.out.at0.free 2;have y3:=P8.out.at0.free 3;have y4:=P8.out.at0.free 4;have y5:=P8.out.at0.free 5;have y6:=P8.out.at0.free 6
     have z0:=P8.out.at0.cell 0;have z1:=P8.out.at0.cell 1;have z2:=P8.out.at0.cell 2;have z3:=P8.out.at0.cell 3;have z4:=P8.out.at0.cell 4;have z5:=P8.out.at0.cell 5;have z6:=P8.out.at0.cell 6
     have x0:=P8.out.at1.cell 0;have x1:=P8.out.at1.cell 1;have x2:=P8.out.at1.cell 2;have x3:=P8.out.at1.cell 3;have x4:=P8.out.at1.cell 4;have x5:=P8.out.at1.cell 5;have x6:=P8.out.at1.cell 6
     simp only[zg] at z0 z1 z2 z3 z4 z5 z6 x0 x1 x2 x3 x4 x5 x6
     go_wp2_with fail
     refine BJ rfl rfl rfl (AJ (At.Qc P8.out.at0 _ _ _ _ _ _ _) Tryz.underlying29 rfl EX) ?_
     rw[HR.out,HE.out]
     exact⟨⟨_,_,rfl,Aq.nil _ _,Aq.nil _ _⟩,WY (b:=w.heap.size) P8.out.bel (Nat.le_refl _) _ _ _ _ _ _ _⟩
   | true=>
   have HE:=zh (show D=(⟨kd,pre,l,th,nm,pb,la⟩,0) by rw[HE0.out,hok]<;>rfl)
   clear hok
   have hpz:=P8.out.op
   have c0:=hpz.cell 0;have c1:=hpz.cell 1;have c2:=hpz.cell 2;have c3:=hpz.cell 3;have c4:=hpz.cell 4;have c5:=hpz.cell 5;have c6:=hpz.cell 6
   simp only[List.setIfInBounds_toArray,List.set_cons_zero,List.set_cons_succ,List.getElem?_toArray,List.getElem?_cons_zero,List.getElem?_cons_succ] at c0 c1 c2 c3 c4 c5 c6
   have y0:=P8.out.at0.free 0;have y1:=P8.out.at0.free 1;have y2:=P8.out.at0.free 2;have y3:=P8.out.at0.free 3;have y4:=P8.out.at0.free 4;have y5:=P8.out.at0.free 5;have y6:=P8.out.at0.free 6
   have z0:=P8.out.at0.cell 0;have z1:=P8.out.at0.cell 1;have z2:=P8.out.at0.cell 2;have z3:=P8.out.at0.cell 3;have z4:=P8.out.at0.cell 4;have z5:=P8.out.at0.cell 5;have z6:=P8.out.at0.cell 6
   simp only[zg] at z0 z1 z2 z3 z4 z5 z6
   clear hpz
   go_wp2_with fail
   refine BJ rfl rfl rfl (AJ (At.Qc P8.out.at0 _ _ _ _ _ _ _) Tryz.underlying29 rfl EX) ?_
   rw[HR.out,HE.out]
   refine⟨⟨_,_,rfl,?_,?_⟩,WY (b:=w.heap.size) P8.out.bel (Nat.le_refl _) _ _ _ _ _ _ _⟩
   ·exact Cq (enc:=Own.Cy) (fun _=>rfl) (fun _=>rfl) (Bc.own (Ae HO8.out (fun k hk=>Nv (by have:=Ak HO8.out k hk;omega) _ _ _ _ _ _ _))) rfl (fun k hk=>by have:=Ak HO8.out k hk;omega)
   ·exact((AP8.out.keep (Nat.le_of_eq (OL (b:=w.heap.size) _ _ _ _ _ _ _).symm) (fun k hk _=>Nv (by omega) _ _ _ _ _ _ _)).list).mono (fun k hk _=>by omega)
  have dk:decide ((k:Int)<n)=true:=zt
  obtain⟨M,hM⟩:∃ M,n-k=M+1:=⟨n-k-1,by omega⟩
  have htr:=HT.out
  rw[hM,Own.IL] at htr
  have HM:=zh hM;clear hM HT
  go_wp2_with fail
  refine(zb9 s p _ hp (by omega)).mono ?_
  rintro e w' ⟨hq,hww⟩;subst w'
  cases hr1:Cod.rdT s p with
  | none =>
    rw[hr1] at hq
    obtain rfl:=(show e=.returned (.tuple #[.string ⟨#[]⟩,.int .i64 0,.bool false]) from hq)
    simp only[hr1] at htr
    have HE:=zh (show D=(.none,9) by rw[HD.out,htr]<;>rfl)
    clear hr1 htr hq
    have y0:=P2.out.at0.free 0;have y1:=P2.out.at0.free 1;have y2:=P2.out.at0.free 2;have y3:=P2.out.at0.free 3;have y4:=P2.out.at0.free 4;have y5:=P2.out.at0.free 5;have y6:=P2.out.at0.free 6
    have z0:=P2.out.at0.cell 0;have z1:=P2.out.at0.cell 1;have z2:=P2.out.at0.cell 2;have z3:=P2.out.at0.cell 3;have z4:=P2.out.at0.cell 4;have z5:=P2.out.at0.cell 5;have z6:=P2.out.at0.cell 6
    have x0:=P2.out.at1.cell 0;have x1:=P2.out.at1.cell 1;have x2:=P2.out.at1.cell 2;have x3:=P2.out.at1.cell 3;have x4:=P2.out.at1.cell 4;have x5:=P2.out.at1.cell 5;have x6:=P2.out.at1.cell 6
    simp only[zg] at z0 z1 z2 z3 z4 z5 z6 x0 x1 x2 x3 x4 x5 x6
    go_wp2_with fail
    refine BJ rfl rfl rfl (AJ (At.Qc P2.out.at0 _ _ _ _ _ _ _) Tryz.underlying29 rfl EX) ?_
    rw[HR.out,HE.out]
    exact⟨⟨_,_,rfl,Aq.nil _ _,Aq.nil _ _⟩,WY (b:=w.heap.size) P2.out.bel (Nat.le_refl _) _ _ _ _ _ _ _⟩
  | some y=>
  obtain⟨x,p2⟩:=y
  rw[hr1] at hq
  obtain rfl:=(show e=.returned (.tuple #[.string x,.int .i64 p2,.bool true]) from hq)
  simp only[hr1] at htr
  have l2:=(Cod.Mc hr1).2.1
  have HT:=zh htr
  clear hr1 htr hq
  go_wp2_with fail
  refine(zb9 s p2 _ l2 (by omega)).mono ?_
  rintro e w' ⟨hq,hww⟩;subst w'
  cases hr2:Cod.rdT s p2 with
  | none =>
    rw[hr2] at hq
    obtain rfl:=(show e=.returned (.tuple #[.string ⟨#[]⟩,.int .i64 0,.bool false]) from hq)
    have htr:=HT.out
    simp only[hr2] at htr
    have HE:=zh (show D=(.none,9) by rw[HD.out,htr]<;>rfl)
    clear hr2 htr hq
    have y0:=P2.out.at0.free 0;have y1:=P2.out.at0.free 1;have y2:=P2.out.at0.free 2;have y3:=P2.out.at0.free 3;have y4:=P2.out.at0.free 4;have y5:=P2.out.at0.free 5;have y6:=P2.out.at0.free 6
    have z0:=P2.out.at0.cell 0;have z1:=P2.out.at0.cell 1;have z2:=P2.out.at0.cell 2;have z3:=P2.out.at0.cell 3;have z4:=P2.out.at0.cell 4;have z5:=P2.out.at0.cell 5;have z6:=P2.out.at0.cell 6
    have x0:=P2.out.at1.cell 0;have x1:=P2.out.at1.cell 1;have x2:=P2.out.at1.cell 2;have x3:=P2.out.at1.cell 3;have x4:=P2.out.at1.cell 4;have x5:=P2.out.at1.cell 5;have x6:=P2.out.at1.cell 6
    simp only[zg] at z0 z1 z2 z3 z4 z5 z6 x0 x1 x2 x3 x4 x5 x6
    go_wp2_with fail
    refine BJ rfl rfl rfl (AJ (At.Qc P2.out.at0 _ _ _ _ _ _ _) Tryz.underlying29 rfl EX) ?_
    rw[HR.out,HE.out]
    exact⟨⟨_,_,rfl,Aq.nil _ _,Aq.nil _ _⟩,WY (b:=w.heap.size) P2.out.bel (Nat.le_refl _) _ _ _ _ _ _ _⟩
  | some y=>
  obtain⟨z,p3⟩:=y
  rw[hr2] at hq
  obtain rfl:=(show e=.returned (.tuple #[.string z,.int .i64 p3,.bool true]) from hq)
  have htr:=HT.out
  simp only[hr2] at htr
  have l3:=(Cod.Mc hr2).2.1
  have HT2:=zh (show Own.IL s n a3=(match Own.IL s (n-(k+1)) p3 with|some (l2,c)=>some ((l++[⟨x,z⟩])++l2,c)|none=>none) by
   rw[htr,show n-(k+1)=M by have:=HM.out;omega]
   cases Own.IL s M p3 with
   | none=>rfl
   | some z=>obtain⟨l,c⟩:=z;simp)
  have c2:=P2.out.op.cell 2
  simp only[zg] at c2
  have hb9:Below wr.heap.size wr (wr.alloc (.cells #[.string x,.string z] 76)):=zb
  have P5:=zh (P2.out.under hb9);have HO5:=zh (own_below HO.out hb9)
  have HRW:=zh (Cx wr 76 #[.string x,.string z] 2 1 1 rfl)
  have HGW:=zh (show w.heap.size+3<=(wr.alloc (.cells #[.string x,.string z] 76)).heap.size by have:=P2.out.op.lt;rw[World.size_alloc];omega)
  have hl8:l.length+1<=8:=by rw[HLL.out];omega
  clear hb9 htr HT hr2 hq
  go_wp2_with (at_builtin;go_must (refine Ah JO rfl _ _ rfl (w.heap.size+3) l.length (.slice va l.length vc) (l.flatMap Own.Cy) rfl HO5.out (.slice (some ⟨wr.heap.size,0,none⟩) 1 1) 1 [.string x,.string z] rfl HRW.out (by intro u hu;simp at hu;rcases hu with rfl|rfl<;>rfl) (by omega) (by omega) HGW.out ?_);intro v9 w9 ho9 hg9 hw9;obtain⟨ya,ym,yc,rfl⟩:=Ac ho9;have HO9:=zh ho9;have P9:=zh (P5.out.grown hg9 (Ak HO5.out));clear ho9 hg9 hw9;have d2:=P9.out.op.cell 2;have d2f:=P9.out.op.free 2;simp only[zg] at d2)
  refine⟨⟨k+1,l++[⟨x,z⟩],.slice ya ym yc,p3,by omega,by go_num,rfl,by rw[List.length_append,HLL.out]<;>rfl,l3,?_,P9.out.put 2 _,HT2.out⟩,by simp[intOf];omega⟩
  have h9:w9.ownsRow (w.heap.size+3) 76 2 (.slice ya ym yc) (l++[(⟨x,z⟩:Own.Member)]).length ((l++[(⟨x,z⟩:Own.Member)]).flatMap Own.Cy):=by
   rw[List.length_append,List.flatMap_append]
   simpa [Own.Cy] using HO9.out
  exact Ae h9 (fun j hj=>zo (by have:=Ak h9 j hj;show j≠w.heap.size+2;omega))
namespace Own
def zcT (op:Op):Prop:=op.pre.size+op.name.size+op.pub.size<=300/\zdi op.members/\op.Aa.length<=5/\∀ a∈op.Aa,zcM a
end Own
theorem zcu (op:Own.Op)(mv av:Value)(w:World)(hm:Own.Af w mv op.members)(hA:Own.W9 w av op.Aa)(hml:op.members.length<=140737488355328)(hal:op.Aa.length<=140737488355328)
 (hz:op.pre.size<=140737488355328/\op.name.size<=140737488355328/\op.pub.size<=140737488355328) (hsz:∀ a∈op.Aa,∀ x∈a.sig.chains++a.sig.path,x.size<=140737488355328):
 Calls Tryz.prog 13 #[Own.opV op mv av] w (Own.zbR (Own.zcT op) w):=by
 obtain⟨Q,hQ⟩:∃ Q,Q=Own.zbR (Own.zcT op) w:=⟨_,rfl⟩
 rw[<- hQ]
 have HQ:=zh hQ;clear hQ
 unfold Own.opV
 obtain⟨ma,mc,rfl⟩:=hm.len
 obtain⟨aa,ac,rfl,hap⟩:=id hA
 clear hap
 obtain⟨z1,z2,z3⟩:=hz
 have F1:=zh (show Au w _ [(29,#[.int .i64 op.kind,.string op.pre,.slice ma op.members.length mc,.int .i64 op.threshold,.string op.name,.string op.pub,.slice aa op.Aa.length ac])] from((CY.nil w).push 29 #[.int .i64 op.kind,.string op.pre,.slice ma op.members.length mc,.int .i64 op.threshold,.string op.name,.string op.pub,.slice aa op.Aa.length ac]).boxes)
 have hfm:=fun W (hW:Below w.heap.size w W)=>zbW _ op.members W (hm.below hW) hml
 have hfa:=fun W (hW:Below w.heap.size w W)=>zbU _ op.Aa W (hA.below hW) hal hsz
 have HFM:=zh hfm;have HFA:=zh hfa
 clear hm hA hfm hfa hsz
 go_enter Tryz.func13,Tryz.ntmps13
 go_upto_region 1 with fail
 generalize (w.alloc (.cells #[.int .i64 op.kind,.string op.pre,.slice ma op.members.length mc,.int .i64 op.threshold,.string op.name,.string op.pub,.slice aa op.Aa.length ac] 29))=w1 at*
 obtain⟨x00,x01,x02,x03,x04,x05,x06⟩:=F1.out.JI rfl
 have hwr:wrap64 ((op.pre.size:Int)+(op.name.size:Int))=(op.pre.size:Int)+(op.name.size:Int):=by unfold wrap64;omega
 by_cases h3:op.pre.size+op.name.size+op.pub.size<=300
 case neg=>
  have d1:decide ((op.pre.size:Int)+(op.name.size:Int)+(op.pub.size:Int)<=300)=false:=zf
  go_wp2_with fail
  (try go_ret)
  rw[HQ.out]
  exact⟨false,rfl,(fun h=>by cases h),F1.out.under⟩
 have d1:decide ((op.pre.size:Int)+(op.name.size:Int)+(op.pub.size:Int)<=300)=true:=zt
 have H3:=zh h3
 go_wp2_with fail
 refine(HFM.out w1 F1.out.under).mono ?_
 rintro e w2 ⟨q,rfl,hq,hb2⟩
 have F2:=zh (F1.out.step hb2);have HQ1:=zh hq
 clear hb2 hq
 (try clear x00 x01 x02 x03 x04 x05 x06)
 obtain⟨x00,x01,x02,x03,x04,x05,x06⟩:=F2.out.JI rfl
 cases q with
 | false =>
   go_wp2_with fail
   (try go_ret)
   rw[HQ.out]
   exact⟨false,rfl,(fun h=>by cases h),F2.out.under⟩
 | true=>
 go_wp2_with fail
 refine(HFA.out w2 F2.out.under).mono ?_
 rintro e w3 ⟨q,rfl,hq,hb3⟩
 have F3:=zh (F2.out.step hb3);have HQ2:=zh hq
 clear hb3 hq
 cases q with
 | false =>
   go_wp2_with fail
   (try go_ret)
   rw[HQ.out]
   exact⟨false,rfl,(fun h=>by cases h),F3.out.under⟩
 | true=>
 go_wp2_with fail
 (try go_ret)
 rw[HQ.out]
 exact⟨true,rfl,(fun _=>⟨H3.out,HQ1.out trivial,HQ2.out trivial⟩),F3.out.under⟩
theorem zcv (op:Own.Op)(mv av:Value)(w:World)(hm:Own.Af w mv op.members)(ha:∃ a c,av=.slice a op.Aa.length c)(hz:Own.KD op):
 Calls Tryz.prog 67 #[Own.opV op mv av] w fun e w' => e=.returned (.string (Own.CW op))/\Below w.heap.size w w':=by
 obtain⟨R,hR⟩:∃ R,R=Own.CW op:=⟨_,rfl⟩
 rw[<- hR]
 unfold Own.CW at hR
 unfold Own.opV
 obtain⟨aa,ac,rfl⟩:=ha
 obtain⟨kd,pre,ms,th,nm,pb,aps⟩:=op
 obtain⟨k0,k4,hpre,hal,hml,hms,t0,t8,hnm,hpb⟩:=hz
 dsimp only at*
 obtain⟨kn,rfl⟩:∃ k:Nat,kd=k:=⟨kd.toNat,by omega⟩
 obtain⟨tn,rfl⟩:∃ t:Nat,th=t:=⟨th.toNat,by omega⟩
 simp only[Int.toNat_natCast] at hR
 obtain⟨ma,mc,rfl⟩:=hm.len
 have hcz:=Own.bG ms hms
 have F1:=zh (show Au w _ [(29,#[.int .i64 (kn:Int),.string pre,.slice ma ms.length mc,.int .i64 (tn:Int),.string nm,.string pb,.slice aa aps.length ac])] from((CY.nil w).push 29 #[.int .i64 (kn:Int),.string pre,.slice ma ms.length mc,.int .i64 (tn:Int),.string nm,.string pb,.slice aa aps.length ac]).boxes)
 have HM:=zh hm;have HR:=zh hR;have HMS:=zh hms;have HCZ:=zh hcz
 clear hm hR hms hcz
 go_enter Tryz.func67,Tryz.ntmps67
 go_upto_region 1 with fail
 generalize (w.alloc (.cells #[.int .i64 (kn:Int),.string pre,.slice ma ms.length mc,.int .i64 (tn:Int),.string nm,.string pb,.slice aa aps.length ac] 29))=w1 at*
 obtain⟨x00,x01,x02,x03,x04,x05,x06⟩:=F1.out.JI rfl
 have hlt:w.heap.size<w1.heap.size:=F1.out.lt (i:=0) (by show 0<1;omega)
 have X1:=zh (show(w1.cell? ⟨w.heap.size,1,none⟩).isSome=true by rw[x01]<;>rfl)
 have X2:=zh (show(w1.cell? ⟨w.heap.size,2,none⟩).isSome=true by rw[x02]<;>rfl)
 go_wp2_with fail
 refine Lex.zn (fun i=>i=w.heap.size) [4,8] 11 [3,3,5] ?_
 simp only[Lex.Bp,zd]
 go_wp2_with fail
 refine(zbG kn _ (by omega)).mono ?_
 rintro e w2 ⟨rfl,hb2⟩
 have B2:=zh (show Below w1.heap.size w1 w2 from(Below.refl w1.heap.size w1).drew.trans hb2)
 have F2:=zh (F1.out.step B2.out);clear hb2
 (try clear x00 x01 x02 x03 x04 x05 x06)
 obtain⟨x00,x01,x02,x03,x04,x05,x06⟩:=F2.out.JI rfl
 obtain⟨U,hU⟩:∃ U,U=Cod.uns kn:=⟨_,rfl⟩
 rw[<- hU]
 have zU:U.size<=10:=by rw[hU];exact Cod.Ce kn
 have HU:=zh hU;clear hU
 go_wp2_with fail
 refine Lex.Mid.intro (fun i hi hl=>by subst hi;exact B2.out.block _ hl) ?_
 go_wp2_with fail
 refine(zbC pre _ (by omega)).mono ?_
 rintro e w3 ⟨rfl,hb3⟩
 have B3:=zh (B2.out.trans (hb3.mono B2.out.size))
 have F3:=zh (F1.out.step B3.out);clear hb3
 (try clear x00 x01 x02 x03 x04 x05 x06)
 obtain⟨x00,x01,x02,x03,x04,x05,x06⟩:=F3.out.JI rfl
 obtain⟨T,hT⟩:∃ T,T=Cod.text pre:=⟨_,rfl⟩
 rw[<- hT]
 have zT:T.size<=74:=by rw[hT];have:=Own.Cr pre;omega
 have HT:=zh hT;clear hT
 go_wp2_with fail
 refine Lex.Mid.intro (fun i hi hl=>by subst hi;exact B3.out.block _ hl) ?_
 go_wp2_with fail
 refine(zbG ms.length _ (by omega)).mono ?_
 rintro e w4 ⟨rfl,hb4⟩
 have B4:=zh (B3.out.trans (hb4.mono B3.out.size))
 have F4:=zh (F1.out.step B4.out);clear hb4
 (try clear x00 x01 x02 x03 x04 x05 x06)
 obtain⟨V,hV⟩:∃ V,V=Cod.uns ms.length:=⟨_,rfl⟩
 rw[<- hV]
 have zV:V.size<=10:=by rw[hV];exact Cod.Ce _
 have HV:=zh hV;clear hV
 go_wp2_with fail
 refine Lex.Mid.intro (fun i hi hl=>by subst hi;exact B4.out.block _ hl) ?_
 go_wp2_with fail
 refine Lex.zk ⟨⟨rfl,X1.out⟩,⟨rfl,X2.out⟩,trivial⟩ ?_
 obtain⟨X,hX⟩:∃ X,X=U++T++V:=⟨_,rfl⟩
 have zX:X.size<=94:=by rw[hX,Sha.Ag,Sha.Ag];omega
 rw[<- hX]
 have HX:=zh hX
 clear hX X1 X2 hlt
 go_wp2_with fail
 go_loopw [4,3] (fun i s wr=>∃ k:Nat,k<=ms.length/\i=.int .i64 k/\s=.string (X++Cod.cat ((ms.take k).map Own.AV))/\Au w wr [(29,#[.int .i64 (kn:Int),.string pre,.slice ma ms.length mc,.int .i64 (tn:Int),.string nm,.string pb,.slice aa aps.length ac])]) (fun i _ _=>ms.length-(intOf i).toNat)
 case atStart=>exact⟨0,by omega,rfl,by rw[List.take_zero];show _=Value.string (X++⟨#[]⟩);rw[Ou],F4.out⟩
 case round=>
  obtain⟨k,hk,rfl,rfl,hbx⟩:=hrel
  obtain⟨Y,hY⟩:∃ Y,Y=X++Cod.cat ((ms.take k).map Own.AV):=⟨_,rfl⟩
  rw[<- hY]
  have zY:Y.size<=94+85*k:=by rw[hY,Sha.Ag];have:=HCZ.out k;omega
  have HBX:=zh hbx;have HY:=zh hY
  clear hbx hY F4
  obtain⟨x00,x01,x02,x03,x04,x05,x06⟩:=HBX.out.JI rfl
  have hlw:w.heap.size<wr.heap.size:=HBX.out.lt (i:=0) (by show 0<1;omega)
  by_cases hlt:k<ms.length
  ·have dk:decide ((k:Int)<(ms.length:Int))=true:=zt
   obtain⟨q,o,ha,hql,e0,e1⟩:=Own.Af.cells (HM.out.below HBX.out.under) hlt
   have HAA:=zh ha
   rw[ha] at x02
   clear ha
   obtain⟨z1,z2⟩:=HMS.out ms[k] (List.getElem_mem hlt)
   have hnext:=Own.YW ms k hlt
   obtain⟨x,hx⟩:∃ x,x=ms[k]:=⟨_,rfl⟩
   rw[<- hx] at e0 e1 z1 z2 hnext
   obtain⟨mn,mp⟩:=x
   dsimp only at e0 e1 z1 z2 hnext
   have HNX:=zh hnext
   clear hx hnext
   have Y1:=zh (show(wr.cell? ⟨w.heap.size,2,none⟩).isSome=true by rw[x02]<;>rfl)
   have Y2:=zh (show(wr.cell? ⟨q,o+k*2+1,none⟩).isSome=true by rw[e1]<;>rfl)
   have E1:=zh e1
   go_wp2_with fail
   refine Lex.zn (fun i=>i=w.heap.size\/i=q) [10,14] 16 [8,8] ?_
   simp only[Lex.Bp,zd]
   go_wp2_with fail
   refine(zbC mn _ (by omega)).mono ?_
   rintro e w7 ⟨rfl,hb7⟩
   have B7:=zh (show Below wr.heap.size wr w7 from(Below.refl wr.heap.size wr).drew.trans hb7)
   have F7:=zh (HBX.out.step B7.out);clear hb7 e0 e1
   (try clear x00 x01 x02 x03 x04 x05 x06)
   obtain⟨x00,x01,x02,x03,x04,x05,x06⟩:=F7.out.JI rfl
   rw[HAA.out] at x02
   have e1:=(B7.out.cell (p:=⟨q,o+k*2+1,none⟩) hql).trans E1.out
   obtain⟨T1,hT1⟩:∃ T,T=Cod.text mn:=⟨_,rfl⟩
   rw[<- hT1] at HNX ⊢
   have zT1:T1.size<=42:=by rw[hT1];have:=Own.Cr mn;omega
   clear hT1
   go_wp2_with fail
   refine Lex.Mid.intro (fun i hi hl=>by rcases hi with rfl|rfl<;>exact B7.out.block _ hl) ?_
   go_wp2_with fail
   refine(zbC mp _ (by omega)).mono ?_
   rintro e w8 ⟨rfl,hb8⟩
   have B8:=zh (B7.out.trans (hb8.mono B7.out.size))
   have F8:=zh (HBX.out.step B8.out);clear hb8 e1
   (try clear x00 x01 x02 x03 x04 x05 x06)
   obtain⟨T2,hT2⟩:∃ T,T=Cod.text mp:=⟨_,rfl⟩
   rw[<- hT2] at HNX ⊢
   have zT2:T2.size<=43:=by rw[hT2];have:=Own.Cr mp;omega
   clear hT2
   go_wp2_with fail
   refine Lex.Mid.intro (fun i hi hl=>by rcases hi with rfl|rfl<;>exact B8.out.block _ hl) ?_
   go_wp2_with fail
   refine Lex.zk ⟨⟨.inl rfl,Y1.out⟩,⟨.inr rfl,Y2.out⟩,trivial⟩ ?_
   have hnew:=zh (show Y++T1++T2=X++Cod.cat ((ms.take (k+1)).map Own.AV) by rw[HNX.out,HY.out];simp only[ByteArray.append_assoc])
   go_wp2_with fail
   go_round
   case measure=>simp[intOf];omega
   case rel=>exact⟨k+1,by omega,by go_num,by rw[<- hnew.out],F8.out⟩
  ·have hke:k=ms.length:=by omega
   have dk:decide ((k:Int)<(ms.length:Int))=false:=zf
   have HYY:=zh (show Y=X++Cod.cat (ms.map Own.AV) by rw[HY.out,hke,List.take_length])
   have Y1:=zh (show(wr.cell? ⟨w.heap.size,4,none⟩).isSome=true by rw[x04]<;>rfl)
   have Y2:=zh (show(wr.cell? ⟨w.heap.size,5,none⟩).isSome=true by rw[x05]<;>rfl)
   clear hke
   go_wp2_with fail
   refine Lex.zn (fun i=>i=w.heap.size) [6,10] 12 [4,4,4] ?_
   simp only[Lex.Bp,zd]
   go_wp2_with fail
   refine(zbG tn _ (by omega)).mono ?_
   rintro e w6 ⟨rfl,hb6⟩
   have B6:=zh (show Below wr.heap.size wr w6 from(Below.refl wr.heap.size wr).drew.trans hb6)
   have F6:=zh (HBX.out.step B6.out);clear hb6
   (try clear x00 x01 x02 x03 x04 x05 x06)
   obtain⟨x00,x01,x02,x03,x04,x05,x06⟩:=F6.out.JI rfl
   obtain⟨U2,hU2⟩:∃ U,U=Cod.uns tn:=⟨_,rfl⟩
   rw[<- hU2]
   have zU2:U2.size<=10:=by rw[hU2];exact Cod.Ce tn
   have HU2:=zh hU2;clear hU2
   go_wp2_with fail
   refine Lex.Mid.intro (fun i hi hl=>by subst hi;exact B6.out.block _ hl) ?_
   go_wp2_with fail
   refine(zbC nm _ (by omega)).mono ?_
   rintro e w7 ⟨rfl,hb7⟩
   have B7:=zh (B6.out.trans (hb7.mono B6.out.size))
   have F7:=zh (HBX.out.step B7.out);clear hb7
   (try clear x00 x01 x02 x03 x04 x05 x06)
   obtain⟨x00,x01,x02,x03,x04,x05,x06⟩:=F7.out.JI rfl
   obtain⟨T1,hT1⟩:∃ T,T=Cod.text nm:=⟨_,rfl⟩
   rw[<- hT1]
   have zT1:T1.size<=42:=by rw[hT1];have:=Own.Cr nm;omega
   have HT1:=zh hT1;clear hT1
   go_wp2_with fail
   refine Lex.Mid.intro (fun i hi hl=>by subst hi;exact B7.out.block _ hl) ?_
   go_wp2_with fail
   refine(zbC pb _ (by omega)).mono ?_
   rintro e w8 ⟨rfl,hb8⟩
   have B8:=zh (B7.out.trans (hb8.mono B7.out.size))
   have F8:=zh (HBX.out.step B8.out);clear hb8
   (try clear x00 x01 x02 x03 x04 x05 x06)
   obtain⟨T2,hT2⟩:∃ T,T=Cod.text pb:=⟨_,rfl⟩
   rw[<- hT2]
   have zT2:T2.size<=43:=by rw[hT2];have:=Own.Cr pb;omega
   have HT2:=zh hT2;clear hT2
   go_wp2_with fail
   refine Lex.Mid.intro (fun i hi hl=>by subst hi;exact B8.out.block _ hl) ?_
   go_wp2_with fail
   refine Lex.zk ⟨⟨rfl,Y1.out⟩,⟨rfl,Y2.out⟩,trivial⟩ ?_
   go_wp2_with fail
   (try go_ret)
   refine⟨?_,F8.out.under⟩
   rw[HYY.out,HX.out,HR.out,HU.out,HT.out,HV.out,HU2.out,HT1.out,HT2.out]
   simp only[ByteArray.append_assoc]
   rfl
theorem zcj (op:Own.Op)(mv av:Value)(w:World)(hm:Own.Af w mv op.members)(hA:Own.Hq w av op.Aa)(hml:op.members.length<=140737488355328)(hps:op.pre.size<=9223372036854775000)(hsum:Own.Es op.Aa<=140737488000000)
 (hal:∀ a∈op.Aa,a.sig.index<9223372036854775808/\a.sig.chains.length<=140737488355328/\a.sig.path.length<=140737488355328):
 Calls Tryz.prog 25 #[Own.opV op mv av] w fun e w' => e=.returned (.tuple #[.string (Own.Dh op).1,.int .i64 (Own.Dh op).2])/\Below w.heap.size w w':=by
 obtain⟨R,hR⟩:∃ R,R=Own.Dh op:=⟨_,rfl⟩
 rw[<- hR]
 unfold Own.Dh Own.Fv at hR
 obtain⟨ma,mc,rfl⟩:=hm.len
 obtain⟨aa,ac,rfl,hap⟩:=id hA
 clear hap
 have HR:=zh hR;clear hR
 have F1:=zh (show Au w _ [(29,#[.int .i64 op.kind,.string op.pre,.slice ma op.members.length mc,.int .i64 op.threshold,.string op.name,.string op.pub,.slice aa op.Aa.length ac])] from((CY.nil w).push 29 #[.int .i64 op.kind,.string op.pre,.slice ma op.members.length mc,.int .i64 op.threshold,.string op.name,.string op.pub,.slice aa op.Aa.length ac]).boxes)
 have hcf:=fun W (hW:Below w.heap.size w W)=>zbJ op (.slice ma op.members.length mc) (.slice aa op.Aa.length ac) W (hm.below hW) ⟨_,_,rfl⟩ hml hps
 have hcb:=fun(hz:Own.KD op) W (hW:Below w.heap.size w W)=>zcv op (.slice ma op.members.length mc) (.slice aa op.Aa.length ac) W (hm.below hW) ⟨_,_,rfl⟩ hz
 unfold Own.opV at hcf hcb ⊢
 have HCF:=zh hcf;have HCB:=zh hcb;have HA:=zh hA;have HAL:=zh hal
 clear hm hcf hcb hA hal
 go_enter Tryz.func25,Tryz.ntmps25
 go_upto_region 1 with fail
 generalize (w.alloc (.cells #[.int .i64 op.kind,.string op.pre,.slice ma op.members.length mc,.int .i64 op.threshold,.string op.name,.string op.pub,.slice aa op.Aa.length ac] 29))=w1 at*
 obtain⟨x00,x01,x02,x03,x04,x05,x06⟩:=F1.out.JI rfl
 go_wp2_with fail
 refine(HCF.out w1 F1.out.under).mono ?_
 rintro e w2 ⟨rfl,hb2⟩
 have F2:=zh (F1.out.step hb2);clear hb2
 (try clear x00 x01 x02 x03 x04 x05 x06)
 obtain⟨x00,x01,x02,x03,x04,x05,x06⟩:=F2.out.JI rfl
 cases hok:Own.Eh op with
 | false =>
   have HE:=zh (show R=(⟨#[]⟩,1) by rw[HR.out,hok]<;>rfl)
   clear hok
   go_wp2_with fail
   go_ret2
   exact⟨by rw[HE.out]<;>rfl,F2.out.under⟩
 | true=>
 have hz:=Own.KD.of hok
 have hbz:=Own.Gg hz
 have zbr:=hz.al
 have pF:=zh (HCB.out hz)
 have HR2:=zh (show R=if (op.Aa.all fun a=>Own.Dq a.sig)=true then (Own.CW op++(Cod.uns op.Aa.length++Cod.cat (op.Aa.map Own.Ay)),0) else (⟨#[]⟩,1) by rw[HR.out,hok];simp)
 clear hok hz HR
 have Y1:=zh (show(w2.cell? ⟨w.heap.size,6,none⟩).isSome=true by rw[x06]<;>rfl)
 have hl2:w.heap.size<w2.heap.size:=F2.out.lt (i:=0) (by simp)
 obtain⟨X,hX⟩:∃ X,X=Own.CW op:=⟨_,rfl⟩
 rw[<- hX] at hbz HR2 pF
 clear hX
 go_wp2_with fail
 refine Lex.zn (fun k=>k=w.heap.size) [3] 5 [2] ?_
 simp only[Lex.Bp,zd]
 go_wp2_with fail
 refine(pF.out _ (F2.out.under.trans ((Below.refl w2.heap.size w2).drew.mono F2.out.under.size))).mono ?_
 rintro e w3 ⟨rfl,hb3⟩
 have B3:=zh (show Below w2.heap.size w2 w3 from(Below.refl w2.heap.size w2).drew.trans hb3)
 have F3:=zh (F2.out.step B3.out);clear hb3
 (try clear x00 x01 x02 x03 x04 x05 x06)
 obtain⟨x00,x01,x02,x03,x04,x05,x06⟩:=F3.out.JI rfl
 go_wp2_with fail
 refine Lex.Mid.intro (fun k hk hkl=>by rw[hk];exact B3.out.block _ hl2) ?_
 go_wp2_with fail
 refine(zbG op.Aa.length _ (by omega)).mono ?_
 rintro e w4 ⟨rfl,hb4⟩
 have F4:=zh (F3.out.step hb4);clear hb4
 (try clear x00 x01 x02 x03 x04 x05 x06)
 obtain⟨x00,x01,x02,x03,x04,x05,x06⟩:=F4.out.JI rfl
 obtain⟨U,hU⟩:∃ U,U=Cod.uns op.Aa.length:=⟨_,rfl⟩
 rw[<- hU] at HR2 ⊢
 have zU:U.size<=10:=by rw[hU];exact Cod.Ce _
 clear hU
 go_wp2_with fail
 refine Lex.zk ⟨⟨rfl,Y1.out⟩,trivial⟩ ?_
 obtain⟨Y,hY⟩:∃ Y,Y=X++U:=⟨_,rfl⟩
 have zY:Y.size<=2010:=by rw[hY,Sha.Ag];omega
 have HR3:=zh (show R=if (op.Aa.all fun a=>Own.Dq a.sig)=true then (Y++Cod.cat (op.Aa.map Own.Ay),0) else (⟨#[]⟩,1) by rw[HR2.out,hY,ByteArray.append_assoc])
 rw[<- hY]
 clear hY HR2
 go_wp2_with fail
 (try clear x00 x01 x02 x03 x04 x05 x06)
 go_loopw [5,4] (fun i s wr=>∃ k:Nat,k<=op.Aa.length/\i=.int .i64 k/\s=.string (Y++Cod.cat ((op.Aa.take k).map Own.Ay))/\(∀ a∈op.Aa.take k,Own.Dq a.sig=true)/\Au w wr [(29,#[.int .i64 op.kind,.string op.pre,.slice ma op.members.length mc,.int .i64 op.threshold,.string op.name,.string op.pub,.slice aa op.Aa.length ac])]) (fun i _ _=>op.Aa.length-(intOf i).toNat)
 case atStart=>exact⟨0,by omega,rfl,by rw[List.take_zero];show _=Value.string (Y++⟨#[]⟩);rw[Ou],by simp,F4.out⟩
 case round=>
  obtain⟨k,hk,rfl,rfl,hs,hbx⟩:=hrel
  have hb:=hbx.under
  have HBX:=zh hbx
  obtain⟨x00,x01,x02,x03,x04,x05,x06⟩:=HBX.out.JI rfl
  clear hbx F4
  have hsz:=Own.Qm (op.Aa.take k) hs
  have hnt:=Own.Ma op.Aa k
  rw[List.length_take,Nat.min_eq_left hk] at hsz
  by_cases hlt:k<op.Aa.length
  case neg=>
   have hke:k=op.Aa.length:=by omega
   have dk:decide ((k:Int)<(op.Aa.length:Int))=false:=zf
   rw[hke,List.take_length] at hs
   have HE:=zh (show R=(Y++Cod.cat ((op.Aa.take k).map Own.Ay),0) by rw[HR3.out,if_pos (List.all_eq_true.2 hs),hke,List.take_length])
   have HB:=zh hb
   clear hs hb hke hsz hnt
   go_wp2_with fail
   go_ret2
   exact⟨by rw[HE.out]<;>rfl,HB.out⟩
  have dk:decide ((k:Int)<(op.Aa.length:Int))=true:=zt
  obtain⟨a',c',hv,hcells⟩:=HA.out.below hb
  cases hv
  obtain⟨b,q,cv,pv,ha,hbl,e0,e1,e2,e3,hcv,hpv,_⟩:=hcells k hlt
  have HAA:=zh ha
  rw[ha] at x06
  clear hcells ha
  obtain⟨z1,z2,z3⟩:=HAL.out op.Aa[k] (List.getElem_mem hlt)
  have hnx:=Own.pO op.Aa k hlt
  have hnm:=Own.Vk (List.getElem_mem hlt)
  have hall:(op.Aa.all fun a=>Own.Dq a.sig)=true->Own.Dq op.Aa[k].sig=true:=fun h=>List.all_eq_true.1 h _ (List.getElem_mem hlt)
  have hs2:Own.Dq op.Aa[k].sig=true->∀ a∈op.Aa.take (k+1),Own.Dq a.sig=true:=fun h a ha=>by
   rw[List.take_succ_eq_append_getElem hlt] at ha
   rcases List.mem_append.1 ha with h1|h1
   ·exact hs a h1
   ·rw[List.mem_singleton.1 h1];exact h
  have htot:Own.Dq op.Aa[k].sig=true->(Y++Cod.cat ((op.Aa.take (k+1)).map Own.Ay)).size<=140737488200000:=fun h=>by
   have h1:=Own.Qm _ (hs2 h)
   have h2:=Own.Ma op.Aa (k+1)
   rw[List.length_take,Nat.min_eq_left (by omega)] at h1
   rw[Sha.Ag]
   omega
  obtain⟨Z,hZ⟩:∃ Z,Z=Y++Cod.cat ((op.Aa.take k).map Own.Ay):=⟨_,rfl⟩
  rw[hnx,<- ByteArray.append_assoc,<- hZ] at htot
  rw[<- ByteArray.append_right_inj Y,<- ByteArray.append_assoc,<- hZ] at hnx
  rw[<- hZ]
  obtain⟨A,hAe⟩:∃ A,A=op.Aa[k]:=⟨_,rfl⟩
  rw[<- hAe] at e0 e1 hcv hpv z1 z2 z3 hnx hnm hall hs2 htot
  obtain⟨an,sg⟩:=A
  obtain⟨ix,cs,ps⟩:=sg
  dsimp only at e0 e1 hcv hpv z1 z2 z3 hnx hnm hall hs2 htot
  obtain⟨ca,cc,rfl⟩:=hcv.len
  obtain⟨pa,pc,rfl⟩:=hpv.len
  have HB:=zh hb;have HNX:=zh hnx;have oF:=zh hall;have HS2:=zh hs2;have HT:=zh htot;have HCV:=zh hcv;have HPV:=zh hpv
  clear hb hnx hall hs2 htot hcv hpv hs hZ hAe hsz hnt
  have E0:=zh e0
  have hse:=zch ⟨ix,cs,ps⟩ (.slice ca cs.length cc) (.slice pa ps.length pc) wr HCV.out HPV.out z1 z2 z3
  dsimp only at hse
  have HSE:=zh hse
  clear hse
  go_wp2_with fail
  refine HSE.out.mono ?_
  rintro e w7 ⟨rfl,hb7⟩
  have K7:=zh (HBX.out.step hb7)
  have f0:=(hb7.cell (p:=⟨b,q+k*4,none⟩) hbl).trans E0.out
  clear hb7 HSE e0 e1 e2 e3
  (try clear x00 x01 x02 x03 x04 x05 x06)
  obtain⟨x00,x01,x02,x03,x04,x05,x06⟩:=K7.out.JI rfl
  rw[HAA.out] at x06
  cases hso:Own.Dq ⟨ix,cs,ps⟩ with
  | false =>
    have e1:Own.Ka ⟨ix,cs,ps⟩=(⟨#[]⟩,1):=by unfold Own.Ka;rw[hso];rfl
    rw[e1]
    have HE:=zh (show R=(⟨#[]⟩,1) by
     rw[HR3.out,if_neg]
     intro h
     rw[oF.out h] at hso
     cases hso)
    clear hso e1
    go_wp2_with fail
    go_ret2
    exact⟨by rw[HE.out]<;>rfl,K7.out.under⟩
  | true=>
  have e1:Own.Ka ⟨ix,cs,ps⟩=(Own.Bw ⟨ix,cs,ps⟩,0):=by unfold Own.Ka;rw[hso];rfl
  rw[e1]
  have hto:=HT.out hso
  have hs3:=HS2.out hso
  unfold Own.Ay at hto
  rw[Sha.Ag,Sha.Ag] at hto
  dsimp only at hto ⊢
  have hn3:Y++Cod.cat ((op.Aa.take (k+1)).map Own.Ay)=Z++Cod.text an++Own.Bw ⟨ix,cs,ps⟩:=by rw[ByteArray.append_assoc];exact HNX.out
  obtain⟨S,hS⟩:∃ S,S=Own.Bw ⟨ix,cs,ps⟩:=⟨_,rfl⟩
  rw[<- hS] at hto hn3 ⊢
  have HN3:=zh hn3;have HS3:=zh hs3
  clear hn3 hs3 hso e1 hS
  go_wp2_with fail
  refine(zbC an _ (by omega)).mono ?_
  rintro e w8 ⟨rfl,hb8⟩
  have K8:=zh (K7.out.step hb8)
  clear hb8 f0
  (try clear x00 x01 x02 x03 x04 x05 x06)
  obtain⟨T,hT⟩:∃ T,T=Cod.text an:=⟨_,rfl⟩
  rw[<- hT] at hto HN3 ⊢
  clear hT
  go_wp2_with fail
  go_round
  case measure=>simp[intOf];omega
  case rel=>exact⟨k+1,by omega,by go_num,by rw[HN3.out],HS3.out,K8.out⟩
end
end Go.Proofs.YtjlmglgmcekmhaaGreatDoor
