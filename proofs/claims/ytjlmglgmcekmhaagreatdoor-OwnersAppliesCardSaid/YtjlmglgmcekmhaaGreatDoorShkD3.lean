/- The digest of the program's SHA-256. -/
import Derived.Deep.DeepCutAuto
import Derived.Lib.EndianBits
import Derived.OwnWalk
import Derived.Laws.BitsLemmas
import Derived.Laws.AppendOwn
import Derived.Deep.AppendSrc
import Derived.Lib.ConvBytes
import Derived.Lib.OthersKept
import Derived.Deep.LoopGhost
import Derived.Test.YtjlmglgmcekmhaaGreatDoorShkD2
set_option linter.unusedVariables false
set_option linter.unusedSimpArgs false
set_option maxRecDepth 100000
set_option maxHeartbeats 4000000
namespace Go.Proofs.YtjlmglgmcekmhaaGreatDoor
section
open Go Go.RowKit
namespace Sha
def be4 (x:Int):List Int:=[x/16777216,x/65536%256,x/256%256,x%256]
def bytes (l:List Int):List Int:=l.flatMap be4
def pad (m:ByteArray):ByteArray:=⟨#[128]⟩++⟨(Lib.repeatL [0] ((119-m.size%64)%64)).toArray⟩++be8 (8*m.size%18446744073709551616)
def sha (m:ByteArray):ByteArray:=strOfNums (bytes (state (m++pad m)))
theorem oh (m:ByteArray):(⟨#[]⟩:ByteArray)++m=m:=by apply BG;rw[Bq];rfl
theorem fK (l:List Int):(bytes l).length=4*l.length:=by
 induction l with
 | nil=>rfl
 | cons x l ih=>simp only[bytes,List.flatMap_cons,List.length_append,List.length_cons,be4,List.length_nil] at ih ⊢;omega
theorem QJ (l:List Int)(k:Nat)(h:k<l.length):bytes (l.take (k+1))=bytes (l.take k)++be4 (l.getD k 0):=by
 rw[bytes,bytes,List.take_succ_eq_append_getElem h,List.flatMap_append]
 congr 1
 rw[List.flatMap_cons,List.flatMap_nil,List.append_nil,List.getD_eq_getElem?_getD,List.getElem?_eq_getElem h]
 rfl
theorem Dp (m:ByteArray):(sha m).size=32:=by
 rw[sha,strOfNums_size,fK,(Ew _).1]
end Sha
theorem GX:(Tryz.prog.info? 5).map (fun i=>(i.zero,i.size,i.bytes))=some (some (.int .u8 0),1,1):=by kernel_rfl
theorem Uu:(Tryz.prog.info? 269).map (·.size)=some 10:=by kernel_rfl
theorem fM:(Tryz.prog.info? 269).map (·.zero)=some (some (.agg (hash (List.replicate 8 0) ⟨#[]⟩ 0))):=by kernel_rfl
theorem NJ (v:List Int)(r:ByteArray)(t:Int)(h:v.length=8):(hash v r t).size=10:=by simp[hash,Sha.BS,h]
theorem jZ (v:List Int)(r:ByteArray)(t:Int):∀ x∈(hash v r t).toList,x.oneCell' = true:=by
 intro x hx
 unfold hash at hx
 rw[Array.toList_append,List.mem_append] at hx
 rcases hx with hx|hx
 ·exact Sha.row_one v x hx
 ·simp at hx
  rcases hx with rfl|rfl<;>rfl
theorem V5 (b:Nat)(v:List Int)(r:ByteArray)(t:Int)(w:World)(hl:v.length=8)(hh:At w b 269 (hash v r t)):
 Calls Tryz.prog 267 #[.pointer (some ⟨b,0,none⟩)] w fun e w' => e=.returned (.pointer (some ⟨w.heap.size,0,none⟩))/\w' = w.alloc (.cells (hash v r t) 269):=by
 have hlt:=hh.lt
 go_enter Tryz.func267,Tryz.ntmps267
 go_upto_region 1 with (fail)
 refine wp_region_lit ?_
 refine Ju (.pointer (some ⟨b,0,none⟩)) rfl (by rfl) ?_
 refine Ju (.pointer (some ⟨b,0,none⟩)) rfl (by rfl) ?_
 refine wpList_load_row rfl 269 _ rfl b rfl 269 (hash v r t) (0,0) _ hh Tryz.underlying269 rfl (by rw[NJ _ _ _ hl];exact Uu) ?_
 refine Ey rfl 269 rfl (hash (List.replicate 8 0) ⟨#[]⟩ 0) fM ?_
 refine wpList_store_row rfl _ _ _ rfl w.heap.size _ _ (hash v r t) (by rfl) (by rfl) (At.new _ _ _) (by rw[NJ _ _ _ hl];rfl) (by rw[NJ _ _ _ hl];exact Uu) (jZ _ _ _) ?_
 rw[Me]
 obtain⟨cs,hcs⟩:∃ cs,cs=hash v r t:=⟨_,rfl⟩
 rw[<- hcs]
 have HC:=zh hcs;clear hcs
 go_wp2
 go_ret
 exact⟨rfl,by rw[HC.out]⟩
theorem kg (b:Nat)(m:ByteArray)(w:World)(hh:Held w b m):
 Calls Tryz.prog 245 #[.pointer (some ⟨b,0,none⟩)] w fun e w' => e=.returned (.string (Sha.sha m))/\Below w.heap.size w w':=by
 have hlt:=hh.lt
 have hl:=(Sha.Ew m).1
 go_enter Tryz.func245,Tryz.ntmps245
 go_wp2_with fail
 refine(V5 b _ _ _ w hl hh).mono ?_
 rintro e w1 ⟨rfl,rfl⟩
 obtain⟨w1,hw1⟩:∃ x,x=w.alloc (.cells (hash (Sha.state m) (Sha.rest m) ((m.size:Int)%18446744073709551616)) 269):=⟨_,rfl⟩
 have hc:Held w1 w.heap.size m:=by rw[hw1];exact At.new _ _ _
 have hb1:Below w.heap.size w w1:=by rw[hw1];exact zb
 have hsz1:w1.heap.size=w.heap.size+1:=by rw[hw1,World.size_alloc]
 rw[<- hw1]
 clear hw1
 have hc8:=hc.cell 8
 rw[dw _ _ _ hl] at hc8
 have hob:=hh.below hb1 hlt
 have hc9:=hob.cell 9
 rw[XG _ _ _ hl] at hc9
 have HH:=zh hh;have HC:=zh hc;have HB1:=zh hb1;have HOB:=zh hob
 clear hh hc hb1 hob
 have hrs:=Sha.Kk m
 have HC9:=zh hc9;clear hc9
 go_wp2_with fail
 have hz:(119-(m.size:Int)%64)%64=(((119-m.size%64)%64:Nat):Int):=by omega
 rw[hz]
 generalize hzn:(119-m.size%64)%64=z
 have HZN:=zh hzn
 have zW:z<64:=by omega
 clear hzn hz
 refine Lex.zn (fun k=>k=b) [7] 11 [3,7] ?_
 simp only[Lex.Bp,zd]
 go_wp2_with fail
 refine(Tryz.strings_Repeat ⟨#[0]⟩ _ _ (by omega) (by show 1*_<=_;omega)).mono ?_
 rintro e w2 ⟨rfl,hb2⟩
 have hb2:Below w1.heap.size w1 w2:=((Below.refl w1.heap.size w1).drew).trans hb2
 have uS:Held w2 w.heap.size m:=At.below (B:=w1.heap.size) HC.out hb2 (by omega)
 have ZI:=At.below (B:=w1.heap.size) HOB.out hb2 (by omega)
 have hc9:=ZI.cell 9
 rw[XG _ _ _ hl] at hc9
 have hsz2:=hb2.size
 have HB2:=zh hb2;have HC2:=zh uS;have zbh:=zh ZI;clear hb2 uS ZI
 have hrs:(⟨(Lib.repeatL (⟨#[0]⟩:ByteArray).data.toList z).toArray⟩:ByteArray).size=z:=by
  show(Lib.repeatL [0] z).toArray.size=z
  simp[Lib.repeatL_length]
 generalize hR:(⟨(Lib.repeatL (⟨#[0]⟩:ByteArray).data.toList z).toArray⟩:ByteArray)=R at*
 have HR:=zh hR;clear hR
 clear hb2
 go_wp2
 refine Lex.Mid.intro (fun k _ hk=>HB2.out.block k hk) ?_
 go_wp2_with fail
 obtain⟨N,hN⟩:∃ N,N=8*m.size%18446744073709551616:=⟨_,rfl⟩
 have hNw:IntKind.u64.wrap (8*((m.size:Int)%18446744073709551616))=(N:Int):=by rw[IntKind.wrap_u64,hN];omega
 rw[hNw]
 have hNl:N<18446744073709551616:=by omega
 have HN:=zh hN;clear hN hNw
 refine(ZH N w2 hNl).mono ?_
 rintro e w3 ⟨rfl,hb3⟩
 have V6 : Below w1.heap.size w1 w3:=HB2.out.trans (hb3.mono (by omega))
 have hc3:Held w3 w.heap.size m:=At.below (B:=w1.heap.size) HC.out V6 (by omega)
 have HB3:=zh V6;have HC3:=zh hc3
 have rR:=hb3.size
 have hcb:=(At.below (B:=w1.heap.size) HOB.out V6 (by omega)).cell 9
 rw[XG _ _ _ hl] at hcb
 clear hb3 V6 hc3
 have hbs:=Gw N
 generalize hB8:be8 N=B8 at*
 have HB8:=zh hB8;clear hB8
 go_wp2
 refine Lex.Mid.intro (fun k _ hk=>HB3.out.block k hk) ?_
 go_wp2_with fail
 have uT:(⟨#[128]⟩:ByteArray)++R++B8=Sha.pad m:=by
  rw[Sha.pad,<- HR.out,HZN.out,<- HN.out,HB8.out]
 have zZ:(Sha.pad m).size<=9223372036854775000:=by
  rw[<- uT,Sha.Ag,Sha.Ag,hrs,hbs]
  show 1+z+8<=_
  omega
 rw[uT]
 refine(Ut w.heap.size m _ w3 zZ HC3.out).mono ?_
 rintro e w4 ⟨rfl,hc4,hf4⟩
 have hb4:Below w.heap.size w w4:=(HB1.out.trans (HB3.out.mono (by omega))).trans (hf4.below (by have:=HB3.out.size;omega) (fun k hk=>by omega))
 have uU:=(HH.out.below hb4 hlt).cell 9
 rw[XG _ _ _ hl] at uU
 have HC4:=zh hc4;have HB4:=zh hb4;clear hc4 hb4 hf4
 go_wp2
 refine Lex.zk ⟨⟨rfl,by show(w1.cell? ⟨b,9,none⟩).isSome=true;rw[HC9.out];rfl⟩,trivial⟩ ?_
 clear hc9 hcb uU hc8
 have hwd:=Sha.Ew (m++Sha.pad m)
 obtain⟨z0,z1,z2,z3,z4,z5,z6,z7,hz,d0,d1,d2,d3,d4,d5,d6,d7⟩:=hwd.lit
 have hc4:=HC4.out
 unfold Held at hc4
 rw[hz,QI] at hc4
 have v0:=hc4.cell 0;have v1:=hc4.cell 1;have v2:=hc4.cell 2;have v3:=hc4.cell 3;have v4:=hc4.cell 4;have v5:=hc4.cell 5;have v6:=hc4.cell 6;have v7:=hc4.cell 7
 simp only[zg] at v0 v1 v2 v3 v4 v5 v6 v7
 have HZ:=zh hz;clear hz hc4 hwd
 go_wp2_with fail
 have hl:([z0,z1,z2,z3,z4,z5,z6,z7]:List Int).length=8:=rfl
 have hbd:∀ x∈([z0,z1,z2,z3,z4,z5,z6,z7]:List Int),0<=x/\x<4294967296:=by
  intro x hx
  simp only[List.mem_cons,List.mem_nil_iff,or_false] at hx
  rcases hx with rfl|rfl|rfl|rfl|rfl|rfl|rfl|rfl<;>assumption
 have hzz:(#[.int .u32 z0,.int .u32 z1,.int .u32 z2,.int .u32 z3,.int .u32 z4,.int .u32 z5,.int .u32 z6,.int .u32 z7]:Array Value)=Sha.row [z0,z1,z2,z3,z4,z5,z6,z7]:=rfl
 rw[hzz]
 generalize [z0,z1,z2,z3,z4,z5,z6,z7]=zs at*
 clear hzz v0 v1 v2 v3 v4 v5 v6 v7
 obtain⟨i0,hi,hz0,hz1,hz2⟩:=info_parts GX
 have hnil:=World.ownsRow_nil w4 w4.heap.size 5 1
 go_loopw [33,5] (fun i v wr=>∃ k:Nat,k<=8/\i=.int .i64 k/\wr.ownsRow w4.heap.size 5 1 v (4*k) ((Sha.bytes (zs.take k)).map (Value.int .u8))/\Below w4.heap.size w4 wr)
  (fun i _ _=>8-(intOf i).toNat)
 case atStart=>
  exact⟨0,by omega,rfl,hnil,Below.refl _ _⟩
 case round=>
  obtain⟨k,hk,rfl,how,hbr⟩:=hrel
  by_cases hk8:k<8
  ·have dk:decide ((k:Int)<8)=true:=by simp;omega
   have rk:(Sha.row zs)[k]? = some (.int .u32 (zs.getD k 0)):=by
    rw[Sha.FZ,List.getElem?_eq_getElem (by omega),List.getD_eq_getElem?_getD,List.getElem?_eq_getElem (by omega)]
    rfl
   have hsn:=Sha.QJ zs k (by omega)
   have hx:0<=zs.getD k 0/\zs.getD k 0<4294967296:=by
    rw[List.getD_eq_getElem?_getD,List.getElem?_eq_getElem (by omega)]
    exact hbd _ (List.getElem_mem _)
   generalize zs.getD k 0=x at*
   have HOW:=zh how;clear how
   have HBR:=zh hbr;clear hbr
   have HSN:=zh hsn;clear hsn
   go_wp2_with fail
   rw[Gp 267 230 8 (Sha.row zs) .i64 k _ _ rfl hk8 rk Tryz.sizeOf230 Tryz.isAgg230]
   have h16:x/16777216<256:=by omega
   go_wp2_with (at_builtin;go_must (refine wpList_append_own_at _ rfl _ _ 66 rfl w4.heap.size 5 i0 (.int .u8 0) 1 1 Tryz.underlying66 hi hz0 hz1 hz2 rfl (by omega) _ (4*k) _ rfl (HOW.out.alloc _) ⟨wr.heap.size,0,none⟩ 4 4 ((Sha.be4 x).map (Value.int .u8)) rfl rfl ?c1 ?c2 ?c3 ?c4 ?c5 ?_))
   case c1=>
    intro j u hj
    match j,hj with
    | 0,hj=>simp[Sha.be4] at hj;subst hj;simp[Addr.add]
    | 1,hj=>simp[Sha.be4] at hj;subst hj;simp[Addr.add]
    | 2,hj=>simp[Sha.be4] at hj;subst hj;simp[Addr.add]
    | 3,hj=>simp[Sha.be4] at hj;subst hj;simp[Addr.add]
   case c2=>intro u hu;simp[Sha.be4] at hu;rcases hu with rfl|rfl|rfl|rfl<;>rfl
   case c3=>unfold maxLen;omega
   case c4=>omega
   case c5=>have:=HBR.out.size;simp;omega
   intro v' w' how' hg _ _
   have hb' : Below w4.heap.size w4 w':=Bh (HBR.out.alloc (by have:=HBR.out.size;omega) _) (by have:=HBR.out.size;simp;omega) HOW.out hg
   have ho' : w'.ownsRow w4.heap.size 5 1 v' (4*(k+1)) ((Sha.bytes (zs.take (k+1))).map (Value.int .u8)):=by
    rw[HSN.out,List.map_append]
    exact how'
   have HO:=zh ho';have HBB:=zh hb';clear how' hg ho' hb'
   go_wp2
   go_roundw
   case rel=>exact⟨k+1,by omega,by go_num,HO.out,HBB.out⟩
   case measure=>simp[intOf];omega
  ·have hk' : k=8:=by omega
   have dk:decide ((k:Int)<8)=false:=by simp;omega
   have HK:=zh hk';clear hk'
   have HOW:=zh how;clear how
   have HBR:=zh hbr;clear hbr
   go_wp2_with fail
   rw[Ck wr 66 5 9 rfl rfl rfl _ HOW.out]
   have htk:zs.take k=zs:=List.take_of_length_le (by rw[HK.out,hl];omega)
   rw[htk,<- HZ.out]
   go_wp2
   go_ret
   exact⟨rfl,HB4.out.trans (HBR.out.mono HB4.out.size)⟩
theorem V7 (m:ByteArray)(w:World)(hs:m.size<=9223372036854775000):
 Calls Tryz.prog 217 #[.string m] w fun e w' => e=.returned (.string (Sha.sha m))/\Below w.heap.size w w':=by
 go_enter Tryz.func217,Tryz.ntmps217
 go_wp2_with fail
 refine(og w).mono ?_
 rintro e w1 ⟨rfl,rfl⟩
 have hc:Held (w.alloc (.cells (hash [1779033703,3144134277,1013904242,2773480762,1359893119,2600822924,528734635,1541459225] ⟨#[]⟩ 0) 269)) w.heap.size ⟨#[]⟩:=At.new _ _ _
 have HC:=zh hc;clear hc
 go_wp2_with fail
 refine(Ut w.heap.size _ m _ hs HC.out).mono ?_
 rintro e w2 ⟨rfl,hc2,hf⟩
 rw[Sha.oh] at hc2
 have hb:Below w.heap.size w w2:=((Below.refl w.heap.size w).alloc (Nat.le_refl _) _).trans (hf.below (by simp) (fun k hk=>by omega))
 have HC2:=zh hc2;have HB:=zh hb;clear hc2 hf hb
 go_wp2_with fail
 refine(kg w.heap.size m w2 HC2.out).mono ?_
 rintro e w3 ⟨rfl,hb3⟩
 have hb4:=HB.out.trans (hb3.mono HB.out.size)
 have HB4:=zh hb4;clear hb3 hb4
 go_wp2
 go_ret
 exact⟨rfl,HB4.out⟩
end
section
open Go
namespace Sig
def b1 (x:UInt8):ByteArray:=⟨#[x]⟩
def IC (h:ByteArray):List Nat:=h.data.toList.flatMap fun b=>[b.toNat/16,b.toNat%16]
def total (l:List Nat):Nat:=(l.map fun d=>15-d).sum
def digits (m:ByteArray):List Nat:=IC (Sha.sha m)++[total (IC (Sha.sha m))/256,total (IC (Sha.sha m))/16%16,total (IC (Sha.sha m))%16]
def Mi (key c p:Nat)(x:ByteArray):ByteArray:=Sha.sha (b1 3++Cod.uns key++Cod.uns c++Cod.uns p++x)
def chain (key c:Nat):Nat->Nat->ByteArray->ByteArray
 | _,0,x=>x
 | from_,n+1,x=>chain key c (from_+1) n (Mi key c from_ x)
def secret (seed:ByteArray)(key c:Nat):ByteArray:=Sha.sha (b1 2++seed++Cod.uns key++Cod.uns c)
def Jy (l:List ByteArray):ByteArray:=Sha.sha (b1 0++Cod.cat l)
def leaf (seed:ByteArray)(key:Nat):ByteArray:=Jy ((List.range 67).map fun c=>chain key c 0 15 (secret seed key c))
def leaves (seed:ByteArray)(n:Nat):List ByteArray:=(List.range n).map (leaf seed)
def node (l r:ByteArray):ByteArray:=if l.size=32/\r.size=32 then Sha.sha (b1 1++l++r) else ⟨#[]⟩
def split (n:Nat):Nat:=2^Nat.log2 (n-1)
theorem oq {n:Nat}(h:2<=n):split n<n:=by
 have:=Nat.log2_self_le (n:=n-1) (by omega)
 unfold split
 omega
theorem NK (n:Nat):0<split n:=Nat.pos_of_ne_zero (by unfold split;exact Nat.ne_of_gt (Nat.two_pow_pos _))
def FP:Nat->List ByteArray->ByteArray
 | _,[]=>Sha.sha ⟨#[]⟩
 | _,[x]=>x
 | 0,_::_::_=>⟨#[]⟩
 | f+1,x::y::l=>node (FP f ((x::y::l).take (split (l.length+2)))) (FP f ((x::y::l).drop (split (l.length+2))))
def root (l:List ByteArray):ByteArray:=FP l.length l
def Cc:Nat->ByteArray->Nat->Nat->List ByteArray->Option ByteArray
 | 0,_,_,_,_=>none
 | f + 1,x,i,n,p =>
   if n=1 then (if p=[] then some x else none)
   else match p.getLast? with
    | none=>none
    | some z => if i < split n then (Cc f x i (split n) p.dropLast).map fun r => node r z
      else (Cc f x (i-split n) (n-split n) p.dropLast).map fun r=>node z r
def given (x:ByteArray)(i n:Nat)(p:List ByteArray):Option ByteArray:=Cc n x i n p
def digest (s:ByteArray):Bool:=decide (s.size=32)
def included (x:ByteArray)(i n:Int)(p:List ByteArray)(r:ByteArray):Bool:=
 digest x&&digest r&&p.all digest&&decide (1<=n)&&decide (n<=4096)&&decide (p.length<=4096)&&decide (0<=i)&&decide (i<n)&&decide (given x i.toNat n.toNat p=some r)
def Bn (s:ByteArray):Bool:=decide (s.size=33)&&decide ((s.get! 32).toNat<=6)
structure T where
 index:Int
 chains:List ByteArray
 path:List ByteArray
deriving DecidableEq
def ends (key:Nat)(m:ByteArray)(l:List ByteArray):List ByteArray:=(List.range 67).map fun c=>chain key c ((digits m).getD c 0) (15-(digits m).getD c 0) (l.getD c ⟨#[]⟩)
def verify (pub m:ByteArray)(s:T):Bool:=
 Bn pub&&decide (0<=s.index)&&decide (s.index<2^(pub.get! 32).toNat)&&decide (s.chains.length=67)&&s.chains.all digest&&
  included (Jy (ends s.index.toNat m s.chains)) s.index (2^(pub.get! 32).toNat) s.path (pub.extract 0 32)
def Jz (seed:ByteArray):ByteArray:=root (leaves seed 2)++b1 1
def BH (seed:ByteArray)(key:Nat)(m:ByteArray):T:=
 { index:=key,chains:=(List.range 67).map fun c=>chain key c 0 ((digits m).getD c 0) (secret seed key c),path:=[leaf seed (1-key)] }
theorem QL (h:ByteArray):(IC h).length=2*h.size:=by
 rw[<- Sha.Bo]
 unfold IC
 induction h.data.toList with
 | nil=>rfl
 | cons b l ih=>rw[List.flatMap_cons,List.length_append,ih,List.length_cons];simp;omega
theorem dA (h:ByteArray):∀ d∈IC h,d<16:=by
 intro d hd
 unfold IC at hd
 obtain⟨b,_,hb⟩:=List.mem_flatMap.1 hd
 have:=b.toNat_lt
 simp at hb
 omega
theorem Mj (l:List Nat):total l<=15*l.length:=by
 induction l with
 | nil=>exact Nat.le_refl _
 | cons d l ih=>unfold total at ih ⊢;rw[List.map_cons,List.sum_cons,List.length_cons];omega
theorem QM (m:ByteArray):(digits m).length=67:=by
 unfold digits
 rw[List.length_append,QL,Sha.Dp]
 rfl
theorem fO (m:ByteArray):∀ d∈digits m,d<=15:=by
 intro d hd
 unfold digits at hd
 rcases List.mem_append.1 hd with h|h
 ·have:=dA _ d h;omega
 ·have h1:=Mj (IC (Sha.sha m))
  rw[QL,Sha.Dp] at h1
  simp at h
  omega
theorem QN (m:ByteArray)(c:Nat):(digits m).getD c 0<=15:=by
 rw[List.getD_eq_getElem?_getD]
 cases h:(digits m)[c]? with
 | none=>simp
 | some d=>exact fO m d (List.mem_of_getElem? h)
theorem NM (key c:Nat):∀ (a b from_:Nat) (x:ByteArray),chain key c from_ (a+b) x=chain key c (from_+a) b (chain key c from_ a x)
 | 0,b,from_,x=>by rw[Nat.zero_add];rfl
 | a + 1,b,from_,x => by
   rw[show a+1+b=(a+b)+1 by omega]
   show chain key c (from_+1) (a+b) _=_
   rw[NM key c a b (from_+1),show from_+1+a=from_+(a+1) by omega]
   rfl
theorem ZJ (key c from_ n:Nat)(x:ByteArray):chain key c from_ (n+1) x=Mi key c (from_+n) (chain key c from_ n x):=by
 rw[NM]
 rfl
theorem Gx (key c from_ n:Nat)(x:ByteArray)(h:x.size=32):(chain key c from_ n x).size=32:=by
 cases n with
 | zero=>exact h
 | succ n=>rw[ZJ];exact Sha.Dp _
theorem GY (seed:ByteArray)(key c:Nat):(secret seed key c).size=32:=Sha.Dp _
theorem Ie (seed:ByteArray)(key:Nat):(leaf seed key).size=32:=Sha.Dp _
theorem XH (x y:ByteArray)(hx:x.size=32)(hy:y.size=32):root [x,y]=Sha.sha (b1 1++x++y):=by
 show node (FP 1 ([x,y].take (split 2))) (FP 1 ([x,y].drop (split 2)))=_
 have:split 2=1:=by decide
 rw[this]
 show node x y=_
 unfold node
 rw[if_pos ⟨hx,hy⟩]
theorem IE (seed:ByteArray):(root (leaves seed 2)).size=32:=by
 show(root [leaf seed 0,leaf seed 1]).size=32
 rw[XH _ _ (Ie _ _) (Ie _ _)]
 exact Sha.Dp _
theorem QO (seed:ByteArray):(Jz seed).size=33:=by
 unfold Jz
 rw[ByteArray.size_append,IE]
 rfl
theorem IG (seed:ByteArray):(Jz seed).get! 32=1:=by
 have h:=IE seed
 unfold Jz
 generalize root (leaves seed 2)=r at h
 obtain⟨d⟩:=r
 have hd:d.size=32:=h
 show((⟨d⟩:ByteArray)++b1 1).data[32]! = 1
 rw[ByteArray.data_append]
 simp[b1,Array.getElem!_eq_getD,Array.getD_eq_getD_getElem?,Array.getElem?_append,Array.getElem?_push,hd]
 simp[Array.getElem_push,hd]
theorem ZK (seed:ByteArray):(Jz seed).extract 0 32=root (leaves seed 2):=by
 have h:=IE seed
 unfold Jz
 generalize root (leaves seed 2)=r at h
 apply Sha.BG
 rw[ByteArray.data_extract,ByteArray.data_append]
 have:r.data.size=32:=h
 simp[Array.extract_append,this,Array.extract_eq_self_of_le]
theorem fP (seed:ByteArray)(key:Nat)(m:ByteArray):ends key m (BH seed key m).chains=(List.range 67).map fun c=>chain key c 0 15 (secret seed key c):=by
 unfold ends
 refine List.map_congr_left fun c hc=>?_
 have hc:=List.mem_range.1 hc
 have e:(BH seed key m).chains.getD c ⟨#[]⟩=chain key c 0 ((digits m).getD c 0) (secret seed key c):=by
  have e0:(BH seed key m).chains=(List.range 67).map fun c=>chain key c 0 ((digits m).getD c 0) (secret seed key c):=rfl
  rw[e0,List.getD_eq_getElem?_getD,List.getElem?_map,List.getElem?_range hc]
  rfl
 have hd:=QN m c
 rw[e,show(15:Nat)=(digits m).getD c 0+(15-(digits m).getD c 0) by omega,NM]
 simp only[Nat.zero_add]
 congr 1
 omega
theorem VD (x y:ByteArray)(hx:x.size=32)(hy:y.size=32)(k:Nat)(hk:k<2):included (if k=0 then x else y) k 2 [if k=0 then y else x] (root [x,y])=true:=by
 have hr:=XH x y hx hy
 have s2:split 2=1:=by decide
 have hn:node x y=root [x,y]:=by rw[hr];unfold node;rw[if_pos ⟨hx,hy⟩]
 have hrs:(root [x,y]).size=32:=by rw[hr];exact Sha.Dp _
 unfold included digest
 have hg:given (if k=0 then x else y) (k:Int).toNat (2:Int).toNat [if k=0 then y else x]=some (root [x,y]):=by
  have e1:(k:Int).toNat=k:=Int.toNat_natCast k
  have e2:(2:Int).toNat=2:=rfl
  rw[e1,e2]
  rcases(by omega:k=0\/k=1) with rfl|rfl
  ·simp[given,Cc,s2,hn]
  ·simp[given,Cc,s2,hn]
 rw[hg]
 rcases(by omega:k=0\/k=1) with rfl|rfl<;>simp[hx,hy,hrs]
theorem XI (seed:ByteArray)(key:Nat)(hk:key<2)(m:ByteArray):verify (Jz seed) m (BH seed key m)=true:=by
 have e1:=fP seed key m
 have e2:Jy (ends key m (BH seed key m).chains)=leaf seed key:=by rw[e1];rfl
 unfold verify
 rw[IG,ZK]
 have e3:(BH seed key m).index.toNat=key:=Int.toNat_natCast key
 rw[e3,e2]
 have hi:=VD (leaf seed 0) (leaf seed 1) (Ie _ _) (Ie _ _) key hk
 have e4:(if key=0 then leaf seed 0 else leaf seed 1)=leaf seed key:=by rcases(by omega:key=0\/key=1) with rfl|rfl<;>rfl
 have e5:[if key=0 then leaf seed 1 else leaf seed 0]=(BH seed key m).path:=by rcases(by omega:key=0\/key=1) with rfl|rfl<;>rfl
 rw[e4,e5] at hi
 have hp:Bn (Jz seed)=true:=by unfold Bn;rw[QO,IG];rfl
 have hall:(BH seed key m).chains.all digest=true:=by
  rw[List.all_eq_true]
  intro x hx
  obtain⟨c,_,rfl⟩:=List.mem_map.1 hx
  unfold digest
  rw[Gx _ _ _ _ _ (GY _ _ _)]
  rfl
 have hlen:(BH seed key m).chains.length=67:=by show((List.range 67).map _).length=67;rw[List.length_map,List.length_range]
 have h2:((2:Int)^(1:UInt8).toNat)=2:=rfl
 rw[hp,hall,hlen,h2]
 have h3:(BH seed key m).index=(key:Int):=rfl
 have h4:(leaves seed 2)=[leaf seed 0,leaf seed 1]:=rfl
 rw[h3,h4,hi]
 simp
 omega
end Sig
end
section
open Go Go.RowKit Go.Maps
theorem XJ:(Tryz.prog.info? 9).map (fun i=>(i.zero,i.size,i.bytes))=some (some (.string ⟨#[]⟩),1,16):=by kernel_rfl
def Al (w:World)(v:Value)(xs:List ByteArray):Prop:=
 ∃ a c,v=.slice a xs.length c/\(xs.length=0\/∃ b o,a=some ⟨b,o,none⟩/\∀ j,j<xs.length->w.cell? ⟨b,o+j,none⟩=some (.string (xs.getD j ⟨#[]⟩)))
theorem Al.own {w:World}{base:Nat}{v:Value}{xs:List ByteArray}(h:w.ownsRow base 9 1 v xs.length (xs.map Value.string)):Al w v xs:=by
 by_cases h0:0<xs.length
 ·obtain⟨g,cap,rfl,hc⟩:=Ct h h0
  refine⟨_,_,rfl,.inr ⟨g,0,rfl,fun j hj=>?_⟩⟩
  rw[Nat.zero_add]
  refine hc j _ ?_
  simp[List.getD_eq_getElem?_getD,hj]
 ·obtain⟨_,⟨rfl,hn⟩|⟨g,cap,cur,rfl,_⟩⟩:=h
  ·exact⟨none,0,by rw[hn],.inl hn⟩
  ·exact⟨_,_,rfl,.inl (by omega)⟩
theorem Al.below {w w' : World}{v:Value}{xs:List ByteArray}(h:Al w v xs)(hb:Below w.heap.size w w'):Al w' v xs:=by
 obtain⟨a,c,rfl,h0|⟨b,o,rfl,hc⟩⟩:=h
 ·exact⟨_,_,rfl,.inl h0⟩
 ·refine⟨_,_,rfl,.inr ⟨b,o,rfl,fun j hj=>?_⟩⟩
  have:=hc j hj
  rw[hb.cell (p:=⟨b,o+j,none⟩) (block_lt this)]
  exact this
theorem Al.block {w:World}{b n:Nat}{t:TypeId}{xs:List ByteArray}(h:At w b t (xs.map Value.string).toArray)(hn:n=xs.length)(c:Nat):Al w (.slice (some ⟨b,0,none⟩) n c) xs:=by
 subst hn
 refine⟨_,_,rfl,.inr ⟨b,0,rfl,fun j hj=>?_⟩⟩
 rw[Nat.zero_add,h.cell]
 simp[List.getD_eq_getElem?_getD,hj]
theorem Al.len {w:World}{v:Value}{xs:List ByteArray}(h:Al w v xs):∃ a c,v=.slice a xs.length c:=⟨h.choose,h.choose_spec.choose,h.choose_spec.choose_spec.1⟩
theorem Al.cellAt {w:World}{b o n c k:Nat}{xs:List ByteArray}(h:Al w (.slice (some ⟨b,o,none⟩) n c) xs)(hk:k<xs.length):w.cell? ⟨b,o+k,none⟩=some (.string (xs.getD k ⟨#[]⟩)):=by
 obtain⟨a',c',he',h0|⟨b',o',e',hc'⟩⟩:=h
 ·omega
 ·cases he'
  cases e'
  exact hc' k hk
theorem Al.addrOf {w:World}{a:Option Addr}{n c k:Nat}{xs:List ByteArray}(h:Al w (.slice a n c) xs)(hk:k<xs.length):∃ b o,a=some ⟨b,o,none⟩:=by
 obtain⟨a',c',he',h0|⟨b',o',e',hc'⟩⟩:=h
 ·omega
 ·cases he'
  exact⟨b',o',e'⟩
theorem Al.keep {w w' : World}{v:Value}{xs:List ByteArray}(h:Al w v xs)(hk:∀ k,v.ownBlock=some k->k<w.heap.size->w'.heap[k]? = w.heap[k]?):Al w' v xs:=by
 obtain⟨a,c,rfl,h0|⟨b,o,rfl,hc⟩⟩:=h
 ·exact⟨_,_,rfl,.inl h0⟩
 ·refine⟨_,_,rfl,.inr ⟨b,o,rfl,fun j hj=>?_⟩⟩
  have h1:=hc j hj
  rw[Kl (hk b rfl (block_lt h1))]
  exact h1
theorem Al.blk {w:World}{v:Value}{xs:List ByteArray}(h:Al w v xs)(h0:0<xs.length):∀ k,v.ownBlock=some k->k<w.heap.size:=by
 intro k hk
 obtain⟨a,c,rfl,h1|⟨b,o,rfl,hc⟩⟩:=h
 ·omega
 ·cases hk
  exact block_lt (hc 0 h0)
theorem Al.empty {w:World}{v:Value}{xs:List ByteArray}(h:Al w v xs)(h0:xs.length=0)(w' : World):Al w' v xs:=by
 obtain⟨a,c,rfl,_⟩:=h
 exact⟨_,_,rfl,.inl h0⟩
theorem Rh {w:World}{ops:Array Oper}{rest:List Oper}{o:Oper}{a:Act}{Q:Exit->Act->World->Prop}(hgd:o.guard=none)(s x:Operand)(ho:o.op=.call { callee:=.builtin .append,args:=#[s,x],argTypes:=#[68,68] })
 (base n:Nat) (v:Value) (xs:List Value) (hs:a.eval s=v) (hown:w.ownsRow base 9 1 v n xs) (y:Value) (ys:List ByteArray) (hx:a.eval x=y) (hy:Al w y ys) (hn:n+ys.length<=4000000) (hb:base<=w.heap.size)
 (h:∀ v' w',w'.ownsRow base 9 1 v' (n+ys.length) (xs++ys.map Value.string)->w.grownBy w' v.ownBlock->wpList Tryz.prog ops Q rest (a.put o.dst v') w'):wpList Tryz.prog ops Q (o::rest) a w:=by
 obtain⟨i1,hi,hz0,hz1,hz2⟩:=info_parts XJ
 obtain⟨ya,yc,rfl,hc⟩:=hy
 cases ya with
 | none =>
   have h0:ys.length=0:=by
    rcases hc with h0|⟨b,o,e,_⟩
    ·exact h0
    ·cases e
   have hys:ys=[]:=List.eq_nil_of_length_eq_zero h0
   subst hys
   refine wpList_plain hgd fun K hK=>?_
   have hrun:=PG (P:=Tryz.prog) (w:=w) base 68 o.type 9 i1 1 Tryz.underlying68 hi v n yc xs hown
   unfold Oper.wp
   have hx' : a.eval x=.slice none 0 yc:=hx
   simp[execOp,ho,resolve,invoke,builtin,hs,hx',hrun,Result.andThen]
   exact hK _ _ (h v w (by simpa using hown) ⟨rfl,rfl,rfl,Nat.le_refl _,fun _ _ _=>rfl⟩)
 | some p =>
   refine wpList_append_own w hgd s x 68 ho base 9 i1 (.string ⟨#[]⟩) 1 16 Tryz.underlying68 hi hz0 hz1 hz2 rfl (by omega) v n xs hs hown p ys.length yc (ys.map Value.string) hx (by simp) (fun j u hj=>?_) (fun u hu=>by obtain⟨z,_,rfl⟩:=List.mem_map.1 hu;rfl) (by unfold maxLen;omega) (by omega) hb (fun v' w' h1 h2 _=>h v' w' h1 h2)
   have hjl:j<ys.length:=by
    have:=(List.getElem?_eq_some_iff.1 hj).1
    simpa using this
   rcases hc with h0|⟨b,o',e,hcell⟩
   ·omega
   ·cases e
    have hadd:(⟨b,o',none⟩:Addr).add j=⟨b,o' + j,none⟩:=by unfold Addr.add;split<;>simp_all
    rw[hadd,hcell j hjl]
    simp[List.getElem?_map,hjl] at hj
    rw[<- hj]
    simp[List.getD_eq_getElem?_getD,hjl]
def nums (L:List UInt8):List Int:=L.map fun x=>(x.toNat:Int)
theorem Mk (a b:List UInt8):nums (a++b)=nums a++nums b:=List.map_append
theorem Ll (L:List UInt8):strOfNums (nums L)=⟨L.toArray⟩:=by
 apply Sha.BG
 rw[strOfNums_data]
 unfold nums
 rw[List.map_map]
 show L.map _=L
 rw[List.map_congr_left (g:=id) (fun x _=>by simp)]
 simp
theorem uV (n:Nat):bits BinOp.or IntKind.u8 ((n:Int)%256) 128=((n%128+128:Nat):Int):=by
 have h:∀ k:Fin 256,bits BinOp.or IntKind.u8 (k.val:Int) 128=((k.val%128+128:Nat):Int):=by decide +kernel
 have h2:=h ⟨n%256,Nat.mod_lt _ (by omega)⟩
 simp only at h2
 have e:((n%256:Nat):Int)=(n:Int)%256:=by omega
 rw[e] at h2
 rw[h2]
 congr 2
 omega
theorem Uv (f n:Nat)(h:128<=n):Cod.EZ (f+1) n=(n%128+128).toUInt8::Cod.EZ f (n/128):=by
 show(if n<128 then _ else _)=_
 rw[if_neg (by omega)]
theorem Uw (f n:Nat)(h:n<128):Cod.EZ (f+1) n=[n.toUInt8]:=by
 show(if n<128 then _ else _)=_
 rw[if_pos h]
def uX (w0:World)(m0:Nat)(n b:Value)(wr:World):Prop:=
 ∃ (m f:Nat) (B:List UInt8),n=.int .u64 m/\m<128^(f+1)/\m<18446744073709551616/\B.length+f=9/\B++Cod.EZ (f+1) m=Cod.EZ 10 m0/\wr.ownsRow w0.heap.size 5 1 b B.length ((nums B).map (Value.int .u8))/\Below w0.heap.size w0 wr
theorem zbN (m:Nat)(w:World)(hm:m<18446744073709551616):
 Calls Tryz.prog 129 #[.int .u64 m] w fun e w' => e=.returned (.string (Cod.uns m))/\Below w.heap.size w w':=by
 obtain⟨i0,hi,hz0,hz1,hz2⟩:=info_parts GX
 go_enter Tryz.func129,Tryz.ntmps129
 go_wp2
 go_loopw [0,3] (fun n b wr=>uX w m n b wr) (fun n _ _=>(intOf n).toNat)
 case atStart=>
  have h10:(128:Nat)^10=1180591620717411303424:=by decide
  exact⟨m,9,[],rfl,by omega,hm,rfl,rfl,⟨rfl,.inl ⟨rfl,rfl⟩⟩,Below.refl _ _⟩
 case round=>
  obtain⟨n,f,B,rfl,hn,hn2,hl,hB,how,hb⟩:=hrel
  have HOW:=zh how;have HBL:=zh hb;have HBB:=zh hB;clear how hb hB
  obtain⟨ga,gm,gc,rfl⟩:=Ac HOW.out
  by_cases hlt:128<=n
  ·obtain⟨x,hx⟩:∃ x:UInt8,x=(n%128+128).toUInt8:=⟨_,rfl⟩
   have hxn:(x.toNat:Int)=bits BinOp.or IntKind.u8 ((n:Int)%256) 128:=by rw[hx,Cod.Gn _ (by omega)];exact(uV n).symm
   have HX:=zh hx;have HXN:=zh hxn;clear hx hxn
   obtain⟨g,rfl⟩:∃ g,f=g+1:=by
    rcases f with _|g
    ·simp at hn;omega
    ·exact⟨g,rfl⟩
   have hn3:n/128<128^(g+1):=by
    rw[Nat.pow_succ] at hn
    omega
   have HN3:=zh hn3;clear hn3 hn
   go_wp2_with (at_builtin;go_must (refine wpList_append_own_at _ rfl _ _ 66 rfl w.heap.size 5 i0 _ 1 1 Tryz.underlying66 hi hz0 hz1 hz2 rfl (by omega) (.slice ga gm gc) B.length ((nums B).map (Value.int .u8)) rfl (HOW.out.alloc _) ⟨wr.heap.size,0,none⟩ 1 1 [.int .u8 (bits BinOp.or IntKind.u8 ((n:Int)%256) 128)] rfl rfl ?c1 ?c2 ?c3 ?c4 ?c5 ?_))
   case c1=>
    intro j u hj
    match j,hj with
    | 0,hj=>simp at hj;subst hj;simp[Addr.add]
   case c2=>intro u hu;simp at hu;subst hu;rfl
   case c3=>unfold maxLen;omega
   case c4=>omega
   case c5=>have:=HBL.out.size;simp;omega
   intro v1 w1 QV hg1 _ _
   have hb1:Below w.heap.size w w1:=Bh (HBL.out.alloc HBL.out.size _) (by have:=HBL.out.size;simp;omega) HOW.out hg1
   have hrow:w1.ownsRow w.heap.size 5 1 v1 (B.length+1) ((nums (B++[x])).map (Value.int .u8)):=by
    rw[Mk,List.map_append]
    show w1.ownsRow _ _ _ _ _ (_++[Value.int .u8 (x.toNat:Int)])
    rw[HXN.out]
    exact QV
   obtain⟨g2,cap2,rfl,_⟩:=Ct hrow (by omega)
   have hB2:(B++[x])++Cod.EZ (g+1) (n/128)=Cod.EZ 10 m:=by
    rw[List.append_assoc,<- HBB.out,Uv (g+1) n hlt,HX.out]
    rfl
   have HB1:=zh hb1;have kr:=zh hrow;have HB2:=zh hB2;clear QV hg1 hb1 hrow hB2
   go_wp2_with fail
   refine⟨⟨n/128,g,B++[x],by first|rfl|(congr 1;omega),HN3.out,by omega,by rw[List.length_append];show B.length+1+g=9;omega,HB2.out,by rw[List.length_append];exact kr.out,HB1.out⟩,by simp[intOf];omega⟩
  ·obtain⟨x,hx⟩:∃ x:UInt8,x=n.toUInt8:=⟨_,rfl⟩
   have hxn:(x.toNat:Int)=n:=by rw[hx,Cod.Gn n (by omega)]
   have HX:=zh hx;have HXN:=zh hxn;clear hx hxn
   go_wp2_with (at_builtin;go_must (refine wpList_append_own_at _ rfl _ _ 66 rfl w.heap.size 5 i0 _ 1 1 Tryz.underlying66 hi hz0 hz1 hz2 rfl (by omega) (.slice ga gm gc) B.length ((nums B).map (Value.int .u8)) rfl (HOW.out.alloc _) ⟨wr.heap.size,0,none⟩ 1 1 [.int .u8 n] rfl rfl ?c1 ?c2 ?c3 ?c4 ?c5 ?_))
   case c1=>
    intro j u hj
    match j,hj with
    | 0,hj=>simp at hj;subst hj;simp[Addr.add]
   case c2=>intro u hu;simp at hu;subst hu;rfl
   case c3=>unfold maxLen;omega
   case c4=>omega
   case c5=>have:=HBL.out.size;simp;omega
   intro v1 w1 QV hg1 _ _
   have hb1:Below w.heap.size w w1:=Bh (HBL.out.alloc HBL.out.size _) (by have:=HBL.out.size;simp;omega) HOW.out hg1
   have hrow:w1.ownsRow w.heap.size 5 1 v1 (B.length+1) ((nums (B++[x])).map (Value.int .u8)):=by
    rw[Mk,List.map_append]
    show w1.ownsRow _ _ _ _ _ (_++[Value.int .u8 (x.toNat:Int)])
    rw[HXN.out]
    exact QV
   have hfin:(⟨(B++[x]).toArray⟩:ByteArray)=Cod.uns m:=by
    unfold Cod.uns
    rw[<- HBB.out,Uw f n (by omega),HX.out]
   have hcv:(convert 66 9 v1).run Tryz.prog w1=.ok (.string (Cod.uns m)) w1:=by
    rw[Ck w1 66 5 9 rfl rfl rfl _ hrow,Ll,hfin]
   have HB1:=zh hb1;clear QV hg1 hb1 hrow hfin
   go_wp2
   go_ret
   exact⟨rfl,HB1.out⟩
theorem ZL (m:Nat)(w:World)(hm:m<18446744073709551616):
 Calls Tryz.prog 133 #[.int .u64 m] w fun e w' => e=.returned (.string (Cod.uns m))/\Below w.heap.size w w':=by
 obtain⟨i0,hi,hz0,hz1,hz2⟩:=info_parts GX
 go_enter Tryz.func133,Tryz.ntmps133
 go_wp2
 go_loopw [0,3] (fun n b wr=>uX w m n b wr) (fun n _ _=>(intOf n).toNat)
 case atStart=>
  have h10:(128:Nat)^10=1180591620717411303424:=by decide
  exact⟨m,9,[],rfl,by omega,hm,rfl,rfl,⟨rfl,.inr ⟨w.heap.size,0,#[],rfl,Nat.le_refl _,At.new w _ _,Nat.le_refl _,by decide,rfl,rfl⟩⟩,zb⟩
 case round=>
  obtain⟨n,f,B,rfl,hn,hn2,hl,hB,how,hb⟩:=hrel
  have HOW:=zh how;have HBL:=zh hb;have HBB:=zh hB;clear how hb hB
  obtain⟨ga,gm,gc,rfl⟩:=Ac HOW.out
  by_cases hlt:128<=n
  ·obtain⟨x,hx⟩:∃ x:UInt8,x=(n%128+128).toUInt8:=⟨_,rfl⟩
   have hxn:(x.toNat:Int)=(n:Int)%128+128:=by rw[hx,Cod.Gn _ (by omega)];omega
   have HX:=zh hx;have HXN:=zh hxn;clear hx hxn
   obtain⟨g,rfl⟩:∃ g,f=g+1:=by
    rcases f with _|g
    ·simp at hn;omega
    ·exact⟨g,rfl⟩
   have hn3:n/128<128^(g+1):=by
    rw[Nat.pow_succ] at hn
    omega
   have HN3:=zh hn3;clear hn3 hn
   go_wp2_with (at_builtin;go_must (refine wpList_append_own_at _ rfl _ _ 66 rfl w.heap.size 5 i0 _ 1 1 Tryz.underlying66 hi hz0 hz1 hz2 rfl (by omega) (.slice ga gm gc) B.length ((nums B).map (Value.int .u8)) rfl (HOW.out.alloc _) ⟨wr.heap.size,0,none⟩ 1 1 [.int .u8 ((n:Int)%128+128)] rfl rfl ?c1 ?c2 ?c3 ?c4 ?c5 ?_))
   case c1=>
    intro j u hj
    match j,hj with
    | 0,hj=>simp at hj;subst hj;simp[Addr.add]
   case c2=>intro u hu;simp at hu;subst hu;rfl
   case c3=>unfold maxLen;omega
   case c4=>omega
   case c5=>have:=HBL.out.size;simp;omega
   intro v1 w1 QV hg1 _ _
   have hb1:Below w.heap.size w w1:=Bh (HBL.out.alloc HBL.out.size _) (by have:=HBL.out.size;simp;omega) HOW.out hg1
   have hrow:w1.ownsRow w.heap.size 5 1 v1 (B.length+1) ((nums (B++[x])).map (Value.int .u8)):=by
    rw[Mk,List.map_append]
    show w1.ownsRow _ _ _ _ _ (_++[Value.int .u8 (x.toNat:Int)])
    rw[HXN.out]
    exact QV
   obtain⟨g2,cap2,rfl,_⟩:=Ct hrow (by omega)
   have hB2:(B++[x])++Cod.EZ (g+1) (n/128)=Cod.EZ 10 m:=by
    rw[List.append_assoc,<- HBB.out,Uv (g+1) n hlt,HX.out]
    rfl
   have HB1:=zh hb1;have kr:=zh hrow;have HB2:=zh hB2;clear QV hg1 hb1 hrow hB2
   go_wp2_with fail
   refine⟨⟨n/128,g,B++[x],by first|rfl|(congr 1;omega),HN3.out,by omega,by rw[List.length_append];show B.length+1+g=9;omega,HB2.out,by rw[List.length_append];exact kr.out,HB1.out⟩,by simp[intOf];omega⟩
  ·obtain⟨x,hx⟩:∃ x:UInt8,x=n.toUInt8:=⟨_,rfl⟩
   have hxn:(x.toNat:Int)=n:=by rw[hx,Cod.Gn n (by omega)]
   have HX:=zh hx;have HXN:=zh hxn;clear hx hxn
   go_wp2_with (at_builtin;go_must (refine wpList_append_own_at _ rfl _ _ 66 rfl w.heap.size 5 i0 _ 1 1 Tryz.underlying66 hi hz0 hz1 hz2 rfl (by omega) (.slice ga gm gc) B.length ((nums B).map (Value.int .u8)) rfl (HOW.out.alloc _) ⟨wr.heap.size,0,none⟩ 1 1 [.int .u8 n] rfl rfl ?c1 ?c2 ?c3 ?c4 ?c5 ?_))
   case c1=>
    intro j u hj
    match j,hj with
    | 0,hj=>simp at hj;subst hj;simp[Addr.add]
   case c2=>intro u hu;simp at hu;subst hu;rfl
   case c3=>unfold maxLen;omega
   case c4=>omega
   case c5=>have:=HBL.out.size;simp;omega
   intro v1 w1 QV hg1 _ _
   have hb1:Below w.heap.size w w1:=Bh (HBL.out.alloc HBL.out.size _) (by have:=HBL.out.size;simp;omega) HOW.out hg1
   have hrow:w1.ownsRow w.heap.size 5 1 v1 (B.length+1) ((nums (B++[x])).map (Value.int .u8)):=by
    rw[Mk,List.map_append]
    show w1.ownsRow _ _ _ _ _ (_++[Value.int .u8 (x.toNat:Int)])
    rw[HXN.out]
    exact QV
   have hfin:(⟨(B++[x]).toArray⟩:ByteArray)=Cod.uns m:=by
    unfold Cod.uns
    rw[<- HBB.out,Uw f n (by omega),HX.out]
   have hcv:(convert 66 9 v1).run Tryz.prog w1=.ok (.string (Cod.uns m)) w1:=by
    rw[Ck w1 66 5 9 rfl rfl rfl _ hrow,Ll,hfin]
   have HB1:=zh hb1;clear QV hg1 hb1 hrow hfin
   go_wp2
   go_ret
   exact⟨rfl,HB1.out⟩
theorem ED (s:ByteArray)(w:World)(hs:s.size<=140737488350000):
 Calls Tryz.prog 77 #[.string s] w fun e w' => e=.returned (.string (Cod.text s))/\Below w.heap.size w w':=by
 have hu:=Cod.Ce s.size
 have ht:Cod.uns s.size++s=Cod.text s:=rfl
 have HT:=zh ht;clear ht
 go_enter Tryz.func77,Tryz.ntmps77
 go_wp2_with fail
 refine(zbN s.size _ (by omega)).mono ?_
 rintro e w1 ⟨rfl,hb1⟩
 have HB:=zh hb1;clear hb1
 generalize Cod.uns s.size=u at*
 go_wp2
 go_ret
 exact⟨by rw[HT.out];rfl,HB.out⟩
theorem J7 (s:ByteArray)(w:World)(hs:s.size<=140737488350000):
 Calls Tryz.prog 79 #[.string s] w fun e w' => e=.returned (.string (Cod.text s))/\Below w.heap.size w w':=by
 have hu:=Cod.Ce s.size
 have ht:Cod.uns s.size++s=Cod.text s:=rfl
 have HT:=zh ht;clear ht
 go_enter Tryz.func79,Tryz.ntmps79
 go_wp2_with fail
 refine(ZL s.size _ (by omega)).mono ?_
 rintro e w1 ⟨rfl,hb1⟩
 have HB:=zh hb1;clear hb1
 generalize Cod.uns s.size=u at*
 go_wp2
 go_ret
 exact⟨by rw[HT.out];rfl,HB.out⟩
theorem Ux (n:Nat)(w:World)(hn:n<9223372036854775808):
 Calls Tryz.prog 117 #[.int .i64 n] w fun e w' => e=.returned (.tuple #[.string (Cod.uns n),.int .i64 0])/\Below w.heap.size w w':=by
 go_enter Tryz.func117,Tryz.ntmps117
 go_wp2_with fail
 refine(zbN n _ (by omega)).mono ?_
 rintro e w1 ⟨rfl,hb1⟩
 have HB:=zh hb1;clear hb1
 go_wp2
 go_ret2
 exact⟨rfl,HB.out⟩
theorem XK (n:Nat)(w:World)(hn:n<9223372036854775808):
 Calls Tryz.prog 120 #[.int .i64 n] w fun e w' => e=.returned (.tuple #[.string (Cod.uns n),.int .i64 0])/\Below w.heap.size w w':=by
 go_enter Tryz.func120,Tryz.ntmps120
 go_wp2_with fail
 refine(ZL n _ (by omega)).mono ?_
 rintro e w1 ⟨rfl,hb1⟩
 have HB:=zh hb1;clear hb1
 go_wp2
 go_ret2
 exact⟨rfl,HB.out⟩
theorem DI (n:Nat)(w:World)(hn:n<9223372036854775808):
 Calls Tryz.prog 131 #[.int .i64 n] w fun e w' => e=.returned (.string (Cod.uns n))/\Below w.heap.size w w':=by
 go_enter Tryz.func131,Tryz.ntmps131
 go_wp2_with fail
 refine(XK n _ hn).mono ?_
 rintro e w1 ⟨rfl,hb1⟩
 have HB:=zh hb1;clear hb1
 go_wp2
 go_ret
 exact⟨rfl,HB.out⟩
def rdV (s:ByteArray)(a:Nat)(e:Int):Array Value:=#[.string s,.int .i64 a,.int .i64 e]
theorem kC (s:ByteArray)(w:World):
 Calls Tryz.prog 80 #[.string s] w fun e w' => e=.returned (.pointer (some ⟨w.heap.size,0,none⟩))/\w' = w.alloc (.cells (rdV s 0 0) 157):=by
 go_enter Tryz.func80,Tryz.ntmps80
 go_wp2
 go_ret
 exact⟨rfl,rfl⟩
end
section
open Go Go.RowKit
namespace Sha
theorem fQ (x y:Int):bits .or .u32 x y=bits .or .u32 y x:=by simp only[bits,BitVec.or_comm]
theorem fT (x k:Int)(h0:0<=k)(h1:k<=32):bits .or .u32 (x/2^k.toNat) (x*2^(32-k).toNat%4294967296)=rotl x (32-k):=by
 rw[fQ,rotl,show(32-(32-k)).toNat=k.toNat by omega]
def byt (s:ByteArray)(j:Nat):Int:=((s.data.toList.getD j 0).toNat:Int)
theorem J2 (s:ByteArray)(j:Nat):0<=byt s j/\byt s j<256:=by
 have:=(s.data.toList.getD j 0).toNat_lt
 unfold byt
 omega
theorem Qg (s:ByteArray)(j:Nat)(h:j<s.size):((s[j]).toNat:Int)=byt s j:=by
 have:j<s.data.toList.length:=by simpa using h
 rw[byt,List.getD_eq_getElem?_getD,List.getElem?_eq_getElem this]
 rfl
theorem II (x y:Int)(i:Nat)(h0:0<=x)(h1:x<4294967296)(hi:x%2^i=0)(hy0:0<=y)(hy:y<2^i)(hy1:y<4294967296):bits .or .u32 x y=x+y:=
 bits_join .u32 32 (by decide) wraps_u32 i x y h0 hi h1 hy0 hy hy1
theorem kD (s:ByteArray)(i:Nat):acc s i 4=byt s (4*i)*16777216+byt s (4*i+1)*65536+byt s (4*i+2)*256+byt s (4*i+3):=by
 have b0:=J2 s (4*i);have b1:=J2 s (4*i+1);have b2:=J2 s (4*i+2);have b3:=J2 s (4*i+3)
 have e1:acc s i 1=byt s (4*i):=by
  show bits .or .u32 (0*256%4294967296) (byt s (4*i+0))=_
  rw[Nat.add_zero,II _ _ 8 (by decide) (by decide) (by decide) b0.1 b0.2 (by omega)]
  omega
 have e2:acc s i 2=byt s (4*i)*256+byt s (4*i+1):=by
  show bits .or .u32 (acc s i 1*256%4294967296) (byt s (4*i+1))=_
  rw[e1,II _ _ 8 (by omega) (by omega) (by show _%256=0;omega) b1.1 b1.2 (by omega)]
  omega
 have e3:acc s i 3=byt s (4*i)*65536+byt s (4*i+1)*256+byt s (4*i+2):=by
  show bits .or .u32 (acc s i 2*256%4294967296) (byt s (4*i+2))=_
  rw[e2,II _ _ 8 (by omega) (by omega) (by show _%256=0;omega) b2.1 b2.2 (by omega)]
  omega
 show bits .or .u32 (acc s i 3*256%4294967296) (byt s (4*i+3))=_
 rw[e3,II _ _ 8 (by omega) (by omega) (by show _%256=0;omega) b3.1 b3.2 (by omega)]
 omega
theorem oo (a b c d:Int)(ha:0<=a/\a<256)(hb:0<=b/\b<256)(hc:0<=c/\c<256)(hd:0<=d/\d<256):
 bits .or .u32 (bits .or .u32 (bits .or .u32 (a*16777216) (b*65536)) (c*256)) d=a*16777216+b*65536+c*256+d:=by
 rw[II (a*16777216) (b*65536) 24 (by omega) (by omega) (by show _%16777216=0;omega) (by omega) (by show _<16777216;omega) (by omega),
  II _ (c*256) 16 (by omega) (by omega) (by show _%65536=0;omega) (by omega) (by show _<65536;omega) (by omega),
  II _ d 8 (by omega) (by omega) (by show _%256=0;omega) (by omega) (by show _<256;omega) (by omega)]
theorem fV (s:ByteArray)(k:Nat)(h:4*k+3<s.size):
 bits .or .u32 (bits .or .u32 (bits .or .u32 ((s[4*k].toNat:Int)%4294967296*16777216%4294967296) ((s[4*k+1].toNat:Int)%4294967296*65536%4294967296)) ((s[4*k+2].toNat:Int)%4294967296*256%4294967296)) ((s[4*k+3].toNat:Int)%4294967296)=acc s k 4:=by
 have b0:=J2 s (4*k);have b1:=J2 s (4*k+1);have b2:=J2 s (4*k+2);have b3:=J2 s (4*k+3)
 rw[Qg s (4*k) (by omega),Qg s (4*k+1) (by omega),Qg s (4*k+2) (by omega),Qg s (4*k+3) (by omega),kD,<- oo _ _ _ _ b0 b1 b2 b3]
 congr 1
 ·congr 1
  ·congr 1
   ·omega
   ·omega
  ·omega
 ·omega
theorem J3 (s:ByteArray)(n j:Nat)(h:j<n):((sched s n).map (Value.int .u32))[j]? = some (.int .u32 ((sched s n).getD j 0)):=by
 rw[List.getElem?_map,List.getElem?_eq_getElem (by rw[AY];exact h),List.getD_eq_getElem?_getD,List.getElem?_eq_getElem (by rw[AY];exact h)]
 rfl
end Sha
theorem dB {w:World}{base n size:Nat}{e:TypeId}{v:Value}{xs:List Value}(h:w.ownsRow base e size v n xs)(hn:0<n):∃ g cap,v=.slice (some ⟨g,0,none⟩) n cap/\∀ i x,xs[i]? = some x->w.cell? ⟨g,i,none⟩=some x:=by
 obtain⟨hl,⟨_,h0⟩|⟨g,cap,cur,rfl,_,hc,_,_,hcs,ht⟩⟩:=h
 ·omega
 ·refine⟨g,cap,rfl,fun i x hx=>?_⟩
  rw[At.cell hc i,<- Array.getElem?_toList]
  rw[<- ht,List.getElem?_take] at hx
  split at hx
  ·exact hx
  ·cases hx
theorem kE:(Tryz.prog.info? 230).map (fun i=>(i.zero,i.size,i.bytes))=some (some (.int .u32 0),1,4):=by kernel_rfl
theorem DJ (x k r:Int)(w:World)(h0:0<=k)(h1:k<=32)(hr:r=32-k)(hx0:0<=x)(hx:x<4294967296):
 Calls Tryz.prog 255 #[.int .u32 x,.int .i64 k] w fun e w' => e=.returned (.int .u32 (Sha.rotl x r))/\∃ n,w' = w.drewN n:=by
 subst hr
 refine(jN x k w h0 h1 hx0 hx).mono ?_
 rintro e w' ⟨rfl,n,rfl⟩
 exact⟨by rw[Sha.fT x k h0 h1],n,rfl⟩
theorem ZN (w:World):
 Calls Tryz.prog 254 #[] w fun e w' => e=.returned (.slice (some ⟨w.heap.size,0,none⟩) 64 64)/\At w' w.heap.size 230 (Sha.row Sha.K)/\Below w.heap.size w w':=by
 go_enter Tryz.func254,Tryz.ntmps254
 go_wp2
 go_ret
 exact⟨rfl,At.new _ _ _,zb⟩
theorem ZO (s:ByteArray)(w:World)(hs:s.size=64):
 Calls Tryz.prog 253 #[.string s] w fun e w' => ∃ v,e=.returned v/\w'.ownsRow w.heap.size 230 1 v 64 ((Sha.sched s 64).map (Value.int .u32))/\Below w.heap.size w w':=by
 go_enter Tryz.func253,Tryz.ntmps253
 go_wp2_with fail
 obtain⟨i0,hi,hz0,hz1,hz2⟩:=info_parts kE
 go_loopw [3,4] (fun v i wr=>∃ k:Nat,k<=16/\i=.int .i64 ((4*k:Nat):Int)/\wr.ownsRow w.heap.size 230 1 v k ((Sha.sched s k).map (Value.int .u32))/\Below w.heap.size w wr) (fun _ i _=>64-(intOf i).toNat)
 case atStart=>exact⟨0,by omega,rfl,⟨rfl,.inr ⟨w.heap.size,0,#[],rfl,Nat.le_refl _,At.new _ _ _,Nat.le_refl _,by decide,rfl,rfl⟩⟩,zb⟩
 case round=>
  obtain⟨k,hk,rfl,hv,hb⟩:=hrel
  have HV:=zh hv;have HB:=zh hb;clear hv hb
  by_cases hlt:k<16
  ·have dk:decide (((4*k:Nat):Int)<64)=true:=by simp;omega
   go_wp2
   refine Lex.zl ?_
   go_wp2_with (at_builtin;go_must (refine wpList_append_own_at _ rfl _ _ 240 rfl w.heap.size 230 i0 (.int .u32 0) 1 4 Tryz.underlying240 hi hz0 hz1 hz2 rfl (by omega) _ k ((Sha.sched s k).map (Value.int .u32)) rfl (HV.out.alloc _).drew ⟨wr.heap.size,0,none⟩ 1 1 [.int .u32 (Sha.acc s k 4)] rfl rfl ?c1 ?c2 ?c3 ?c4 ?c5 ?_))
   case c1=>
    intro j u hj
    match j,hj with
    | 0,hj=>simp at hj;subst hj;rw[<- Sha.fV s k (by omega)];simp[Addr.add]
   case c2=>intro u hu;simp at hu;subst hu;rfl
   case c3=>unfold maxLen;omega
   case c4=>omega
   case c5=>have:=HB.out.size;simp;omega
   intro v2 w15 how hg _ hb'
   have Tn:Below w.heap.size w w15:=Bh (HB.out.alloc HB.out.size _).drew (by have:=HB.out.size;simp;omega) HV.out hg
   have kF:Sha.sched s (k+1)=Sha.sched s k++[Sha.acc s k 4]:=by rw[Sha.sched,Sha.step,Sha.AY,if_pos hlt]
   have kG:=zh Tn;have HOW:=zh how;have HSC:=zh kF;clear how hg hb' Tn kF
   go_wp2
   refine Lex.ze ?_
   go_wp2_with fail
   refine⟨⟨k+1,by omega,by go_num,by rw[HSC.out,List.map_append];exact HOW.out,kG.out⟩,by simp[intOf];omega⟩
  ·have hk' : k=16:=by omega
   have dk:decide (((4*k:Nat):Int)<64)=false:=by simp;omega
   have HK:=zh hk';clear hk'
   go_wp2
   go_loopw [3,5] (fun v i wr=>∃ k:Nat,16<=k/\k<=64/\i=.int .i64 k/\wr.ownsRow w.heap.size 230 1 v k ((Sha.sched s k).map (Value.int .u32))/\Below w.heap.size w wr) (fun _ i _=>64-(intOf i).toNat)
   case atStart=>
    have hv:=HV.out
    rw[HK.out] at hv
    exact⟨16,by omega,by omega,rfl,hv,HB.out⟩
   case round=>
    obtain⟨j,hj1,hj2,rfl,hv,hb⟩:=hrel
    by_cases zbi:j<64
    ·have dj:decide ((j:Int)<64)=true:=by simp;omega
     obtain⟨g,cap,rfl,hc⟩:=dB hv (by omega)
     have c2:=hc _ _ (Sha.J3 s j (j-2) (by omega))
     have c7:=hc _ _ (Sha.J3 s j (j-7) (by omega))
     have c15:=hc _ _ (Sha.J3 s j (j-15) (by omega))
     have c16:=hc _ _ (Sha.J3 s j (j-16) (by omega))
     have b2:=Sha.Dz s j (j-2)
     have b7:=Sha.Dz s j (j-7)
     have b15:=Sha.Dz s j (j-15)
     have b16:=Sha.Dz s j (j-16)
     have hnx:Sha.nxt (Sha.sched s j)=(Sha.ss ((Sha.sched s j).getD (j-2) 0) 15 13 10+(Sha.sched s j).getD (j-7) 0+Sha.ss ((Sha.sched s j).getD (j-15) 0) 25 14 3+(Sha.sched s j).getD (j-16) 0)%4294967296:=by
      simp only[Sha.nxt,Sha.AY]
     have kF:Sha.sched s (j+1)=Sha.sched s j++[Sha.nxt (Sha.sched s j)]:=by rw[Sha.sched,Sha.step,Sha.AY,if_neg (by omega)]
     generalize (Sha.sched s j).getD (j-2) 0=x2 at*
     generalize (Sha.sched s j).getD (j-7) 0=x7 at*
     generalize (Sha.sched s j).getD (j-15) 0=x15 at*
     generalize (Sha.sched s j).getD (j-16) 0=x16 at*
     have HVV:=zh hv;have HBB:=zh hb;have HNX:=zh hnx;have HSC:=zh kF;have HC:=zh hc;clear hv hb hnx kF hc
     go_wp2
     refine Lex.zl ?_
     go_wp2
     refine Lex.ze ?_
     go_wp2_with fail
     refine(DJ x15 7 25 _ (by omega) (by omega) (by omega) b15.1 b15.2).mono ?_
     rintro e1 w1 ⟨rfl,n1,rfl⟩
     go_wp2_with fail
     refine(DJ x15 18 14 _ (by omega) (by omega) (by omega) b15.1 b15.2).mono ?_
     rintro e2 w2 ⟨rfl,n2,rfl⟩
     go_wp2_with fail
     refine(DJ x2 17 15 _ (by omega) (by omega) (by omega) b2.1 b2.2).mono ?_
     rintro e3 w3 ⟨rfl,n3,rfl⟩
     go_wp2_with fail
     refine(DJ x2 19 13 _ (by omega) (by omega) (by omega) b2.1 b2.2).mono ?_
     rintro e4 w4 ⟨rfl,n4,rfl⟩
     go_wp2
     refine Lex.zl ?_
     go_wp2_with (at_builtin;go_must (refine wpList_append_own_at _ rfl _ _ 240 rfl w.heap.size 230 i0 (.int .u32 0) 1 4 Tryz.underlying240 hi hz0 hz1 hz2 rfl (by omega) _ j ((Sha.sched s j).map (Value.int .u32)) rfl (World.ownsRow.alloc (by exact HVV.out) _).drew ⟨wr.heap.size,0,none⟩ 1 1 [.int .u32 (Sha.nxt (Sha.sched s j))] rfl rfl ?c1 ?c2 ?c3 ?c4 ?c5 ?_))
     case c1=>
      intro j u hj
      match j,hj with
      | 0,hj=>simp at hj;subst hj;rw[HNX.out];simp[Addr.add,Sha.ss,Sha.x32];exact(At.new (wr.drewN (1+n1+n2+n3+n4+1)) 230 _).cell 0
     case c2=>intro u hu;simp at hu;subst hu;rfl
     case c3=>unfold maxLen;omega
     case c4=>omega
     case c5=>have:=HBB.out.size;simp;omega
     intro v2 w15 how hg _ hb'
     have Tn:Below w.heap.size w w15:=Bh ((below_drewN HBB.out _).alloc (by have:=HBB.out.size;exact this) _) (by have:=HBB.out.size;simp;exact Nat.le_succ_of_le this) HVV.out hg
     have kG:=zh Tn;have HOW:=zh how;clear how hg hb' Tn
     go_wp2
     refine Lex.ze ?_
     go_wp2
     go_roundw
     case rel=>
      have hrel:∃ k:Nat,16<=k/\k<=64/\Value.int .i64 ((j:Int)+1)=.int .i64 k/\w15.ownsRow w.heap.size 230 1 v2 k ((Sha.sched s k).map (Value.int .u32))/\Below w.heap.size w w15:=
       ⟨j+1,by omega,by omega,by go_num,by rw[HSC.out,List.map_append];exact HOW.out,kG.out⟩
      (repeat apply Exists.intro)
      exact⟨hrel,rfl⟩
     case measure=>simp[intOf];omega
    ·have hj:j=64:=by omega
     have dj:decide ((j:Int)<64)=false:=by simp;omega
     have HJ:=zh hj;have HVV:=zh hv;have HBB:=zh hb;clear hj hv hb
     go_wp2
     go_ret
     have hv:=HVV.out
     rw[HJ.out] at hv
     exact⟨_,rfl,hv,HBB.out⟩
theorem Tp (v:List Int)(b cap:Nat)(s:ByteArray)(w:World)(hv:Sha.Word v)(hs:s.size=64)(hat:At w b 230 (Sha.row v)):
 Calls Tryz.prog 227 #[.slice (some ⟨b,0,none⟩) 8 cap,.string s] w fun e w' => ∃ g,e=.returned (.slice (some ⟨g,0,none⟩) 8 8)/\At w' g 230 (Sha.row (Sha.block v s))/\w.heap.size<=g/\Below w.heap.size w w':=by
 have hv0:=hv
 obtain⟨x0,x1,x2,x3,x4,x5,x6,x7,rfl,b0,b1,b2,b3,b4,b5,b6,b7⟩:=hv.lit
 have hlt:=hat.lt
 go_enter Tryz.func227,Tryz.ntmps227
 go_wp2_with fail
 refine(ZO s _ hs).mono ?_
 rintro e w1 ⟨vs,rfl,ho,hb1⟩
 obtain⟨gs,cs,rfl,hcs⟩:=dB ho (by omega)
 have hgs:=(cu ho).1
 have HCS:=zh hcs;have HB1:=zh hb1;have HO:=zh ho;clear hcs hb1 ho
 go_wp2_with fail
 refine(ZN _).mono ?_
 rintro e w2 ⟨rfl,hk,hb2⟩
 have ha2:=(hat.below HB1.out hlt).below hb2 (Nat.lt_of_lt_of_le hlt HB1.out.size)
 have HA2:=zh ha2
 simp only[Sha.row,List.map_cons,List.map_nil] at ha2
 have c0:=ha2.cell 0;have c1:=ha2.cell 1;have c2:=ha2.cell 2;have c3:=ha2.cell 3;have c4:=ha2.cell 4;have c5:=ha2.cell 5;have c6:=ha2.cell 6;have c7:=ha2.cell 7
 simp only[zg] at c0 c1 c2 c3 c4 c5 c6 c7
 have hcs2:∀ k,k<64->w2.cell? ⟨gs,k,none⟩=some (.int .u32 ((Sha.sched s 64).getD k 0)):=fun k hk=>by
  have h1:=HCS.out _ _ (Sha.J3 s 64 k hk)
  have hgl:=(cu HO.out).2
  exact(hb2.cell (p:=⟨gs,k,none⟩) hgl).trans h1
 have HK:=zh hk;have HB2:=zh hb2;have HS:=zh hcs2
 clear hk hb2 hcs2 ha2 HCS hat
 have hsz1:=HB1.out.size;have hsz2:=HB2.out.size
 obtain⟨gk,hgk⟩:∃ gk,gk=w1.heap.size:=⟨_,rfl⟩
 rw[<- hgk] at HK ⊢
 have HGK:=zh hgk;clear hgk
 go_wp2
 refine Lex.zl ?_
 go_wp2
 refine Lex.ze ?_
 go_wp2
 go_loopw [7,8,9,10,11,12,13,14,15] (fun va vb vc vd ve vf vg vh i wr=>∃ (k:Nat) (y0 y1 y2 y3 y4 y5 y6 y7:Int),k<=64/\i=.int .i64 k/\va=.int .u32 y0/\vb=.int .u32 y1/\vc=.int .u32 y2/\vd=.int .u32 y3/\ve=.int .u32 y4/\vf=.int .u32 y5/\vg=.int .u32 y6/\vh=.int .u32 y7/\
  Sha.rounds (Sha.sched s 64) [x0,x1,x2,x3,x4,x5,x6,x7] k=[y0,y1,y2,y3,y4,y5,y6,y7]/\∃ q,wr=w2.drewN q) (fun _ _ _ _ _ _ _ _ i _=>64-(intOf i).toNat)
 case atStart=>exact⟨0,x0,x1,x2,x3,x4,x5,x6,x7,by omega,rfl,rfl,rfl,rfl,rfl,rfl,rfl,rfl,rfl,rfl,_,rfl⟩
 case round=>
  obtain⟨k,y0,y1,y2,y3,y4,y5,y6,y7,hk,rfl,rfl,rfl,rfl,rfl,rfl,rfl,rfl,rfl,hy,q,rfl⟩:=hrel
  have hwd:=hv.rounds (Sha.sched s 64) k
  rw[hy] at hwd
  obtain⟨z0,z1,z2,z3,z4,z5,z6,z7,hz,d0,d1,d2,d3,d4,d5,d6,d7⟩:=hwd.lit
  obtain⟨rfl,rfl,rfl,rfl,rfl,rfl,rfl,rfl⟩:y0=z0/\y1=z1/\y2=z2/\y3=z3/\y4=z4/\y5=z5/\y6=z6/\y7=z7:=by simpa using hz
  clear hz hwd
  have HY:=zh hy;clear hy
  by_cases jY:k<64
  ·have dk:decide ((k:Int)<64)=true:=by simp;omega
   have kw:w2.cell? ⟨gs,k,none⟩=some (.int .u32 ((Sha.sched s 64).getD k 0)):=HS.out k jY
   have kk:w2.cell? ⟨gk,k,none⟩=some (.int .u32 (Sha.K.getD k 0)):=(HK.out.cell k).trans (Sha.qG k jY)
   have hst:Sha.rounds (Sha.sched s 64) [x0,x1,x2,x3,x4,x5,x6,x7] (k+1)=Sha.rnd [y0,y1,y2,y3,y4,y5,y6,y7] (Sha.K.getD k 0) ((Sha.sched s 64).getD k 0):=by rw[<- HY.out];rfl
   have bw:=Sha.Dz s 64 k
   have HST:=zh hst;clear hst
   generalize (Sha.sched s 64).getD k 0=W at*
   generalize Sha.K.getD k 0=KK at*
   clear c0 c1 c2 c3 c4 c5 c6 c7
   go_wp2
   refine Lex.zn (fun _=>True) [22,27] 28 [3,2,3] ?_
   simp only[Lex.Bp,zd]
   go_wp2_with fail
   refine(DJ y4 6 26 _ (by omega) (by omega) (by omega) d4.1 d4.2).mono ?_
   rintro e1 w5 ⟨rfl,n1,rfl⟩
   go_wp2
   refine Lex.Mid.intro (fun b _ _=>rfl) ?_
   go_wp2_with fail
   refine(DJ y4 11 21 _ (by omega) (by omega) (by omega) d4.1 d4.2).mono ?_
   rintro e2 w6 ⟨rfl,n2,rfl⟩
   go_wp2
   refine Lex.Mid.intro (fun b _ _=>rfl) ?_
   go_wp2_with fail
   refine(DJ y4 25 7 _ (by omega) (by omega) (by omega) d4.1 d4.2).mono ?_
   rintro e3 w7 ⟨rfl,n3,rfl⟩
   go_wp2
   refine Lex.Mid.intro (fun b _ _=>rfl) ?_
   go_wp2
   refine Lex.zk ?_ ?_
   ·refine⟨⟨trivial,?_⟩,⟨trivial,?_⟩,trivial⟩
    ·show(w2.cell? ⟨gk,k,none⟩).isSome=true
     rw[kk];rfl
    ·show(w2.cell? ⟨gs,k,none⟩).isSome=true
     rw[kw];rfl
   go_wp2_with fail
   refine(DJ y0 2 30 _ (by omega) (by omega) (by omega) d0.1 d0.2).mono ?_
   rintro e4 w8 ⟨rfl,n4,rfl⟩
   go_wp2_with fail
   refine(DJ y0 13 19 _ (by omega) (by omega) (by omega) d0.1 d0.2).mono ?_
   rintro e5 w9 ⟨rfl,n5,rfl⟩
   go_wp2_with fail
   refine(DJ y0 22 10 _ (by omega) (by omega) (by omega) d0.1 d0.2).mono ?_
   rintro e6 w10 ⟨rfl,n6,rfl⟩
   go_wp2
   exact⟨⟨k+1,_,y0,y1,y2,_,y4,y5,y6,by omega,by go_num,rfl,rfl,rfl,rfl,rfl,rfl,rfl,rfl,HST.out,_,rfl⟩,by simp[intOf];omega⟩
  ·have hk' : k=64:=by omega
   have dk:decide ((k:Int)<64)=false:=by simp;omega
   have hbl:Sha.block [x0,x1,x2,x3,x4,x5,x6,x7] s=[(x0+y0)%4294967296,(x1+y1)%4294967296,(x2+y2)%4294967296,(x3+y3)%4294967296,(x4+y4)%4294967296,(x5+y5)%4294967296,(x6+y6)%4294967296,(x7+y7)%4294967296]:=by
    have:=HY.out
    rw[hk'] at this
    rw[Sha.block,this]
    rfl
   have HBL:=zh hbl;clear hbl hk'
   go_wp2
   refine Lex.zl ?_
   go_wp2
   refine Lex.ze ?_
   go_wp2
   go_ret
   rw[HBL.out]
   refine⟨w2.heap.size,rfl,At.new (w2.drewN (q+1)) _ _,by omega,?_⟩
   exact(below_drewN (HB1.out.trans (HB2.out.mono hsz1)) _).alloc (by show w.heap.size<=w2.heap.size;omega) _
def FX (w:World)(base:Nat)(v:Value)(xs:List Value):Prop:=
 ∃ g cap cur fz,v=.slice (some ⟨g,0,none⟩) xs.length cap/\base<=g/\w.heap[g]? = some (.cells cur 5 fz)/\(fz.2=0\/cur.size<=fz.1)/\cur.size=cap/\xs.length<=cap/\cap<=maxLen/\cur.toList.take xs.length=xs
theorem VE {w:World}{b i:Nat}{cs:Array Value}{T:TypeId}{fr:Nat × Nat}(hb:w.heap[b]? = some (.cells cs T fr))(v:Value):(w.setCell ⟨b,i,none⟩ v).heap[b]? = some (.cells (cs.setIfInBounds i v) T fr):=by
 simp[World.setCell,Array.getElem?_modify,hb]
theorem dD:(Tryz.prog.info? 5).map (fun i=>(i.zero,i.size,i.bytes))=some (some (.int .u8 0),1,1):=by kernel_rfl
theorem FX.below {w w' : World}{base:Nat}{v:Value}{xs:List Value}(h:FX w base v xs)(hb:Below w.heap.size w w'):FX w' base v xs:=by
 obtain⟨g,cap,cur,fz,rfl,h1,h2,h3⟩:=h
 exact⟨g,cap,cur,fz,rfl,h1,(hb.block g (Array.getElem?_eq_some_iff.1 h2).1).trans h2,h3⟩
theorem FX.len {w:World}{base:Nat}{v:Value}{xs:List Value}(h:FX w base v xs):∃ g cap,v=.slice (some ⟨g,0,none⟩) xs.length cap:=by
 obtain⟨g,cap,_,_,rfl,_⟩:=h
 exact⟨g,cap,rfl⟩
theorem FX.below_grown {w0 w w' : World}{base:Nat}{v:Value}{xs:List Value}(h:FX w base v xs)(hb:Below base w0 w)(hB:base<=w.heap.size){w1:World}(hw:Below base w0 w1)(hB1:base<=w1.heap.size)(hg:w1.grownBy w' v.ownBlock):Below base w0 w':=by
 refine hw.grown hg hB1 fun k hk=>?_
 obtain⟨g,cap,cur,fz,rfl,h1,_⟩:=h
 simp[Value.ownBlock] at hk
 omega
theorem QW {w:World}{base:Nat}{v:Value}{xs:List Value}(h:FX w base v xs)(t ty:TypeId)(ht:Tryz.prog.underlying t=some (.slice 5))(a:Addr)(c:Nat)(u:Value)(hu:w.cell? (a.add 0)=some u)(h1:u.oneCell' = true)
 (hlen:xs.length+1<=140737488355328) (hb:base<=w.heap.size):
 ∃ v' w',(Builtin.append_ #[t,t] ty #[v,.slice (some a) 1 c]).run Tryz.prog w=.ok v' w' /\ FX w' base v' (xs++[u])/\w.grownBy w' v.ownBlock:=by
 obtain⟨i,hi,hz0,hz1,hz2⟩:=info_parts dD
 obtain⟨g,cap,cur,fz,rfl,hbg,hg,hfz,hcs,hle,hcm,htake⟩:=h
 have hnews:∀ j (x:Value),[u][j]? = some x->w.cell? (a.add j)=some x:=by
  intro j x hj
  match j,hj with
  | 0,hj=>simp at hj;subst hj;exact hu
 have hone:∀ x∈[u],x.oneCell' = true:=by intro x hx;simp at hx;subst hx;exact h1
 by_cases hroom:xs.length+1<=cap
 ·have hlt:xs.length<cur.size:=by omega
  have hr:=run_append_room_src (P:=Tryz.prog) (w:=w) t t ty 5 i ht hi g 0 xs.length cap (.slice (some a) 1 c) 1 [u] (Src.ofSlice w ht a 1 c [u] (by rw[hz1];rfl) hnews hone) hroom
   (fun j hj => by
     obtain rfl:j=0:=by simpa using hj
     rw[hz1]
     simp[World.cell?,hg,hlt])
   (fun j hj => by
     obtain rfl:j=0:=by simpa using hj
     rw[hz1]
     obtain⟨lo,hi'⟩:=fz
     simp only at hfz
     simp only[World.frozen?,hg,Bool.and_eq_false_iff,decide_eq_false_iff_not]
     omega)
  rw[hz1,Nat.zero_add,Nat.mul_one] at hr
  have e:w.setCells g xs.length [u]=w.setCell ⟨g,xs.length,none⟩ u:=rfl
  rw[e] at hr
  refine⟨_,_,hr,⟨g,cap,cur.setIfInBounds xs.length u,fz,by rw[List.length_append];rfl,hbg,VE hg u,by simpa using hfz,by simpa using hcs,by simpa using hroom,hcm,?_⟩,⟨rfl,rfl,rfl,by simp,fun k _ hk=>heap_setCell_other w _ k u (fun e=>hk (by simp[Value.ownBlock,e]))⟩⟩
  rw[List.length_append,Array.toList_setIfInBounds,List.length_singleton,List.take_succ_eq_append_getElem (by simpa using hlt),List.take_set_of_le (by omega),htake]
  simp
 ·have holds : ∀ j x,xs[j]? = some x → w.cell? ((⟨g,0,none⟩ : Addr).add j) = some x :=by
   intro j x hj
   have hadd:(⟨g,0,none⟩:Addr).add j=⟨g,j,none⟩:=by unfold Addr.add;split<;>simp_all
   rw[hadd,cell_of_row w g j cur 5 fz hg,<- Array.getElem?_toList]
   rw[<- htake,List.getElem?_take] at hj
   split at hj
   ·exact hj
   ·cases hj
  have hr:=run_append_grow (P:=Tryz.prog) w t ty 5 i (.int .u8 0) ht hi hz0 ⟨g,0,none⟩ xs.length cap xs (by rw[hz1,Nat.mul_one]) holds a 1 c [u] (by rw[hz1];rfl) hnews (by omega) (by omega) (growslice_fits (by omega) (by rw[hz2];omega))
  have hge:=grownCap_ge w (xs.length+1) cap 5
  have hcm2:grownCap w (xs.length+1) cap 5<=maxLen:=grownCap_le_maxLen w (xs.length+1) cap 5 (by unfold maxLen;omega)
  refine⟨_,_,hr,⟨w.heap.size,_,_,(0,0),by rw[List.length_append];rfl,hb,heap_alloc_new w.drew _,.inl rfl,?_,by simpa using hge,hcm2,?_⟩,⟨rfl,rfl,rfl,by simp,fun k hk _=>heap_alloc_old w.drew _ hk⟩⟩
  ·simp[size_zeroCells,Value.cells]
   omega
  ·simp only[Array.toList_append,List.append_assoc]
   rw[<- List.append_assoc]
   exact List.take_left
theorem GZ {w:World}{ops:Array Oper}{rest:List Oper}{o:Oper}{a:Act}{Q:Exit->Act->World->Prop}(hgd:o.guard=none)(s x:Operand)(t:TypeId)
 (ho:o.op=.call { callee:=.builtin .append,args:=#[s,x],argTypes:=#[t,t] }) (ht:Tryz.prog.underlying t=some (.slice 5)) (base:Nat) (v:Value) (xs:List Value) (hs:a.eval s=v) (h:FX w base v xs)
 (ad:Addr) (c:Nat) (u:Value) (hx:a.eval x=.slice (some ad) 1 c) (hu:w.cell? (ad.add 0)=some u) (h1:u.oneCell' = true) (hlen:xs.length+1<=140737488355328) (hb:base<=w.heap.size)
 (hK:∀ v' w',FX w' base v' (xs++[u])->w.grownBy w' v.ownBlock->wpList Tryz.prog ops Q rest (a.put o.dst v') w'):wpList Tryz.prog ops Q (o::rest) a w:=by
 refine wpList_plain hgd fun K hK' => ?_
 obtain⟨v',w',hr,h2,h3⟩:=QW h t o.type ht ad c u hu h1 hlen hb
 unfold Oper.wp execOp
 simp only[ho,resolve,invoke,builtin,Sem.run_bind,Sem.run_pure,Result.andThen_ok,List.map_toArray,List.map_cons,List.map_nil,hs,hx,hr]
 exact hK' _ _ (hK v' w' h2 h3)
def IJ (s:ByteArray):List Value:=s.data.toList.map fun b=>Value.int .u8 b.toNat
theorem He (s:ByteArray):(IJ s).length=s.size:=by
 unfold IJ
 rw[List.length_map,Array.length_toList]
 rfl
theorem fZ (w:World)(s:ByteArray)(hs:s.size<=140737488355328):FX (Lib.bytesWorld w 5 s) w.heap.size (.slice (some ⟨w.heap.size,0,none⟩) s.size (grownCap w s.size 0 5)) (IJ s)/\Below w.heap.size w (Lib.bytesWorld w 5 s):=by
 have hge:=grownCap_ge w s.size 0 5
 have hcm:grownCap w s.size 0 5<=maxLen:=grownCap_le_maxLen w s.size 0 5 (by unfold maxLen;omega)
 have hsz:(Lib.bytesCells w 5 s).size=grownCap w s.size 0 5:=by
  unfold Lib.bytesCells
  rw[Array.size_append,Array.size_map,Array.size_replicate]
  show s.size+_=_
  omega
 refine⟨⟨w.heap.size,_,_,_,by rw[He],Nat.le_refl _,Lib.bytesWorld_at_new w 5 s,.inr (Nat.le_refl _),hsz,by rw[He];exact hge,hcm,?_⟩,⟨rfl,rfl,rfl,by rw[Lib.bytesWorld_size];omega,fun k hk=>Lib.bytesWorld_at_old w 5 s k hk⟩⟩
 unfold Lib.bytesCells
 rw[Array.toList_append,Array.toList_map]
 exact List.take_left' (by rw[He,List.length_map,Array.length_toList];rfl)
end
section
open Go
namespace Lex
section
variable {P:Program} {Q:Exit->Act->World->Prop}
def Ord (ops:Array Oper):Nat->Array Bool->List Nat->Prop
 | 0,_,l=>l=[]
 | n+1,listed,l=>(Region.ready .any ops listed=[]/\l=[])\/∃ i l',i∈Region.ready .any ops listed/\l=i::l' /\ Ord ops n (listed.setIfInBounds i true) l'
def zb9 (P:Program)(ops:Array Oper)(Q:Exit->Act->World->Prop)(a:Act)(w:World):Prop:=∀ l,Ord ops ops.size (Array.replicate ops.size false) l->wpOps P ops Q l a w
theorem zdr (ops:Array Oper):∀ (n t:Nat) (listed:Array Bool),Ord ops n listed (Region.linearise.go .any ops n t listed [])
 | 0,t,listed=>by simp[Region.linearise.go,Ord]
 | n + 1,t,listed => by
   simp only[Region.linearise.go]
   change Ord ops (n+1) listed (match (Region.ready .any ops listed)[t%(Region.ready .any ops listed).length]? with
    | some i=>Region.linearise.go .any ops n (t/(Region.ready .any ops listed).length) (listed.setIfInBounds i true) [i]
    | none=>[].reverse)
   cases hi:(Region.ready .any ops listed)[t%(Region.ready .any ops listed).length]? with
   | none =>
     have hnil:Region.ready .any ops listed=[]:=by
      cases hr:Region.ready .any ops listed with
      | nil=>rfl
      | cons x xs =>
        rw[hr] at hi
        have hlt:t%(x::xs).length<(x::xs).length:=Nat.mod_lt _ (by simp)
        simp at hi
        simp at hlt
        omega
     exact .inl ⟨hnil,rfl⟩
   | some i =>
     simp only[]
     rw[linearise_go_acc,List.reverse_singleton,List.singleton_append]
     exact .inr ⟨i,_,List.mem_of_getElem? hi,rfl,zdr ops n _ _⟩
theorem Tq {id:Nat}{l:List Oper}{a:Act}{w:World}(hm:P.follows .mixedOrders=true)(h:zb9 P l.toArray Q a w.drew):(Code.region id l.toArray true).wp P Q a w:=
 wp_region_draw fun t=>by
  simp only[Region.schedule,hm,Bool.true_or,if_true]
  exact h _ (zdr _ _ _ _)
theorem zcm {ops:Array Oper} : ∀ (n:Nat) (listed:Array Bool) (l:List Nat) (a:Act) (w:World),wpAny P .any ops Q n listed a w->Ord ops n listed l->wpOps P ops Q l a w
 | 0,_,l,a,w,h,ho => by
   have ho:l=[]:=ho
   subst ho
   exact h.2
 | n + 1,listed,l,a,w,h,ho => by
   rcases ho with ⟨hr,rfl⟩|⟨i,l',hi,rfl,ho⟩
   ·exact h.1 hr
   ·rw[wpOps_cons]
    exact wpOp_mono (fun a w hh=>zcm n _ _ a w hh ho) (h.2 i hi)
theorem zb9.post {ops:Array Oper}{Q1 Q2:Exit->Act->World->Prop}{a:Act}{w:World}(hQ:∀ e a w,Q1 e a w->Q2 e a w)(h:zb9 P ops Q1 a w):zb9 P ops Q2 a w:=fun l hl=>Cb hQ l a w (h l hl)
theorem zc1 {l:List Oper}{a:Act}{w:World}(hA:Q7 P l.toArray=true)(h:wpList P l.toArray (Ends P l.toArray Q) l a w):zb9 P l.toArray Q a w:=
 zb9.post (Q1:=Ab P l.toArray (fun _=>False) w [] Q) (fun e a' w' he=>by obtain⟨rfl,_,_,h⟩:=he;exact h) (fun o ho=>zcm _ _ _ a w (Li hA h) ho)
/-! ### Operations that differ in their places alone -/
def Alike (f:Nat->Nat)(n:Nat)(ops ops' : Array Oper):Prop:=∀ i,i<n->∃ o o' : Oper,ops[i]? = some o/\ops'[f i]? = some o' /\ o'.dst=o.dst/\o'.op=o.op/\o'.type=o.type/\o'.pos=o.pos/\(match o.guard with|none=>o'.guard=none|some (j,b)=>j<n/\o'.guard=some (f j,b))
theorem zd7 {o o' : Oper}(h1:o'.dst=o.dst)(h2:o'.op=o.op)(h3:o'.type=o.type)(h4:o'.pos=o.pos){a:Act}{w:World}{K:Act->World->Prop} : (o'.wp P a w K Q↔o.wp P a w K Q)/\(o'.asks P a w↔o.asks P a w):=by
 obtain⟨d,op,ty,ps,af,gd⟩:=o
 obtain⟨d',op',ty',ps',af',gd'⟩:=o'
 dsimp only at h1 h2 h3 h4
 subst h1 h2 h3 h4
 exact⟨Iff.rfl,Iff.rfl⟩
theorem zds {f:Nat->Nat}{n:Nat}{ops ops' : Array Oper}(hA:Alike f n ops ops'){i:Nat}(hi:i<n){K:Act->World->Prop}{a:Act}{w:World}(h:wpOp P ops' Q (f i) K a w):wpOp P ops Q i K a w:=by
 obtain⟨o,o',h1,h2,h3,h4,h5,h6,h7⟩:=hA i hi
 unfold wpOp at h ⊢
 rw[h2] at h
 rw[h1]
 dsimp only at h ⊢
 have hw:Region.wanted o' (yielded ops' a.tmps)=Region.wanted o (yielded ops a.tmps):=by
  unfold Region.wanted
  cases hg:o.guard with
  | none=>rw[hg] at h7;dsimp only at h7;rw[h7]
  | some g =>
    obtain⟨j,b⟩:=g
    rw[hg] at h7
    dsimp only at h7
    rw[h7.2]
    dsimp only
    obtain⟨u,u',g1,g2,g3,_⟩:=hA j h7.1
    unfold yielded
    rw[g1,g2]
    dsimp only[Option.bind_some]
    rw[g3]
 rw[hw,h3] at h
 obtain⟨q1,q2⟩:=zd7 (P:=P) (Q:=Q) h3 h4 h5 h6 (a:=a) (w:=w) (K:=K)
 split
 ·rename_i hc
  rw[if_pos hc] at h
  exact h.imp q1.1 (fun h=>⟨q2.1 h.1,h.2⟩)
 ·rename_i hc
  rw[if_neg hc] at h
  exact h
theorem ZQ {f:Nat->Nat}{n:Nat}{ops ops' : Array Oper}(hA:Alike f n ops ops'):∀ (l:List Nat) (a:Act) (w:World),(∀ i∈l,i<n)->wpOps P ops' Q (l.map f) a w->wpOps P ops Q l a w
 | [],_,_,_,h=>h
 | i :: l,a,w,hl,h => by
   rw[List.map_cons,wpOps_cons] at h
   rw[wpOps_cons]
   exact wpOp_mono (fun a w hh=>ZQ hA l a w (fun j hj=>hl j (List.mem_cons_of_mem _ hj)) hh) (zds hA (hl i List.mem_cons_self) h)
/-! ### Which of two comes first -/
def late:Nat->Nat->List Oper->List Oper
 | _,_,[]=>[]
 | 0,a,o::l => { o with after:=o.after.push ⟨a,.phase⟩ } :: l
 | b+1,a,o::l=>o::late b a l
theorem zbO (a:Nat):∀ (l:List Oper) (b i:Nat),(late b a l)[i]? = (l[i]?).map fun o=>if i=b then { o with after:=o.after.push ⟨a,.phase⟩ } else o
 | [],b,i=>by cases b<;>simp[late]
 | o::l,0,0=>by simp[late]
 | o::l,0,i+1=>by simp[late]
 | o::l,b+1,0=>by simp[late]
 | o :: l,b + 1,i + 1 => by
   show(late b a l)[i]? = _
   rw[zbO a l b i]
   simp
theorem zc2 (a:Nat):∀ (l:List Oper) (b:Nat),(late b a l).length=l.length
 | [],b=>by cases b<;>rfl
 | o::l,0=>rfl
 | o::l,b+1=>by show(late b a l).length+1=_;rw[zc2 a l b];rfl
def gu (a b:Nat):List Nat->Bool
 | []=>true
 | x::l=>if x=a then true else if x=b then false else gu a b l
theorem zc3 {a b:Nat}(h:a≠b):∀ l:List Nat,gu a b l=true\/gu b a l=true
 | []=>.inl rfl
 | x :: l => by
   unfold gu
   by_cases h1:x=a
   ·exact .inl (by rw[if_pos h1])
   ·by_cases h2:x=b
    ·exact .inr (by rw[if_pos h2])
    ·rw[if_neg h1,if_neg h2,if_neg h2,if_neg h1]
     exact zc3 h l
theorem zbP {a b:Nat}{l:List Oper}{listed:Array Bool}{i:Nat} : i∈Region.ready .any (late b a l).toArray listed↔i∈Region.ready .any l.toArray listed/\(i=b->listed.getD a false=true):=by
 rw[mem_ready,mem_ready]
 simp only[List.getElem?_toArray,zbO]
 constructor
 ·rintro⟨h0,o',ho,hall⟩
  obtain⟨o,ho1,rfl⟩:=Option.map_eq_some_iff.1 ho
  refine⟨⟨h0,o,ho1,fun e he hb=>?_⟩,fun hib=>?_⟩
  ·refine hall e ?_ hb
   split
   ·exact Array.mem_push.2 (.inl he)
   ·exact he
  ·refine hall ⟨a,.phase⟩ ?_ rfl
   rw[if_pos hib]
   exact Array.mem_push.2 (.inr rfl)
 ·rintro⟨⟨h0,o,ho,hall⟩,hb2⟩
  refine⟨h0,_,by rw[ho];rfl,fun e he hb=>?_⟩
  split at he
  ·rename_i hib
   rcases Array.mem_push.1 he with he|rfl
   ·exact hall e he hb
   ·exact hb2 hib
  ·exact hall e he hb
theorem qI {ops:Array Oper}{listed:Array Bool}{i:Nat}(h:i∈Region.ready .any ops listed):i<listed.size/\i<ops.size:=by
 obtain⟨h0,o,ho,_⟩:=mem_ready.1 h
 refine⟨?_,(Array.getElem?_eq_some_iff.1 ho).1⟩
 apply Classical.byContradiction
 intro hn
 rw[Array.getD_eq_getD_getElem?,Array.getElem?_eq_none (by omega)] at h0
 cases h0
theorem NR {listed:Array Bool}{i:Nat}(h:i<listed.size):(listed.setIfInBounds i true).getD i false=true:=by
 rw[Array.getD_eq_getD_getElem?]
 simp[h]
theorem zbQ {a b:Nat}{l:List Oper}(hab:a≠b):∀ (n:Nat) (listed:Array Bool) (o:List Nat),Ord l.toArray n listed o->(listed.getD a false=true\/gu a b o=true)->Ord (late b a l).toArray n listed o
 | 0,_,_,h,_=>h
 | n + 1,listed,o,h,hc => by
   rcases h with ⟨hr,rfl⟩|⟨i,l',hi,rfl,h⟩
   ·refine .inl ⟨?_,rfl⟩
    refine List.eq_nil_iff_forall_not_mem.2 fun j hj=>?_
    have:=(zbP.1 hj).1
    rw[hr] at this
    cases this
   ·have hib : i = b → listed.getD a false = true :=fun e => by
     rcases hc with hc|hc
     ·exact hc
     ·subst e
      unfold gu at hc
      rw[if_neg (fun e=>hab e.symm),if_pos rfl] at hc
      cases hc
    refine .inr ⟨i,l',zbP.2 ⟨hi,hib⟩,rfl,zbQ hab n _ l' h ?_⟩
    rcases hc with hc|hc
    ·exact .inl (getD_set_true hc)
    ·unfold gu at hc
     by_cases h1:i=a
     ·subst h1
      exact .inl (NR (qI hi).1)
     ·rw[if_neg h1] at hc
      by_cases h2:i=b
      ·exact .inl (getD_set_true (hib h2))
      ·rw[if_neg h2] at hc
       exact .inr hc
theorem zcR {ops:Array Oper} : ∀ (n:Nat) (listed:Array Bool) (o:List Nat),Ord ops n listed o->∀ i∈o,i<ops.size
 | 0,_,o,h,i,hi => by
   have h:o=[]:=h
   subst h
   cases hi
 | n + 1,listed,o,h,i,hi => by
   rcases h with ⟨_,rfl⟩|⟨j,l',hj,rfl,h⟩
   ·cases hi
   ·rcases List.mem_cons.1 hi with rfl|hi
    ·exact(qI hj).2
    ·exact zcR n _ l' h i hi
def zbR (l:List Oper):Bool:=l.all fun o=>match o.guard with|none=>true|some g=>decide (g.1<l.length)
theorem zbS (a b:Nat)(l:List Oper)(hg:zbR l=true):Alike id l.length l.toArray (late b a l).toArray:=by
 intro i hi
 have ho:l[i]? = some l[i]:=List.getElem?_eq_getElem hi
 refine⟨l[i],_,by simp[ho],by simp only[List.getElem?_toArray,id_eq,zbO,ho,Option.map_some];rfl,?_⟩
 have hg2:=List.all_eq_true.1 hg l[i] (List.getElem_mem hi)
 have key:∀ o' : Oper,o'.guard=l[i].guard->(match l[i].guard with|none=>o'.guard=none|some (j,b)=>j<l.length/\o'.guard=some (id j,b)):=by
  intro o' e
  cases hgu:l[i].guard with
  | none=>rw[hgu] at e;exact e
  | some g =>
    rw[hgu] at e hg2
    obtain⟨j,b⟩:=g
    exact⟨of_decide_eq_true hg2,e⟩
 by_cases hib:i=b
 ·rw[if_pos hib]
  exact⟨rfl,rfl,rfl,rfl,key _ rfl⟩
 ·rw[if_neg hib]
  exact⟨rfl,rfl,rfl,rfl,key _ rfl⟩
theorem kH {l:List Oper}{c:Act}{w:World}(a b:Nat)(hab:a≠b)(hg:zbR l=true)(h1:zb9 P (late b a l).toArray Q c w)(h2:zb9 P (late a b l).toArray Q c w):zb9 P l.toArray Q c w:=by
 intro o ho
 have hlt:=zcR _ _ _ ho
 have hsz:∀ x y,(late x y l).toArray.size=l.toArray.size:=fun x y=>by simp[zc2]
 rcases zc3 hab o with hf|hf
 ·have h:=h1 o (by rw[hsz];exact zbQ hab _ _ _ ho (.inr hf))
  refine ZQ (zbS a b l hg) o c w (fun i hi=>by simpa using hlt i hi) ?_
  rwa [List.map_id]
 ·have h:=h2 o (by rw[hsz];exact zbQ (Ne.symm hab) _ _ _ ho (.inr hf))
  refine ZQ (zbS b a l hg) o c w (fun i hi=>by simpa using hlt i hi) ?_
  rwa [List.map_id]
/-! ### The operations in another row -/
def Ei:List Nat->Nat->Nat
 | [],_=>0
 | x::q,i=>if x=i then 0 else Ei q i+1
def Uy (f:Nat->Nat)(o:Oper):Oper :={ dst:=o.dst,op:=o.op,type:=o.type,pos:=o.pos,after:=o.after.map fun e=>⟨f e.on,e.ground⟩,guard:=o.guard.map fun g=>(f g.1,g.2) }
def OX (q:List Nat)(l:List Oper):List Oper:=q.map fun i=>Uy (Ei q) (l.getD i default)
def zdu (q:List Nat)(l:List Oper):Bool:=decide (q.length=l.length)&&zbR l&&(l.all fun o=>o.after.all fun e=>decide (e.on<l.length))&&((List.range l.length).all fun i=>decide (Ei q i<l.length)&&decide (q.getD (Ei q i) 0=i)&&decide (Ei q (q.getD i 0)=i)&&decide (q.getD i 0<l.length))
theorem zbA {l:List Oper}{c:Act}{w:World}(q:List Nat)(hq:zdu q l=true)(h:zb9 P (OX q l).toArray Q c w):zb9 P l.toArray Q c w:=by
 unfold zdu at hq
 simp only[Bool.and_eq_true,decide_eq_true_eq] at hq
 obtain⟨⟨⟨hlen,hg⟩,he⟩,hr⟩:=hq
 have hr' : ∀ i,i<l.length->Ei q i<l.length/\q.getD (Ei q i) 0=i/\Ei q (q.getD i 0)=i/\q.getD i 0<l.length:=fun i hi=>by
  have:=List.all_eq_true.1 hr i (List.mem_range.2 hi)
  simp only[Bool.and_eq_true,decide_eq_true_eq] at this
  exact⟨this.1.1.1,this.1.1.2,this.1.2,this.2⟩
 have hpl:(OX q l).length=l.length:=by unfold OX;rw[List.length_map,hlen]
 have hget:∀ i (hi:i<l.length),(OX q l)[Ei q i]? = some (Uy (Ei q) l[i]):=fun i hi=>by
  obtain⟨h1,h2,_,_⟩:=hr' i hi
  unfold OX
  rw[List.getElem?_map,List.getElem?_eq_getElem (by omega),Option.map_some]
  rw[List.getD_eq_getElem?_getD,List.getElem?_eq_getElem (by omega)] at h2
  have h2:q[Ei q i]'(by omega)=i:=h2
  rw[h2,List.getD_eq_getElem?_getD,List.getElem?_eq_getElem hi]
  rfl
 have hA:Alike (Ei q) l.length l.toArray (OX q l).toArray:=by
  intro i hi
  refine⟨l[i],Uy (Ei q) l[i],by simp[hi],by rw[List.getElem?_toArray];exact hget i hi,rfl,rfl,rfl,rfl,?_⟩
  have hg2:=List.all_eq_true.1 hg l[i] (List.getElem_mem hi)
  cases hgu:l[i].guard with
  | none =>
    show(Uy (Ei q) l[i]).guard=none
    unfold Uy
    dsimp only
    rw[hgu]
    rfl
  | some g =>
    rw[hgu] at hg2
    obtain⟨j,b⟩:=g
    refine⟨of_decide_eq_true hg2,?_⟩
    show(Uy (Ei q) l[i]).guard=_
    unfold Uy
    dsimp only
    rw[hgu]
    rfl
 have key:∀ (n:Nat) (listed listed' : Array Bool) (o:List Nat),listed.size=l.length->listed'.size=l.length->(∀ i,i<l.length->listed'.getD (Ei q i) false=listed.getD i false)->Ord l.toArray n listed o->Ord (OX q l).toArray n listed' (o.map (Ei q)):=by
  intro n
  induction n with
  | zero =>
    intro listed listed' o _ _ _ ho
    have ho:o=[]:=ho
    subst ho
    rfl
  | succ n ih =>
    intro listed listed' o hs hs' hrel ho
    have hsw:∀ i,i<l.length->listed'.getD (Ei q i) true=listed.getD i true:=fun i hi=>by
     have h1:=hrel i hi
     obtain⟨h2,_⟩:=hr' i hi
     rw[Array.getD_eq_getD_getElem?,Array.getElem?_eq_getElem (by omega),Array.getD_eq_getD_getElem?,Array.getElem?_eq_getElem (by omega)] at h1 ⊢
     exact h1
    have zdv:∀ i,i<l.length->(Ei q i∈Region.ready .any (OX q l).toArray listed' ↔ i∈Region.ready .any l.toArray listed):=fun i hi=>by
     rw[mem_ready,mem_ready,List.getElem?_toArray,List.getElem?_toArray,hget i hi,List.getElem?_eq_getElem hi,hsw i hi]
     have heo:=List.all_eq_true.1 he l[i] (List.getElem_mem hi)
     refine and_congr_right fun _=>⟨?_,?_⟩
     ·rintro⟨o',ho',hall⟩
      cases ho'
      refine⟨l[i],rfl,fun e hem hb=>?_⟩
      have hlt:e.on<l.length:=of_decide_eq_true (Array.all_eq_true_iff_forall_mem.1 heo e hem)
      have:=hall ⟨Ei q e.on,e.ground⟩ (Array.mem_map.2 ⟨e,hem,rfl⟩) hb
      rwa [hrel e.on hlt] at this
     ·rintro⟨o',ho',hall⟩
      cases ho'
      refine⟨_,rfl,fun e hem hb=>?_⟩
      obtain⟨e0,he0,rfl⟩:=Array.mem_map.1 hem
      have hlt:e0.on<l.length:=of_decide_eq_true (Array.all_eq_true_iff_forall_mem.1 heo e0 he0)
      show listed'.getD (Ei q e0.on) false=true
      rw[hrel e0.on hlt]
      exact hall e0 he0 hb
    rcases ho with ⟨hnil,rfl⟩|⟨i,l',hi,rfl,ho⟩
    ·refine .inl ⟨?_,rfl⟩
     refine List.eq_nil_iff_forall_not_mem.2 fun j hj=>?_
     have hjl:j<l.length:=by have:=(qI hj).1;omega
     obtain⟨_,_,h3,h4⟩:=hr' j hjl
     have:=(zdv _ h4).1 (by rw[h3];exact hj)
     rw[hnil] at this
     cases this
    ·have hil:i<l.length:=by have:=(qI hi).1;omega
     refine .inr ⟨Ei q i,l'.map (Ei q),(zdv i hil).2 hi,rfl,ih _ _ l' (by simp[hs]) (by simp[hs']) (fun k hk=>?_) ho⟩
     by_cases hki:k=i
     ·subst hki
      rw[NR (i:=Ei q k) (by have:=(hr' k hk).1;omega),NR (by omega)]
     ·have hne : Ei q i ≠ Ei q k :=fun e => hki (by
       have h1:=(hr' i hil).2.1
       have h2:=(hr' k hk).2.1
       rw[e] at h1
       rw[<- h2,h1])
      rw[getD_set_ne false hne,getD_set_ne false (Ne.symm hki)]
      exact hrel k hk
 intro o ho
 have hlt:=zcR _ _ _ ho
 have hsz:(OX q l).toArray.size=l.toArray.size:=by simp[hpl]
 refine ZQ hA o c w (fun i hi=>by simpa using hlt i hi) (h _ ?_)
 rw[hsz]
 refine key _ _ _ o (by simp) (by simp) (fun i hi=>?_) ho
 rw[getD_replicate_false,getD_replicate_false]
end
end Lex
end
section
open Go Go.RowKit
namespace Sha
def XO (n k:Nat):List Int:=(List.range k).map fun j=>((n/2^(56-8*j)%256:Nat):Int)
theorem gy (n k:Nat):XO n (k+1)=XO n k++[((n/2^(56-8*k)%256:Nat):Int)]:=by
 unfold XO
 rw[List.range_succ,List.map_append]
 rfl
theorem kM (n:Nat):strOfNums (XO n 8)=be8 n:=by
 apply BG
 rw[strOfNums_data]
 unfold XO be8
 rw[List.map_map]
 rw[List.toList_toArray]
 apply List.map_congr_left
 intro j _
 show UInt8.ofNat (Int.toNat _)=_
 rw[Int.toNat_natCast]
theorem oz (n k:Nat)(h:k<8):(n:Int)/2^(8*(7-k))%256=((n/2^(56-8*k)%256:Nat):Int):=by
 rw[show 8*(7-k)=56-8*k by omega]
 rw[Int.natCast_emod,Int.natCast_ediv,Int.natCast_pow]
 rfl
theorem VN (s:ByteArray):IJ s=(s.data.toList.map fun b=>(b.toNat:Int)).map (Value.int .u8):=by
 unfold IJ
 rw[List.map_map]
 rfl
def nums (s:ByteArray):List Int:=s.data.toList.map fun b=>(b.toNat:Int)
theorem XP (s:ByteArray):(nums s).length=s.size:=by
 unfold nums
 rw[List.length_map,Bo]
theorem gF (s:ByteArray):IJ s=(nums s).map (Value.int .u8):=VN s
theorem kN (s:ByteArray):strOfNums (nums s)=s:=by
 apply BG
 rw[strOfNums_data]
 unfold nums
 rw[List.map_map]
 conv=>rhs;rw[<- List.map_id s.data.toList]
 apply List.map_congr_left
 intro b _
 show UInt8.ofNat (Int.toNat _)=b
 rw[Int.toNat_natCast,UInt8.ofNat_toNat]
theorem dQ (a b:List Int):strOfNums (a++b)=strOfNums a++strOfNums b:=by
 apply BG
 rw[Bq,strOfNums_data,strOfNums_data,strOfNums_data,List.map_append]
theorem Hf:∀ z:Nat,Lib.repeatL ([0]:List UInt8) z=List.replicate z 0
 | 0=>rfl
 | z + 1 => by
   show[0]++Lib.repeatL [0] z=_
   rw[Hf z]
   rfl
theorem kP (m:ByteArray)(z:Nat)(hz:z=(119-m.size%64)%64)(hm:8*m.size<18446744073709551616):strOfNums (nums m++[128]++List.replicate z 0)++be8 (8*m.size)=m++pad m:=by
 rw[dQ,dQ,kN,pad,<- hz,Hf,Nat.mod_eq_of_lt hm]
 apply BG
 simp only[Bq,List.append_assoc]
 congr 2
 congr 1
 rw[strOfNums_data,List.map_replicate]
 rfl
end Sha
theorem OZ (n:Nat)(w:World)(hn:n<9223372036854775808):
 Calls Tryz.prog 252 #[.int .i64 n] w fun e w' => e=.returned (.string (be8 n))/\Below w.heap.size w w':=by
 obtain⟨i0,hi,hz0,hz1,hz2⟩:=info_parts dD
 go_enter Tryz.func252,Tryz.ntmps252
 go_wp2
 go_loopw [3,4] (fun v i wr=>∃ k:Nat,k<=8/\i=.int .i64 (7-k:Int)/\wr.ownsRow w.heap.size 5 1 v k ((Sha.XO n k).map (Value.int .u8))/\Below w.heap.size w wr) (fun _ i _=>(intOf i+1).toNat)
 case atStart=>exact⟨0,by omega,rfl,⟨rfl,.inr ⟨w.heap.size,0,#[],rfl,Nat.le_refl _,At.new _ _ _,Nat.le_refl _,by decide,rfl,rfl⟩⟩,zb⟩
 case round=>
  obtain⟨k,hk,rfl,hv,hb⟩:=hrel
  have HV:=zh hv;have HB:=zh hb;clear hv hb
  by_cases hlt:k<8
  ·have dk:decide ((0:Int)<=7-k)=true:=by simp;omega
   have hv:=Sha.oz n k hlt
   have hnx:=Sha.gy n k
   have HX:=zh hv;have HN:=zh hnx;clear hv hnx
   go_wp2_with (at_builtin;go_must (refine wpList_append_own_at _ rfl _ _ 66 rfl w.heap.size 5 i0 (.int .u8 0) 1 1 Tryz.underlying66 hi hz0 hz1 hz2 rfl (by omega) _ k ((Sha.XO n k).map (Value.int .u8)) rfl (HV.out.alloc _) ⟨wr.heap.size,0,none⟩ 1 1 [.int .u8 ((n/2^(56-8*k)%256:Nat):Int)] rfl rfl ?c1 ?c2 ?c3 ?c4 ?c5 ?_))
   case c1=>
    intro j u hj
    match j,hj with
    | 0,hj=>simp only[List.getElem?_cons_zero,Option.some.injEq] at hj;subst hj;rw[<- HX.out];exact(At.new wr 5 _).cell 0
   case c2=>intro u hu;simp at hu;subst hu;rfl
   case c3=>unfold maxLen;omega
   case c4=>omega
   case c5=>have:=HB.out.size;simp;omega
   intro v2 w15 how hg _ hb'
   have Tn:Below w.heap.size w w15:=Bh (HB.out.alloc HB.out.size _) (by have:=HB.out.size;simp;omega) HV.out hg
   have how' : w15.ownsRow w.heap.size 5 1 v2 (k+1) ((Sha.XO n (k+1)).map (Value.int .u8)):=by rw[HN.out,List.map_append];exact how
   have kG:=zh Tn;have HOW:=zh how';clear how how' hg hb' Tn
   go_wp2_with fail
   refine⟨⟨k+1,by omega,?_,HOW.out,kG.out⟩,by simp[intOf];omega⟩
   congr 1
   omega
  ·have hk' : k=8:=by omega
   have dk:decide ((0:Int)<=7-k)=false:=by simp;omega
   have HK:=zh hk';clear hk'
   go_wp2_with fail
   rw[Ck wr 66 5 9 rfl rfl rfl _ HV.out]
   rw[HK.out,Sha.kM]
   go_wp2
   go_ret
   exact⟨rfl,HB.out⟩
def sliceLen:Value->Nat
 | .slice _ n _=>n
 | _=>0
theorem Ji (w:World){base:Nat}{v:Value}(xs:List Int)(h:FX w base v (xs.map (Value.int .u8))):(convert 66 9 v).run Tryz.prog w=.ok (.string (strOfNums xs)) w:=by
 obtain⟨g,cap,cur,fz,rfl,hb,hg,_,hcs,hle,hcm,ht⟩:=h
 rw[List.length_map] at*
 refine run_convert_bytes_arg w 66 5 rfl rfl g 0 xs.length cap xs rfl (fun i hi=>?_) 9 rfl
 rw[Nat.zero_add,cell_of_row w g i cur 5 fz hg]
 have h1:cur.toList[i]? = ((xs.map (Value.int .u8)))[i]? :=by
  rw[<- ht,List.getElem?_take_of_lt (by omega)]
 rw[<- Array.getElem?_toList,h1,List.getElem?_map,List.getD_eq_getElem?_getD,List.getElem?_eq_getElem (by omega)]
 rfl
theorem XQ (m:ByteArray)(w:World)(hm:m.size<=140737488350000):
 Calls Tryz.prog 226 #[.string m] w fun e w' => e=.returned (.string (m++Sha.pad m))/\Below w.heap.size w w':=by
 go_enter Tryz.func226,Tryz.ntmps226
 go_wp2_with fail
 rw[Lib.run_convert_string_bytes w 9 66 5 m rfl rfl rfl]
 obtain⟨hbuf,hb1⟩:=fZ w m (by omega)
 generalize Lib.bytesWorld w 5 m=w1 at*
 generalize grownCap w m.size 0 5=cap at*
 have vC:=zh hbuf;have HB1:=zh hb1;clear hbuf hb1
 go_wp2_with (at_builtin;go_must (refine GZ rfl _ _ 66 rfl rfl w.heap.size _ (IJ m) rfl (vC.out.below zb) ⟨w1.heap.size,0,none⟩ 1 (.int .u8 128) rfl ?c1 rfl ?c3 ?c4 ?_))
 case c1=>exact(At.new w1 5 _).cell 0
 case c3=>rw[He];omega
 case c4=>have:=HB1.out.size;simp;omega
 intro v2 w2 hb2 hg2
 have hbw:Below w.heap.size w w2:=(vC.out.below_grown (w0:=w) HB1.out HB1.out.size (HB1.out.alloc HB1.out.size _) (by have:=HB1.out.size;simp;omega) hg2)
 rw[Sha.gF,show(Sha.nums m).map (Value.int .u8)++[Value.int .u8 128]=(Sha.nums m++[128]++List.replicate 0 0).map (Value.int .u8) by simp] at hb2
 have vD:=zh hb2;have HB2:=zh hbw;clear hb2 hg2 hbw
 obtain⟨z,hz⟩:∃ z,z=(119-m.size%64)%64:=⟨_,rfl⟩
 have hzm:∀ k,k<=z->((m.size+1+k)%64=56↔k=z):=fun k hk=>by omega
 have zW:z<64:=by omega
 have HZ:=zh hz;have HZM:=zh hzm;clear hz hzm
 go_wp2
 go_loopw [3] (fun v wr=>∃ k:Nat,k<=z/\FX wr w.heap.size v ((Sha.nums m++[128]++List.replicate k 0).map (Value.int .u8))/\Below w.heap.size w wr) (fun v _=>z+m.size+1-sliceLen v)
 case atStart=>exact⟨0,by omega,vD.out,HB2.out⟩
 case round=>
  obtain⟨k,hk,hbf,hbl⟩:=hrel
  obtain⟨g,cp,rfl⟩:=hbf.len
  have HBF:=zh hbf;have HBL:=zh hbl;clear hbf hbl
  obtain⟨L,hL⟩:∃ L,L=Sha.nums m++[128]++List.replicate k 0:=⟨_,rfl⟩
  have hlen:L.length=m.size+1+k:=by
   rw[hL,List.length_append,List.length_append,Sha.XP,List.length_replicate]
   rfl
  rw[<- hL] at HBF ⊢
  rw[List.length_map,hlen] at HBF ⊢
  have HLEN:=zh hlen;have HL:=zh hL;clear hlen hL
  by_cases hlt:k<z
  ·have hne:=HZM.out k hk
   have hmod:¬ ((m.size+1+k)%64=56):=by omega
   have dk:decide (((m.size:Int)+1+k)%64=56)=false:=by simp;omega
   clear hne
   go_wp2_with (at_builtin;go_must (refine GZ rfl _ _ 66 rfl rfl w.heap.size _ (L.map (Value.int .u8)) rfl (HBF.out.below zb) ⟨wr.heap.size,0,none⟩ 1 (.int .u8 0) rfl ?c1 rfl ?c3 ?c4 ?_))
   case c1=>exact(At.new wr 5 _).cell 0
   case c3=>rw[List.length_map,HLEN.out];omega
   case c4=>have:=HBL.out.size;simp;omega
   intro v3 w3 hb3 hg3
   have hb4:Below w.heap.size w w3:=HBF.out.below_grown (w0:=w) HBL.out HBL.out.size (HBL.out.alloc HBL.out.size _) (by have:=HBL.out.size;simp;omega) hg3
   have V6 : FX w3 w.heap.size v3 ((Sha.nums m++[128]++List.replicate (k+1) 0).map (Value.int .u8)):=by
    rw[List.replicate_succ',<- List.append_assoc,<- HL.out,List.map_append]
    exact hb3
   obtain⟨g3,cp3,rfl⟩:=V6.len
   have hlen3:((Sha.nums m++[128]++List.replicate (k+1) 0).map (Value.int .u8)).length=m.size+1+(k+1):=by
    rw[List.length_map,List.length_append,List.length_append,Sha.XP,List.length_replicate]
    rfl
   rw[hlen3] at V6 ⊢
   have HB3:=zh V6;have HB4:=zh hb4;clear hb3 V6 hb4 hg3 hlen3
   go_wp2
   exact⟨⟨k+1,by omega,HB3.out,HB4.out⟩,by simp[sliceLen];omega⟩
  ·have hk' : k=z:=by omega
   have hmod:(m.size+1+k)%64=56:=(HZM.out k hk).2 hk'
   have dk:decide (((m.size:Int)+1+k)%64=56)=true:=by simp;omega
   have HK:=zh hk';clear hk'
   have hpn:=Sha.kP m z HZ.out (by omega)
   rw[<- HK.out,<- HL.out] at hpn
   have HPN:=zh hpn;clear hpn
   have hls:(strOfNums L).size<=140737488350100:=by rw[strOfNums_size,HLEN.out];omega
   go_wp2_with fail
   have E8:=zh (show(8:Int)*m.size=((8*m.size:Nat):Int) by omega)
   refine Lex.Tq (by kernel_rfl) ?_
   refine Lex.kH 1 5 (by decide) (by kernel_rfl) (Lex.zc1 (by kernel_rfl) ?_) (Lex.zbA [0,2,3,4,5,1,6,7] (by kernel_rfl) (Lex.zc1 (by kernel_rfl) ?_))
   all_goals simp only[Lex.late,Lex.OX,Lex.Uy,List.map_cons,List.map_nil,List.getD_cons_zero,List.getD_cons_succ,Option.map_none,Nat.reduceEqDiff,if_false,Nat.reduceAdd,Nat.zero_add]
   ·go_wp2_with fail
    rw[Ji wr.drew L HBF.out]
    go_wp2_with fail
    rw[E8.out]
    refine(OZ (8*m.size) _ (by omega)).mono ?_
    rintro e w5 ⟨rfl,hb5⟩
    have h8:=Gw (8*m.size)
    have HB5:=zh hb5;clear hb5
    go_wp2_with fail
    rw[HPN.out]
    refine Lex.ze ?_
    go_wp2
    go_ret
    exact⟨rfl,HBL.out.drew.trans (HB5.out.mono HBL.out.size)⟩
   ·go_wp2_with fail
    rw[E8.out]
    refine(OZ (8*m.size) _ (by omega)).mono ?_
    rintro e w5 ⟨rfl,hb5⟩
    have h8:=Gw (8*m.size)
    have zaa:=zh (FX.below (w:=wr.drew) HBF.out hb5)
    have HB5:=zh hb5;clear hb5
    go_wp2_with fail
    rw[Ji w5 L zaa.out]
    go_wp2_with fail
    rw[HPN.out]
    refine Lex.ze ?_
    go_wp2
    go_ret
    exact⟨rfl,HBL.out.drew.trans (HB5.out.mono HBL.out.size)⟩
theorem XT (m:ByteArray):(m++Sha.pad m).size%64=0:=by
 rw[Sha.Ag,Sha.pad,Sha.Ag,Sha.Ag,Gw]
 have h1:(⟨#[128]⟩:ByteArray).size=1:=rfl
 have h2:(⟨(Lib.repeatL [0] ((119-m.size%64)%64)).toArray⟩:ByteArray).size=(119-m.size%64)%64:=by
  rw[Sha.Hf]
  show(List.replicate _ _).toArray.size=_
  simp
 rw[h1,h2]
 omega
theorem ZV (m:ByteArray):(m++Sha.pad m).size<=m.size+72:=by
 rw[Sha.Ag,Sha.pad,Sha.Ag,Sha.Ag,Gw]
 have h1:(⟨#[128]⟩:ByteArray).size=1:=rfl
 have h2:(⟨(Lib.repeatL [0] ((119-m.size%64)%64)).toArray⟩:ByteArray).size=(119-m.size%64)%64:=by
  rw[Sha.Hf]
  show(List.replicate _ _).toArray.size=_
  simp
 rw[h1,h2]
 omega
theorem Ig (m:ByteArray)(w:World)(hm:m.size<=140737488350000):
 Calls Tryz.prog 190 #[.string m] w fun e w' => e=.returned (.string (Sha.sha m))/\Below w.heap.size w w':=by
 go_enter Tryz.func190,Tryz.ntmps190
 go_wp2_with fail
 have XU:At (w.alloc (.cells #[.int .u32 1779033703,.int .u32 3144134277,.int .u32 1013904242,.int .u32 2773480762,.int .u32 1359893119,.int .u32 2600822924,.int .u32 528734635,.int .u32 1541459225] 230)) w.heap.size 230 (Sha.row Sha.IV):=At.new _ _ _
 refine(XQ m _ hm).mono ?_
 rintro e w1 ⟨rfl,hb1⟩
 have hb0:Below w.heap.size w w1:=((Below.refl w.heap.size w).alloc (Nat.le_refl _) _).trans (hb1.mono (by simp))
 have vE:=XU.below hb1 (by simp)
 have hp0:=XT m
 have hp1:=ZV m
 obtain⟨p,hp⟩:∃ p,p=m++Sha.pad m:=⟨_,rfl⟩
 rw[<- hp] at hp0 hp1 ⊢
 obtain⟨N,hN⟩:∃ N,N=p.size/64:=⟨_,rfl⟩
 have hpn:p.size=64*N:=by omega
 have HP:=zh hp;have HN:=zh hN;have HAT:=zh vE;have HB0:=zh hb0;clear hp hN XU vE hb0 hb1
 go_wp2
 go_loopw [3,5] (fun v i wr=>∃ (k g:Nat),k<=N/\i=.int .i64 ((64*k:Nat):Int)/\v=.slice (some ⟨g,0,none⟩) 8 8/\At wr g 230 (Sha.row (Sha.run Sha.IV p k))/\Below w.heap.size w wr) (fun _ i _=>p.size-(intOf i).toNat)
 case atStart=>exact⟨0,w.heap.size,by omega,rfl,rfl,HAT.out,HB0.out⟩
 case round=>
  obtain⟨k,g,hk,rfl,rfl,hat,hb⟩:=hrel
  have hcap:64*N<=140737488350072:=by omega
  by_cases hlt:k<N
  ·have dk:decide (((64*k:Nat):Int)<p.size)=true:=by simp;omega
   have HA:=zh hat;have HB:=zh hb;clear hat hb
   go_wp2_with fail
   have hes:(p.extract (64*k) (64*k+64)).size=64:=by rw[ByteArray.size_extract];omega
   have hwd:=Sha.Vq.run p k
   refine(Tp _ g 8 _ wr hwd hes HA.out).mono ?_
   rintro e w3 ⟨g3,rfl,VO,hg3,hb3⟩
   have hrun:Sha.row (Sha.block (Sha.run Sha.IV p k) (p.extract (64*k) (64*k+64)))=Sha.row (Sha.run Sha.IV p (k+1)):=rfl
   rw[hrun] at VO
   have HA3:=zh VO;have HB3:=zh (HB.out.trans (hb3.mono HB.out.size));clear VO hb3 hrun hwd hes
   go_wp2_with fail
   refine⟨⟨k+1,g3,by omega,?_,rfl,HA3.out,HB3.out⟩,by simp[intOf];omega⟩
   congr 1
  ·have dk:decide (((64*k:Nat):Int)<p.size)=false:=by simp;omega
   have hk' : k=N:=by omega
   subst hk'
   obtain⟨wo,rfl⟩:∃ wo:World,wo=wr:=⟨_,rfl⟩
   have HA:=zh hat;have HB:=zh hb;clear hat hb
   have hwd:=Sha.Vq.run p k
   have hl:=hwd.1
   have hbd:=hwd.2
   have hfin:strOfNums (Sha.bytes (Sha.run Sha.IV p k))=Sha.sha m:=by
    rw[Sha.sha,Sha.state,<- HP.out,<- HN.out]
   have zab:=zh hfin;clear hfin
   generalize Sha.run Sha.IV p k=zs at*
   obtain⟨i0,hi,hz0,hz1,hz2⟩:=info_parts GX
   go_wp2
   go_loopw [6,7] (fun v i wr=>∃ j:Nat,j<=8/\i=.int .i64 j/\wr.ownsRow wo.heap.size 5 1 v (4*j) ((Sha.bytes (zs.take j)).map (Value.int .u8))/\Below wo.heap.size wo wr) (fun _ i _=>8-(intOf i).toNat)
   case atStart=>exact⟨0,by omega,rfl,⟨rfl,.inr ⟨wo.heap.size,0,#[],rfl,Nat.le_refl _,At.new _ _ _,Nat.le_refl _,by decide,rfl,rfl⟩⟩,zb⟩
   case round=>
    obtain⟨j,hj,rfl,how,hbr⟩:=hrel
    by_cases hj8:j<8
    ·have dj:decide ((j:Int)<8)=true:=by simp;omega
     have rk:wr.cell? ⟨g,j,none⟩=some (.int .u32 (zs.getD j 0)):=by
      rw[(HA.out.below hbr HA.out.lt).cell j,Sha.FZ,List.getElem?_eq_getElem (by omega),List.getD_eq_getElem?_getD,List.getElem?_eq_getElem (by omega)]
      rfl
     have hsn:=Sha.QJ zs j (by omega)
     have hx:0<=zs.getD j 0/\zs.getD j 0<4294967296:=by
      rw[List.getD_eq_getElem?_getD,List.getElem?_eq_getElem (by omega)]
      exact hbd _ (List.getElem_mem _)
     generalize zs.getD j 0=x at*
     have HOW:=zh how;have HBR:=zh hbr;have HSN:=zh hsn;have HBD:=zh hbd;clear how hbr hsn hbd
     have h16:x/16777216<256:=by omega
     go_wp2
     refine Lex.zl ?_
     go_wp2_with (at_builtin;go_must (refine wpList_append_own_at _ rfl _ _ 66 rfl wo.heap.size 5 i0 (.int .u8 0) 1 1 Tryz.underlying66 hi hz0 hz1 hz2 rfl (by omega) _ (4*j) _ rfl (World.ownsRow.alloc (by exact HOW.out) _).drew ⟨wr.heap.size,0,none⟩ 4 4 ((Sha.be4 x).map (Value.int .u8)) rfl rfl ?c1 ?c2 ?c3 ?c4 ?c5 ?_))
     case c1=>
      intro q u hq
      match q,hq with
      | 0,hq=>simp[Sha.be4] at hq;subst hq;simp[Addr.add]
      | 1,hq=>simp[Sha.be4] at hq;subst hq;simp[Addr.add]
      | 2,hq=>simp[Sha.be4] at hq;subst hq;simp[Addr.add]
      | 3,hq=>simp[Sha.be4] at hq;subst hq;simp[Addr.add]
     case c2=>intro u hu;simp[Sha.be4] at hu;rcases hu with rfl|rfl|rfl|rfl<;>rfl
     case c3=>unfold maxLen;omega
     case c4=>omega
     case c5=>have:=HBR.out.size;simp;omega
     intro v' w' how' hg _ _
     have hb' : Below wo.heap.size wo w':=Bh (HBR.out.alloc (by have:=HBR.out.size;omega) _).drew (by have:=HBR.out.size;simp;omega) HOW.out hg
     have ho' : w'.ownsRow wo.heap.size 5 1 v' (4*(j+1)) ((Sha.bytes (zs.take (j+1))).map (Value.int .u8)):=by
      rw[HSN.out,List.map_append]
      exact how'
     have HO:=zh ho';have HBB:=zh hb';clear how' hg ho' hb'
     go_wp2
     refine Lex.ze ?_
     go_wp2
     go_roundw
     case rel=>
      first
       | exact⟨j+1,by omega,by go_num,HO.out,HBB.out⟩
       | ((repeat apply Exists.intro);exact⟨⟨j+1,by omega,by go_num,HO.out,HBB.out⟩,rfl⟩)
     case measure=>simp[intOf];omega
    ·have hj' : j=8:=by omega
     have dj:decide ((j:Int)<8)=false:=by simp;omega
     have HJ:=zh hj';have HOW:=zh how;have HBR:=zh hbr;clear hj' how hbr
     go_wp2_with fail
     rw[Ck wr 66 5 9 rfl rfl rfl _ HOW.out]
     have hj8:=HJ.out
     have htk:zs.take j=zs:=List.take_of_length_le (by omega)
     rw[htk,zab.out]
     go_wp2
     go_ret
     exact⟨rfl,HB.out.trans (HBR.out.mono HB.out.size)⟩
end
section
open Go Go.RowKit Go.Maps
theorem Fq (s:ByteArray)(w:World):Calls Tryz.prog 198 #[.string s] w fun e w' => e=.returned (.bool (decide (s.size=32)))/\w' = w:=by
 go_enter Tryz.func198,Tryz.ntmps198
 go_wp2
 go_ret
 refine⟨?_,rfl⟩
 show Ending.returned (.bool _)=Ending.returned (.bool _)
 congr 2
 rw[Bool.eq_iff_iff]
 simp
 omega
theorem Ri (v:Value)(xs:List ByteArray)(w:World)(h:Al w v xs)(hl:xs.length<=140737488355328):
 Calls Tryz.prog 164 #[v] w fun e w' => e=.returned (.bool (Ld xs))/\w' = w:=by
 obtain⟨a,c,rfl⟩:=h.len
 obtain⟨R,hR⟩:∃ R,R=Ld xs:=⟨_,rfl⟩
 rw[<- hR]
 have HR:=zh hR;have HV:=zh h;clear hR h
 go_enter Tryz.func164,Tryz.ntmps164
 go_wp2
 go_loopw [3] (fun i wr=>∃ k:Nat,k<=xs.length/\i=.int .i64 k/\Ld (xs.take k)=true/\wr=w) (fun i _=>xs.length-(intOf i).toNat)
 case atStart=>exact⟨0,by omega,rfl,rfl,rfl⟩
 case round=>
  obtain⟨k,hk,rfl,hok,rfl⟩:=hrel
  have HOK:=zh hok;clear hok
  by_cases hlt:k<xs.length
  ·have dk:decide ((k:Int)<xs.length)=true:=by simp;omega
   obtain⟨b,o,rfl⟩:=HV.out.addrOf hlt
   have ce:=HV.out.cellAt hlt
   obtain⟨s,hs⟩:∃ s,s=xs.getD k ⟨#[]⟩:=⟨_,rfl⟩
   rw[<- hs] at ce
   have hsx:s=xs[k]:=by rw[hs];simp[List.getD_eq_getElem?_getD,hlt]
   have htk:Ld (xs.take (k+1))=decide (s.size=32):=by
    have:=HOK.out
    unfold Ld at this ⊢
    rw[List.take_succ_eq_append_getElem hlt,List.all_append,this,<- hsx]
    simp
   have hno:s.size≠32->R=false:=fun h=>by
    rw[HR.out]
    unfold Ld
    rw[List.all_eq_false]
    exact⟨s,by rw[hsx];exact List.getElem_mem hlt,by simpa using h⟩
   have HTK:=zh htk;have HNO:=zh hno;clear htk hno hs hsx
   go_wp2_with fail
   refine(Fq s _).mono ?_
   rintro e w2 ⟨rfl,rfl⟩
   by_cases h32:s.size=32
   ·rw[decide_eq_true h32]
    have ht:=HTK.out
    rw[decide_eq_true h32] at ht
    have HT:=zh ht;clear ht h32
    go_wp2
    exact⟨⟨k+1,by omega,by go_num,HT.out,by first|rfl|trivial⟩,by simp[intOf];omega⟩
   ·rw[decide_eq_false h32]
    have ht:=HNO.out h32
    have HT:=zh ht;clear ht h32
    go_wp2
    go_ret
    exact⟨by rw[HT.out];rfl,rfl⟩
  ·have dk:decide ((k:Int)<xs.length)=false:=by simp;omega
   have hf:R=true:=by
    have:=HOK.out
    rw[List.take_of_length_le (by omega)] at this
    rw[HR.out,this]
   have HF:=zh hf;clear hf
   go_wp2
   go_ret
   exact⟨by rw[HF.out];rfl,rfl⟩
theorem kQ (xs ys:List ByteArray)(hl:xs.length=ys.length)(h:∀ k,k<xs.length->xs.getD k ⟨#[]⟩=ys.getD k ⟨#[]⟩):xs=ys:=by
 apply List.ext_getElem hl
 intro k h1 h2
 have:=h k h1
 simpa [List.getD_eq_getElem?_getD,h1,h2] using this
theorem bytes_beq {a b:ByteArray} : (a.toList==b.toList)=decide (a=b):=by
 rw[Bool.eq_iff_iff,beq_iff_eq,decide_eq_true_eq]
 constructor
 ·intro h
  rw[ByteArray.toList_eq,ByteArray.toList_eq] at h
  exact Sha.BG h
 ·intro h;rw[h]
theorem Pb (v1 v2:Value)(xs ys:List ByteArray)(w:World)(h1:Al w v1 xs)(h2:Al w v2 ys)(hl1:xs.length<=140737488355328)(hl2:ys.length<=140737488355328):
 Calls Tryz.prog 175 #[v1,v2] w fun e w' => e=.returned (.bool (decide (xs=ys)))/\∃ q,w' = w.drewN q:=by
 obtain⟨a1,c1,rfl⟩:=h1.len
 obtain⟨a2,c2,rfl⟩:=h2.len
 obtain⟨R,hR⟩:∃ R,R=decide (xs=ys):=⟨_,rfl⟩
 rw[<- hR]
 have HR:=zh hR;have HV1:=zh h1;have HV2:=zh h2;clear hR h1 h2
 go_enter Tryz.func175,Tryz.ntmps175
 by_cases hl:xs.length=ys.length
 ·have d0:((xs.length:Int) != ys.length)=false:=by simp;omega
  have d0' : ¬ ((xs.length:Int)=ys.length)↔False:=by simp;omega
  have HL:=zh hl
  have hly:ys.length<=xs.length:=by omega
  have hlx:xs.length<=ys.length:=by omega
  clear hl
  go_wp2
  go_loopw [5] (fun i wr=>∃ k q:Nat,k<=xs.length/\i=.int .i64 k/\(∀ j,j<k->xs.getD j ⟨#[]⟩=ys.getD j ⟨#[]⟩)/\wr=w.drewN q) (fun i _=>xs.length-(intOf i).toNat)
  case atStart=>exact⟨0,0,by omega,rfl,fun j hj=>absurd hj (by omega),rfl⟩
  case round=>
   obtain⟨k,q,hk,rfl,heq,rfl⟩:=hrel
   have HEQ:=zh heq;clear heq
   by_cases hlt:k<xs.length
   ·have dk:decide ((k:Int)<xs.length)=true:=by simp;omega
    have dy:decide ((k:Int)<ys.length)=true:=by simp;omega
    obtain⟨b1,o1,rfl⟩:=HV1.out.addrOf hlt
    obtain⟨b2,o2,rfl⟩:=HV2.out.addrOf (k:=k) (by omega)
    have ce1:=HV1.out.cellAt hlt
    have ce2:=HV2.out.cellAt (k:=k) (by omega)
    obtain⟨s,hs⟩:∃ s,s=xs.getD k ⟨#[]⟩:=⟨_,rfl⟩
    obtain⟨t,ht⟩:∃ t,t=ys.getD k ⟨#[]⟩:=⟨_,rfl⟩
    rw[<- hs] at ce1
    rw[<- ht] at ce2
    have HS:=zh hs;have HT:=zh ht;clear hs ht
    by_cases hst:s=t
    ·have e1:(s.toList==t.toList)=true:=by rw[hst];exact beq_self_eq_true _
     have hnx:∀ j,j<k+1->xs.getD j ⟨#[]⟩=ys.getD j ⟨#[]⟩:=fun j hj=>by
      rcases Nat.lt_or_ge j k with h|h
      ·exact HEQ.out j h
      ·have:j=k:=by omega
       rw[this,<- HS.out,<- HT.out,hst]
     have HNX:=zh hnx;clear hnx hst
     go_wp2
     refine Lex.zl ?_
     go_wp2
     refine Lex.ze ?_
     go_wp2
     exact⟨⟨k+1,q+1,by omega,by go_num,HNX.out,rfl⟩,by simp[intOf];omega⟩
    ·have e1:(s.toList==t.toList)=false:=by rw[bytes_beq];simpa using hst
     have hf:R=false:=by
      rw[HR.out,decide_eq_false]
      intro h
      exact hst (by rw[HS.out,HT.out,h])
     have HF:=zh hf;clear hf hst
     go_wp2
     refine Lex.zl ?_
     go_wp2
     refine Lex.ze ?_
     go_wp2
     go_ret
     exact⟨by rw[HF.out];rfl,q+1,rfl⟩
   ·have dk:decide ((k:Int)<xs.length)=false:=by simp;omega
    have hf:R=true:=by
     rw[HR.out]
     exact decide_eq_true (kQ xs ys HL.out (fun j hj=>HEQ.out j (by omega)))
    have HF:=zh hf;clear hf
    go_wp2
    go_ret
    exact⟨by rw[HF.out];rfl,q,rfl⟩
 ·have hf : R = false :=by
   rw[HR.out,decide_eq_false]
   intro h
   exact hl (by rw[h])
  have d0:((xs.length:Int) != ys.length)=true:=by simp;omega
  have HF:=zh hf;clear hf
  go_wp2
  go_ret
  exact⟨by rw[HF.out];rfl,0,rfl⟩
def ZU (xs:List ByteArray):Nat:=(xs.map ByteArray.size).sum
def zc4 (xs:List ByteArray):Bool:=decide (xs.length<=70)&&decide (ZU xs<=20000)
theorem zcb (xs:List ByteArray)(k:Nat)(h:k<xs.length):ZU (xs.take (k+1))=ZU (xs.take k)+xs[k].size:=by
 unfold ZU
 rw[List.take_succ_eq_append_getElem h,List.map_append,List.sum_append]
 simp
theorem zbT (v:Value)(xs:List ByteArray)(w:World)(h:Al w v xs)(hx:∀ x∈xs,x.size<=140737488355328)(hl:xs.length<=60000):
 Calls Tryz.prog 147 #[v] w fun e w' => e=.returned (.bool (zc4 xs))/\w' = w:=by
 obtain⟨a,c,rfl⟩:=h.len
 have htk:∀ k,k<=xs.length->ZU (xs.take k)<=k*140737488355328:=by
  intro k
  induction k with
  | zero=>intro _;simp[ZU]
  | succ k ih =>
    intro hk
    rw[zcb xs k (by omega)]
    have h1:=ih (by omega)
    have h2:=hx _ (List.getElem_mem (show k<xs.length by omega))
    omega
 obtain⟨R,hR⟩:∃ R,R=zc4 xs:=⟨_,rfl⟩
 rw[<- hR]
 unfold zc4 at hR
 have HR:=zh hR;have HV:=zh h;have HTK:=zh htk;have HX:=zh hx;clear hR h htk hx
 go_enter Tryz.func147,Tryz.ntmps147
 go_wp2
 go_loopw [3,4] (fun n i wr=>∃ k:Nat,k<=xs.length/\i=.int .i64 k/\n=.int .i64 ((ZU (xs.take k):Nat):Int)/\wr=w) (fun _ i _=>xs.length-(intOf i).toNat)
 case atStart=>exact⟨0,by omega,rfl,rfl,rfl⟩
 case round=>
  obtain⟨k,hk,rfl,rfl,rfl⟩:=hrel
  have hT:=HTK.out k hk
  have hT2:ZU (xs.take k)<=9223372036854775000:=by omega
  by_cases hlt:k<xs.length
  ·have dk:decide ((k:Int)<xs.length)=true:=by simp;omega
   obtain⟨b,o,rfl⟩:=HV.out.addrOf hlt
   have ce:=HV.out.cellAt hlt
   obtain⟨s,hs⟩:∃ s,s=xs.getD k ⟨#[]⟩:=⟨_,rfl⟩
   rw[<- hs] at ce
   have hsx:s=xs[k]:=by rw[hs];simp[List.getD_eq_getElem?_getD,hlt]
   have hstep:ZU (xs.take (k+1))=ZU (xs.take k)+s.size:=by rw[zcb xs k hlt,hsx]
   have hss:s.size<=140737488355328:=HX.out s (by rw[hsx];exact List.getElem_mem hlt)
   have hn1:=HTK.out (k+1) hlt
   rw[hstep] at hn1
   generalize ZU (xs.take k)=T at*
   have HST:=zh hstep;clear hstep hs hsx
   go_wp2
   exact⟨⟨k+1,by omega,by go_num,by rw[HST.out];go_num,by first|rfl|trivial⟩,by simp[intOf];omega⟩
  ·have dk:decide ((k:Int)<xs.length)=false:=by simp;omega
   have hall:ZU (xs.take k)=ZU xs:=by rw[List.take_of_length_le (by omega)]
   rw[hall] at hT2 ⊢
   clear hall hT
   by_cases h1:xs.length<=70
   ·have e1:decide ((xs.length:Int)<=70)=true:=by simp;omega
    by_cases h2:ZU xs<=20000
    ·have e2:decide (((ZU xs:Nat):Int)<=20000)=true:=by simp;omega
     have hf:R=true:=by rw[HR.out,decide_eq_true h1,decide_eq_true h2];rfl
     have HF:=zh hf;clear hf
     go_wp2
     go_ret
     exact⟨by rw[HF.out];rfl,rfl⟩
    ·have e2:decide (((ZU xs:Nat):Int)<=20000)=false:=by simp;omega
     have hf:R=false:=by rw[HR.out,decide_eq_false h2];simp
     have HF:=zh hf;clear hf
     go_wp2
     go_ret
     exact⟨by rw[HF.out];rfl,rfl⟩
   ·have e1:decide ((xs.length:Int)<=70)=false:=by simp;omega
    have hf:R=false:=by rw[HR.out,decide_eq_false h1];simp
    have HF:=zh hf;clear hf
    go_wp2
    go_ret
    exact⟨by rw[HF.out];rfl,rfl⟩
theorem Fg (s:ByteArray)(w:World):Calls Tryz.prog 218 #[.string s] w fun e w' => e=.returned (.bool (Sig.digest s))/\w' = w:=by
 have h:Sig.digest s=((s.size:Int)==32):=by
  unfold Sig.digest
  rw[Bool.eq_iff_iff,decide_eq_true_eq,beq_iff_eq]
  omega
 obtain⟨R,hR⟩:∃ R,R=Sig.digest s:=⟨_,rfl⟩
 rw[<- hR] at h ⊢
 have H:=zh h;clear h hR
 go_enter Tryz.func218,Tryz.ntmps218
 go_wp2
 go_ret
 exact⟨by rw[H.out];rfl,rfl⟩
theorem XV:∀ xs:List ByteArray,(⟨(Lib.join (xs.map (·.data.toList)) []).toArray⟩:ByteArray)=Cod.cat xs
 | []=>rfl
 | [x] => by
   apply Sha.BG
   simp[Lib.join,Cod.cat]
 | x :: y :: l => by
   have ih:=XV (y::l)
   apply Sha.BG
   have e:Cod.cat (x::y::l)=x++Cod.cat (y::l):=rfl
   rw[e,<- ih]
   simp[Lib.join]
theorem Qi (x:ByteArray):x++(⟨#[]⟩:ByteArray)=x:=by
 apply Sha.BG
 simp
theorem U0 (k:ByteArray)(b:Nat)(xs:List ByteArray)(w:World)(h:At w b 9 (xs.map Value.string).toArray)(hl:xs.length<=1000000)(hk:k.size<=1000)(hs:(Cod.cat xs).size<=140737488340000):
 Calls Tryz.prog 221 #[.string k,.slice (some ⟨b,0,none⟩) xs.length xs.length] w fun e w' => e=.returned (.string (Sha.sha (k++Cod.cat xs)))/\Below w.heap.size w w':=by
 have H:=zh h;clear h
 go_enter Tryz.func221,Tryz.ntmps221
 go_wp2_with fail
 have hj:=XV xs
 have hlen:(Lib.join (xs.map (·.data.toList)) (⟨#[]⟩:ByteArray).data.toList).length<=140737488355328:=by
  have:(Lib.join (xs.map (·.data.toList)) []).length=(Cod.cat xs).size:=by
   rw[<- hj]
   show _=(Lib.join (xs.map (·.data.toList)) []).toArray.size
   simp
  show(Lib.join (xs.map (·.data.toList)) []).length<=_
  rw[this]
  omega
 refine(Tryz.strings_Join b 0 xs.length xs ⟨#[]⟩ w (fun j x hx=>by
  have:=H.out.cell j
  rw[Nat.zero_add,this]
  simp[hx]) H.out.lt (by omega) (Nat.le_refl _) hlen).mono ?_
 rintro e w1 ⟨rfl,hb⟩
 have e0:(⟨(Lib.join (xs.map (·.data.toList)) (⟨#[]⟩:ByteArray).data.toList).toArray⟩:ByteArray)=Cod.cat xs:=hj
 rw[e0]
 have HB:=zh hb
 obtain⟨C,hC⟩:∃ C,C=Cod.cat xs:=⟨_,rfl⟩
 rw[<- hC] at hs ⊢
 clear hj hlen e0 hb
 have HC:=zh hC;clear hC
 go_wp2_with fail
 refine(V7 (k++C) w1 (by rw[ByteArray.size_append];omega)).mono ?_
 rintro e w2 ⟨rfl,hb⟩
 have HB2:=zh (HB.out.trans (hb.mono HB.out.size));clear hb
 go_wp2
 go_ret
 exact⟨by rw[<- HC.out];rfl,HB2.out⟩
theorem gG (d:ByteArray)(w:World)(hs:d.size<=140737488340000):
 Calls Tryz.prog 182 #[.string d] w fun e w' => e=.returned (.string (Sha.sha (Sig.b1 0++d)))/\Below w.heap.size w w':=by
 go_enter Tryz.func182,Tryz.ntmps182
 go_wp2_with fail
 have hb1:Below w.heap.size w (w.alloc (.cells #[.string d] 9)):=zb
 refine(U0 (Sig.b1 0) w.heap.size [d] _ (At.new w _ _) (by simp) (by decide) (by show(d++⟨#[]⟩).size<=_;rw[ByteArray.size_append];exact hs)).mono ?_
 rintro e w2 ⟨rfl,hb⟩
 have e0:Cod.cat [d]=d:=Qi d
 rw[e0]
 have HB2:=zh (hb1.trans (hb.mono hb1.size));clear hb hb1 e0
 go_wp2
 go_ret
 exact⟨rfl,HB2.out⟩
theorem Kq (l r:ByteArray)(w:World):
 Calls Tryz.prog 248 #[.string l,.string r] w fun e w' => e=.returned (.string (Sig.node l r))/\Below w.heap.size w w':=by
 obtain⟨R,hR⟩:∃ R,R=Sig.node l r:=⟨_,rfl⟩
 rw[<- hR]
 unfold Sig.node at hR
 have HR:=zh hR;clear hR
 go_enter Tryz.func248,Tryz.ntmps248
 go_wp2_with fail
 refine(Fg l w).mono ?_
 rintro e w1 ⟨rfl,rfl⟩
 cases hl:Sig.digest l with
 | false =>
   have hx:R=⟨#[]⟩:=by rw[HR.out,if_neg];rintro⟨h,_⟩;unfold Sig.digest at hl;rw[decide_eq_true h] at hl;cases hl
   have HX:=zh hx;clear hx hl
   go_wp2
   go_ret
   exact⟨by rw[HX.out];rfl,Below.refl _ _⟩
 | true =>
   go_wp2_with fail
   refine(Fg r w1).mono ?_
   rintro e w2 ⟨rfl,rfl⟩
   cases hr:Sig.digest r with
   | false =>
     have hx:R=⟨#[]⟩:=by rw[HR.out,if_neg];rintro⟨_,h⟩;unfold Sig.digest at hr;rw[decide_eq_true h] at hr;cases hr
     have HX:=zh hx;clear hx hl hr
     go_wp2
     go_ret
     exact⟨by rw[HX.out];rfl,Below.refl _ _⟩
   | true =>
     have h1:l.size=32:=of_decide_eq_true hl
     have h2:r.size=32:=of_decide_eq_true hr
     have hx:R=Sha.sha (Sig.b1 1++l++r):=by rw[HR.out,if_pos ⟨h1,h2⟩]
     have HX:=zh hx;clear hx hl hr
     go_wp2_with fail
     have hb1:Below w2.heap.size w2 (w2.alloc (.cells #[.string l,.string r] 9)):=zb
     have e0:Cod.cat [l,r]=l++r:=by show l++(r++⟨#[]⟩)=l++r;rw[Qi]
     refine(U0 (Sig.b1 1) w2.heap.size [l,r] _ (At.new w2 _ _) (by simp) (by decide) (by rw[e0,ByteArray.size_append];omega)).mono ?_
     rintro e w3 ⟨rfl,hb⟩
     rw[e0,<- ByteArray.append_assoc]
     have HB2:=zh (hb1.trans (hb.mono hb1.size));clear hb hb1 e0
     go_wp2
     go_ret
     exact⟨by rw[HX.out];rfl,HB2.out⟩
theorem KH:∀ (f x:Nat),x<2^f->Lib.bitLenAux f x=if x=0 then 0 else Nat.log2 x+1
 | 0,x,h => by
   have:x=0:=by simpa using h
   subst this
   rfl
 | f + 1,x,h => by
   unfold Lib.bitLenAux
   by_cases h0:x=0
   ·rw[if_pos h0,if_pos h0]
   ·rw[if_neg h0,if_neg h0,KH f (x/2) (by rw[Nat.pow_succ] at h;omega)]
    by_cases h1:x/2=0
    ·have:x=1:=by omega
     subst this
     rfl
    ·rw[if_neg h1]
     have hx:2<=x:=by omega
     have:Nat.log2 x=Nat.log2 (x/2)+1:=by
      rw[Nat.log2_def x,if_pos hx]
     omega
theorem VP {n:Nat}(h:2<=n)(hn:n<4611686018427387904):Lib.bitLen (n-1)=Nat.log2 (n-1)+1:=by
 unfold Lib.bitLen
 rw[KH 64 (n-1) (by omega),if_neg (by omega)]
theorem kR {n:Nat}(h:2<=n)(hn:n<4611686018427387904):Nat.log2 (n-1)<62:=by
 rw[Nat.log2_lt (by omega)]
 omega
theorem ZW (n:Nat)(w:World)(h:2<=n)(hn:n<4611686018427387904):
 Calls Tryz.prog 247 #[.int .i64 n] w fun e w' => e=.returned (.int .i64 (Sig.split n))/\w' = w:=by
 have hb:=VP h hn
 have hl:=kR h hn
 obtain⟨L,hL⟩:∃ L,L=Nat.log2 (n-1):=⟨_,rfl⟩
 have hs:(2:Int)^L=((Sig.split n:Nat):Int):=by
  unfold Sig.split
  rw[<- hL]
  exact(Int.natCast_pow 2 L).symm
 rw[<- hL] at hb hl
 obtain⟨S,hS⟩:∃ S,S=Sig.split n:=⟨_,rfl⟩
 rw[<- hS] at hs ⊢
 have HS:=zh hs;have HB:=zh hb
 clear hS hL hs hb
 obtain⟨m,rfl⟩:∃ m,n=m+1:=⟨n-1,by omega⟩
 go_enter Tryz.func247,Tryz.ntmps247
 go_wp2_with fail
 refine(Tryz.bits_Len m w (by omega) (by omega)).mono ?_
 rintro e w1 ⟨rfl,rfl⟩
 have e1:Lib.bitLen ((m:Int)).toNat=L+1:=by
  rw[Int.toNat_natCast]
  exact HB.out
 rw[e1]
 have d1:decide ((L:Int)<0)=false:=by simp
 go_wp2_with fail
 have hw:wrap64 ((2:Int)^L)=S:=by
  have h1:=HS.out
  have h2:2^L<2^62:=Nat.pow_lt_pow_right (by omega) hl
  have h3:((2^L:Nat):Int)=2^L:=Int.natCast_pow 2 L
  have h4:(2^62:Nat)=4611686018427387904:=by decide
  rw[h1]
  have h5:((2^L:Nat):Int)=S:=h3.trans h1
  unfold wrap64
  omega
 rw[hw]
 go_ret
 exact⟨rfl,rfl⟩
theorem Hg (g:Nat)(lb:Array Value)(eg:∀ args w,(callFunc g args).run Tryz.prog w=.ok (.enter g args) w)(p:ByteArray->Bool)(v:Value)(xs:List ByteArray)(w:World)(hp:∀ (W:World) (x:ByteArray),Calls Tryz.prog g (#[.string x]++lb) W fun e w' => e=.returned (.bool (p x))/\w' = W)(h:Al w v xs)(hl:xs.length<=140737488355328):
 Calls Tryz.prog 125 #[v,.func (.func g) #[] lb] w fun e w' => e=.returned (.bool (xs.any p))/\∃ q,w' = w.drewN q:=by
 obtain⟨a,c,rfl,h0|⟨b,o,rfl,hc⟩⟩:=h
 ·have hx:xs=[]:=List.eq_nil_of_length_eq_zero h0
  subst hx
  refine(Tryz.slices_ContainsFunc_empty (α :=ByteArray) a c _ w).mono ?_
  rintro e w' ⟨rfl,rfl⟩
  exact⟨rfl,0,rfl⟩
 ·refine(Tryz.slices_ContainsFunc (α :=ByteArray) Value.string p g lb eg b o xs.length c xs w (fun W x _=>(hp W x).mono fun e w' he=>⟨he.1,0,he.2⟩) (Nat.le_refl _) (by omega) (fun j hj=>?_)).mono ?_
  ·rw[hc j hj]
   simp[List.getD_eq_getElem?_getD,hj]
  ·rintro e w' ⟨rfl,q,rfl⟩
   exact⟨by rw[List.take_length],q,rfl⟩
theorem XW (s:ByteArray)(w:World):Calls Tryz.prog 246 #[.string s] w fun e w' => e=.returned (.bool (!Sig.digest s))/\w' = w:=by
 go_enter Tryz.func246,Tryz.ntmps246
 go_wp2_with fail
 refine(Fg s w).mono ?_
 rintro e w1 ⟨rfl,rfl⟩
 go_wp2
 go_ret
 exact⟨rfl,rfl⟩
theorem Hl {α : Type}(l:List α)(p : α -> Bool):(l.any fun x => !p x) = !l.all p:=by
 induction l with
 | nil=>rfl
 | cons x l ih=>rw[List.any_cons,List.all_cons,ih];cases p x<;>rfl
theorem ZX (v:Value)(xs:List ByteArray)(w:World)(h:Al w v xs)(hl:xs.length<=140737488355328):
 Calls Tryz.prog 219 #[v] w fun e w' => e=.returned (.bool (decide (xs.length<=4096)&&xs.all Sig.digest))/\∃ q,w' = w.drewN q:=by
 obtain⟨R,hR⟩:∃ R,R=(decide (xs.length<=4096)&&xs.all Sig.digest):=⟨_,rfl⟩
 rw[<- hR]
 have H:=zh h
 obtain⟨a,c,rfl⟩:=h.len
 clear h
 go_enter Tryz.func219,Tryz.ntmps219
 by_cases h1:xs.length<=4096
 ·have d1:decide ((xs.length:Int)<=4096)=true:=by simp;omega
  rw[decide_eq_true h1,Bool.true_and] at hR
  have HR:=zh hR;clear hR
  go_wp2_with fail
  refine(Hg 246 #[] Tryz.call246 (fun x => !Sig.digest x) _ xs _ (fun W x=>XW x W) H.out hl).mono ?_
  rintro e _ ⟨rfl,q,rfl⟩
  rw[Hl,<- HR.out]
  go_wp2
  go_ret
  exact⟨by cases R<;>rfl,q,rfl⟩
 ·have d1:decide ((xs.length:Int)<=4096)=false:=by simp;omega
  rw[decide_eq_false h1,Bool.false_and] at hR
  have HR:=zh hR;clear hR
  go_wp2
  go_ret
  exact⟨by rw[HR.out];rfl,0,rfl⟩
theorem ZY (f:Nat)(x:ByteArray)(i:Nat)(p:List ByteArray):Sig.Cc (f+1) x i 1 p=if p=[] then some x else none:=by
 unfold Sig.Cc
 rw[if_pos rfl]
theorem aj (f:Nat)(x:ByteArray)(i n:Nat)(h:n≠1):Sig.Cc (f+1) x i n []=none:=by
 unfold Sig.Cc
 rw[if_neg h]
 rfl
theorem XY (f:Nat)(x z:ByteArray)(i n:Nat)(p:List ByteArray)(h:n≠1):Sig.Cc (f+1) x i n (p++[z])=if i<Sig.split n then (Sig.Cc f x i (Sig.split n) p).map fun r=>Sig.node r z else (Sig.Cc f x (i-Sig.split n) (n-Sig.split n) p).map fun r=>Sig.node z r:=by
 rw[Sig.Cc,if_neg h,List.getLast?_append,List.getLast?_singleton,List.dropLast_append_of_ne_nil (by simp)]
 simp
def Kr (w:World)(r:Option ByteArray)(e:Ending)(w' : World):Prop:=
 (match r with|some y=>e=.returned (.tuple #[.string y,.bool true])|none=>∃ y,e=.returned (.tuple #[.string y,.bool false]))/\Below w.heap.size w w'
theorem Al.first {w:World}{a:Option Addr}{n c c' : Nat}{xs:List ByteArray}{z:ByteArray}(h:Al w (.slice a n c) (xs++[z])):Al w (.slice a xs.length c') xs:=by
 obtain⟨a',c2,he,h0|⟨b,o,ha,hc⟩⟩:=h
 ·simp at h0
 ·cases he
  refine⟨_,c',rfl,.inr ⟨b,o,ha,fun j hj=>?_⟩⟩
  rw[hc j (by simp;omega),List.getD_eq_getElem?_getD,List.getD_eq_getElem?_getD,List.getElem?_append_left hj]
def Eb (v:Value):Prop:=∃ a n c,v=.slice a n c/\n<=c
theorem Eb.own {w:World}{base size n:Nat}{e:TypeId}{v:Value}{xs:List Value}(h:w.ownsRow base e size v n xs):Eb v:=by
 rcases h.2 with ⟨rfl,_⟩|⟨g,cap,cur,rfl,_,_,hnc,_⟩
 ·exact⟨_,_,_,rfl,Nat.le_refl _⟩
 ·exact⟨_,_,_,rfl,hnc⟩
theorem Rj (f:Nat)(x:ByteArray)(i:Nat)(v:Value)(p:List ByteArray)(w:World)(h:Al w v p):
 Calls Tryz.prog 220 #[.string x,.int .i64 i,.int .i64 1,v] w (Kr w (Sig.Cc (f+1) x i 1 p)):=by
 rw[ZY]
 obtain⟨R,hR⟩:∃ R,R=Kr w (if p=[] then some x else none):=⟨_,rfl⟩
 rw[<- hR]
 obtain⟨a,c,rfl⟩:=h.len
 have HR:=zh hR;clear h hR
 go_enter Tryz.func220,Tryz.ntmps220
 cases p with
 | nil =>
   go_wp2_with fail
   rw[HR.out]
   exact⟨rfl,Below.refl _ _⟩
 | cons y p =>
   have d0:(((y::p).length:Int)==0)=false:=by rw[beq_eq_false_iff_ne,List.length_cons];omega
   obtain⟨N,hN⟩:∃ N,N=(y::p).length:=⟨_,rfl⟩
   rw[<- hN] at d0 ⊢
   go_wp2_with fail
   rw[HR.out]
   exact⟨⟨x,rfl⟩,Below.refl _ _⟩
theorem ak:∀ (f:Nat) (x:ByteArray) (i n:Nat) (v:Value) (p:List ByteArray) (w:World),1<=n->n<=f+1->i<n->n<=4096->p.length<=4096->Al w v p->Eb v->
 Calls Tryz.prog 220 #[.string x,.int .i64 i,.int .i64 n,v] w (Kr w (Sig.Cc (f+1) x i n p)):=by
 intro f
 induction f with
 | zero =>
   intro x i n v p w h1 hf hi hn hp h hcap
   obtain rfl:n=1:=by omega
   exact Rj 0 x i v p w h
 | succ f ih =>
   intro x i n v p w h1 hf hi hn hp h hcap
   by_cases hn1:n=1
   ·subst hn1
    exact Rj (f+1) x i v p w h
   ·obtain⟨R,hR⟩:∃ R,R=Kr w (Sig.Cc (f+2) x i n p):=⟨_,rfl⟩
    rw[<- hR]
    have HR:=zh hR;have H:=zh h;have IH:=zh ih
    obtain⟨a,c,rfl⟩:=h.len
    obtain⟨_,_,_,he,hcl⟩:=hcap
    cases he
    clear hR h ih
    have d1:((n:Int)==1)=false:=by rw[beq_eq_false_iff_ne];omega
    go_enter Tryz.func220,Tryz.ntmps220
    by_cases h0:p=[]
    ·subst h0
     go_wp2_with fail
     rw[HR.out,aj _ _ _ _ hn1]
     exact⟨⟨_,rfl⟩,Below.refl _ _⟩
    ·obtain⟨q,z,rfl⟩:∃ q z,p=q++[z]:=⟨p.dropLast,p.getLast h0,(List.dropLast_concat_getLast h0).symm⟩
     clear h0
     have hql:(q++[z]).length=q.length+1:=by simp
     have hrr:=XY (f+1) x z i n q hn1
     have hst:=H.out.first (c':=c)
     obtain⟨b,o,ha⟩:=H.out.addrOf (k:=q.length) (by omega)
     subst ha
     have hcell:=H.out.cellAt (k:=q.length) (by omega)
     rw[List.getD_eq_getElem?_getD,List.getElem?_append_right (Nat.le_refl _),Nat.sub_self] at hcell
     simp only[List.getElem?_cons_zero,Option.getD_some] at hcell
     rw[hql] at hcl hp ⊢
     have d0:(((q.length+1:Nat):Int)==0)=false:=by rw[beq_eq_false_iff_ne];omega
     have HST:=zh hst;have HRR:=zh hrr
     clear hst hrr hql
     have hbl:=cB hcell
     go_wp2
     refine Lex.zn (fun k=>k=b) [5] 14 [13] ?_
     simp only[Lex.Bp,zd]
     go_wp2_with fail
     refine(ZW n _ (by omega) (by omega)).mono ?_
     rintro e w1 ⟨rfl,rfl⟩
     have hsp:=Sig.oq (n:=n) (by omega)
     have hs0:=Sig.NK n
     obtain⟨K,hK⟩:∃ K,K=Sig.split n:=⟨_,rfl⟩
     rw[<- hK] at hsp hs0 ⊢
     have HK:=zh hK;clear hK
     go_wp2
     refine Lex.Mid.intro (fun k hk _=>rfl) ?_
     go_wp2
     refine Lex.zk ⟨⟨rfl,by show(World.cell? _ ⟨b,o+q.length,none⟩).isSome=true;rw[show w.drew.cell? ⟨b,o+q.length,none⟩=w.cell? ⟨b,o+q.length,none⟩ from rfl,hcell];rfl⟩,trivial⟩ ?_
     by_cases hik:i<K
     ·have dk:decide ((i:Int)<K)=true:=by simp;omega
      have hr2:Sig.Cc (f+1+1) x i n (q++[z])=(Sig.Cc (f+1) x i K q).map fun r=>Sig.node r z:=by rw[HRR.out,<- HK.out,if_pos hik]
      have HR2:=zh hr2;clear hr2
      go_wp2_with fail
      refine(IH.out x i K _ q w.drew (by omega) (by omega) hik (by omega) (by omega) (show Al w.drew _ _ from HST.out) ⟨_,_,_,rfl,by omega⟩).mono ?_
      intro e w2 hpost
      obtain⟨hval,hb⟩:=hpost
      have hb2:Below w.heap.size w w2:=((Below.refl w.heap.size w).drew).trans hb
      have HB:=zh hb2;clear hb hb2
      cases hg:Sig.Cc (f+1) x i K q with
      | none =>
        rw[hg] at hval
        obtain⟨y,rfl⟩:=hval
        go_wp2_with fail
        refine(Kq y z w2).mono ?_
        rintro e w3 ⟨rfl,hb3⟩
        have HB3:=zh (HB.out.trans (hb3.mono HB.out.size));clear hb3
        go_wp2_with fail
        rw[HR.out,HR2.out,hg]
        exact⟨⟨_,rfl⟩,HB3.out⟩
      | some y =>
        rw[hg] at hval
        have Mq:e=.returned (.tuple #[.string y,.bool true]):=hval
        subst Mq
        go_wp2_with fail
        refine(Kq y z w2).mono ?_
        rintro e w3 ⟨rfl,hb3⟩
        have HB3:=zh (HB.out.trans (hb3.mono HB.out.size));clear hb3
        go_wp2_with fail
        rw[HR.out,HR2.out,hg]
        exact⟨rfl,HB3.out⟩
     ·have dk:decide ((i:Int)<K)=false:=by simp;omega
      have hr2:Sig.Cc (f+1+1) x i n (q++[z])=(Sig.Cc (f+1) x (i-K) (n-K) q).map fun r=>Sig.node z r:=by rw[HRR.out,<- HK.out,if_neg hik]
      have HR2:=zh hr2;clear hr2
      have e1:(i:Int)-K=((i-K:Nat):Int):=by omega
      have e2:(n:Int)-K=((n-K:Nat):Int):=by omega
      go_wp2_with fail
      clear e1 e2
      refine(IH.out x (i-K) (n-K) _ q w.drew (by omega) (by omega) (by omega) (by omega) (by omega) (show Al w.drew _ _ from HST.out) ⟨_,_,_,rfl,by omega⟩).mono ?_
      intro e w2 hpost
      obtain⟨hval,hb⟩:=hpost
      have hb2:Below w.heap.size w w2:=((Below.refl w.heap.size w).drew).trans hb
      have HB:=zh hb2;clear hb hb2
      cases hg:Sig.Cc (f+1) x (i-K) (n-K) q with
      | none =>
        rw[hg] at hval
        obtain⟨y,rfl⟩:=hval
        go_wp2_with fail
        refine(Kq z y w2).mono ?_
        rintro e w3 ⟨rfl,hb3⟩
        have HB3:=zh (HB.out.trans (hb3.mono HB.out.size));clear hb3
        go_wp2_with fail
        rw[HR.out,HR2.out,hg]
        exact⟨⟨_,rfl⟩,HB3.out⟩
      | some y =>
        rw[hg] at hval
        have Mq:e=.returned (.tuple #[.string y,.bool true]):=hval
        subst Mq
        go_wp2_with fail
        refine(Kq z y w2).mono ?_
        rintro e w3 ⟨rfl,hb3⟩
        have HB3:=zh (HB.out.trans (hb3.mono HB.out.size));clear hb3
        go_wp2_with fail
        rw[HR.out,HR2.out,hg]
        exact⟨rfl,HB3.out⟩
theorem zbE:∀ (f:Nat) (x:ByteArray) (i n:Nat) (p:List ByteArray) (y:ByteArray),Sig.Cc f x i n p=some y->p.length<f
 | 0,_,_,_,_,_,h=>by cases h
 | f + 1,x,i,n,p,y,h => by
   by_cases hn:n=1
   ·subst hn
    rw[ZY] at h
    by_cases hp:p=[]
    ·subst hp;simp
    ·rw[if_neg hp] at h;cases h
   ·by_cases hp:p=[]
    ·subst hp;simp
    ·have e:p=p.dropLast++[p.getLast hp]:=(List.dropLast_concat_getLast hp).symm
     rw[e,XY _ _ _ _ _ _ hn] at h
     have key:∀ a b,(∃ r,Sig.Cc f x a b p.dropLast=some r)->p.length<f+1:=by
      rintro a b ⟨r,hr⟩
      have:=zbE f x a b p.dropLast r hr
      rw[List.length_dropLast] at this
      have:0<p.length:=List.length_pos_iff.2 hp
      omega
     split at h
     ·obtain⟨r,hr,_⟩:=Option.map_eq_some_iff.1 h
      exact key _ _ ⟨r,hr⟩
     ·obtain⟨r,hr,_⟩:=Option.map_eq_some_iff.1 h
      exact key _ _ ⟨r,hr⟩
theorem Tt (x:ByteArray)(i n:Int)(v:Value)(p:List ByteArray)(r:ByteArray)(w:World)(h:Al w v p)(hcap:Eb v)(hl:p.length<=140737488355328):
 Calls Tryz.prog 181 #[.string x,.int .i64 i,.int .i64 n,v,.string r] w fun e w' => e=.returned (.bool (Sig.included x i n p r))/\Below w.heap.size w w':=by
 obtain⟨R,hR⟩:∃ R,R=Sig.included x i n p r:=⟨_,rfl⟩
 rw[<- hR]
 obtain⟨a,c,rfl⟩:=h.len
 unfold Sig.included at hR
 have HR:=zh hR;have H:=zh h;have HCAP:=zh hcap
 clear hR h hcap
 go_enter Tryz.func181,Tryz.ntmps181
 go_wp2_with fail
 refine(Fg x w).mono ?_
 rintro e w1 ⟨rfl,rfl⟩
 cases h1:Sig.digest x with
 | false =>
   have hx:R=false:=by rw[HR.out,h1];simp
   have HX:=zh hx;clear hx h1
   go_wp2
   go_ret
   exact⟨by rw[HX.out];rfl,Below.refl _ _⟩
 | true=>
 go_wp2_with fail
 refine(Fg r w1).mono ?_
 rintro e w1 ⟨rfl,rfl⟩
 cases h2:Sig.digest r with
 | false =>
   have hx:R=false:=by rw[HR.out,h2];simp
   have HX:=zh hx;clear hx h1 h2
   go_wp2
   go_ret
   exact⟨by rw[HX.out];rfl,Below.refl _ _⟩
 | true=>
 go_wp2_with fail
 refine(ZX (.slice a p.length c) p w1 H.out hl).mono ?_
 rintro e _ ⟨rfl,q,rfl⟩
 have hbq:Below w1.heap.size w1 (w1.drewN q):=below_drewN (Below.refl _ _) q
 have HB:=zh hbq;have HS:=zh (H.out.below hbq)
 clear hbq
 generalize w1.drewN q=w2 at*
 cases h3:(decide (p.length<=4096)&&p.all Sig.digest) with
 | false =>
   have hx:R=false:=by
    rw[HR.out]
    rcases Bool.and_eq_false_iff.1 h3 with h|h<;>rw[h]<;>simp
   have HX:=zh hx;clear hx h1 h2 h3
   go_wp2
   go_ret
   exact⟨by rw[HX.out];rfl,HB.out⟩
 | true=>
 obtain⟨h4,h5⟩:=Bool.and_eq_true_iff.1 h3
 have hr2:R=(decide (1<=n)&&decide (n<=4096)&&decide (0<=i)&&decide (i<n)&&decide (Sig.given x i.toNat n.toNat p=some r)):=by
  rw[HR.out,h1,h2,h4,h5]
  simp
 have hpl:p.length<=4096:=of_decide_eq_true h4
 have HR2:=zh hr2
 clear hr2 h1 h2 h3 h4 h5
 by_cases c1:n<1
 ·have d1:decide (n<1)=true:=decide_eq_true c1
  go_wp2
  go_ret
  exact⟨by rw[HR2.out,zf];rfl,HB.out⟩
 have d1:decide (n<1)=false:=decide_eq_false c1
 by_cases c2:4096<n
 ·have d2:decide (4096<n)=true:=decide_eq_true c2
  go_wp2
  go_ret
  exact⟨by rw[HR2.out,decide_eq_false (p:=n<=4096) (by omega)];simp,HB.out⟩
 have d2:decide (4096<n)=false:=decide_eq_false c2
 by_cases c3:i<0
 ·have d3:decide (i<0)=true:=decide_eq_true c3
  go_wp2
  go_ret
  exact⟨by rw[HR2.out,decide_eq_false (p:=0<=i) (by omega)];simp,HB.out⟩
 have d3:decide (i<0)=false:=decide_eq_false c3
 by_cases c4:n<=i
 ·have d4:decide (n<=i)=true:=decide_eq_true c4
  go_wp2
  go_ret
  exact⟨by rw[HR2.out,decide_eq_false (p:=i<n) (by omega)];simp,HB.out⟩
 have d4:decide (n<=i)=false:=decide_eq_false c4
 have hr3:R=decide (Sig.given x i.toNat n.toNat p=some r):=by
  rw[HR2.out,decide_eq_true (p:=1<=n) (by omega),decide_eq_true (p:=n<=4096) (by omega),decide_eq_true (p:=0<=i) (by omega),decide_eq_true (p:=i<n) (by omega)]
  simp
 have HR3:=zh hr3
 clear hr3
 obtain⟨I,rfl⟩:∃ I:Nat,i=I:=⟨i.toNat,by omega⟩
 obtain⟨N,rfl⟩:∃ N:Nat,n=N+1:=⟨(n-1).toNat,by omega⟩
 have hgv:=ak N x I (N+1) (.slice a p.length c) p w2 (by omega) (Nat.le_refl _) (by omega) (by omega) hpl HS.out HCAP.out
 have hgn:Sig.given x (I:Int).toNat ((N:Int)+1).toNat p=Sig.Cc (N+1) x I (N+1) p:=by
  unfold Sig.given
  have e1:(I:Int).toNat=I:=Int.toNat_natCast I
  have e2:((N:Int)+1).toNat=N+1:=by omega
  rw[e1,e2]
 rw[show((N+1:Nat):Int)=(N:Int)+1 by omega] at hgv
 have HGV:=zh hgv;have HGN:=zh hgn;clear hgv hgn
 go_wp2_with fail
 refine HGV.out.mono ?_
 intro e w3 hpost
 obtain⟨hval,hb⟩:=hpost
 have HB3:=zh (HB.out.trans (hb.mono HB.out.size));clear hb
 cases hg:Sig.Cc (N+1) x I (N+1) p with
 | none =>
   rw[hg] at hval
   obtain⟨y,rfl⟩:=hval
   go_wp2
   go_ret
   exact⟨by rw[HR3.out,HGN.out,hg];rfl,HB3.out⟩
 | some y =>
   rw[hg] at hval
   have Mq:e=.returned (.tuple #[.string y,.bool true]):=hval
   subst Mq
   have hyr:(y.toList==r.toList)=decide (Sig.given x (I:Int).toNat ((N:Int)+1).toNat p=some r):=by
    rw[bytes_beq,HGN.out,hg]
    simp
   rw[<- HR3.out] at hyr
   go_wp2
   go_ret
   exact⟨rfl,HB3.out⟩
theorem Cw {w:World}{base base' n size:Nat}{e:TypeId}{v:Value}{xs:List Value}(h:w.ownsRow base e size v n xs)(hb:base' <= base):w.ownsRow base' e size v n xs:=by
 obtain⟨hl,hn|⟨g,cap,cur,rfl,hg,rest⟩⟩:=h
 ·exact⟨hl,.inl hn⟩
 ·exact⟨hl,.inr ⟨g,cap,cur,rfl,Nat.le_trans hb hg,rest⟩⟩
theorem Ba {w:World}{base m n size c:Nat}{a:Option Addr}{e:TypeId}{xs:List Value}(h:w.ownsRow base e size (.slice a m c) n xs):m=n:=by
 obtain⟨_,⟨h0,hn⟩|⟨g,cap,cur,h0,_⟩⟩:=h
 ·cases h0;exact hn.symm
 ·cases h0;rfl
theorem dR {w:World}{base m n size c:Nat}{p:Addr}{e:TypeId}{xs:List Value}(h:w.ownsRow base e size (.slice (some p) m c) n xs):n<=c/\c<=maxLen:=by
 obtain⟨_,⟨h0,hn⟩|⟨g,cap,cur,h0,_,_,h1,h2,_⟩⟩:=h
 ·cases h0
 ·cases h0;exact⟨h1,h2⟩
def Bc (w:World)(v:Value)(size n:Nat)(xs:List Value):Prop:=
 xs.length=n*size/\∃ a c,v=.slice a n c/\(n=0\/∃ b o,a=some ⟨b,o,none⟩/\b<w.heap.size/\∀ (j:Nat) (u:Value),xs[j]? = some u->w.cell? ⟨b,o+j,none⟩=some u)
theorem Bc.len {w:World}{v:Value}{size n:Nat}{xs:List Value}(h:Bc w v size n xs):∃ a c,v=.slice a n c:=by
 obtain⟨_,a,c,h,_⟩:=h
 exact⟨a,c,h⟩
theorem Bc.own {w:World}{base size n:Nat}{e:TypeId}{v:Value}{xs:List Value}(h:w.ownsRow base e size v n xs):Bc w v size n xs:=by
 obtain⟨hl,⟨rfl,rfl⟩|⟨g,cap,cur,rfl,_,hg,hnc,_,hsz,ht⟩⟩:=h
 ·exact⟨hl,none,0,rfl,.inl rfl⟩
 ·refine⟨hl,_,cap,rfl,.inr ⟨g,0,rfl,(Array.getElem?_eq_some_iff.1 hg).1,fun j u hj=>?_⟩⟩
  rw[<- ht,List.getElem?_take] at hj
  split at hj
  ·unfold World.cell?
   rw[hg]
   simpa using hj
  ·cases hj
theorem Bc.keep {w w' : World}{v:Value}{size n:Nat}{xs:List Value}(h:Bc w v size n xs)(hs:w.heap.size<=w'.heap.size)(hk:∀ k,v.ownBlock=some k->k<w.heap.size->w'.heap[k]? = w.heap[k]?):Bc w' v size n xs:=by
 obtain⟨hl,a,c,rfl,h0|⟨b,o,rfl,hb,hc⟩⟩:=h
 ·exact⟨hl,a,c,rfl,.inl h0⟩
 ·refine⟨hl,_,c,rfl,.inr ⟨b,o,rfl,Nat.lt_of_lt_of_le hb hs,fun j u hj=>?_⟩⟩
  rw[Kl (hk b rfl hb)]
  exact hc j u hj
theorem Bc.below {w w' : World}{v:Value}{size n:Nat}{xs:List Value}(h:Bc w v size n xs)(hb:Below w.heap.size w w'):Bc w' v size n xs:=
 h.keep hb.size fun k _ hl=>hb.block k hl
theorem Bc.nil {w:World}{size:Nat}(c:Nat)(a:Option Addr):Bc w (.slice a 0 c) size 0 []:=⟨by simp,a,c,rfl,.inl rfl⟩
theorem Bc.zero {w:World}{size m:Nat}(h:m=0)(c:Nat)(a:Option Addr):Bc w (.slice a m c) size m []:=by subst h;exact Bc.nil c a
theorem Bc.first {w:World}{a:Option Addr}{c c' size n m:Nat}{xs:List Value}(h:Bc w (.slice a n c) size n xs)(hm:m<=n):Bc w (.slice a m c') size m (xs.take (m*size)):=by
 obtain⟨hl,a',c2,he,h⟩:=h
 cases he
 refine⟨by rw[List.length_take,hl];exact Nat.min_eq_left (Nat.mul_le_mul_right _ hm),a,c',rfl,?_⟩
 rcases h with h0|⟨b,o,rfl,hb,hc⟩
 ·exact .inl (by omega)
 ·refine .inr ⟨b,o,rfl,hb,fun j u hj=>hc j u ?_⟩
  rw[List.getElem?_take] at hj
  split at hj
  ·exact hj
  ·cases hj
theorem Bc.rest {w:World}{b o c c' size n m:Nat}{xs:List Value}(h:Bc w (.slice (some ⟨b,o,none⟩) n c) size n xs)(hm:m<=n):Bc w (.slice (some ⟨b,o+m*size,none⟩) (n-m) c') size (n-m) (xs.drop (m*size)):=by
 obtain⟨hl,a',c2,he,h⟩:=h
 cases he
 refine⟨by rw[List.length_drop,hl,Nat.sub_mul],_,c',rfl,?_⟩
 rcases h with h0|⟨b',o',e,hb,hc⟩
 ·exact .inl (by omega)
 ·cases e
  refine .inr ⟨b,_,rfl,hb,fun j u hj=>?_⟩
  rw[List.getElem?_drop] at hj
  rw[Nat.add_assoc]
  exact hc _ _ hj
theorem own_below {w w' : World}{base size n:Nat}{e:TypeId}{v:Value}{xs:List Value}(h:w.ownsRow base e size v n xs)(hb:Below w.heap.size w w'):w'.ownsRow base e size v n xs:=
 Ae h fun k hk=>hb.block k (by obtain⟨cur,hc⟩:=Db h hk;exact hc.lt)
theorem Ho {w:World}{b b' size size' n m:Nat}{e e' : TypeId}{v u:Value}{xs ys:List Value}(h:w.ownsRow b e size v n xs)(h' : w.ownsRow b' e' size' u m ys)(he:e≠e'):∀ k,v.ownBlock=some k->u.ownBlock≠some k:=by
 intro k hk hu
 obtain⟨c,hc⟩:=Db h hk
 obtain⟨c',hc'⟩:=Db h' hu
 exact hc.ne hc' he rfl
structure Fu (P:Program) (t e:TypeId) (size bytes:Nat) where
 i:TypeInfo
 z:Value
 under:P.underlying t=some (.slice e)
 info:P.info? e=some i
 zero:i.zero=some z
 Rk:i.size=size
 bytes_:i.bytes=bytes
 qJ:z.cells.size=size
 pos:0<size
theorem Ec {P:Program}{t e:TypeId}{z:Value}{size bytes:Nat}(h:P.underlying t=some (.slice e))(hi:(P.info? e).map (fun i=>(i.zero,i.size,i.bytes))=some (some z,size,bytes))(hz:z.cells.size=size)(hp:0<size):Nonempty (Fu P t e size bytes):=by
 obtain⟨i,h1,h2,h3,h4⟩:=info_parts hi
 exact⟨⟨i,z,h,h1,h2,h3,h4,hz,hp⟩⟩
section
variable {P:Program} {w:World} {ops:Array Oper} {rest:List Oper} {o:Oper} {a:Act} {Q:Exit->Act->World->Prop}
theorem Ah {t e:TypeId}{size bytes:Nat}(T:Nonempty (Fu P t e size bytes))(hgd:o.guard=none)(s x:Operand)(ho:o.op=.call { callee:=.builtin .append,args:=#[s,x],argTypes:=#[t,t] })
 (base n:Nat) (v:Value) (xs:List Value) (hs:a.eval s=v) (hown:w.ownsRow base e size v n xs) (y:Value) (m:Nat) (ys:List Value) (hx:a.eval x=y) (hy:Bc w y size m ys) (h1:∀ u∈ys,u.oneCell' = true) (hn:n+m<=4000000) (hbs:bytes<=1000) (hb:base<=w.heap.size)
 (h:∀ v' w',w'.ownsRow base e size v' (n+m) (xs++ys)->w.grownBy w' v.ownBlock->(v'.ownBlock=v.ownBlock\/v'.ownBlock=some w.heap.size)->wpList P ops Q rest (a.put o.dst v') w'):wpList P ops Q (o::rest) a w:=by
 obtain⟨T⟩:=T
 obtain⟨hl,ya,yc,rfl,hc⟩:=hy
 cases ya with
 | none =>
   have h0:m=0:=by
    rcases hc with h0|⟨b,o,e,_⟩
    ·exact h0
    ·cases e
   subst h0
   have hys:ys=[]:=List.eq_nil_of_length_eq_zero (by rw[hl];exact Nat.zero_mul _)
   subst hys
   refine wpList_plain hgd fun K hK=>?_
   have hrun:=PG (P:=P) (w:=w) base t o.type e T.i size T.under T.info v n yc xs hown
   unfold Oper.wp
   have hx' : a.eval x=.slice none 0 yc:=hx
   simp[execOp,ho,resolve,invoke,builtin,hs,hx',hrun,Result.andThen]
   exact hK _ _ (h v w (by simpa using hown) ⟨rfl,rfl,rfl,Nat.le_refl _,fun _ _ _=>rfl⟩ (.inl rfl))
 | some p =>
   refine wpList_append_own_at w hgd s x t ho base e T.i T.z size bytes T.under T.info T.zero T.Rk T.bytes_ T.qJ T.pos v n xs hs hown p m yc ys hx hl (fun j u hj=>?_) h1 (by unfold maxLen;omega) (by have:=Nat.mul_le_mul hn hbs;omega) hb (fun v' w' h1 h2 _ h4=>h v' w' h1 h2 h4)
   rcases hc with h0|⟨b,o',e,hb',hcell⟩
   ·subst h0
    rw[Nat.zero_mul] at hl
    rw[List.eq_nil_of_length_eq_zero hl] at hj
    simp at hj
   ·cases e
    have hadd:(⟨b,o',none⟩:Addr).add j=⟨b,o' + j,none⟩:=by unfold Addr.add;split<;>simp_all
    rw[hadd]
    exact hcell j u hj
end
theorem Mr (w:World)(e:TypeId)(size base:Nat)(hb:base<=w.heap.size):(w.alloc (.cells #[] e)).ownsRow base e size (.slice (some ⟨w.heap.size,0,none⟩) 0 0) 0 []:=by
 refine⟨by simp,.inr ⟨w.heap.size,0,#[],rfl,hb,At.new w e #[],Nat.le_refl _,by unfold maxLen;omega,by simp,by simp⟩⟩
theorem Cx (w:World)(e:TypeId)(cs:Array Value)(size n c:Nat)(hs:cs.size=n*size):Bc (w.alloc (.cells cs e)) (.slice (some ⟨w.heap.size,0,none⟩) n c) size n cs.toList:=by
 refine⟨by simpa using hs,_,_,rfl,.inr ⟨w.heap.size,0,rfl,by simp,fun j u hj=>?_⟩⟩
 have h:=At.new w e cs
 rw[Nat.zero_add]
 unfold World.cell?
 have h' : (w.alloc (.cells cs e)).heap[w.heap.size]? = some (.cells cs e (0,0)):=h
 rw[h']
 simpa using hj
end
section
open Go Go.RowKit Go.Maps
theorem Gy:∀ (l:List ByteArray) (x:ByteArray),Cod.cat (l++[x])=Cod.cat l++x
 | [],x=>by show x++⟨#[]⟩=⟨#[]⟩++x;rw[Qi];apply Sha.BG;simp
 | y :: l,x => by
   show y++Cod.cat (l++[x])=y++Cod.cat l++x
   rw[Gy l x,ByteArray.append_assoc]
theorem Rl (ns:List Nat):(Cod.cat (ns.map Cod.uns)).size<=10*ns.length:=by
 induction ns with
 | nil=>exact Nat.le_refl _
 | cons n ns ih =>
   show(Cod.uns n++Cod.cat (ns.map Cod.uns)).size<=_
   rw[ByteArray.size_append,List.length_cons]
   have:=Cod.Ce n
   omega
theorem Ms (b:Nat)(ns:List Nat)(w:World)(h:At w b 3 (ns.map fun n:Nat=>Value.int .i64 (n:Int)).toArray)(hn:∀ n∈ns,n<9223372036854775808)(hl:ns.length<=1000):
 Calls Tryz.prog 127 #[.slice (some ⟨b,0,none⟩) ns.length ns.length] w fun e w' => e=.returned (.string (Cod.cat (ns.map Cod.uns)))/\Below w.heap.size w w':=by
 have H:=zh h;have HN:=zh hn;clear h hn
 go_enter Tryz.func127,Tryz.ntmps127
 go_wp2
 go_loopw [3,10] (fun s i wr=>∃ k:Nat,k<=ns.length/\i=.int .i64 k/\s=.string (Cod.cat ((ns.take k).map Cod.uns))/\Below w.heap.size w wr) (fun _ i _=>ns.length-(intOf i).toNat)
 case atStart=>exact⟨0,by omega,rfl,rfl,Below.refl _ _⟩
 case round=>
  obtain⟨k,hk,rfl,rfl,hb⟩:=hrel
  have hsz:=Rl (ns.take k)
  rw[List.length_take] at hsz
  have HB:=zh hb;clear hb
  obtain⟨C,hC⟩:∃ C,C=Cod.cat ((ns.take k).map Cod.uns):=⟨_,rfl⟩
  rw[<- hC] at hsz ⊢
  have HC:=zh hC;clear hC
  by_cases hlt:k<ns.length
  ·have dk:decide ((k:Int)<ns.length)=true:=by simp;omega
   have hc:=(H.out.below HB.out H.out.lt).cell k
   simp only[List.getElem?_toArray,List.getElem?_map,List.getElem?_eq_getElem hlt,Option.map_some] at hc
   have hnk:=HN.out ns[k] (List.getElem_mem hlt)
   have hstep:C++Cod.uns ns[k]=Cod.cat ((ns.take (k+1)).map Cod.uns):=by
    rw[List.take_succ_eq_append_getElem hlt,List.map_append,List.map_singleton,Gy,<- HC.out]
   obtain⟨n,hn⟩:∃ n,n=ns[k]:=⟨_,rfl⟩
   rw[<- hn] at hc hnk hstep
   have HST:=zh hstep;clear hstep hn
   go_wp2_with fail
   refine(Ux n _ hnk).mono ?_
   rintro e w2 ⟨rfl,hb2⟩
   have hus:=Cod.Ce n
   have HB2:=zh (HB.out.trans (hb2.mono HB.out.size));clear hb2 hc
   go_wp2
   exact⟨⟨k+1,by omega,by go_num,by rw[<- HST.out],HB2.out⟩,by simp[intOf];omega⟩
  ·have dk:decide ((k:Int)<ns.length)=false:=by simp;omega
   have hkl:k=ns.length:=by omega
   have hCe:C=Cod.cat (ns.map Cod.uns):=by rw[HC.out,hkl,List.take_length]
   have HCE:=zh hCe;clear hCe hkl
   go_wp2
   go_ret
   exact⟨by rw[<- HCE.out];rfl,HB.out⟩
theorem gH (x:ByteArray)(key c from_ n to_:Nat)(w:World)(hto:to_=from_+n)(hx:x.size<=1000)(hk:key<9223372036854775808)(hc:c<9223372036854775808)(hf:from_+n<=1000):
 Calls Tryz.prog 180 #[.string x,.int .i64 key,.int .i64 c,.int .i64 from_,.int .i64 to_] w fun e w' => e=.returned (.string (Sig.chain key c from_ n x))/\Below w.heap.size w w':=by
 obtain⟨R,hR⟩:∃ R,R=Sig.chain key c from_ n x:=⟨_,rfl⟩
 rw[<- hR]
 have HR:=zh hR;clear hR
 have e0:(to_:Int)-(from_:Int)=(n:Int):=by omega
 clear hto
 go_enter Tryz.func180,Tryz.ntmps180
 go_wp2
 go_loopw [0,15] (fun s i wr=>∃ (k:Nat) (y:ByteArray),k<=n/\i=.int .i64 k/\s=.string y/\y.size<=1000/\R=Sig.chain key c (from_+k) (n-k) y/\Below w.heap.size w wr) (fun _ i _=>n-(intOf i).toNat)
 case atStart=>exact⟨0,x,by omega,rfl,rfl,hx,HR.out,Below.refl _ _⟩
 case round=>
  obtain⟨k,y,hk2,rfl,rfl,hy,hch,hb⟩:=hrel
  have HB:=zh hb;have HCH:=zh hch;clear hb hch HR
  by_cases hlt:k<n
  ·have dk:decide ((k:Int)<n)=true:=by simp;omega
   obtain⟨P,hP⟩:∃ P,P=from_+k:=⟨_,rfl⟩
   have e1:(from_:Int)+k=(P:Int):=by omega
   have hPl:P<=1000:=by omega
   have HP:=zh hP;clear hP
   go_wp2_with fail
   have hb1:Below wr.heap.size wr (wr.alloc (.cells #[.int .i64 key,.int .i64 c,.int .i64 (P:Int)] 3)):=zb
   refine(Ms wr.heap.size [key,c,P] _ (At.new wr _ _) (fun n hn=>by
    simp at hn
    rcases hn with rfl|rfl|rfl<;>omega) (by simp)).mono ?_
   rintro e w2 ⟨rfl,hb2⟩
   have HB2:=zh (HB.out.trans ((hb1.trans (hb2.mono hb1.size)).mono HB.out.size))
   have hcs:=Rl [key,c,P]
   have hcc:Sig.b1 3++Cod.cat ([key,c,P].map Cod.uns)++y=Sig.b1 3++Cod.uns key++Cod.uns c++Cod.uns P++y:=by
    have:Cod.cat ([key,c,P].map Cod.uns)=Cod.uns key++(Cod.uns c++(Cod.uns P++⟨#[]⟩)):=rfl
    rw[this,Qi]
    simp only[ByteArray.append_assoc]
   obtain⟨C,hC⟩:∃ C,C=Cod.cat ([key,c,P].map Cod.uns):=⟨_,rfl⟩
   rw[<- hC] at hcs hcc ⊢
   have hcs2:C.size<=30:=hcs
   have HCC:=zh hcc;clear hcc hcs hC hb1 hb2 e1
   go_wp2_with fail
   refine(V7 _ w2 (by simp only[ByteArray.size_append];have:(⟨#[3]⟩:ByteArray).size=1:=rfl;omega)).mono ?_
   rintro e w3 ⟨rfl,hb3⟩
   have HB3:=zh (HB2.out.trans (hb3.mono HB2.out.size));clear hb3
   have hst:Sha.sha ((⟨#[3]⟩:ByteArray)++C++y)=Sig.Mi key c (from_+k) y:=by
    unfold Sig.Mi
    rw[<- HP.out,<- HCC.out]
    rfl
   have hnx:R=Sig.chain key c (from_+(k+1)) (n-(k+1)) (Sha.sha ((⟨#[3]⟩:ByteArray)++C++y)):=by
    rw[HCH.out,hst]
    obtain⟨m,hm⟩:∃ m,n-k=m+1:=⟨n-k-1,by omega⟩
    rw[hm,show n-(k+1)=m by omega]
    rfl
   have hsz:=Sha.Dp ((⟨#[3]⟩:ByteArray)++C++y)
   obtain⟨D,hD⟩:∃ D,D=Sha.sha ((⟨#[3]⟩:ByteArray)++C++y):=⟨_,rfl⟩
   rw[<- hD] at hnx hsz ⊢
   have HNX:=zh hnx;clear hnx hD hst
   go_wp2
   exact⟨⟨k+1,D,by omega,by go_num,rfl,by omega,HNX.out,HB3.out⟩,by simp[intOf];omega⟩
  ·have dk:decide ((k:Int)<n)=false:=by simp;omega
   have hy2:y=R:=by rw[HCH.out,show n-k=0 by omega];rfl
   have HY:=zh hy2;clear hy2
   go_wp2
   go_ret
   exact⟨by rw[<- HY.out];rfl,HB.out⟩
theorem Ls (s:ByteArray)(w:World):Calls Tryz.prog 126 #[.string s] w fun e w' => e=.returned (.bool (!Sig.digest s))/\w' = w:=by
 have h:(!Sig.digest s)=((s.size:Int) != 32):=by
  have:Sig.digest s=((s.size:Int)==32):=by
   unfold Sig.digest
   rw[Bool.eq_iff_iff,decide_eq_true_eq,beq_iff_eq]
   omega
  rw[this];rfl
 obtain⟨R,hR⟩:∃ R,R = !Sig.digest s:=⟨_,rfl⟩
 rw[<- hR] at h ⊢
 have H:=zh h;clear h hR
 go_enter Tryz.func126,Tryz.ntmps126
 go_wp2
 go_ret
 exact⟨by rw[H.out];rfl,rfl⟩
def VR:ByteArray:=⟨#[48,49,50,51,52,53,54,55,56,57,97,98,99,100,101,102]⟩
def Ih (d:Nat):UInt8:=VR.get! d
def ay (l:List UInt8):List UInt8:=l.flatMap fun b=>[Ih (b.toNat/16),Ih (b.toNat%16)]
theorem XZ (d:Nat)(h:d<VR.size):VR[d]'h=Ih d:=(getElem!_pos VR.data d h).symm
theorem gJ:Nonempty (Fu Tryz.prog 66 5 1 1):=Ec (z:=.int .u8 0) Tryz.underlying66 GX rfl (by omega)
theorem aC (s:ByteArray)(w:World)(hs:s.size<=1000):
 Calls Tryz.prog 241 #[.string s] w fun e w' => e=.returned (.string ⟨(ay s.data.toList).toArray⟩)/\Below w.heap.size w w':=by
 go_enter Tryz.func241,Tryz.ntmps241
 obtain⟨i0,hi,hz0,hz1,hz2⟩:=info_parts GX
 go_wp2_with (at_make;go_must (refine wpList_make_own w rfl _ _ 66 rfl w.heap.size 5 i0 (.int .u8 0) 1 Tryz.underlying66 hi hz0 hz1 .i64 .i64 (2*(s.size:Int)) (2*s.size) rfl rfl (by omega) (by rw[hz2];omega) (by unfold maxLen;omega) (Nat.le_refl _) ?_);intro w1 ho1 hg1;have HO1:=zh ho1;have HB1:=zh ((Below.refl w.heap.size w).grown hg1 (Nat.le_refl _) (fun k hk=>by cases hk));clear ho1 hg1)
 go_loopw [3,11] (fun v i wr=>∃ k:Nat,k<=s.size/\i=.int .i64 k/\wr.ownsRow w.heap.size 5 1 v (2*k) ((nums (ay (s.data.toList.take k))).map (Value.int .u8))/\Below w.heap.size w wr) (fun _ i _=>s.size-(intOf i).toNat)
 case atStart=>exact⟨0,by omega,rfl,HO1.out,HB1.out⟩
 case round=>
  obtain⟨k,hk,rfl,ho,hb⟩:=hrel
  obtain⟨ga,gm,gc,rfl⟩:=Ac ho
  obtain rfl:=Ba ho
  have HO:=zh ho;have HB:=zh hb;clear ho hb HO1 HB1
  by_cases hlt:k<s.size
  ·have dk:decide ((k:Int)<s.size)=true:=by simp;omega
   have hbl:s[k].toNat<256:=s[k].toNat_lt
   have hq1:s[k].toNat/16<16:=by omega
   have hq2:s[k].toNat%16<16:=by omega
   have hst:nums (ay (s.data.toList.take (k+1)))=nums (ay (s.data.toList.take k))++[((Ih (s[k].toNat/16)).toNat:Int),((Ih (s[k].toNat%16)).toNat:Int)]:=by
    have hkl:k<s.data.toList.length:=by simpa using hlt
    rw[List.take_succ_eq_append_getElem hkl]
    unfold ay nums
    rw[List.flatMap_append,List.map_append]
    have:s.data.toList[k]=s[k]:=by simp;rfl
    rw[this]
    rfl
   have HST:=zh hst;clear hst
   go_wp2
   refine Lex.zl ?_
   go_wp2_with (at_builtin;go_must (refine Ah gJ rfl _ _ rfl w.heap.size (2*k) (.slice ga (2*k) gc) _ rfl (own_below (HO.out.alloc _) (Below.refl _ _).drew) (.slice (some ⟨wr.heap.size,0,none⟩) 2 2) 2 [.int .u8 ((Ih (s[k].toNat/16)).toNat:Int),.int .u8 ((Ih (s[k].toNat%16)).toNat:Int)] rfl ?r1 ?r2 ?r3 ?r4 ?r5 ?_))
   case r1=>
    have h1:(VR[s[k].toNat/16]'hq1)=Ih (s[k].toNat/16):=XZ _ _
    have h2:(VR[s[k].toNat%16]'hq2)=Ih (s[k].toNat%16):=XZ _ _
    rw[<- h1,<- h2]
    exact(Cx wr 5 #[_,_] 1 2 2 rfl).below ((Below.refl _ _).drew)
   case r2=>intro u hu;simp at hu;rcases hu with rfl|rfl<;>rfl
   case r3=>omega
   case r4=>omega
   case r5=>have:=HB.out.size;simp;omega
   intro v2 w2 ho2 hg2 _
   obtain⟨na,nm,nc,rfl⟩:=Ac ho2
   have hb2:Below w.heap.size w w2:=Bh ((HB.out.alloc HB.out.size _).drew) (by have:=HB.out.size;simp;omega) HO.out hg2
   have HO2:=zh ho2;have HB2:=zh hb2
   clear ho2 hg2 hb2
   go_wp2
   refine Lex.ze ?_
   go_wp2_with fail
   refine⟨⟨k+1,by omega,by go_num,?_,HB2.out⟩,by simp[intOf];omega⟩
   rw[HST.out,List.map_append,show 2*(k+1)=2*k+2 by omega]
   exact HO2.out
  ·have dk:decide ((k:Int)<s.size)=false:=by simp;omega
   have hkl:k=s.size:=by omega
   have hfin:s.data.toList.take k=s.data.toList:=by rw[hkl];exact List.take_of_length_le (by simp)
   have HF:=zh hfin
   clear hfin hkl
   go_wp2_with fail
   rw[Ck wr 66 5 9 rfl rfl rfl _ HO.out,Ll,HF.out]
   go_wp2
   go_ret
   exact⟨rfl,HB.out⟩
theorem gK (h:ByteArray):ay h.data.toList=(Sig.IC h).map Ih:=by
 unfold ay Sig.IC
 rw[List.map_flatMap]
 rfl
theorem oC:∀ d:Fin 16,Lib.indexByte VR.data.toList ((Ih d.val).toNat:Int).toNat.toUInt8=(d.val:Int)/\(Ih d.val).toNat<128:=by decide +kernel
theorem aD (l:List Nat)(d:Nat):Sig.total (l++[d])=Sig.total l+(15-d):=by
 unfold Sig.total
 simp
theorem J8:Nonempty (Fu Tryz.prog 178 3 1 8):=Ec (z:=.int .i64 0) Tryz.underlying178 (by kernel_rfl) rfl (by omega)
def Ii (l:List Nat):List Value:=l.map fun n:Nat=>Value.int .i64 (n:Int)
theorem Mt (a b:List Nat):Ii (a++b)=Ii a++Ii b:=List.map_append
theorem qK (n:Nat)(h:n<1024):bits BinOp.and IntKind.i64 (n:Int) 15=((n%16:Nat):Int):=by
 have h2:∀ k:Fin 1024,bits BinOp.and IntKind.i64 (k.val:Int) 15=((k.val%16:Nat):Int):=by decide +kernel
 exact h2 ⟨n,h⟩
theorem Ya (m:ByteArray)(w:World)(hs:m.size<=9223372036854775000):
 Calls Tryz.prog 216 #[.string m] w fun e w' => ∃ v,e=.returned v/\w'.ownsRow w.heap.size 3 1 v 67 (Ii (Sig.digits m))/\Below w.heap.size w w':=by
 obtain⟨R,hR⟩:∃ R,R=Ii (Sig.digits m):=⟨_,rfl⟩
 rw[<- hR]
 have HR:=zh hR;clear hR
 go_enter Tryz.func216,Tryz.ntmps216
 obtain⟨T⟩:=J8
 go_wp2_with (at_make;go_must (refine wpList_make_own w rfl _ _ 178 rfl w.heap.size 3 T.i T.z 1 Tryz.underlying178 T.info T.zero T.Rk .i64 .i64 67 67 rfl rfl rfl (by rw[T.bytes_];omega) (by unfold maxLen;omega) (Nat.le_refl _) ?_);intro w1 ho1 hg1;have HO1:=zh ho1;have HB1:=zh ((Below.refl w.heap.size w).grown hg1 (Nat.le_refl _) (fun k hk=>by cases hk));clear ho1 hg1)
 refine(V7 m w1 hs).mono ?_
 rintro e w2 ⟨rfl,hb2⟩
 have hds:=Sha.Dp m
 obtain⟨h,hh⟩:∃ h,h=Sha.sha m:=⟨_,rfl⟩
 rw[<- hh] at hds ⊢
 have hR2:R=Ii (Sig.IC h++[Sig.total (Sig.IC h)/256,Sig.total (Sig.IC h)/16%16,Sig.total (Sig.IC h)%16]):=by rw[HR.out,hh];rfl
 have HR2:=zh hR2;have HO2:=zh (own_below HO1.out hb2);have HB2:=zh (HB1.out.trans (hb2.mono HB1.out.size))
 clear hR2 hb2 hh HO1 HB1
 go_wp2_with fail
 refine(aC h w2 (by omega)).mono ?_
 rintro e w3 ⟨rfl,hb3⟩
 have HO3:=zh (own_below HO2.out hb3);have HB3:=zh (HB2.out.trans (hb3.mono HB2.out.size))
 have hnl:(Sig.IC h).length=64:=by rw[Sig.QL,hds]
 have kS:=Sig.dA h
 have htot:Sig.total (Sig.IC h)<1024:=by have:=Sig.Mj (Sig.IC h);omega
 rw[gK]
 obtain⟨N,hN⟩:∃ N,N=Sig.IC h:=⟨_,rfl⟩
 rw[<- hN] at hnl kS htot HR2 ⊢
 obtain⟨H,hH⟩:∃ H:ByteArray,H=⟨(N.map Ih).toArray⟩:=⟨_,rfl⟩
 rw[<- hH]
 have hHs:H.size=64:=by rw[hH];show(N.map Ih).toArray.size=64;simp[hnl]
 have hHg:∀ (k:Nat) (hk:k<H.size) (hk' : k<N.length),H[k]=Ih N[k]:=by
  intro k hk hk'
  subst hH
  show(N.map Ih).toArray[k]=_
  simp
 have HHG:=zh hHg;have HN:=zh kS
 clear hN hH hHg kS hb3 HO2 HB2
 go_wp2_with fail
 have hi0:=World.iter_heap w3 H 0
 have hbi:Below w3.heap.size w3 (w3.iter H 0):=zb
 have hoi:=own_below HO3.out hbi
 have hb0:Below w.heap.size w (w3.iter H 0):=HB3.out.trans (hbi.mono HB3.out.size)
 have hge:=HB3.out.size
 obtain⟨ib,hib⟩:∃ ib,ib=w3.heap.size:=⟨_,rfl⟩
 rw[<- hib] at hi0 hge ⊢
 generalize w3.iter H 0=w4 at*
 have HI0:=zh hi0;have HOI:=zh hoi;have HB0:=zh hb0
 clear hi0 hoi hb0 hbi HO3 HB3 hib
 go_loopg [3,4] 64 (fun gf v s wx=>∃ pos:Nat,pos<=64/\64<=pos+gf/\wx.heap[ib]? = some (.stringIter H pos)/\wx.ownsRow w.heap.size 3 1 v pos (Ii (N.take pos))/\s=.int .i64 ((Sig.total (N.take pos):Nat):Int)/\Below w.heap.size w wx)
 case atStart=>exact⟨0,by omega,by omega,HI0.out,HOI.out,rfl,HB0.out⟩
 case round=>
  obtain⟨p0,hp,hfu,hit,ho,rfl,hbw⟩:=hrel
  obtain⟨ga,pos,gc,rfl⟩:=Ac ho
  obtain rfl:=Ba ho
  have HO:=zh ho;have HBW:=zh hbw;have HIT:=zh hit
  clear HI0 HOI HB0
  by_cases hps:pos<H.size
  ·obtain⟨g',rfl⟩:∃ g',gk=g' + 1:=⟨gk-1,by omega⟩
   have hpn:pos<N.length:=by omega
   have hgd:=HHG.out pos hps hpn
   have qL:=HN.out N[pos] (List.getElem_mem hpn)
   obtain⟨hix,qM⟩:=oC ⟨N[pos],qL⟩
   have hasc:(H[pos]'hps).toNat<128:=by rw[hgd];exact qM
   have hnx:∀ ty,(Instr.next (.pointer (some ⟨ib,0,none⟩)) true ty).run Tryz.prog wr=_:=fun ty=>Lib.run_next_ascii_at wr ib H pos ty hit hps hasc
   have hit2:=Lib.iterAt_heap wr ib H pos (pos+1) hit
   have hbw2:=Lib.below_iterAt hbw (k:=ib) hge H (pos+1)
   have hown2:(wr.iterAt ib H (pos+1)).ownsRow w.heap.size 3 1 (.slice ga pos gc) pos (Ii (N.take pos)):=Ae ho (fun k hk=>Lib.iterAt_other wr ib k H (pos+1) (fun e=>by
    subst e
    obtain⟨cur,hc⟩:=Db ho hk
    have:wr.heap[k]? = some (.cells cur 3 (0,0)):=hc
    rw[hit] at this
    cases this))
   have hrd:((H[pos]'hps).toNat:Int)=((Ih N[pos]).toNat:Int):=by rw[hgd]
   have htk:N.take (pos+1)=N.take pos++[N[pos]]:=List.take_succ_eq_append_getElem hpn
   have hts:Sig.total (N.take (pos+1))=Sig.total (N.take pos)+(15-N[pos]):=by rw[htk,aD]
   have hvs:Ii (N.take (pos+1))=Ii (N.take pos)++[.int .i64 ((N[pos]:Nat):Int)]:=by rw[htk,Mt];rfl
   have htl:=Sig.Mj (N.take pos)
   rw[List.length_take] at htl
   rw[hrd] at hnx
   have hh0:0<=((Ih N[pos]).toNat:Int):=by omega
   have hh1:((Ih N[pos]).toNat:Int)<128:=by omega
   obtain⟨rc,hrc⟩:∃ rc:Int,rc=((Ih N[pos]).toNat:Int):=⟨_,rfl⟩
   have hix' : Lib.indexByte VR.data.toList rc.toNat.toUInt8=(N[pos]:Int):=by rw[hrc];exact hix
   rw[<- hrc] at hnx hh0 hh1
   obtain⟨d,hd⟩:∃ d,d=N[pos]:=⟨_,rfl⟩
   rw[<- hd] at hts hvs hix' qL
   obtain⟨tot,htt⟩:∃ t,t=Sig.total (N.take pos):=⟨_,rfl⟩
   rw[<- htt] at hts htl ⊢
   have HTS:=zh hts;have HVS:=zh hvs;have HIX:=zh hix';have oD:=zh hit2;have gL:=zh hbw2;have rT:=zh hown2
   have htb:tot<=1000:=by omega
   clear hgd hix qM hasc hrd htk hts hvs hrc hd hix' hit2 hbw2 hown2 htt htl ho hbw hit HO HBW HIT
   generalize wr.iterAt ib H (pos+1)=W at*
   go_wp2_with fail
   refine(Tryz.strings_IndexRune_ascii VR rc W hh0 hh1).mono ?_
   rintro e w5 ⟨rfl,rfl⟩
   rw[HIX.out]
   have dd:decide ((d:Int)<0)=false:=by simp
   go_wp2_with (at_builtin;go_must (refine Ah J8 rfl _ _ rfl w.heap.size pos (.slice ga pos gc) _ rfl (rT.out.alloc _) (.slice (some ⟨w5.heap.size,0,none⟩) 1 1) 1 [.int .i64 (d:Int)] rfl (Cx w5 3 #[.int .i64 (d:Int)] 1 1 1 rfl) (by intro u hu;simp at hu;subst hu;rfl) (by omega) (by omega) (by have:=gL.out.size;simp;omega) ?_);intro v6 w6 ho6 hg6 _;obtain⟨na,nm,nc,rfl⟩:=Ac ho6;have hb6:=Bh (gL.out.alloc gL.out.size (.cells #[.int .i64 (d:Int)] 3)) (by have:=gL.out.size;simp;omega) rT.out hg6;have vF:w6.heap[ib]? = some (.stringIter H (pos+1)):=(hg6.block ib (by have:=(Array.getElem?_eq_some_iff.1 oD.out).1;simp;omega) (fun e=>by
    obtain⟨cur,hc⟩:=Db rT.out e.symm
    have h3:w5.heap[ib]? = some (.cells cur 3 (0,0)):=hc
    rw[oD.out] at h3
    cases h3)).trans ((Below.heap_alloc w5 _ ib (Array.getElem?_eq_some_iff.1 oD.out).1).trans oD.out);have HO6:=zh ho6;have HB6:=zh hb6;have HI6:=zh vF;clear ho6 hg6 hb6 vF)
   go_roundg g'
   case measure=>omega
   case rel=>
    refine⟨pos+1,by omega,by omega,HI6.out,?_,?_,HB6.out⟩
    ·rw[HVS.out];exact HO6.out
    ·rw[HTS.out]
     congr 1
     omega
  ·have hpe:pos=64:=by omega
   have hnx:∀ ty,(Instr.next (.pointer (some ⟨ib,0,none⟩)) true ty).run Tryz.prog wr=_:=fun ty=>Lib.run_next_end_at wr ib H pos ty hit hps
   have htk:N.take pos=N:=List.take_of_length_le (by omega)
   rw[htk] at HO ⊢
   have hbs:=HBW.out.size
   obtain⟨tot,htt⟩:∃ t,t=Sig.total N:=⟨_,rfl⟩
   rw[<- htt] at htot HR2 ⊢
   have h1:bits BinOp.and IntKind.i64 ((tot:Int)/16) 15=((tot/16%16:Nat):Int):=qK (tot/16) (by omega)
   have h2:=qK tot htot
   have hnew:([.int .i64 ((tot:Int)/256),.int .i64 (bits BinOp.and IntKind.i64 ((tot:Int)/16) 15),.int .i64 (bits BinOp.and IntKind.i64 (tot:Int) 15)]:List Value)=Ii [tot/256,tot/16%16,tot%16]:=by
    rw[h1,h2]
    rfl
   have kT:=zh hnew
   clear htt htk h1 h2 hnew ho hbw hit HIT
   go_wp2_with (at_builtin;go_must (refine Ah J8 rfl _ _ rfl w.heap.size pos (.slice ga pos gc) _ rfl (HO.out.alloc _) (.slice (some ⟨wr.heap.size,0,none⟩) 3 3) 3 [.int .i64 ((tot:Int)/256),.int .i64 (bits BinOp.and IntKind.i64 ((tot:Int)/16) 15),.int .i64 (bits BinOp.and IntKind.i64 (tot:Int) 15)] rfl (Cx wr 3 #[_,_,_] 1 3 3 rfl) (by intro u hu;simp at hu;rcases hu with rfl|rfl|rfl<;>rfl) (by omega) (by omega) (by simp;omega) ?_);intro v6 w6 ho6 hg6 _;have hb6:=Bh (HBW.out.alloc hbs _) (by simp;omega) HO.out hg6;have HO6:=zh ho6;have HB6:=zh hb6;clear ho6 hg6 hb6)
   go_ret
   refine⟨v6,rfl,?_,HB6.out⟩
   have:=HO6.out
   rw[kT.out,<- Mt,hpe] at this
   rw[HR2.out]
   exact this
theorem Yb (d:ByteArray)(w:World)(hs:d.size<=100000):
 Calls Tryz.prog 166 #[.string d] w fun e w' => e=.returned (.string (Sha.sha (Sig.b1 0++d)))/\Below w.heap.size w w':=by
 go_enter Tryz.func166,Tryz.ntmps166
 go_wp2_with fail
 refine(Ig _ w (by rw[ByteArray.size_append];have:(⟨#[0]⟩:ByteArray).size=1:=rfl;omega)).mono ?_
 rintro e w2 ⟨rfl,hb⟩
 have HB:=zh hb;clear hb
 go_wp2
 go_ret
 exact⟨rfl,HB.out⟩
theorem Yc (l r:ByteArray)(w:World):
 Calls Tryz.prog 229 #[.string l,.string r] w fun e w' => e=.returned (.string (Sig.node l r))/\Below w.heap.size w w':=by
 obtain⟨R,hR⟩:∃ R,R=Sig.node l r:=⟨_,rfl⟩
 rw[<- hR]
 unfold Sig.node at hR
 have HR:=zh hR;clear hR
 go_enter Tryz.func229,Tryz.ntmps229
 go_wp2_with fail
 refine(Fq l w).mono ?_
 rintro e w1 ⟨rfl,rfl⟩
 by_cases h1:l.size=32
 case neg=>
  rw[decide_eq_false h1]
  have hx:R=⟨#[]⟩:=by rw[HR.out,if_neg];exact fun h=>h1 h.1
  have HX:=zh hx;clear hx
  go_wp2
  go_ret
  exact⟨by rw[HX.out];rfl,Below.refl _ _⟩
 rw[decide_eq_true h1]
 have H1:=zh h1;clear h1
 go_wp2_with fail
 refine(Fq r w1).mono ?_
 rintro e w2 ⟨rfl,rfl⟩
 by_cases h2:r.size=32
 case neg=>
  rw[decide_eq_false h2]
  have hx:R=⟨#[]⟩:=by rw[HR.out,if_neg];exact fun h=>h2 h.2
  have HX:=zh hx;clear hx
  go_wp2
  go_ret
  exact⟨by rw[HX.out];rfl,Below.refl _ _⟩
 rw[decide_eq_true h2]
 have hx:R=Sha.sha (Sig.b1 1++l++r):=by rw[HR.out,if_pos ⟨H1.out,h2⟩]
 have hz:((⟨#[1]⟩:ByteArray)++l++r).size<=1000:=by rw[ByteArray.size_append,ByteArray.size_append,h2,H1.out];decide
 have HX:=zh hx;have HZ:=zh hz;have H2:=zh h2
 have hl9:l.size<=32:=by rw[H1.out];omega
 have hr9:r.size<=32:=by rw[H2.out];omega
 clear hx hz h2
 go_wp2_with fail
 refine(Ig _ w2 (by have:=HZ.out;omega)).mono ?_
 rintro e w3 ⟨rfl,hb⟩
 have HB:=zh hb;clear hb
 go_wp2
 go_ret
 exact⟨by rw[HX.out];rfl,HB.out⟩
theorem Pf (key c from_ n to_:Nat)(x:ByteArray)(w:World)(hto:to_=from_+n)(hx:x.size<=1000)(hk:key<9223372036854775808)(hc:c<9223372036854775808)(hf:to_<=1000):
 Calls Tryz.prog 154 #[.int .i64 key,.int .i64 c,.int .i64 from_,.int .i64 to_,.string x] w fun e w' => e=.returned (.string (Sig.chain key c from_ n x))/\Below w.heap.size w w':=by
 obtain⟨R,hR⟩:∃ R,R=Sig.chain key c from_ n x:=⟨_,rfl⟩
 rw[<- hR]
 have HR:=zh hR;clear hR
 have hle:from_<=to_:=by omega
 have vG:R=Sig.chain key c from_ (to_-from_) x:=by rw[HR.out,show to_-from_=n by omega]
 have HS0:=zh vG
 clear vG hto
 go_enter Tryz.func154,Tryz.ntmps154
 go_wp2
 go_loopw [4,11] (fun s i wr=>∃ (p:Nat) (y:ByteArray),from_<=p/\p<=to_/\i=.int .i64 p/\s=.string y/\y.size<=1000/\R=Sig.chain key c p (to_-p) y/\Below w.heap.size w wr) (fun _ i _=>to_-(intOf i).toNat)
 case atStart=>exact⟨from_,x,Nat.le_refl _,hle,rfl,rfl,hx,HS0.out,Below.refl _ _⟩
 case round=>
  obtain⟨p,y,hp1,hp2,rfl,rfl,hy,hch,hb⟩:=hrel
  have HB:=zh hb;have HCH:=zh hch;clear hb hch HR HS0
  by_cases hlt:p<to_
  ·have dk:decide ((p:Int)<to_)=true:=by simp;omega
   go_wp2_with fail
   refine(DI key wr hk).mono ?_
   rintro e w2 ⟨rfl,hb2⟩
   have HB2:=zh (HB.out.trans (hb2.mono HB.out.size));clear hb2
   have u1:=Cod.Ce key;have u2:=Cod.Ce c;have u3:=Cod.Ce p
   go_wp2_with fail
   refine(DI c w2 hc).mono ?_
   rintro e w3 ⟨rfl,hb3⟩
   have HB3:=zh (HB2.out.trans (hb3.mono HB2.out.size));clear hb3
   go_wp2_with fail
   refine(DI p w3 (by omega)).mono ?_
   rintro e w4 ⟨rfl,hb4⟩
   have HB4:=zh (HB3.out.trans (hb4.mono HB3.out.size));clear hb4
   go_wp2_with fail
   have hst:Sha.sha ((⟨#[3]⟩:ByteArray)++Cod.uns key++Cod.uns c++Cod.uns p++y)=Sig.Mi key c p y:=rfl
   refine(Ig _ w4 (by simp only[ByteArray.size_append];have:(⟨#[3]⟩:ByteArray).size=1:=rfl;omega)).mono ?_
   rintro e w5 ⟨rfl,hb5⟩
   have HB5:=zh (HB4.out.trans (hb5.mono HB4.out.size));clear hb5
   have hnx:R=Sig.chain key c (p+1) (to_-(p+1)) (Sig.Mi key c p y):=by
    rw[HCH.out]
    obtain⟨q,hq⟩:∃ q,to_-p=q+1:=⟨to_-p-1,by omega⟩
    rw[hq,show to_-(p+1)=q by omega]
    rfl
   have hsz:(Sig.Mi key c p y).size<=1000:=by
    have:(Sig.Mi key c p y).size=32:=Sha.Dp _
    omega
   rw[hst]
   obtain⟨D,hD⟩:∃ D,D=Sig.Mi key c p y:=⟨_,rfl⟩
   rw[<- hD] at hnx hsz ⊢
   have HNX:=zh hnx;clear hnx hD hst
   go_wp2_with fail
   exact⟨⟨p+1,D,by omega,by omega,by go_num,rfl,hsz,HNX.out,HB5.out⟩,by simp[intOf];omega⟩
  ·have dk:decide ((p:Int)<to_)=false:=by simp;omega
   have hy2:y=R:=by rw[HCH.out,show to_-p=0 by omega];rfl
   have HY:=zh hy2;clear hy2
   go_wp2
   go_ret
   exact⟨by rw[<- HY.out];rfl,HB.out⟩
theorem KI (seed:ByteArray)(key c:Nat)(w:World)(hs:seed.size<=1000)(hk:key<9223372036854775808)(hc:c<9223372036854775808):
 Calls Tryz.prog 155 #[.string seed,.int .i64 key,.int .i64 c] w fun e w' => e=.returned (.string (Sig.secret seed key c))/\Below w.heap.size w w':=by
 have u1:=Cod.Ce key;have u2:=Cod.Ce c
 go_enter Tryz.func155,Tryz.ntmps155
 go_wp2_with fail
 refine(DI key w hk).mono ?_
 rintro e w2 ⟨rfl,hb2⟩
 have HB2:=zh hb2;clear hb2
 go_wp2_with fail
 refine(DI c w2 hc).mono ?_
 rintro e w3 ⟨rfl,hb3⟩
 have HB3:=zh (HB2.out.trans (hb3.mono HB2.out.size));clear hb3
 go_wp2_with fail
 have hst:Sha.sha ((⟨#[2]⟩:ByteArray)++seed++Cod.uns key++Cod.uns c)=Sig.secret seed key c:=rfl
 refine(Ig _ w3 (by simp only[ByteArray.size_append];have:(⟨#[2]⟩:ByteArray).size=1:=rfl;omega)).mono ?_
 rintro e w4 ⟨rfl,hb4⟩
 rw[hst]
 have HB4:=zh (HB3.out.trans (hb4.mono HB3.out.size));clear hb4 hst
 obtain⟨D,hD⟩:∃ D,D=Sig.secret seed key c:=⟨_,rfl⟩
 rw[<- hD]
 have HD:=zh hD;clear hD
 go_wp2
 go_ret
 exact⟨by rw[<- HD.out];rfl,HB4.out⟩
theorem gM {n j:Nat}(h:2<=n)(h1:2^j<n)(h2:n<=2*2^j):2^j=Sig.split n:=by
 unfold Sig.split
 have e:Nat.log2 (n-1)=j:=by
  have h3:Nat.log2 (n-1)<j+1:=(Nat.log2_lt (by omega)).2 (by rw[Nat.pow_succ];omega)
  have h4:j<=Nat.log2 (n-1):=(Nat.le_log2 (by omega)).2 (by omega)
  omega
 rw[e]
theorem Mv (n:Nat)(w:World)(h:2<=n)(hn:n<4611686018427387904):
 Calls Tryz.prog 228 #[.int .i64 n] w fun e w' => e=.returned (.int .i64 (Sig.split n))/\w' = w:=by
 go_enter Tryz.func228,Tryz.ntmps228
 go_wp2
 go_loopw [3] (fun i wr=>∃ k j:Nat,i=.int .i64 k/\k=2^j/\k<n/\0<k/\wr=w) (fun i _=>n-(intOf i).toNat)
 case atStart=>exact⟨1,0,rfl,rfl,by omega,by omega,rfl⟩
 case round=>
  obtain⟨k,j,rfl,hj,hk,hk0,rfl⟩:=hrel
  have HJ:=zh hj;clear hj
  by_cases hlt:2*k<n
  ·have dk:decide ((2:Int)*(k:Int)<n)=true:=zt
   go_wp2_with fail
   exact⟨⟨2*k,j+1,by go_num,by rw[HJ.out,Nat.pow_succ];omega,hlt,by omega,by first|rfl|trivial⟩,by simp[intOf];omega⟩
  ·have dk:decide ((2:Int)*(k:Int)<n)=false:=zf
   have hs:k=Sig.split n:=by rw[HJ.out];exact gM h (by rw[<- HJ.out];exact hk) (by rw[<- HJ.out];omega)
   have HS:=zh hs;clear hs
   go_wp2
   go_ret
   exact⟨by rw[<- HS.out];rfl,rfl⟩
def FY (l:List UInt8):List Nat:=l.flatMap fun b=>[b.toNat/16,b.toNat%16]
theorem Rm (l:List UInt8)(b:UInt8):FY (l++[b])=FY l++[b.toNat/16,b.toNat%16]:=by
 unfold FY
 rw[List.flatMap_append]
 rfl
theorem gT (l:List UInt8):(FY l).length=2*l.length:=by
 unfold FY
 induction l with
 | nil=>rfl
 | cons b l ih=>rw[List.flatMap_cons,List.length_append,ih,List.length_cons];simp;omega
theorem aF (l:List Nat)(a b:Nat):Sig.total (l++[a,b])=Sig.total l+(15-a)+(15-b):=by
 unfold Sig.total
 simp
 omega
theorem Tv (m:ByteArray)(w:World)(hs:m.size<=140737488350000):
 Calls Tryz.prog 153 #[.string m] w fun e w' => ∃ v,e=.returned v/\w'.ownsRow w.heap.size 3 1 v 67 (Ii (Sig.digits m))/\Below w.heap.size w w':=by
 obtain⟨R,hR⟩:∃ R,R=Ii (Sig.digits m):=⟨_,rfl⟩
 rw[<- hR]
 have HR:=zh hR;clear hR
 go_enter Tryz.func153,Tryz.ntmps153
 go_wp2_with fail
 refine(Ig m w hs).mono ?_
 rintro e w2 ⟨rfl,hb2⟩
 have hds:=Sha.Dp m
 obtain⟨h,hh⟩:∃ h,h=Sha.sha m:=⟨_,rfl⟩
 rw[<- hh] at hds ⊢
 have hR2:R=Ii (FY h.data.toList++[Sig.total (FY h.data.toList)/256,Sig.total (FY h.data.toList)/16%16,Sig.total (FY h.data.toList)%16]):=by rw[HR.out,hh];rfl
 have HR2:=zh hR2;have HB2:=zh hb2
 clear hR2 hb2 hh
 have hb3:Below w.heap.size w (w2.alloc (.cells #[] 3)):=HB2.out.alloc HB2.out.size _
 have hown0:=Mr w2 3 1 w.heap.size HB2.out.size
 go_wp2
 go_loopw [4,5,6] (fun v s i wr=>∃ k:Nat,k<=32/\i=.int .i64 k/\wr.ownsRow w.heap.size 3 1 v (2*k) (Ii (FY (h.data.toList.take k)))/\s=.int .i64 ((Sig.total (FY (h.data.toList.take k)):Nat):Int)/\Below w.heap.size w wr) (fun _ _ i _=>32-(intOf i).toNat)
 case atStart=>exact⟨0,by omega,rfl,hown0,rfl,hb3⟩
 case round=>
  obtain⟨k,hk,rfl,ho,rfl,hb⟩:=hrel
  obtain⟨ga,gm,gc,rfl⟩:=Ac ho
  obtain rfl:=Ba ho
  have htl:=Sig.Mj (FY (h.data.toList.take k))
  rw[gT,List.length_take] at htl
  have HO:=zh ho;have HB:=zh hb
  obtain⟨tot,htt⟩:∃ t,t=Sig.total (FY (h.data.toList.take k)):=⟨_,rfl⟩
  rw[<- htt] at htl ⊢
  have HTT:=zh htt
  have htb:tot<=960:=by omega
  clear ho hb hb3 hown0 htt htl
  by_cases hlt:k<32
  ·have hks:k<h.size:=by omega
   have dk:decide ((k:Int)<h.size)=true:=by simp;omega
   have hkl:k<h.data.toList.length:=by simpa using hks
   have htk:h.data.toList.take (k+1)=h.data.toList.take k++[h[k]]:=by
    rw[List.take_succ_eq_append_getElem hkl]
    have:h.data.toList[k]=h[k]:=by simp;rfl
    rw[this]
   obtain⟨q1,hq1⟩:∃ q,q=h[k].toNat/16:=⟨_,rfl⟩
   obtain⟨q2,hq2⟩:∃ q,q=h[k].toNat%16:=⟨_,rfl⟩
   have hbl:h[k].toNat<256:=h[k].toNat_lt
   have e1:Int.tdiv (h[k].toNat:Int) 16=(q1:Int):=by rw[hq1];rfl
   have e2:Int.tmod (h[k].toNat:Int) 16=(q2:Int):=by rw[hq2];rfl
   have l1:q1<=15:=by omega
   have l2:q2<=15:=by omega
   have hnv:Ii (FY (h.data.toList.take (k+1)))=Ii (FY (h.data.toList.take k))++[.int .i64 (q1:Int),.int .i64 (q2:Int)]:=by
    rw[htk,Rm,Mt,<- hq1,<- hq2];rfl
   have htot:Sig.total (FY (h.data.toList.take (k+1)))=tot+(15-q1)+(15-q2):=by rw[htk,Rm,aF,<- hq1,<- hq2,HTT.out]
   have HNV:=zh hnv;have zac:=zh htot
   clear hq1 hq2 hnv htot
   go_wp2
   refine Lex.zl ?_
   go_wp2_with (at_builtin;go_must (refine Ah J8 rfl _ _ rfl w.heap.size (2*k) (.slice ga (2*k) gc) _ rfl (own_below (HO.out.alloc _) (Below.refl _ _).drew) (.slice (some ⟨wr.heap.size,0,none⟩) 2 2) 2 [.int .i64 (q1:Int),.int .i64 (q2:Int)] rfl ((Cx wr 3 #[.int .i64 (q1:Int),.int .i64 (q2:Int)] 1 2 2 rfl).below ((Below.refl _ _).drew)) (by intro u hu;simp at hu;rcases hu with rfl|rfl<;>rfl) (by omega) (by omega) (by have:=HB.out.size;simp;omega) ?_);intro v2 w3 ho2 hg2 _;obtain⟨na,nm,nc,rfl⟩:=Ac ho2;have hb2:Below w.heap.size w w3:=Bh ((HB.out.alloc HB.out.size _).drew) (by have:=HB.out.size;simp;omega) HO.out hg2;have HO2:=zh ho2;have HB3:=zh hb2;clear ho2 hg2 hb2)
   refine Lex.ze ?_
   go_wp2
   refine Lex.zl ?_
   go_wp2
   refine Lex.ze ?_
   go_wp2
   go_round
   case measure=>simp[intOf];omega
   case rel=>
    refine⟨k+1,by omega,by go_num,?_,?_,HB3.out.drew⟩
    ·rw[HNV.out];exact HO2.out
    ·rw[zac.out]
     congr 1
     omega
  ·have zbj:k=32:=by omega
   have dk:decide ((k:Int)<h.size)=false:=by simp;omega
   have htk:h.data.toList.take k=h.data.toList:=List.take_of_length_le (by simp;show h.size<=k;omega)
   rw[htk] at HO HTT
   have hbs:=HB.out.size
   rw[<- HTT.out] at HR2
   obtain⟨pos,hpos⟩:∃ p,p=2*k:=⟨_,rfl⟩
   rw[<- hpos] at HO ⊢
   have zad:pos=64:=by omega
   have e1:Int.tdiv (tot:Int) 256=((tot/256:Nat):Int):=rfl
   have e2:Int.tmod (Int.tdiv (tot:Int) 16) 16=((tot/16%16:Nat):Int):=rfl
   have e3:Int.tmod (tot:Int) 16=((tot%16:Nat):Int):=rfl
   obtain⟨q1,hq1⟩:∃ q,q=tot/256:=⟨_,rfl⟩
   obtain⟨q2,hq2⟩:∃ q,q=tot/16%16:=⟨_,rfl⟩
   obtain⟨q3,hq3⟩:∃ q,q=tot%16:=⟨_,rfl⟩
   have hnew:Ii [tot/256,tot/16%16,tot%16]=[.int .i64 ((tot:Int)/256),.int .i64 ((tot:Int)/16%16),.int .i64 ((tot:Int)%16)]:=rfl
   have kT:=zh hnew
   clear e1 e2 e3 q1 hq1 q2 hq2 q3 hq3 htk hpos hnew
   go_wp2_with (at_builtin;go_must (refine Ah J8 rfl _ _ rfl w.heap.size pos (.slice ga pos gc) _ rfl (HO.out.alloc _) (.slice (some ⟨wr.heap.size,0,none⟩) 3 3) 3 [.int .i64 ((tot:Int)/256),.int .i64 ((tot:Int)/16%16),.int .i64 ((tot:Int)%16)] rfl (Cx wr 3 #[_,_,_] 1 3 3 rfl) (by intro u hu;simp at hu;rcases hu with rfl|rfl|rfl<;>rfl) (by omega) (by omega) (by simp;omega) ?_);intro v6 w6 ho6 hg6 _;have hb6:=Bh (HB.out.alloc hbs _) (by simp;omega) HO.out hg6;have HO6:=zh ho6;have HB6:=zh hb6;clear ho6 hg6 hb6)
   go_ret
   refine⟨v6,rfl,?_,HB6.out⟩
   have:=HO6.out
   rw[<- kT.out,<- Mt,zad] at this
   rw[HR2.out]
   exact this
theorem zcS (z:ByteArray):Sig.node ⟨#[]⟩ z=⟨#[]⟩:=by unfold Sig.node;rw[if_neg];exact fun h=>absurd h.1 (by decide)
theorem zcT (z:ByteArray):Sig.node z ⟨#[]⟩=⟨#[]⟩:=by unfold Sig.node;rw[if_neg];exact fun h=>absurd h.2 (by decide)
theorem zc5 (o:Option ByteArray)(z:ByteArray):(o.map fun r=>Sig.node r z).getD ⟨#[]⟩=Sig.node (o.getD ⟨#[]⟩) z:=by cases o<;>simp[zcS]
theorem zc6 (o:Option ByteArray)(z:ByteArray):(o.map fun r=>Sig.node z r).getD ⟨#[]⟩=Sig.node z (o.getD ⟨#[]⟩):=by cases o<;>simp[zcT]
theorem uY (f:Nat)(x:ByteArray)(i:Nat)(v:Value)(p:List ByteArray)(w:World)(h:Al w v p):
 Calls Tryz.prog 199 #[.string x,.int .i64 i,.int .i64 1,v] w fun e w' => e=.returned (.string ((Sig.Cc (f+1) x i 1 p).getD ⟨#[]⟩))/\Below w.heap.size w w':=by
 rw[ZY]
 obtain⟨R,hR⟩:∃ R,R=(if p=[] then some x else none:Option ByteArray).getD ⟨#[]⟩:=⟨_,rfl⟩
 rw[<- hR]
 obtain⟨a,c,rfl⟩:=h.len
 have HR:=zh hR;clear h hR
 go_enter Tryz.func199,Tryz.ntmps199
 cases p with
 | nil =>
   have d0:decide ((0:Int)<(([]:List ByteArray).length:Int))=false:=rfl
   go_wp2
   go_ret
   rw[HR.out]
   exact⟨rfl,Below.refl _ _⟩
 | cons y p =>
   have d0:decide ((0:Int)<((y::p).length:Int))=true:=decide_eq_true (by rw[List.length_cons];omega)
   obtain⟨N,hN⟩:∃ N,N=(y::p).length:=⟨_,rfl⟩
   rw[<- hN] at d0 ⊢
   go_wp2
   go_ret
   rw[HR.out]
   exact⟨rfl,Below.refl _ _⟩
theorem zcn:∀ (f:Nat) (x:ByteArray) (i n:Nat) (v:Value) (p:List ByteArray) (w:World),1<=n->n<=f+1->i<n->n<=4096->p.length<=140737488355328->Al w v p->Eb v->
 Calls Tryz.prog 199 #[.string x,.int .i64 i,.int .i64 n,v] w fun e w' => e=.returned (.string ((Sig.Cc (f+1) x i n p).getD ⟨#[]⟩))/\Below w.heap.size w w':=by
 intro f
 induction f with
 | zero =>
   intro x i n v p w h1 hf hi hn hp h hcap
   obtain rfl:n=1:=by omega
   exact uY 0 x i v p w h
 | succ f ih =>
   intro x i n v p w h1 hf hi hn hp h hcap
   by_cases hn1:n=1
   ·subst hn1
    exact uY (f+1) x i v p w h
   ·obtain⟨R,hR⟩:∃ R,R=(Sig.Cc (f+2) x i n p).getD ⟨#[]⟩:=⟨_,rfl⟩
    rw[<- hR]
    have HR:=zh hR;have H:=zh h;have IH:=zh ih
    obtain⟨a,c,rfl⟩:=h.len
    obtain⟨_,_,_,he,hcl⟩:=hcap
    cases he
    clear hR h ih
    have d1:((n:Int)==1)=false:=by rw[beq_eq_false_iff_ne];omega
    go_enter Tryz.func199,Tryz.ntmps199
    by_cases h0:p=[]
    ·subst h0
     go_wp2
     go_ret
     rw[HR.out,aj _ _ _ _ hn1]
     exact⟨rfl,Below.refl _ _⟩
    ·obtain⟨q,z,rfl⟩:∃ q z,p=q++[z]:=⟨p.dropLast,p.getLast h0,(List.dropLast_concat_getLast h0).symm⟩
     clear h0
     have hql:(q++[z]).length=q.length+1:=by simp
     have hrr:=XY (f+1) x z i n q hn1
     have hst:=H.out.first (c':=c)
     obtain⟨b,o,ha⟩:=H.out.addrOf (k:=q.length) (by omega)
     subst ha
     have hcell:=H.out.cellAt (k:=q.length) (by omega)
     rw[List.getD_eq_getElem?_getD,List.getElem?_append_right (Nat.le_refl _),Nat.sub_self] at hcell
     simp only[List.getElem?_cons_zero,Option.getD_some] at hcell
     rw[hql] at hcl hp ⊢
     have d0:(((q.length+1:Nat):Int)==0)=false:=by rw[beq_eq_false_iff_ne];omega
     have HST:=zh hst;have HRR:=zh hrr
     clear hst hrr hql
     have hbl:=cB hcell
     go_wp2_with fail
     refine(Mv n _ (by omega) (by omega)).mono ?_
     rintro e w1 ⟨rfl,rfl⟩
     have hsp:=Sig.oq (n:=n) (by omega)
     have hs0:=Sig.NK n
     obtain⟨K,hK⟩:∃ K,K=Sig.split n:=⟨_,rfl⟩
     rw[<- hK] at hsp hs0 ⊢
     have HK:=zh hK;clear hK
     by_cases hik:i<K
     ·have dk:decide ((i:Int)<K)=true:=by simp;omega
      have hr2:R=Sig.node ((Sig.Cc (f+1) x i K q).getD ⟨#[]⟩) z:=by rw[HR.out,HRR.out,<- HK.out,if_pos hik,zc5]
      have HR2:=zh hr2;clear hr2
      go_wp2
      refine Lex.zn (fun k=>k=b) [10] 11 [7] ?_
      simp only[Lex.Bp,zd]
      go_wp2_with fail
      refine(IH.out x i K _ q _ (by omega) (by omega) hik (by omega) (by omega) (show Al w1.drew _ _ from HST.out) ⟨_,_,_,rfl,by omega⟩).mono ?_
      rintro e w2 ⟨rfl,hb⟩
      have hcb:∀ k,k=b->w2.heap[k]? = w1.drew.heap[k]? :=fun k hk=>by subst hk;exact hb.block k hbl
      have hcell2:w2.cell? ⟨b,o+q.length,none⟩=some (.string z):=by rw[Kl (a:=⟨b,o+q.length,none⟩) (hcb b rfl)];exact hcell
      have hb2:Below w1.heap.size w1 w2:=((Below.refl w1.heap.size w1).drew).trans hb
      have HB:=zh hb2;clear hb hb2
      go_wp2
      refine Lex.Mid.intro (fun k hk _=>(hcb k hk)) ?_
      go_wp2_with fail
      refine(Yc _ z w2).mono ?_
      rintro e w3 ⟨rfl,hb3⟩
      have HB3:=zh (HB.out.trans (hb3.mono HB.out.size));clear hb3
      go_wp2
      refine Lex.zk ⟨⟨rfl,by show(World.cell? _ ⟨b,o+q.length,none⟩).isSome=true;rw[show w1.drew.cell? ⟨b,o+q.length,none⟩=w1.cell? ⟨b,o+q.length,none⟩ from rfl,hcell];rfl⟩,trivial⟩ ?_
      go_wp2
      go_ret
      rw[HR2.out]
      exact⟨rfl,HB3.out⟩
     ·have dk:decide ((i:Int)<K)=false:=by simp;omega
      have hr2:R=Sig.node z ((Sig.Cc (f+1) x (i-K) (n-K) q).getD ⟨#[]⟩):=by rw[HR.out,HRR.out,<- HK.out,if_neg hik,zc6]
      have HR2:=zh hr2;clear hr2
      have e1:(i:Int)-K=((i-K:Nat):Int):=by omega
      have e2:(n:Int)-K=((n-K:Nat):Int):=by omega
      go_wp2
      refine Lex.zn (fun k=>k=b) [3] 15 [15] ?_
      simp only[Lex.Bp,zd]
      go_wp2_with fail
      clear e1 e2
      refine(IH.out x (i-K) (n-K) _ q _ (by omega) (by omega) (by omega) (by omega) (by omega) (show Al w1.drew _ _ from HST.out) ⟨_,_,_,rfl,by omega⟩).mono ?_
      rintro e w2 ⟨rfl,hb⟩
      have hcb:∀ k,k=b->w2.heap[k]? = w1.drew.heap[k]? :=fun k hk=>by subst hk;exact hb.block k hbl
      have hb2:Below w1.heap.size w1 w2:=((Below.refl w1.heap.size w1).drew).trans hb
      have HB:=zh hb2;clear hb hb2
      go_wp2
      refine Lex.Mid.intro (fun k hk _=>(hcb k hk)) ?_
      go_wp2_with fail
      refine(Yc z _ w2).mono ?_
      rintro e w3 ⟨rfl,hb3⟩
      have HB3:=zh (HB.out.trans (hb3.mono HB.out.size));clear hb3
      go_wp2
      refine Lex.zk ⟨⟨rfl,by show(World.cell? _ ⟨b,o+q.length,none⟩).isSome=true;rw[show w1.drew.cell? ⟨b,o+q.length,none⟩=w1.cell? ⟨b,o+q.length,none⟩ from rfl,hcell];rfl⟩,trivial⟩ ?_
      go_wp2
      go_ret
      rw[HR2.out]
      exact⟨rfl,HB3.out⟩
theorem aG (p:List ByteArray):Ld p=p.all Sig.digest:=rfl
theorem zbJ (x:ByteArray)(i n:Int)(v:Value)(p:List ByteArray)(r:ByteArray)(w:World)(h:Al w v p)(hcap:Eb v)(hl:p.length<=140737488355328):
 Calls Tryz.prog 165 #[.string x,.int .i64 i,.int .i64 n,v,.string r] w fun e w' => e=.returned (.bool (Sig.included x i n p r))/\Below w.heap.size w w':=by
 obtain⟨R,hR⟩:∃ R,R=Sig.included x i n p r:=⟨_,rfl⟩
 rw[<- hR]
 obtain⟨a,c,rfl⟩:=h.len
 unfold Sig.included at hR
 have HR:=zh hR;have H:=zh h;have HCAP:=zh hcap
 clear hR h hcap
 go_enter Tryz.func165,Tryz.ntmps165
 go_wp2_with fail
 refine(Fq x w).mono ?_
 rintro e w1 ⟨rfl,rfl⟩
 rw[show decide (x.size=32)=Sig.digest x from rfl]
 cases h1:Sig.digest x with
 | false =>
   have hx:R=false:=by rw[HR.out,h1];simp
   have HX:=zh hx;clear hx h1
   go_wp2
   go_ret
   exact⟨by rw[HX.out];rfl,Below.refl _ _⟩
 | true=>
 go_wp2_with fail
 refine(Fq r w1).mono ?_
 rintro e w1 ⟨rfl,rfl⟩
 rw[show decide (r.size=32)=Sig.digest r from rfl]
 cases h2:Sig.digest r with
 | false =>
   have hx:R=false:=by rw[HR.out,h2];simp
   have HX:=zh hx;clear hx h1 h2
   go_wp2
   go_ret
   exact⟨by rw[HX.out];rfl,Below.refl _ _⟩
 | true=>
 go_wp2_with fail
 refine(Ri (.slice a p.length c) p w1 H.out hl).mono ?_
 rintro e w2 ⟨rfl,rfl⟩
 rw[aG]
 cases h3:p.all Sig.digest with
 | false =>
   have hx:R=false:=by rw[HR.out,h3];simp
   have HX:=zh hx;clear hx h1 h2 h3
   go_wp2
   go_ret
   exact⟨by rw[HX.out];rfl,Below.refl _ _⟩
 | true=>
 have hr2:R=(decide (1<=n)&&decide (n<=4096)&&decide (p.length<=4096)&&decide (0<=i)&&decide (i<n)&&decide (Sig.given x i.toNat n.toNat p=some r)):=by
  rw[HR.out,h1,h2,h3]
  simp
 have hrs:r.size=32:=of_decide_eq_true h2
 have HR2:=zh hr2;have HRS:=zh hrs
 clear hr2 h1 h2 h3 hrs
 by_cases c1:n<1
 ·have d1:decide (n<1)=true:=decide_eq_true c1
  go_wp2
  go_ret
  exact⟨by rw[HR2.out,zf];rfl,Below.refl _ _⟩
 have d1:decide (n<1)=false:=decide_eq_false c1
 by_cases c2:4096<n
 ·have d2:decide (4096<n)=true:=decide_eq_true c2
  go_wp2
  go_ret
  exact⟨by rw[HR2.out,decide_eq_false (p:=n<=4096) (by omega)];simp,Below.refl _ _⟩
 have d2:decide (4096<n)=false:=decide_eq_false c2
 by_cases c3:i<0
 ·have d3:decide (i<0)=true:=decide_eq_true c3
  go_wp2
  go_ret
  exact⟨by rw[HR2.out,decide_eq_false (p:=0<=i) (by omega)];simp,Below.refl _ _⟩
 have d3:decide (i<0)=false:=decide_eq_false c3
 by_cases c4:n<=i
 ·have d4:decide (n<=i)=true:=decide_eq_true c4
  go_wp2
  go_ret
  exact⟨by rw[HR2.out,decide_eq_false (p:=i<n) (by omega)];simp,Below.refl _ _⟩
 have d4:decide (n<=i)=false:=decide_eq_false c4
 obtain⟨I,rfl⟩:∃ I:Nat,i=I:=⟨i.toNat,by omega⟩
 obtain⟨N,rfl⟩:∃ N:Nat,n=N+1:=⟨(n-1).toNat,by omega⟩
 have hgv:=zcn N x I (N+1) (.slice a p.length c) p w2 (by omega) (Nat.le_refl _) (by omega) (by omega) hl H.out HCAP.out
 have hgn:Sig.given x (I:Int).toNat ((N:Int)+1).toNat p=Sig.Cc (N+1) x I (N+1) p:=by
  unfold Sig.given
  have e1:(I:Int).toNat=I:=Int.toNat_natCast I
  have e2:((N:Int)+1).toNat=N+1:=by omega
  rw[e1,e2]
 have hr3:R=decide ((Sig.Cc (N+1) x I (N+1) p).getD ⟨#[]⟩=r):=by
  rw[HR2.out,decide_eq_true (p:=1<=(N:Int)+1) (by omega),decide_eq_true (p:=(N:Int)+1<=4096) (by omega),decide_eq_true (p:=0<=(I:Int)) (by omega),decide_eq_true (p:=(I:Int)<(N:Int)+1) (by omega),hgn]
  cases hg:Sig.Cc (N+1) x I (N+1) p with
  | none =>
    have:¬ (⟨#[]⟩:ByteArray)=r:=fun e=>by have:=HRS.out;rw[<- e] at this;exact absurd this (by decide)
    simp[this]
  | some y =>
    have:=zbE _ _ _ _ _ _ hg
    rw[decide_eq_true (p:=p.length<=4096) (by omega)]
    simp
 rw[show((N+1:Nat):Int)=(N:Int)+1 by omega] at hgv
 have HGV:=zh hgv;have HR3:=zh hr3;clear hgv hgn hr3
 go_wp2_with fail
 refine HGV.out.mono ?_
 rintro e w3 ⟨rfl,hb⟩
 have HB3:=zh hb;clear hb
 obtain⟨Y,hY⟩:∃ Y,Y=(Sig.Cc (N+1) x I (N+1) p).getD ⟨#[]⟩:=⟨_,rfl⟩
 rw[<- hY]
 have hyr:(Y.toList==r.toList)=R:=by rw[bytes_beq,HR3.out,<- hY]
 clear hY
 go_wp2
 go_ret
 exact⟨by first|rfl|rw[hyr],HB3.out⟩
theorem gU (f:Nat)(l:List ByteArray)(h:2<=l.length):Sig.FP (f+1) l=Sig.node (Sig.FP f (l.take (Sig.split l.length))) (Sig.FP f (l.drop (Sig.split l.length))):=by
 match l,h with
 | x::y::l,_=>rfl
theorem Al.qN {w:World}{a:Option Addr}{n c c' k:Nat}{xs:List ByteArray}(h:Al w (.slice a n c) xs)(hk:k<=xs.length):Al w (.slice a k c') (xs.take k):=by
 obtain⟨a',c2,he,h0|⟨b,o,ha,hc⟩⟩:=h
 ·cases he
  obtain rfl:k=0:=by omega
  exact⟨a,c',by simp,.inl (by simp)⟩
 ·cases he
  refine⟨a,c',by simp[Nat.min_eq_left hk],.inr ⟨b,o,ha,fun j hj=>?_⟩⟩
  rw[List.length_take,Nat.min_eq_left hk] at hj
  rw[hc j (by omega),List.getD_eq_getElem?_getD,List.getD_eq_getElem?_getD,List.getElem?_take_of_lt hj]
theorem Al.qO {w:World}{b o n c c' k m:Nat}{xs:List ByteArray}(h:Al w (.slice (some ⟨b,o,none⟩) n c) xs)(hm:m=xs.length-k):Al w (.slice (some ⟨b,o+k,none⟩) m c') (xs.drop k):=by
 refine⟨some ⟨b,o+k,none⟩,c',by rw[hm,List.length_drop],.inr ⟨b,o+k,rfl,fun j hj=>?_⟩⟩
 rw[List.length_drop] at hj
 have:=h.cellAt (k:=k+j) (by omega)
 rw[show o+k+j=o+(k+j) by omega,this,List.getD_eq_getElem?_getD,List.getD_eq_getElem?_getD,List.getElem?_drop]
theorem Ph (v:Value)(w:World)(h:Al w v []):
 Calls Tryz.prog 194 #[v] w fun e w' => e=.returned (.string (Sha.sha ⟨#[]⟩))/\Below w.heap.size w w':=by
 obtain⟨a,c,rfl⟩:=h.len
 go_enter Tryz.func194,Tryz.ntmps194
 go_wp2_with fail
 refine(Ig _ w (by decide)).mono ?_
 rintro e w1 ⟨rfl,hb⟩
 go_wp2
 go_ret
 exact⟨rfl,hb⟩
theorem Pj (v:Value)(x:ByteArray)(w:World)(h:Al w v [x]):
 Calls Tryz.prog 194 #[v] w fun e w' => e=.returned (.string x)/\Below w.heap.size w w':=by
 obtain⟨a,c,rfl⟩:=h.len
 obtain⟨b,o,rfl⟩:=h.addrOf (k:=0) (by simp)
 have hc:w.cell? ⟨b,o,none⟩=some (.string x):=h.cellAt (k:=0) (by simp)
 go_enter Tryz.func194,Tryz.ntmps194
 go_wp2
 go_ret
 exact⟨rfl,Below.refl _ _⟩
theorem J9:∀ (f:Nat) (v:Value) (p:List ByteArray) (w:World),p.length<=f+1->p.length<=4096->Al w v p->Eb v->
 Calls Tryz.prog 194 #[v] w fun e w' => e=.returned (.string (Sig.FP f p))/\Below w.heap.size w w':=by
 intro f
 induction f with
 | zero =>
   intro v p w hf hp h hcap
   match p,hf,h with
   | [],_,h=>exact Ph v w h
   | [x],_,h=>exact Pj v x w h
   | _::_::_,hf,_=>simp at hf
 | succ f ih =>
   intro v p w hf hp h hcap
   by_cases h0:p=[]
   ·subst h0
    exact Ph v w h
   by_cases h1:p.length=1
   ·obtain⟨x,rfl⟩:=List.length_eq_one_iff.1 h1
    exact Pj v x w h
   obtain⟨a,c,rfl⟩:=h.len
   obtain⟨_,_,_,he,hcl⟩:=hcap
   cases he
   have h00:p.length≠0:=fun e=>h0 (List.eq_nil_of_length_eq_zero e)
   have h2:2<=p.length:=by omega
   have hrr:=gU f p h2
   obtain⟨b,o,ha⟩:=h.addrOf (k:=0) (by omega)
   subst ha
   have d0:((p.length:Int)==0)=false:=by rw[beq_eq_false_iff_ne];omega
   have d1:((p.length:Int)==1)=false:=by rw[beq_eq_false_iff_ne];omega
   have hsp:=Sig.oq h2
   have hs0:=Sig.NK p.length
   have hk1:=h.qN (k:=Sig.split p.length) (c':=c) (by omega)
   have hk2:=h.qO (k:=Sig.split p.length) (m:=p.length-Sig.split p.length) (c':=c-Sig.split p.length) rfl
   have hl1:(p.take (Sig.split p.length)).length=Sig.split p.length:=by rw[List.length_take];omega
   have hl2:(p.drop (Sig.split p.length)).length=p.length-Sig.split p.length:=by rw[List.length_drop]
   obtain⟨P1,hP1⟩:∃ P1,P1=p.take (Sig.split p.length):=⟨_,rfl⟩
   obtain⟨P2,hP2⟩:∃ P2,P2=p.drop (Sig.split p.length):=⟨_,rfl⟩
   rw[<- hP1] at hrr hk1 hl1
   rw[<- hP2] at hrr hk2 hl2
   obtain⟨R,hR⟩:∃ R,R=Sig.FP (f+1) p:=⟨_,rfl⟩
   rw[<- hR] at hrr ⊢
   have hsplit:=fun w=>Mv p.length w h2 (by omega)
   obtain⟨K,hK⟩:∃ K,K=Sig.split p.length:=⟨_,rfl⟩
   rw[<- hK] at hsp hs0 hk1 hk2 hl1 hl2 hsplit
   obtain⟨N,hN⟩:∃ N,N=p.length:=⟨_,rfl⟩
   rw[<- hN] at hsp hcl hf hp hk2 hl2 d0 d1 h2 hsplit ⊢
   have HR:=zh hrr;have IH:=zh ih;have H1:=zh hk1;have H2:=zh hk2;have HL1:=zh hl1;have HL2:=zh hl2;have HS:=zh hsplit
   clear hrr ih hk1 hk2 hl1 hl2 hR hP1 hP2 h h0 h1 h00 hK hN hsplit
   go_enter Tryz.func194,Tryz.ntmps194
   go_wp2_with fail
   refine(HS.out w).mono ?_
   rintro e w1 ⟨rfl,rfl⟩
   go_wp2
   refine Lex.zl ?_
   go_wp2_with fail
   refine(IH.out _ P1 _ (by rw[HL1.out];omega) (by rw[HL1.out];omega) (show Al w1.drew _ _ from H1.out) ⟨_,_,_,rfl,by omega⟩).mono ?_
   rintro e w2 ⟨rfl,hb⟩
   have hb2:Below w1.heap.size w1 w2:=((Below.refl w1.heap.size w1).drew).trans hb
   have HB:=zh hb2;have H2':=zh (H2.out.below hb2);clear hb hb2
   go_wp2_with fail
   refine(IH.out _ P2 _ (by rw[HL2.out];omega) (by rw[HL2.out];omega) H2'.out ⟨_,_,_,rfl,by omega⟩).mono ?_
   rintro e w3 ⟨rfl,hb⟩
   have HB3:=zh (HB.out.trans (hb.mono HB.out.size));clear hb
   go_wp2_with fail
   refine(Yc _ _ w3).mono ?_
   rintro e w4 ⟨rfl,hb⟩
   have HB4:=zh (HB3.out.trans (hb.mono HB3.out.size));clear hb
   go_wp2
   refine Lex.ze ?_
   go_wp2
   go_ret
   rw[HR.out]
   exact⟨rfl,HB4.out⟩
end
end Go.Proofs.YtjlmglgmcekmhaaGreatDoor
