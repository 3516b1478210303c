/- The program's SHA-256 adds a block to its state as the plain function says. -/
import Derived.OrdersIn
import Derived.RangeFuncCalls
import Derived.TacticsIn
import Derived.RangeFuncNested
import Derived.RangeFuncBound
import Derived.RangeFuncLeaves
import Derived.OwnWalkIn
import Derived.Shelf.Abstract
import Derived.TacticsInMore
import Derived.LoopNIn
import Derived.LoopIn
import Derived.Lib.Builder
import Derived.Lib.FrozenHead
import Derived.Lib.AppendStr
import Derived.Test.YtdiiafgoccakkaaGreatDoorShkB1
set_option linter.unusedVariables false
set_option linter.unusedSimpArgs false
set_option maxRecDepth 100000
set_option maxHeartbeats 4000000
namespace Go.Proofs.YtdiiafgoccakkaaGreatDoor
section
open Go Go.RowKit
def hash (v:List Int)(r:ByteArray)(t:Int):Array Value:=Sha.row v++#[.string r,.int .u64 t]
theorem SE (x0 x1 x2 x3 x4 x5 x6 x7:Int)(r:ByteArray)(t:Int):hash [x0,x1,x2,x3,x4,x5,x6,x7] r t=#[.int .u32 x0,.int .u32 x1,.int .u32 x2,.int .u32 x3,.int .u32 x4,.int .u32 x5,.int .u32 x6,.int .u32 x7,.string r,.int .u64 t]:=by
 simp[hash,Sha.row]
theorem pE (v:List Int)(r:ByteArray)(t:Int)(k:Nat)(h:k<v.length):(hash v r t)[k]? = some (.int .u32 (v.getD k 0)):=by
 unfold hash
 rw[Array.getElem?_append_left (by rw[Sha.BP];exact h),Sha.Gs,List.getElem?_eq_getElem h,List.getD_eq_getElem?_getD,List.getElem?_eq_getElem h]
 rfl
theorem pF (v:List Int)(r:ByteArray)(t:Int)(k:Nat)(u:Int)(h:k<v.length):(hash v r t).setIfInBounds k (.int .u32 u)=hash (v.set k u) r t:=by
 unfold hash
 rw[Array.setIfInBounds_append_left (by rw[Sha.BP];exact h),Sha.Rz]
theorem At.setW {w:World}{b:Nat}{t:TypeId}{l:List Int}(h:At w b t (Sha.row l))(i:Nat)(u:Int):At (w.setCell ⟨b,i,none⟩ (.int .u32 u)) b t (Sha.row (l.set i u)):=by
 rw[<- Sha.Rz];exact h.set i _
theorem uE (b:Nat)(v:List Int)(r:ByteArray)(t:Int)(s:ByteArray)(w:World)(hs:s.size=64)(hv:Sha.Word v)(hh:At w b 232 (hash v r t)):
 Calls Tryz.prog 163 #[.pointer (some ⟨b,0,none⟩),.string s] w fun e w' => e=.returned (.tuple #[])/\At w' b 232 (hash (Sha.block v s) r t)/\Fr (fun k=>k=b) w w':=by
 have hv0:=hv
 obtain⟨x0,x1,x2,x3,x4,x5,x6,x7,rfl,b0,b1,b2,b3,b4,b5,b6,b7⟩:=hv.lit
 have hlt:=hh.lt
 go_enter Tryz.func163,Tryz.ntmps163
 go_wp2_with fail
 refine(mD s _ hs).mono ?_
 rintro e w1 ⟨rfl,hb1⟩
 go_wp2_with fail
 refine(mq _).mono ?_
 rintro e w2 ⟨rfl,hb2⟩
 dsimp only
 refine ‹∀ (a:Act) (w:World),wpList _ _ _ _ a w->_› _ _ ?_
 have hsz1:=hb1.size
 have hsz2:=hb2.size
 have h2:At w2 b 232 (hash [x0,x1,x2,x3,x4,x5,x6,x7] r t):=(hh.below hb1 hlt).below hb2 (by omega)
 refine Fh rfl 263 rfl (Sha.row (List.replicate 64 0)) Z7 ?_
 refine Fh rfl 263 rfl (Sha.row (List.replicate 64 0)) Z7 ?_
 generalize hZ:Sha.row (List.replicate 64 0)=Z
 have hZs:Z.size=64:=by rw[<- hZ];rfl
 clear hZ
 have e5:At ((w2.alloc (.cells Z 263)).alloc (.cells Z 263)) w2.heap.size 263 Z:=heap_alloc2_old w2 _ _
 have e6:At ((w2.alloc (.cells Z 263)).alloc (.cells Z 263)) (w2.heap.size+1) 263 Z:=heap_alloc2_new w2 _ _
 have eb:=(h2.alloc (.cells Z 263)).alloc (.cells Z 263)
 have bb:Below w2.heap.size w2 ((w2.alloc (.cells Z 263)).alloc (.cells Z 263)):=zb.alloc (by simp) _
 obtain⟨w3,hw3⟩:∃ x,x=(w2.alloc (.cells Z 263)).alloc (.cells Z 263):=⟨_,rfl⟩
 rw[<- hw3] at e5 e6 eb bb ⊢
 refine wpList_store_row rfl _ _ _ rfl w2.heap.size _ Z (Sha.row (Sha.sched s 64)) (by rfl) (by rfl) e5 (by rw[hZs,Sha.BP,Sha.Bc]) (by rw[Sha.BP,Sha.Bc];exact GZ) (Sha.row_one _) ?_
 refine wpList_store_row rfl _ _ _ rfl (w2.heap.size+1) _ Z (Sha.row Sha.K) (by show Value.pointer (some ⟨(w2.alloc (.cells Z 263)).heap.size,0,none⟩)=_;rw[World.size_alloc]) (by rfl) (e6.GN (by omega) _) (by rw[hZs,Sha.BP,Sha.oP]) (by rw[Sha.BP,Sha.oP];exact GZ) (Sha.row_one _) ?_
 have f5:At ((w3.setRow w2.heap.size (Sha.row (Sha.sched s 64))).setRow (w2.heap.size+1) (Sha.row Sha.K)) w2.heap.size 263 (Sha.row (Sha.sched s 64)):=(e5.setRow _).GN (by omega) _
 have f6:At ((w3.setRow w2.heap.size (Sha.row (Sha.sched s 64))).setRow (w2.heap.size+1) (Sha.row Sha.K)) (w2.heap.size+1) 263 (Sha.row Sha.K):=(e6.GN (by omega) _).setRow _
 have fb:=(eb.GN (g:=w2.heap.size) (by omega) (Sha.row (Sha.sched s 64))).GN (g:=w2.heap.size+1) (by omega) (Sha.row Sha.K)
 have ff:Below w.heap.size w ((w3.setRow w2.heap.size (Sha.row (Sha.sched s 64))).setRow (w2.heap.size+1) (Sha.row Sha.K)):=
  (((hb1.trans (hb2.mono (by omega))).trans (bb.mono (by omega))).setRow (by omega) _).setRow (by omega) _
 have hsz:((w3.setRow w2.heap.size (Sha.row (Sha.sched s 64))).setRow (w2.heap.size+1) (Sha.row Sha.K)).heap.size=w2.heap.size+2:=by
  rw[size_setRow,size_setRow,hw3];simp
 generalize (w3.setRow w2.heap.size (Sha.row (Sha.sched s 64))).setRow (w2.heap.size+1) (Sha.row Sha.K)=w4 at*
 obtain⟨n,hn⟩:∃ n,n=w2.heap.size:=⟨_,rfl⟩
 have hwn:(w2.alloc (.cells Z 263)).heap.size=n+1:=by rw[World.size_alloc,hn]
 rw[hwn,<- hn]
 rw[<- hn] at f5 f6 hsz
 rw[SE] at fb
 have c0:=fb.cell 0;have c1:=fb.cell 1;have c2:=fb.cell 2;have c3:=fb.cell 3;have c4:=fb.cell 4;have c5:=fb.cell 5;have c6:=fb.cell 6;have c7:=fb.cell 7
 simp only[zg] at c0 c1 c2 c3 c4 c5 c6 c7
 have hbn:b<n:=by omega
 have F5:=zh f5;have F6:=zh f6;have FB:=zh fb;have HSZ:=zh hsz
 have hsz' : n+2<=w4.heap.size:=by omega
 clear f5 f6 fb hsz hw3 hwn bb eb e5 e6 h2 hh hZs hn
 go_wp2
 go_loopw [26] (fun i wr=>∃ k:Nat,k<=64/\i=.int .i64 k/\At wr w4.heap.size 229 (Sha.row (Sha.rounds (Sha.sched s 64) [x0,x1,x2,x3,x4,x5,x6,x7] k))/\Below w4.heap.size w4 wr)
  (fun i _=>64-(intOf i).toNat)
 case atStart=>
  refine⟨0,by omega,rfl,?_,zb⟩
  simp only[Sha.rounds,Sha.row,List.map_cons,List.map_nil]
  exact At.new _ _ _
 case round=>
  obtain⟨k,hk,rfl,hw,hbr⟩:=hrel
  have hwd:=hv.rounds (Sha.sched s 64) k
  have hlr:=hw.lt
  by_cases pG:k<64
  ·have hstep:Sha.rounds (Sha.sched s 64) [x0,x1,x2,x3,x4,x5,x6,x7] (k+1)=Sha.rnd (Sha.rounds (Sha.sched s 64) [x0,x1,x2,x3,x4,x5,x6,x7] k) (Sha.K.getD k 0) ((Sha.sched s 64).getD k 0):=rfl
   have HST:=zh hstep;clear hstep
   generalize Sha.rounds (Sha.sched s 64) [x0,x1,x2,x3,x4,x5,x6,x7] k=v at*
   obtain⟨y0,y1,y2,y3,y4,y5,y6,y7,rfl,d0,d1,d2,d3,d4,d5,d6,d7⟩:=hwd.lit
   have k5:=(F5.out.below hbr (by omega)).cell k
   have k6:=(F6.out.below hbr (by omega)).cell k
   rw[Sha.Zz s k pG] at k5
   rw[Sha.wW k pG] at k6
   generalize (Sha.sched s 64).getD k 0=W at*
   generalize Sha.K.getD k 0=KK at*
   have HW:=zh hw
   simp only[Sha.row,List.map_cons,List.map_nil] at hw
   have v0:=hw.cell 0;have v1:=hw.cell 1;have v2:=hw.cell 2;have v3:=hw.cell 3;have v4:=hw.cell 4;have v5:=hw.cell 5;have v6:=hw.cell 6;have v7:=hw.cell 7
   simp only[zg] at v0 v1 v2 v3 v4 v5 v6 v7
   have fz:∀ i,wr.frozen? ⟨w4.heap.size,i,none⟩=false:=fun i=>hw.free i
   have z0:=fz 0;have z1:=fz 1;have z2:=fz 2;have z3:=fz 3;have z4:=fz 4;have z5:=fz 5;have z6:=fz 6;have z7:=fz 7
   clear hw fz
   have zbG:=zh hbr;clear hbr hwd
   have dk:decide ((k:Int)<64)=true:=by simp;omega
   go_wp2
   refine Lex.zl ?_
   go_wp2
   refine Lex.ze ?_
   go_wp2
   refine Lex.zn (fun _=>True) [1,17,21] 22 [5] ?_
   simp only[Lex.Bh,zd]
   go_wp2_with fail
   refine(Z4 y4 6 11 25 26 21 7 _ (by kernel_rfl) (by omega) (by omega) (by kernel_rfl) (by omega) (by omega) (by kernel_rfl) (by omega) (by omega) (by omega) (by omega) (by omega) (by omega) (by omega) (by omega) d4.1 d4.2).mono ?_
   rintro e w5 ⟨rfl,rfl⟩
   go_wp2
   refine Lex.Mid.intro (fun b _ _=>rfl) ?_
   go_wp2
   refine Lex.zk ?_ ?_
   ·refine⟨⟨trivial,?_⟩,⟨trivial,?_⟩,⟨trivial,?_⟩,trivial⟩
    ·show(wr.cell? ⟨w4.heap.size,7,none⟩).isSome=true
     rw[v7];rfl
    ·show(wr.cell? ⟨n+1,k,none⟩).isSome=true
     rw[k6];rfl
    ·show(wr.cell? ⟨n,k,none⟩).isSome=true
     rw[k5];rfl
   go_wp2_with fail
   refine(Z4 y0 2 13 22 30 19 10 _ (by kernel_rfl) (by omega) (by omega) (by kernel_rfl) (by omega) (by omega) (by kernel_rfl) (by omega) (by omega) (by omega) (by omega) (by omega) (by omega) (by omega) (by omega) d0.1 d0.2).mono ?_
   rintro e w5 ⟨rfl,rfl⟩
   go_wp2
   go_roundw
   case rel=>
    refine⟨k+1,by omega,by go_num,?_,?_⟩
    ·rw[HST.out,Sha.uD]
     exact(((((((((At.setW HW.out 0 _).setW 1 _).setW 2 _).setW 3 _).setW 4 _).setW 5 _).setW 6 _).setW 7 _).drew).drew
    ·exact(Below.drew (Below.drew ((((((((zbG.out.setCell (p:=⟨w4.heap.size,0,none⟩) (Nat.le_refl _) _).setCell (p:=⟨w4.heap.size,1,none⟩) (Nat.le_refl _) _).setCell (p:=⟨w4.heap.size,2,none⟩) (Nat.le_refl _) _).setCell (p:=⟨w4.heap.size,3,none⟩) (Nat.le_refl _) _).setCell (p:=⟨w4.heap.size,4,none⟩) (Nat.le_refl _) _).setCell (p:=⟨w4.heap.size,5,none⟩) (Nat.le_refl _) _).setCell (p:=⟨w4.heap.size,6,none⟩) (Nat.le_refl _) _).setCell (p:=⟨w4.heap.size,7,none⟩) (Nat.le_refl _) _)))
   case measure=>simp[intOf];omega
  ·have hk' : k=64:=by omega
   have HK:=zh hk';clear hk'
   have dk:decide ((k:Int)<64)=false:=by simp;omega
   have hwz:=hwd
   obtain⟨z0,z1,z2,z3,z4,z5,z6,z7,hz,d0,d1,d2,d3,d4,d5,d6,d7⟩:=hwd.lit
   rw[hz] at hw hwz
   simp only[Sha.row,List.map_cons,List.map_nil] at hw
   have v0:=hw.cell 0;have v1:=hw.cell 1;have v2:=hw.cell 2;have v3:=hw.cell 3;have v4:=hw.cell 4;have v5:=hw.cell 5;have v6:=hw.cell 6;have v7:=hw.cell 7
   simp only[zg] at v0 v1 v2 v3 v4 v5 v6 v7
   have hff:=ff.size
   have fb:=FB.out.below hbr (by omega)
   have ffr:=ff.trans (hbr.mono (by omega))
   clear hw hwd c0 c1 c2 c3 c4 c5 c6 c7 hbr F5 F6 FB
   have HZ:=zh hz;clear hz
   rw[<- SE] at fb
   have FB:=zh fb;clear fb
   have FF:=zh ffr;clear ffr ff
   go_wp2_with fail
   have hl:([z0,z1,z2,z3,z4,z5,z6,z7]:List Int).length=8:=rfl
   have hlx:([x0,x1,x2,x3,x4,x5,x6,x7]:List Int).length=8:=rfl
   have hzz:(#[.int .u32 z0,.int .u32 z1,.int .u32 z2,.int .u32 z3,.int .u32 z4,.int .u32 z5,.int .u32 z6,.int .u32 z7]:Array Value)=Sha.row [z0,z1,z2,z3,z4,z5,z6,z7]:=rfl
   rw[hzz]
   generalize [z0,z1,z2,z3,z4,z5,z6,z7]=zs at*
   obtain⟨xs,hxs⟩:∃ xs,xs=[x0,x1,x2,x3,x4,x5,x6,x7]:=⟨_,rfl⟩
   rw[<- hxs] at hv hv0 FB hlx HZ
   have HXS:=zh hxs;clear hxs
   clear hzz
   go_loopw [95] (fun i wr2=>∃ k:Nat,k<=8/\i=.int .i64 k/\At wr2 b 232 (hash (Sha.part xs zs k) r t)/\Fr (fun k=>k=b) w wr2)
    (fun i _=>8-(intOf i).toNat)
   case atStart=>
    exact⟨0,by omega,rfl,by rw[Sha.mg];exact FB.out,Fr.of_below FF.out⟩
   case round=>
    obtain⟨k,hk,rfl,hw,hbr⟩:=hrel
    by_cases hk8:k<8
    ·have dk8:decide ((k:Int)<8)=true:=by simp;omega
     have hpl:=Sha.Ko xs zs hlx hl k hk
     have gk:=hw.cell k
     rw[pE _ _ _ _ (by omega),Sha.oW xs zs hlx hl k hk8] at gk
     have fz:wr.frozen? ⟨b,k,none⟩=false:=hw.free k
     have rk:(Sha.row zs)[k]? = some (.int .u32 (zs.getD k 0)):=by
      rw[Sha.Gs,List.getElem?_eq_getElem (by omega),List.getD_eq_getElem?_getD,List.getElem?_eq_getElem (by omega)]
      rfl
     have HW:=zh hw;clear hw
     have HB:=zh hbr;clear hbr
     have HPL:=zh hpl;clear hpl
     have hlz:=hl
     go_wp2_with fail
     rw[GL 229 204 8 (Sha.row zs) .i64 k _ _ rfl hk8 rk Tryz.sizeOf204 Tryz.isAgg204]
     go_wp2
     refine Lex.zl ?_
     go_wp2
     refine Lex.ze ?_
     have hA:∀ x:Int,x=(xs.getD k 0+zs.getD k 0)%4294967296->At (wr.setCell ⟨b,k,none⟩ (.int .u32 x)) b 232 (hash (Sha.part xs zs (k+1)) r t):=by
      intro x hx
      rw[<- Sha.mh xs zs hlx hl k hk8,<- hx,<- pF _ _ _ _ _ (by rw[HPL.out];exact hk8)]
      exact HW.out.set k _
     have HA:=zh hA;clear hA
     go_wp2
     go_roundw
     case rel=>
      refine⟨k+1,by omega,by go_num,(HA.out _ ?_).drew,(HB.out.setCell (p:=⟨b,k,none⟩) (Or.inl rfl) _).drew⟩
      simp[List.getD_eq_getElem?_getD,hl,hlx,hk8]
     case measure=>simp[intOf];omega
    ·obtain rfl:k=8:=by omega
     have HW:=zh hw;clear hw
     have HB:=zh hbr;clear hbr
     go_wp2
     go_end0
     refine⟨rfl,?_,HB.out⟩
     have h:=HW.out
     rw[Sha.oZ xs zs hlx] at h
     have hz':=HZ.out
     rw[HK.out] at hz'
     rw[<- HXS.out,Sha.block,hz']
     exact h
def be8 (n:Nat):ByteArray:=⟨((List.range 8).map fun j=>(n/2^(56-8*j)%256).toUInt8).toArray⟩
def Pw (n k:Nat):Array Value:=((List.range 8).map fun j=>Value.int .u8 (if j<k then ((n/2^(56-8*j)%256:Nat):Int) else 0)).toArray
theorem fH (n k:Nat)(h:k<8):(Pw n k).setIfInBounds k (.int .u8 ((n/2^(56-8*k)%256:Nat):Int))=Pw n (k+1):=by
 match k,h with
 | 0,_=>rfl
 | 1,_=>rfl
 | 2,_=>rfl
 | 3,_=>rfl
 | 4,_=>rfl
 | 5,_=>rfl
 | 6,_=>rfl
 | 7,_=>rfl
theorem He (n:Nat):(be8 n).size=8:=by simp[be8,ByteArray.size]
theorem fI (n i:Nat)(h:i<(be8 n).size):(Pw n 8)[i]? = some (.int .u8 ((be8 n)[i].toNat:Int)):=by
 have h8:i<8:=by rw[He] at h;exact h
 have e:(be8 n)[i]=(n/2^(56-8*i)%256).toUInt8:=by
  show(be8 n).data[i]'_=_
  simp[be8]
 have e2:(n/2^(56-8*i)%256).toUInt8.toNat=n/2^(56-8*i)%256:=by
  show(UInt8.ofNat _).toNat=_
  rw[UInt8.toNat_ofNat']
  omega
 have e3:(Pw n 8)[i]? = some (.int .u8 ((n/2^(56-8*i)%256:Nat):Int)):=by simp[Pw,h8]
 rw[e3,<- e2]
 exact congrArg (fun x:UInt8=>some (Value.int .u8 (x.toNat:Int))) e.symm
theorem fJ (n:Nat)(w:World)(hn:n<18446744073709551616):
 Calls Tryz.prog 166 #[.int .u64 n] w fun e w' => e=.returned (.string (be8 n))/\Below w.heap.size w w':=by
 go_enter Tryz.func166,Tryz.ntmps166
 go_wp2
 go_loopw [5] (fun i wr=>∃ k:Nat,k<=8/\i=.int .i64 k/\At wr w.heap.size 266 (Pw n k)/\Below w.heap.size w wr)
  (fun i _=>8-(intOf i).toNat)
 case atStart=>exact⟨0,by omega,rfl,At.new _ _ _,zb⟩
 case round=>
  obtain⟨k,hk,rfl,hw,hb⟩:=hrel
  by_cases h8:k<8
  ·have dk:decide ((k:Int)<8)=true:=by simp;omega
   have fz:wr.frozen? ⟨w.heap.size,k,none⟩=false:=hw.free k
   have ce:wr.cell? ⟨w.heap.size,k,none⟩=some (.int .u8 0):=by
    rw[hw.cell]
    match k,h8 with
    | 0,_=>rfl
    | 1,_=>rfl
    | 2,_=>rfl
    | 3,_=>rfl
    | 4,_=>rfl
    | 5,_=>rfl
    | 6,_=>rfl
    | 7,_=>rfl
   have HW:=zh hw;clear hw
   have HB:=zh hb;clear hb
   go_wp2_with fail
   refine⟨⟨k+1,by omega,by go_num,?_,HB.out.setCell (p:=⟨w.heap.size,k,none⟩) (Nat.le_refl _) _⟩,by simp[intOf];omega⟩
   have h:=HW.out.set k (.int .u8 ((n/2^(56-8*k)%256:Nat):Int))
   rw[fH n k h8] at h
   have e:((n/2^(56-8*k)%256:Nat):Int)=(n:Int)/2^(56-8*k)%256:=by
    rw[Int.natCast_emod,Int.natCast_ediv,Int.natCast_pow];rfl
   rw[e] at h
   exact h
  ·obtain rfl:k=8:=by omega
   have hB:Lib.Bytes wr w.heap.size 0 (be8 n):=by
    intro i hi
    rw[Nat.zero_add,hw.cell]
    exact fI n i hi
   have hc:=Lib.run_convert_whole (P:=Tryz.prog) wr 116 5 9 rfl rfl rfl _ _ _ hB 8
   rw[He] at hc
   have HB:=zh hb;clear hb hw
   have HC:=zh hc;clear hc
   go_wp2_with fail
   rw[HC.out]
   go_wp2
   go_ret
   exact⟨rfl,HB.out⟩
theorem uF (w:World):
 Calls Tryz.prog 107 #[] w fun e w' => e=.returned (.pointer (some ⟨w.heap.size,0,none⟩))/\w' = w.alloc (.cells (hash [1779033703,3144134277,1013904242,2773480762,1359893119,2600822924,528734635,1541459225] ⟨#[]⟩ 0) 232):=by
 go_enter Tryz.func107,Tryz.ntmps107
 go_wp2
 go_ret
 exact⟨rfl,rfl⟩
namespace Sha
theorem Bl {a b:ByteArray}(h:a.data.toList=b.data.toList):a=b:=by
 apply ByteArray.ext
 exact Array.toList_inj.1 h
theorem Ba (s:ByteArray)(a b:Nat):(s.extract a b).data.toList=(s.data.toList.drop a).take (b-a):=by
 simp[ByteArray.data_extract,Array.toList_extract,List.extract]
theorem Bf (s t:ByteArray):(s++t).data.toList=s.data.toList++t.data.toList:=by simp
theorem Aq (s:ByteArray):s.data.toList.length=s.size:=by simp
def IV:List Int:=[1779033703,3144134277,1013904242,2773480762,1359893119,2600822924,528734635,1541459225]
theorem XJ:Word IV:=by
 refine⟨rfl,?_⟩
 decide
def run (v:List Int)(s:ByteArray):Nat->List Int
 | 0=>v
 | k+1=>block (run v s k) (s.extract (64*k) (64*k+64))
theorem Word.run {v:List Int}(h:Word v)(s:ByteArray):∀ k,Word (run v s k)
 | 0=>h
 | k+1=>(Word.run h s k).block _
def state (m:ByteArray):List Int:=run IV m (m.size/64)
def rest (m:ByteArray):ByteArray:=m.extract (64*(m.size/64)) m.size
theorem Fu (m:ByteArray):Word (state m):=XJ.run _ _
theorem LD (m:ByteArray):(rest m).data.toList=m.data.toList.drop (64*(m.size/64)):=by
 rw[rest,Ba]
 apply List.take_of_length_le
 rw[List.length_drop,Aq]
 omega
theorem LG (m:ByteArray):(rest m).size=m.size%64:=by
 rw[<- Aq,LD,List.length_drop,Aq]
 omega
theorem Wt (v:List Int)(s t:ByteArray)(q:Nat):∀ j,(∀ i,i<j->s.extract (64*i) (64*i+64)=t.extract (64*(q+i)) (64*(q+i)+64))->run (run v t q) s j=run v t (q+j)
 | 0,_=>rfl
 | j + 1,h => by
   rw[run,Wt v s t q j (fun i hi=>h i (by omega)),h j (by omega)]
   rfl
theorem SF (v:List Int)(m s:ByteArray):∀ k,64*k<=m.size->run v (m++s) k=run v m k
 | 0,_=>rfl
 | k + 1,h => by
   rw[run,run,SF v m s k (by omega)]
   congr 1
   apply Bl
   rw[Ba,Ba,Bf,List.drop_append_of_le_length (by rw[Aq];omega),List.take_append_of_le_length (by rw[List.length_drop,Aq];omega)]
theorem fK (m s:ByteArray)(i:Nat):(rest m++s).extract (64*i) (64*i+64)=(m++s).extract (64*(m.size/64+i)) (64*(m.size/64+i)+64):=by
 apply Bl
 rw[Ba,Ba,Bf,Bf,LD]
 rw[<- List.drop_append_of_le_length (by rw[Aq];omega),List.drop_drop,show 64*(m.size/64)+64*i=64*(m.size/64+i) by omega,show 64*i+64-64*i=64 by omega,show 64*(m.size/64+i)+64-64*(m.size/64+i)=64 by omega]
theorem pI (m s:ByteArray)(j:Nat):run (state m) (rest m++s) j=run IV (m++s) (m.size/64+j):=by
 rw[state,<- SF IV m s (m.size/64) (by omega)]
 exact Wt IV _ _ _ j (fun i _=>fK m s i)
theorem Ab (m s:ByteArray):(m++s).size=m.size+s.size:=by
 rw[<- Aq,Bf,List.length_append,Aq,Aq]
theorem Kr (m s:ByteArray):m.size/64+(rest m++s).size/64=(m++s).size/64:=by
 rw[Ab,Ab,LG]
 omega
theorem fM (m s:ByteArray):run (state m) (rest m++s) ((rest m++s).size/64)=state (m++s):=by
 rw[pI,Kr]
 rfl
theorem mE (m s:ByteArray):(rest m++s).extract (64*((rest m++s).size/64)) (rest m++s).size=rest (m++s):=by
 apply Bl
 rw[LD,Ba,Bf,Bf,LD,<- Kr m s]
 rw[<- List.drop_append_of_le_length (l₁ :=m.data.toList) (by rw[Aq];omega),List.drop_drop,show 64*(m.size/64)+64*((rest m++s).size/64)=64*(m.size/64+(rest m++s).size/64) by omega]
 apply List.take_of_length_le
 have:=Kr m s
 rw[List.length_drop,List.length_append,Aq,Aq]
 have e:=Ab m s
 have e2:=Ab (rest m) s
 have e3:=LG m
 omega
end Sha
def Held (w:World)(b:Nat)(m:ByteArray):Prop:=At w b 232 (hash (Sha.state m) (Sha.rest m) ((m.size:Int)%18446744073709551616))
theorem kG (v:List Int)(r:ByteArray)(t:Int)(h:v.length=8):(hash v r t)[8]? = some (.string r):=by
 unfold hash
 rw[Array.getElem?_append_right (by rw[Sha.BP];omega),Sha.BP,h]
 rfl
theorem Z8 (v:List Int)(r:ByteArray)(t:Int)(h:v.length=8):(hash v r t)[9]? = some (.int .u64 t):=by
 unfold hash
 rw[Array.getElem?_append_right (by rw[Sha.BP];omega),Sha.BP,h]
 rfl
theorem mF (v:List Int)(r r' : ByteArray)(t:Int)(h:v.length=8):(hash v r t).setIfInBounds 8 (.string r')=hash v r' t:=by
 unfold hash
 rw[Array.setIfInBounds_append_right (by rw[Sha.BP];omega),Sha.BP,h]
 rfl
theorem mG (v:List Int)(r:ByteArray)(t t' : Int)(h:v.length=8):(hash v r t).setIfInBounds 9 (.int .u64 t')=hash v r t':=by
 unfold hash
 rw[Array.setIfInBounds_append_right (by rw[Sha.BP];omega),Sha.BP,h]
 rfl
theorem mH (s:ByteArray)(w:World)(h:s.size<=281474976710656):
 Calls Tryz.prog 164 #[.string s] w fun e w' => e=.returned (.string s)/\Below w.heap.size w w':=by
 go_enter Tryz.func164,Tryz.ntmps164
 go_wp2_with fail
 refine(Tryz.stringslite_Clone s _ h).mono ?_
 rintro e w' ⟨rfl,hb⟩
 go_wp2
 go_ret
 exact⟨rfl,hb⟩
theorem Wu (b:Nat)(m s:ByteArray)(w:World)(hs:s.size<=9223372036854775000)(hh:Held w b m):
 Calls Tryz.prog 108 #[.pointer (some ⟨b,0,none⟩),.string s] w fun e w' => e=.returned (.tuple #[])/\Held w' b (m++s)/\Fr (fun k=>k=b) w w':=by
 have hlt:=hh.lt
 have hl:=(Sha.Fu m).1
 have hc8:=hh.cell 8;have hc9:=hh.cell 9
 rw[kG _ _ _ hl] at hc8
 rw[Z8 _ _ _ hl] at hc9
 have f8:w.frozen? ⟨b,8,none⟩=false:=hh.free 8
 have f9:w.frozen? ⟨b,9,none⟩=false:=hh.free 9
 have hsz:¬ 9223372036854775807<(Sha.rest m).size+s.size:=by rw[Sha.LG];omega
 have HH:=zh hh;clear hh
 go_enter Tryz.func108,Tryz.ntmps108
 go_wp2_with fail
 have hmore:=Sha.fM m s
 have hrest:=Sha.mE m s
 rw[<- Sha.Ab] at hsz
 have hw0:At (w.setCell ⟨b,9,none⟩ (.int .u64 (IntKind.u64.wrap ((m.size:Int)%18446744073709551616+s.size)))) b 232 (hash (Sha.state m) (Sha.rest m) (((m++s).size:Int)%18446744073709551616)):=by
  have h:=At.set HH.out 9 (.int .u64 (IntKind.u64.wrap ((m.size:Int)%18446744073709551616+s.size)))
  rw[mG _ _ _ _ hl,IntKind.wrap_u64] at h
  rw[Sha.Ab,IntKind.wrap_u64]
  have e:((m.size+s.size:Nat):Int)%18446744073709551616=((m.size:Int)%18446744073709551616+s.size)%18446744073709551616:=by omega
  rw[e]
  exact h
 have zao:Fr (fun k=>k=b) w (w.setCell ⟨b,9,none⟩ (.int .u64 (IntKind.u64.wrap ((m.size:Int)%18446744073709551616+s.size))))   :=(Fr.refl (fun k=>k=b) w).setCell (p:=⟨b,9,none⟩) (Or.inl rfl) _
 generalize Sha.rest m++s=S at*
 generalize hT:((m++s).size:Int)%18446744073709551616=T at*
 have HT:=zh hT;clear hT
 have HW0:=zh hw0;have HF0:=zh zao;clear hw0 zao hc8 hc9 f8 f9
 have HM:=zh hmore;have HR:=zh hrest;clear hmore hrest
 go_loopw [1] (fun v wr=>∃ j:Nat,64*j<=S.size/\v=.string (S.extract (64*j) S.size)/\At wr b 232 (hash (Sha.run (Sha.state m) S j) (Sha.rest m) T)/\Fr (fun k=>k=b) w wr)
  (fun v _=>match v with|.string x=>x.size|_=>0)
 case atStart=>
  refine⟨0,by omega,?_,HW0.out,HF0.out⟩
  have:S.extract 0 S.size=S:=by apply Sha.Bl;rw[Sha.Ba,List.drop_zero];exact List.take_of_length_le (by rw[Sha.Aq];omega)
  rw[Nat.mul_zero,this]
 case round=>
  obtain⟨j,hj,rfl,hw,hf⟩:=hrel
  have hxs:(S.extract (64*j) S.size).size=S.size-64*j:=by
   rw[ByteArray.size_extract];omega
  by_cases hge:64<=S.size-64*j
  ·have dge:decide (64<=((S.extract (64*j) S.size).size:Int))=true:=by rw[hxs];simp;omega
   have HX:=zh hxs
   have HW:=zh hw;clear hw
   have HF:=zh hf;clear hf
   have h1:(S.extract (64*j) S.size).extract 0 64=S.extract (64*j) (64*j+64):=by
    apply Sha.Bl
    rw[Sha.Ba,Sha.Ba,Sha.Ba,List.drop_zero,List.take_take]
    congr 1
    omega
   have h2:(S.extract (64*j) S.size).extract 64 (S.size-64*j)=S.extract (64*(j+1)) S.size:=by
    apply Sha.Bl
    rw[Sha.Ba,Sha.Ba,Sha.Ba,List.drop_take,List.drop_drop,List.take_take,show 64*j+64=64*(j+1) by omega]
    congr 1
    omega
   have H1:=zh h1;have H2:=zh h2;clear h1 h2
   have h64:(S.extract (64*j) (64*j+64)).size=64:=by rw[ByteArray.size_extract];omega
   have H64:=zh h64;clear h64
   go_wp2_with fail
   rw[H1.out]
   refine(uE b _ _ _ _ wr H64.out ((Sha.Fu m).run S j) HW.out).mono ?_
   rintro e w1 ⟨rfl,hw,hf⟩
   have HW:=zh hw;clear hw
   have HF':=zh hf;clear hf
   go_wp2_with fail
   refine⟨⟨j+1,by omega,by rw[H2.out],HW.out,HF.out.trans HF'.out (fun k hk=>Or.inl hk)⟩,?_⟩
   show((S.extract (64*j) S.size).extract 64 (S.size-64*j)).size<(S.extract (64*j) S.size).size
   rw[H2.out,HX.out,ByteArray.size_extract]
   omega
  ·have hj' : j=S.size/64:=by omega
   have dge:decide (64<=((S.extract (64*j) S.size).size:Int))=false:=by rw[hxs];simp;omega
   have hx:S.extract (64*j) S.size=Sha.rest (m++s):=by rw[hj'];exact HR.out
   have hr:Sha.run (Sha.state m) S j=Sha.state (m++s):=by rw[hj'];exact HM.out
   rw[hr] at hw
   rw[hx] at hxs dge ⊢
   have hl':=(Sha.Fu (m++s)).1
   have f8:wr.frozen? ⟨b,8,none⟩=false:=hw.free 8
   have c8:=hw.cell 8
   rw[kG _ _ _ hl'] at c8
   have hlw:=hw.lt
   have HW:=zh hw;clear hw
   have HF:=zh hf;clear hf hj' hx hr
   go_wp2_with fail
   refine(mH _ _ (by omega)).mono ?_
   rintro e w1 ⟨rfl,hb⟩
   have hw1:=HW.out.below hb hlw
   have f8' : w1.frozen? ⟨b,8,none⟩=false:=hw1.free 8
   have c8':=hw1.cell 8
   rw[kG _ _ _ hl'] at c8'
   have HW1:=zh hw1
   have HB:=zh hb;clear hb hw1
   go_wp2
   go_end0
   refine⟨rfl,?_,(HF.out.trans (Fr.of_below HB.out) (F:=fun k=>k=b) (G:=fun k=>k=b) (fun k hk=>Or.inl hk)).setCell (p:=⟨b,8,none⟩) (Or.inl rfl) _⟩
   have h:=HW1.out.set 8 (.string (Sha.rest (m++s)))
   rw[mF _ _ _ _ hl'] at h
   unfold Held
   rw[HT.out]
   exact h
namespace Sha
def be4 (x:Int):List Int:=[x/16777216,x/65536%256,x/256%256,x%256]
def bytes (l:List Int):List Int:=l.flatMap be4
def pad (m:ByteArray):ByteArray:=⟨#[128]⟩++⟨(Lib.repeatL [0] ((119-m.size%64)%64)).toArray⟩++be8 (8*m.size%18446744073709551616)
def sha (m:ByteArray):ByteArray:=strOfNums (bytes (state (m++pad m)))
theorem uG (m:ByteArray):(⟨#[]⟩:ByteArray)++m=m:=by apply Bl;rw[Bf];rfl
theorem mJ (l:List Int):(bytes l).length=4*l.length:=by
 induction l with
 | nil=>rfl
 | cons x l ih=>simp only[bytes,List.flatMap_cons,List.length_append,List.length_cons,be4,List.length_nil] at ih ⊢;omega
theorem SG (l:List Int)(k:Nat)(h:k<l.length):bytes (l.take (k+1))=bytes (l.take k)++be4 (l.getD k 0):=by
 rw[bytes,bytes,List.take_succ_eq_append_getElem h,List.flatMap_append]
 congr 1
 rw[List.flatMap_cons,List.flatMap_nil,List.append_nil,List.getD_eq_getElem?_getD,List.getElem?_eq_getElem h]
 rfl
theorem Bn (m:ByteArray):(sha m).size=32:=by
 rw[sha,strOfNums_size,mJ,(Fu _).1]
end Sha
theorem Wv:(Tryz.prog.info? 232).map (·.size)=some 10:=by kernel_rfl
theorem mK:(Tryz.prog.info? 232).map (·.zero)=some (some (.agg (hash (List.replicate 8 0) ⟨#[]⟩ 0))):=by kernel_rfl
theorem Px (v:List Int)(r:ByteArray)(t:Int)(h:v.length=8):(hash v r t).size=10:=by simp[hash,Sha.BP,h]
theorem pJ (v:List Int)(r:ByteArray)(t:Int):∀ x∈(hash v r t).toList,x.oneCell' = true:=by
 intro x hx
 unfold hash at hx
 rw[Array.toList_append,List.mem_append] at hx
 rcases hx with hx|hx
 ·exact Sha.row_one v x hx
 ·simp at hx
  rcases hx with rfl|rfl<;>rfl
theorem XK (b:Nat)(v:List Int)(r:ByteArray)(t:Int)(w:World)(hl:v.length=8)(hh:At w b 232 (hash v r t)):
 Calls Tryz.prog 165 #[.pointer (some ⟨b,0,none⟩)] w fun e w' => e=.returned (.pointer (some ⟨w.heap.size,0,none⟩))/\w' = w.alloc (.cells (hash v r t) 232):=by
 have hlt:=hh.lt
 go_enter Tryz.func165,Tryz.ntmps165
 go_upto_region 1 with (fail)
 refine wp_region_lit ?_
 refine Kg (.pointer (some ⟨b,0,none⟩)) rfl (by rfl) ?_
 refine Kg (.pointer (some ⟨b,0,none⟩)) rfl (by rfl) ?_
 refine wpList_load_row rfl 232 _ rfl b rfl 232 (hash v r t) (0,0) _ hh Tryz.underlying232 rfl (by rw[Px _ _ _ hl];exact Wv) ?_
 refine Fh rfl 232 rfl (hash (List.replicate 8 0) ⟨#[]⟩ 0) mK ?_
 refine wpList_store_row rfl _ _ _ rfl w.heap.size _ _ (hash v r t) (by rfl) (by rfl) (At.new _ _ _) (by rw[Px _ _ _ hl];rfl) (by rw[Px _ _ _ hl];exact Wv) (pJ _ _ _) ?_
 rw[NC]
 obtain⟨cs,hcs⟩:∃ cs,cs=hash v r t:=⟨_,rfl⟩
 rw[<- hcs]
 have HC:=zh hcs;clear hcs
 go_wp2
 go_ret
 exact⟨rfl,by rw[HC.out]⟩
theorem pK (b:Nat)(m:ByteArray)(w:World)(hh:Held w b m):
 Calls Tryz.prog 109 #[.pointer (some ⟨b,0,none⟩)] w fun e w' => e=.returned (.string (Sha.sha m))/\Below w.heap.size w w':=by
 have hlt:=hh.lt
 have hl:=(Sha.Fu m).1
 go_enter Tryz.func109,Tryz.ntmps109
 go_wp2_with fail
 refine(XK b _ _ _ w hl hh).mono ?_
 rintro e w1 ⟨rfl,rfl⟩
 obtain⟨w1,hw1⟩:∃ x,x=w.alloc (.cells (hash (Sha.state m) (Sha.rest m) ((m.size:Int)%18446744073709551616)) 232):=⟨_,rfl⟩
 have hc:Held w1 w.heap.size m:=by rw[hw1];exact At.new _ _ _
 have hb1:Below w.heap.size w w1:=by rw[hw1];exact zb
 have hsz1:w1.heap.size=w.heap.size+1:=by rw[hw1,World.size_alloc]
 rw[<- hw1]
 clear hw1
 have hc8:=hc.cell 8
 rw[kG _ _ _ hl] at hc8
 have hob:=hh.below hb1 hlt
 have hc9:=hob.cell 9
 rw[Z8 _ _ _ hl] at hc9
 have HH:=zh hh;have HC:=zh hc;have HB1:=zh hb1;have HOB:=zh hob
 clear hh hc hb1 hob
 have hrs:=Sha.LG m
 have HC9:=zh hc9;clear hc9
 go_wp2_with fail
 have hz:(119-(m.size:Int)%64)%64=(((119-m.size%64)%64:Nat):Int):=by omega
 rw[hz]
 generalize hzn:(119-m.size%64)%64=z
 have HZN:=zh hzn
 have zbH:z<64:=by omega
 clear hzn hz
 refine Lex.zn (fun k=>k=b) [7] 11 [3,7] ?_
 simp only[Lex.Bh,zd]
 go_wp2_with fail
 refine(Tryz.strings_Repeat ⟨#[0]⟩ _ _ (by omega) (by show 1*_<=_;omega)).mono ?_
 rintro e w2 ⟨rfl,hb2⟩
 have hb2:Below w1.heap.size w1 w2:=((Below.refl w1.heap.size w1).drew).trans hb2
 have zaq:Held w2 w.heap.size m:=At.below (B:=w1.heap.size) HC.out hb2 (by omega)
 have uH:=At.below (B:=w1.heap.size) HOB.out hb2 (by omega)
 have hc9:=uH.cell 9
 rw[Z8 _ _ _ hl] at hc9
 have hsz2:=hb2.size
 have HB2:=zh hb2;have HC2:=zh zaq;have zcU:=zh uH;clear hb2 zaq uH
 have hrs:(⟨(Lib.repeatL (⟨#[0]⟩:ByteArray).data.toList z).toArray⟩:ByteArray).size=z:=by
  show(Lib.repeatL [0] z).toArray.size=z
  simp[Lib.repeatL_length]
 generalize hR:(⟨(Lib.repeatL (⟨#[0]⟩:ByteArray).data.toList z).toArray⟩:ByteArray)=R at*
 have HR:=zh hR;clear hR
 clear hb2
 go_wp2
 refine Lex.Mid.intro (fun k _ hk=>HB2.out.block k hk) ?_
 go_wp2_with fail
 obtain⟨N,hN⟩:∃ N,N=8*m.size%18446744073709551616:=⟨_,rfl⟩
 have hNw:IntKind.u64.wrap (8*((m.size:Int)%18446744073709551616))=(N:Int):=by rw[IntKind.wrap_u64,hN];omega
 rw[hNw]
 have hNl:N<18446744073709551616:=by omega
 have HN:=zh hN;clear hN hNw
 refine(fJ N w2 hNl).mono ?_
 rintro e w3 ⟨rfl,hb3⟩
 have XL : Below w1.heap.size w1 w3:=HB2.out.trans (hb3.mono (by omega))
 have hc3:Held w3 w.heap.size m:=At.below (B:=w1.heap.size) HC.out XL (by omega)
 have HB3:=zh XL;have HC3:=zh hc3
 have Py:=hb3.size
 have hcb:=(At.below (B:=w1.heap.size) HOB.out XL (by omega)).cell 9
 rw[Z8 _ _ _ hl] at hcb
 clear hb3 XL hc3
 have hbs:=He N
 generalize hB8:be8 N=B8 at*
 have HB8:=zh hB8;clear hB8
 go_wp2
 refine Lex.Mid.intro (fun k _ hk=>HB3.out.block k hk) ?_
 go_wp2_with fail
 have zar:(⟨#[128]⟩:ByteArray)++R++B8=Sha.pad m:=by
  rw[Sha.pad,<- HR.out,HZN.out,<- HN.out,HB8.out]
 have zbI:(Sha.pad m).size<=9223372036854775000:=by
  rw[<- zar,Sha.Ab,Sha.Ab,hrs,hbs]
  show 1+z+8<=_
  omega
 rw[zar]
 refine(Wu w.heap.size m _ w3 zbI HC3.out).mono ?_
 rintro e w4 ⟨rfl,hc4,hf4⟩
 have hb4:Below w.heap.size w w4:=(HB1.out.trans (HB3.out.mono (by omega))).trans (hf4.below (by have:=HB3.out.size;omega) (fun k hk=>by omega))
 have zas:=(HH.out.below hb4 hlt).cell 9
 rw[Z8 _ _ _ hl] at zas
 have HC4:=zh hc4;have HB4:=zh hb4;clear hc4 hb4 hf4
 go_wp2
 refine Lex.zk ⟨⟨rfl,by show(w1.cell? ⟨b,9,none⟩).isSome=true;rw[HC9.out];rfl⟩,trivial⟩ ?_
 clear hc9 hcb zas hc8
 have hwd:=Sha.Fu (m++Sha.pad m)
 obtain⟨z0,z1,z2,z3,z4,z5,z6,z7,hz,d0,d1,d2,d3,d4,d5,d6,d7⟩:=hwd.lit
 have hc4:=HC4.out
 unfold Held at hc4
 rw[hz,SE] at hc4
 have v0:=hc4.cell 0;have v1:=hc4.cell 1;have v2:=hc4.cell 2;have v3:=hc4.cell 3;have v4:=hc4.cell 4;have v5:=hc4.cell 5;have v6:=hc4.cell 6;have v7:=hc4.cell 7
 simp only[zg] at v0 v1 v2 v3 v4 v5 v6 v7
 have HZ:=zh hz;clear hz hc4 hwd
 go_wp2_with fail
 have hl:([z0,z1,z2,z3,z4,z5,z6,z7]:List Int).length=8:=rfl
 have hbd:∀ x∈([z0,z1,z2,z3,z4,z5,z6,z7]:List Int),0<=x/\x<4294967296:=by
  intro x hx
  simp only[List.mem_cons,List.mem_nil_iff,or_false] at hx
  rcases hx with rfl|rfl|rfl|rfl|rfl|rfl|rfl|rfl<;>assumption
 have hzz:(#[.int .u32 z0,.int .u32 z1,.int .u32 z2,.int .u32 z3,.int .u32 z4,.int .u32 z5,.int .u32 z6,.int .u32 z7]:Array Value)=Sha.row [z0,z1,z2,z3,z4,z5,z6,z7]:=rfl
 rw[hzz]
 generalize [z0,z1,z2,z3,z4,z5,z6,z7]=zs at*
 clear hzz v0 v1 v2 v3 v4 v5 v6 v7
 obtain⟨i0,hi,hz0,hz1,hz2⟩:=info_parts Lm
 have hnil:=World.ownsRow_nil w4 w4.heap.size 5 1
 go_loopw [33,5] (fun i v wr=>∃ k:Nat,k<=8/\i=.int .i64 k/\wr.ownsRow w4.heap.size 5 1 v (4*k) ((Sha.bytes (zs.take k)).map (Value.int .u8))/\Below w4.heap.size w4 wr)
  (fun i _ _=>8-(intOf i).toNat)
 case atStart=>
  exact⟨0,by omega,rfl,hnil,Below.refl _ _⟩
 case round=>
  obtain⟨k,hk,rfl,how,hbr⟩:=hrel
  by_cases hk8:k<8
  ·have dk:decide ((k:Int)<8)=true:=by simp;omega
   have rk:(Sha.row zs)[k]? = some (.int .u32 (zs.getD k 0)):=by
    rw[Sha.Gs,List.getElem?_eq_getElem (by omega),List.getD_eq_getElem?_getD,List.getElem?_eq_getElem (by omega)]
    rfl
   have hsn:=Sha.SG zs k (by omega)
   have hx:0<=zs.getD k 0/\zs.getD k 0<4294967296:=by
    rw[List.getD_eq_getElem?_getD,List.getElem?_eq_getElem (by omega)]
    exact hbd _ (List.getElem_mem _)
   generalize zs.getD k 0=x at*
   have HOW:=zh how;clear how
   have HBR:=zh hbr;clear hbr
   have HSN:=zh hsn;clear hsn
   go_wp2_with fail
   rw[GL 229 204 8 (Sha.row zs) .i64 k _ _ rfl hk8 rk Tryz.sizeOf204 Tryz.isAgg204]
   have h16:x/16777216<256:=by omega
   go_wp2_with (at_builtin;go_must (refine wpList_append_own_at _ rfl _ _ 116 rfl w4.heap.size 5 i0 (.int .u8 0) 1 1 Tryz.underlying116 hi hz0 hz1 hz2 rfl (by omega) _ (4*k) _ rfl (HOW.out.alloc _) ⟨wr.heap.size,0,none⟩ 4 4 ((Sha.be4 x).map (Value.int .u8)) rfl rfl ?c1 ?c2 ?c3 ?c4 ?c5 ?_))
   case c1=>
    intro j u hj
    match j,hj with
    | 0,hj=>simp[Sha.be4] at hj;subst hj;simp[Addr.add]
    | 1,hj=>simp[Sha.be4] at hj;subst hj;simp[Addr.add]
    | 2,hj=>simp[Sha.be4] at hj;subst hj;simp[Addr.add]
    | 3,hj=>simp[Sha.be4] at hj;subst hj;simp[Addr.add]
   case c2=>intro u hu;simp[Sha.be4] at hu;rcases hu with rfl|rfl|rfl|rfl<;>rfl
   case c3=>unfold maxLen;omega
   case c4=>omega
   case c5=>have:=HBR.out.size;simp;omega
   intro v' w' how' hg _ _
   have hb' : Below w4.heap.size w4 w':=Cw (HBR.out.alloc (by have:=HBR.out.size;omega) _) (by have:=HBR.out.size;simp;omega) HOW.out hg
   have ho' : w'.ownsRow w4.heap.size 5 1 v' (4*(k+1)) ((Sha.bytes (zs.take (k+1))).map (Value.int .u8)):=by
    rw[HSN.out,List.map_append]
    exact how'
   have HO:=zh ho';have HBB:=zh hb';clear how' hg ho' hb'
   go_wp2
   go_roundw
   case rel=>exact⟨k+1,by omega,by go_num,HO.out,HBB.out⟩
   case measure=>simp[intOf];omega
  ·have hk' : k=8:=by omega
   have dk:decide ((k:Int)<8)=false:=by simp;omega
   have HK:=zh hk';clear hk'
   have HOW:=zh how;clear how
   have HBR:=zh hbr;clear hbr
   go_wp2_with fail
   rw[Dl wr 116 5 9 rfl rfl rfl _ HOW.out]
   have htk:zs.take k=zs:=List.take_of_length_le (by rw[HK.out,hl];omega)
   rw[htk,<- HZ.out]
   go_wp2
   go_ret
   exact⟨rfl,HB4.out.trans (HBR.out.mono HB4.out.size)⟩
theorem Dw (m:ByteArray)(w:World)(hs:m.size<=9223372036854775000):
 Calls Tryz.prog 54 #[.string m] w fun e w' => e=.returned (.string (Sha.sha m))/\Below w.heap.size w w':=by
 go_enter Tryz.func54,Tryz.ntmps54
 go_wp2_with fail
 refine(uF w).mono ?_
 rintro e w1 ⟨rfl,rfl⟩
 have hc:Held (w.alloc (.cells (hash [1779033703,3144134277,1013904242,2773480762,1359893119,2600822924,528734635,1541459225] ⟨#[]⟩ 0) 232)) w.heap.size ⟨#[]⟩:=At.new _ _ _
 have HC:=zh hc;clear hc
 go_wp2_with fail
 refine(Wu w.heap.size _ m _ hs HC.out).mono ?_
 rintro e w2 ⟨rfl,hc2,hf⟩
 rw[Sha.uG] at hc2
 have hb:Below w.heap.size w w2:=((Below.refl w.heap.size w).alloc (Nat.le_refl _) _).trans (hf.below (by simp) (fun k hk=>by omega))
 have HC2:=zh hc2;have HB:=zh hb;clear hc2 hf hb
 go_wp2_with fail
 refine(pK w.heap.size m w2 HC2.out).mono ?_
 rintro e w3 ⟨rfl,hb3⟩
 have hb4:=HB.out.trans (hb3.mono HB.out.size)
 have HB4:=zh hb4;clear hb3 hb4
 go_wp2
 go_ret
 exact⟨rfl,HB4.out⟩
end
section
open Go Go.RowKit Go.Maps
def Bb (n:Int):Int:=if n<0\/65536<n then 0 else if n=0 then 1 else (n+436)/437
theorem SH (n:Int)(w:World):Calls Tryz.prog 69 #[.int .i64 n] w fun e w' => e=.returned (.int .i64 (Bb n))/\w' = w:=by
 by_cases h:n<0\/65536<n
 ·have e:Bb n=0:=by unfold Bb;rw[if_pos h]
  have HE:=zh e;clear e
  go_enter Tryz.func69,Tryz.ntmps69
  go_wp2_with fail
  all_goals first|(go_ret;exact⟨by rw[HE.out];rfl,rfl⟩)|(exfalso;omega)
 ·have hn:0<=n/\n<=65536:=by omega
  have e:Bb n=if n=0 then 1 else (n+436)/437:=by unfold Bb;rw[if_neg h]
  have HE:=zh e;clear e h
  go_enter Tryz.func69,Tryz.ntmps69
  go_wp2
  go_ret
  refine⟨?_,rfl⟩
  show Ending.returned (.int .i64 (max 1 ((n+437-1)/437)))=_
  rw[HE.out]
  have e:max 1 ((n+437-1)/437)=if n=0 then 1 else (n+436)/437:=by
   split
   ·omega
   ·omega
  rw[e]
def big (n size:Nat):ByteArray:=⟨((List.range size).map fun j=>(n/2^(8*(size-1-j))%256).toUInt8).toArray⟩
def Ec (n size k:Nat):Array Value:=((List.range size).map fun j=>Value.int .u8 (if size-1-j<k then ((n/2^(8*(size-1-j))%256:Nat):Int) else 0)).toArray
theorem Il (n size k:Nat):(Ec n size k).size=size:=by simp[Ec]
theorem Ez (n size k j:Nat)(h:j<size):(Ec n size k)[j]? = some (.int .u8 (if size-1-j<k then ((n/2^(8*(size-1-j))%256:Nat):Int) else 0)):=by
 simp[Ec,h]
theorem SI (n size k:Nat)(h:k<size):(Ec n size k).setIfInBounds (size-1-k) (.int .u8 ((n/2^(8*k)%256:Nat):Int))=Ec n size (k+1):=by
 apply Array.ext_getElem?
 intro j
 rw[Array.getElem?_setIfInBounds]
 by_cases hj:j<size
 ·by_cases hk:size-1-k=j
  ·subst hk
   rw[if_pos rfl,if_pos (by rw[Il];omega),Ez _ _ _ _ hj]
   have e:size-1-(size-1-k)=k:=by omega
   rw[e,if_pos (by omega)]
  ·rw[if_neg hk,Ez _ _ _ _ hj,Ez _ _ _ _ hj]
   have h1:(size-1-j<k)↔(size-1-j<k+1):=by omega
   simp only[h1]
 ·have h1:(Ec n size k)[j]? = none:=Array.getElem?_eq_none (by rw[Il];omega)
  have h2:(Ec n size (k+1))[j]? = none:=Array.getElem?_eq_none (by rw[Il];omega)
  rw[h1,h2]
  split
  ·rename_i hk
   rw[Il]
   simp
   omega
  ·rfl
theorem Bq (n size:Nat):(big n size).size=size:=by simp[big,ByteArray.size]
theorem Ww:(Tryz.prog.info? 5).map (fun i=>(i.zero,i.size,i.bytes))=some (some (.int .u8 0),1,1):=by kernel_rfl
theorem NP (n size:Nat)(w:World)(hn:n<9223372036854775808)(h1:1<=size)(h2:size<=8):
 Calls Tryz.prog 133 #[.int .i64 n,.int .i64 size] w fun e w' => e=.returned (.string (big n size))/\Below w.heap.size w w':=by
 obtain⟨i0,hi,hz0,hz1,hz2⟩:=info_parts Ww
 go_enter Tryz.func133,Tryz.ntmps133
 go_wp2_with (at_make;go_must (refine wpList_make_full _ rfl _ _ 116 rfl w.heap.size 5 i0 (.int .u8 0) 1 Tryz.underlying116 hi hz0 hz1 .i64 .i64 size size size rfl rfl rfl rfl (by rw[hz2];omega) (by unfold maxLen;omega) (Nat.le_refl _) ?_);intro w1 how hg;have hat:=Sc how;clear how)
 have hB:Below w.heap.size w w1:=(Below.refl _ _).grown hg (Nat.le_refl _) (fun k hk=>by cases hk)
 have hrow:At w1 w.heap.size 5 (Ec n size 0):=by
  have e:(madeCells (Value.int .u8 0).cells (size*1)).toList.toArray=Ec n size 0:=by
   rw[Nat.mul_one]
   show(madeCells #[Value.int .u8 0] size).toList.toArray=_
   rw[toList_madeCells_one]
   simp[Ec,List.map_const']
  exact e ▸ hat
 have HB:=zh hB;have HR:=zh hrow;clear hB hrow hat hg
 go_wp2
 go_loopw [11] (fun i wr=>∃ k:Nat,k<=size/\i=.int .i64 k/\At wr w.heap.size 5 (Ec n size k)/\Below w.heap.size w wr)
  (fun i _=>size-(intOf i).toNat)
 case atStart=>exact⟨0,by omega,rfl,HR.out,HB.out⟩
 case round=>
  obtain⟨k,hk,rfl,hw,hb⟩:=hrel
  by_cases hlt:k<size
  ·have dk:decide ((k:Int)<size)=true:=by simp;omega
   have fz:wr.frozen? ⟨w.heap.size,size-1-k,none⟩=false:=hw.free _
   have ce:=hw.cell (size-1-k)
   rw[Ez _ _ _ _ (by omega)] at ce
   have hix:((size:Int)-1-k).toNat=size-1-k:=by omega
   have HW:=zh hw;clear hw
   have HBB:=zh hb;clear hb
   go_wp2_with fail
   refine⟨⟨k+1,by omega,by go_num,?_,HBB.out.setCell (p:=⟨w.heap.size,size-1-k,none⟩) (Nat.le_refl _) _⟩,by simp[intOf];omega⟩
   have h:=HW.out.set (size-1-k) (.int .u8 ((n/2^(8*k)%256:Nat):Int))
   rw[SI n size k hlt] at h
   have e:((n/2^(8*k)%256:Nat):Int)=(n:Int)/2^(8*k)%256:=by
    rw[Int.natCast_emod,Int.natCast_ediv,Int.natCast_pow];rfl
   rw[e] at h
   exact h
  ·have hk' : k=size:=by omega
   have dk:decide ((k:Int)<size)=false:=by simp;omega
   have hB:Lib.Bytes wr w.heap.size 0 (big n size):=by
    intro i hi
    rw[Bq] at hi
    rw[Nat.zero_add,hw.cell,Ez _ _ _ _ hi,if_pos (by omega)]
    have e:(big n size)[i]'(by rw[Bq];exact hi)=(n/2^(8*(size-1-i))%256).toUInt8:=by
     show(big n size).data[i]'_=_
     simp[big]
    have e2:(n/2^(8*(size-1-i))%256).toUInt8.toNat=n/2^(8*(size-1-i))%256:=by
     show(UInt8.ofNat _).toNat=_
     rw[UInt8.toNat_ofNat']
     omega
    rw[<- e2]
    exact congrArg (fun x:UInt8=>some (Value.int .u8 (x.toNat:Int))) e.symm
   have hc:=Lib.run_convert_whole (P:=Tryz.prog) wr 116 5 9 rfl rfl rfl _ _ _ hB size
   rw[Bq] at hc
   have HBB:=zh hb;clear hb hw hk' hB
   have HC:=zh hc;clear hc
   go_wp2_with fail
   rw[HC.out]
   go_wp2
   go_ret
   exact⟨rfl,HBB.out⟩
structure Bg where
 jb:Nat
 da:Nat
 first:Nat
 count:Nat
 epoch:Nat
 rv:Value
 recs:List ByteArray
 next:Nat
 chain:ByteArray
def Bg.foot (j:Bg)(k:Nat):Prop:=k=j.jb\/j.rv.ownBlock=some k
def Bg.cells (j:Bg):Array Value:=#[.pointer (some ⟨j.da,0,none⟩),.int .i64 j.first,.int .i64 j.count,.int .i64 j.epoch,j.rv,.int .i64 j.next,.string j.chain]
structure Cq (w:World) (j:Bg):Prop where
 self:At w j.jb 183 j.cells
 recs:w.ownsRow 0 9 1 j.rv j.recs.length (j.recs.map Value.string)
 few:j.recs.length<=1000000
 count:j.count<=4096
 next:j.next<=j.count
theorem Cq.lt {w:World}{j:Bg}(h:Cq w j):∀ k,j.foot k->k<w.heap.size:=by
 intro k hk
 rcases hk with rfl|hk
 ·exact h.self.lt
 ·obtain⟨cur,hc⟩:=Ao h.recs hk;exact hc.lt
theorem Cq.keep {w w' : World}{j:Bg}(h:Cq w j)(hk:∀ k,j.foot k->w'.heap[k]? = w.heap[k]?):Cq w' j:=
 ⟨h.self.keep (hk _ (.inl rfl)),Ar h.recs (fun k hb=>hk k (.inr hb)),h.few,h.count,h.next⟩
theorem Cq.below {B:Nat}{w w' : World}{j:Bg}(h:Cq w j)(hb:Below B w w')(hB:w.heap.size<=B):Cq w' j:=
 h.keep fun k hk=>hb.block k (Nat.lt_of_lt_of_le (h.lt k hk) hB)
theorem Pz (j:Bg)(w:World)(h:Cq w j):
 Calls Tryz.prog 70 #[.pointer (some ⟨j.jb,0,none⟩)] w fun e w' => e=.returned (.int .i64 ((j.count:Int)-j.next))/\w' = w.drew:=by
 have h2:=h.self.cell 2;have h5:=h.self.cell 5
 simp only[Bg.cells,List.getElem?_toArray,List.getElem?_cons_zero,List.getElem?_cons_succ] at h2 h5
 have hc:=h.count;have hn:=h.next
 clear h
 go_enter Tryz.func70,Tryz.ntmps70
 go_wp2
 refine Lex.zl ?_
 go_wp2
 refine Lex.ze ?_
 go_wp2
 go_ret
 exact⟨rfl,rfl⟩
theorem NR:(Tryz.prog.info? 9).map (fun i=>(i.zero,i.size,i.bytes))=some (some (.string ⟨#[]⟩),1,16):=by kernel_rfl
theorem XM (j:Bg)(w:World)(h:Cq w j):
 Calls Tryz.prog 56 #[.pointer (some ⟨j.jb,0,none⟩)] w fun e w' => ∃ v,e=.returned v/\w'.ownsRow w.heap.size 9 1 v j.recs.length (j.recs.map Value.string)/\Below w.heap.size w w':=by
 obtain⟨i0,hi,hz0,hz1,hz2⟩:=info_parts NR
 have h4:=h.self.cell 4
 simp only[Bg.cells,List.getElem?_toArray,List.getElem?_cons_zero,List.getElem?_cons_succ] at h4
 have fO:=h.few
 have zat:=h.recs
 clear h
 obtain⟨hl,⟨hv,h0⟩|⟨g,cap,cur,hv,hb,hc,hcap,hm,hcs,ht⟩⟩:=zat
 ·rw[hv] at h4
  have hnil:j.recs=[]:=List.eq_nil_of_length_eq_zero h0
  rw[hnil]
  clear hl hv h0 hnil
  go_enter Tryz.func56,Tryz.ntmps56
  go_wp2
  go_ret
  exact⟨_,rfl,World.ownsRow_nil _ _ _ _,Below.refl _ _⟩
 ·rw[hv] at h4
  have hcell:∀ i x,(j.recs.map Value.string)[i]? = some x->w.cell? ⟨g,0+i,none⟩=some x:=by
   intro i x hx
   rw[Nat.zero_add,At.cell hc i,<- Array.getElem?_toList]
   rw[<- ht,List.getElem?_take] at hx
   split at hx
   ·exact hx
   ·cases hx
  clear hv hc hcs ht hb hcap hm
  go_enter Tryz.func56,Tryz.ntmps56
  go_wp2_with (at_builtin;go_must (refine wpList_append_own_at _ rfl _ _ 23 rfl w.heap.size 9 i0 _ 1 16 Tryz.underlying23 hi hz0 hz1 hz2 rfl (by omega) _ 0 [] rfl (World.ownsRow_nil _ _ _ _) ⟨g,0,none⟩ j.recs.length cap (j.recs.map Value.string) rfl hl ?c1 ?c2 ?c3 ?c4 ?c5 ?_))
  case c1=>
   intro i u hu
   rw[Addr.add_mid]
   exact hcell i u hu
  case c2=>intro u hu;simp at hu;obtain⟨s,_,rfl⟩:=hu;rfl
  case c3=>unfold maxLen;omega
  case c4=>omega
  case c5=>exact Nat.le_refl _
  intro v' w' how hg _ _
  have hB:Below w.heap.size w w':=(Below.refl w.heap.size w).grown hg (Nat.le_refl _) (fun k hk=>by cases hk)
  have hvs:∃ b l c',v' = .slice b l c':=by
   obtain⟨_,⟨h0,_⟩|⟨g',cap',cur',h0,_⟩⟩:=how
   ·exact⟨_,_,_,h0⟩
   ·exact⟨_,_,_,h0⟩
  obtain⟨vb,vl,vc,rfl⟩:=hvs
  have HO:=zh how;have HB:=zh hB;clear how hg hB
  go_wp2
  go_ret
  exact⟨_,rfl,HO.out,HB.out⟩
structure Pg where
 check:ByteArray
 digest:ByteArray
 data:ByteArray
 last:Bool
def Pg.row (p:Pg):Array Value:=#[.string p.check,.string p.digest,.string p.data,.bool p.last]
def Pg.none:Pg:=⟨⟨#[]⟩,⟨#[]⟩,⟨#[]⟩,false⟩
def AJ (s:ByteArray)(i:Nat):Nat:=(s.data.toList.getD i 0).toNat
def Dx (s:ByteArray):Nat:=AJ s 41*256+AJ s 42
def Ju (epoch:Nat)(s chain:ByteArray):Bool:=
 (s.size==512)&&((Sha.sha (⟨#[8]⟩++chain++s.extract 32 512)).toList==(s.extract 0 32).toList)&&((s.extract 32 40).toList==(big epoch 8).toList)
def Ed (s:ByteArray):Bool:=
 decide (AJ s 40<=1)&&decide (Dx s<=437) && !(decide (AJ s 40=0) && !decide (Dx s=437))&&((⟨(Lib.trimB (s.extract (75+Dx s) 512).data.toList 0).toArray⟩:ByteArray).toList==[])
def parsed (epoch:Nat)(s chain:ByteArray):Option Pg:=
 if Ju epoch s chain&&Ed s then some ⟨s.extract 0 32,s.extract 43 75,s.extract 75 (75+Dx s),AJ s 40==1⟩ else Option.none
theorem mM:(Tryz.prog.info? 237).map (·.size)=some 4:=by kernel_rfl
theorem Cz {tmps:Array Value}{w:World}{g:Nat}{cs:Array Value}{b:Bool}(hp:tmps.getD 6 undef=.pointer (some ⟨g,0,none⟩))(hb:tmps.getD 7 undef=.bool b)(hat:At w g 237 cs)(hs:cs.size=4):
 (results Tryz.f206 tmps).run Tryz.prog w=.ok (.tuple #[.agg cs,.bool b]) w:=by
 rw[results_cell_tmp (p:=6) (u:=7) (ty:=237) rfl,hp,hb]
 simp[asAddr,run_loadVar_row w g 237 237 cs (0,0) _ hat Tryz.underlying237 rfl (by rw[hs];exact mM)]
theorem fP (j:Bg)(s chain:ByteArray)(w:World)(hj:Cq w j)(hs:s.size≠512)(hm:s.size<=9223372036854775000):
 Calls Tryz.prog 206 #[.pointer (some ⟨j.jb,0,none⟩),.string s,.string chain] w fun e w' => e=.returned (.tuple #[.agg Pg.none.row,.bool false])/\Below w.heap.size w w':=by
 have h3:=hj.self.cell 3
 simp only[Bg.cells,List.getElem?_toArray,List.getElem?_cons_zero,List.getElem?_cons_succ] at h3
 have hjl:=hj.self.lt
 clear hj
 have ds:((s.size:Int) != 512)=true:=by simp;omega
 go_enter Tryz.func206,Tryz.ntmps206
 go_wp2
 refine Lex.zl ?_
 go_wp2
 refine Lex.ze ?_
 go_wp2_with fail
 refine bodyPost_ret (v:=.tuple #[.agg Pg.none.row,.bool false]) (Cz (g:=w.heap.size) rfl rfl ?_ rfl) rfl ⟨rfl,?_⟩
 ·exact(At.new _ _ _).drew
 ·exact zb.drew
theorem mO (j:Bg)(s chain:ByteArray)(w:World)(hj:Cq w j)(hch:chain.size<=1000)(hs:s.size=512)(hb:((Sha.sha (⟨#[8]⟩++chain++s.extract 32 512)).toList==(s.extract 0 32).toList)=false):
 Calls Tryz.prog 206 #[.pointer (some ⟨j.jb,0,none⟩),.string s,.string chain] w fun e w' => e=.returned (.tuple #[.agg Pg.none.row,.bool false])/\Below w.heap.size w w':=by
 have h3:=hj.self.cell 3
 simp only[Bg.cells,List.getElem?_toArray,List.getElem?_cons_zero,List.getElem?_cons_succ] at h3
 have hjl:=hj.self.lt
 clear hj
 have hsz:(⟨#[8]⟩++chain++s.extract 32 512:ByteArray).size<=9223372036854775000:=by
  rw[Sha.Ab,Sha.Ab,ByteArray.size_extract]
  show 1+_+_<=_
  omega
 go_enter Tryz.func206,Tryz.ntmps206
 go_wp2
 refine Lex.zl ?_
 go_wp2_with fail
 refine(Dw _ _ hsz).mono ?_
 rintro e w1 ⟨rfl,hb1⟩
 have fQ:=hb1.block
 have hb1:Below w.heap.size w w1:=(((Below.refl w.heap.size w).alloc (Nat.le_refl _) _).drew).trans (hb1.mono (by simp))
 have hrow:At w1 w.heap.size 237 #[.string ⟨#[]⟩,.string ⟨#[]⟩,.string ⟨#[]⟩,.bool false]:=by
  have h:=(At.new w 237 #[.string ⟨#[]⟩,.string ⟨#[]⟩,.string ⟨#[]⟩,.bool false]).drew
  exact h.keep (fQ _ (by simp))
 obtain⟨c0,c1,c2,c3⟩:=hrow.c4
 have z0:w1.frozen? ⟨w.heap.size,0,none⟩=false:=hrow.free 0
 have z1:w1.frozen? ⟨w.heap.size,1,none⟩=false:=hrow.free 1
 have z2:w1.frozen? ⟨w.heap.size,2,none⟩=false:=hrow.free 2
 have z3:w1.frozen? ⟨w.heap.size,3,none⟩=false:=hrow.free 3
 have HB1:=zh hb1;have HR:=zh hrow;clear hb1 hrow
 go_wp2
 refine Lex.ze ?_
 go_wp2_with fail
 refine bodyPost_ret (v:=.tuple #[.agg Pg.none.row,.bool false]) (Cz (g:=w.heap.size) rfl rfl ?_ rfl) rfl ⟨rfl,?_⟩
 ·exact(((HR.out.set 0 _).set 1 _).set 2 _).set 3 _
 ·exact((((HB1.out.setCell (p:=⟨w.heap.size,0,none⟩) (Nat.le_refl _) _).setCell (p:=⟨w.heap.size,1,none⟩) (Nat.le_refl _) _).setCell (p:=⟨w.heap.size,2,none⟩) (Nat.le_refl _) _).setCell (p:=⟨w.heap.size,3,none⟩) (Nat.le_refl _) _)
theorem Z9 (j:Bg)(s chain:ByteArray)(w:World)(hj:Cq w j)(hch:chain.size<=1000)(he:j.epoch<9223372036854775808)(hs:s.size=512)(ha:((Sha.sha (⟨#[8]⟩++chain++s.extract 32 512)).toList==(s.extract 0 32).toList)=true)(hb:((s.extract 32 40).toList==(big j.epoch 8).toList)=false):
 Calls Tryz.prog 206 #[.pointer (some ⟨j.jb,0,none⟩),.string s,.string chain] w fun e w' => e=.returned (.tuple #[.agg Pg.none.row,.bool false])/\Below w.heap.size w w':=by
 have hjl:=hj.self.lt
 have HJ:=zh hj;clear hj
 have hsz:(⟨#[8]⟩++chain++s.extract 32 512:ByteArray).size<=9223372036854775000:=by
  rw[Sha.Ab,Sha.Ab,ByteArray.size_extract]
  show 1+_+_<=_
  omega
 go_enter Tryz.func206,Tryz.ntmps206
 go_wp2
 refine Lex.zl ?_
 go_wp2_with fail
 refine(Dw _ _ hsz).mono ?_
 rintro e w1 ⟨rfl,hb1⟩
 have fQ:=hb1.block
 have hb1:Below w.heap.size w w1:=(((Below.refl w.heap.size w).alloc (Nat.le_refl _) _).drew).trans (hb1.mono (by simp))
 have hrow:At w1 w.heap.size 237 #[.string ⟨#[]⟩,.string ⟨#[]⟩,.string ⟨#[]⟩,.bool false]:=by
  have h:=(At.new w 237 #[.string ⟨#[]⟩,.string ⟨#[]⟩,.string ⟨#[]⟩,.bool false]).drew
  exact h.keep (fQ _ (by simp))
 have h3:=(HJ.out.below hb1 (Nat.le_refl _)).self.cell 3
 simp only[Bg.cells,List.getElem?_toArray,List.getElem?_cons_zero,List.getElem?_cons_succ] at h3
 have HB1:=zh hb1;have HR:=zh hrow;clear hb1 hrow fQ
 go_wp2_with fail
 refine(NP j.epoch 8 w1 he (by omega) (by omega)).mono ?_
 rintro e w2 ⟨rfl,hb2⟩
 have hrow:=At.below HR.out hb2 HR.out.lt
 have hb2':=HB1.out.trans (hb2.mono HB1.out.size)
 obtain⟨c0,c1,c2,c3⟩:=hrow.c4
 have z0:w2.frozen? ⟨w.heap.size,0,none⟩=false:=hrow.free 0
 have z1:w2.frozen? ⟨w.heap.size,1,none⟩=false:=hrow.free 1
 have z2:w2.frozen? ⟨w.heap.size,2,none⟩=false:=hrow.free 2
 have z3:w2.frozen? ⟨w.heap.size,3,none⟩=false:=hrow.free 3
 have HB2:=zh hb2';have HR2:=zh hrow;clear hb2 hb2' hrow
 go_wp2
 refine Lex.ze ?_
 go_wp2_with fail
 refine bodyPost_ret (v:=.tuple #[.agg Pg.none.row,.bool false]) (Cz (g:=w.heap.size) rfl rfl ?_ rfl) rfl ⟨rfl,?_⟩
 ·exact(((HR2.out.set 0 _).set 1 _).set 2 _).set 3 _
 ·exact((((HB2.out.setCell (p:=⟨w.heap.size,0,none⟩) (Nat.le_refl _) _).setCell (p:=⟨w.heap.size,1,none⟩) (Nat.le_refl _) _).setCell (p:=⟨w.heap.size,2,none⟩) (Nat.le_refl _) _).setCell (p:=⟨w.heap.size,3,none⟩) (Nat.le_refl _) _)
theorem pO (a b:Nat)(ha:a<256)(hb:b<256):bits BinOp.or IntKind.i64 (wrap64 (wrap64 (a:Int)*256)) (wrap64 (b:Int))=((a*256+b:Nat):Int):=by
 have e1:wrap64 (wrap64 (a:Int)*256)=(a:Int)*256:=by unfold wrap64;omega
 have e2:wrap64 (b:Int)=(b:Int):=by unfold wrap64;omega
 rw[e1,e2,bits_join .i64 32 (by decide) (fun n h0 h1=>by rw[IntKind.wrap_i64];omega) 8 _ _ (by omega) (by omega) (by omega) (by omega) (by omega) (by omega)]
 omega
theorem PD (s:ByteArray)(i:Nat)(h:i<s.size):s[i].toNat=AJ s i:=by
 unfold AJ
 have hl:i<s.data.toList.length:=by simpa using h
 rw[List.getD_eq_getElem?_getD,List.getElem?_eq_getElem hl]
 rfl
theorem CW (s:ByteArray)(i:Nat):AJ s i<256:=(s.data.toList.getD i 0).toNat_lt
def Dm (s:ByteArray)(w:World)(e:Ending)(w' : World):Prop:=
 e=.returned (.tuple #[.agg (if Ed s then #[.string (s.extract 0 32),.string (s.extract 43 75),.string (s.extract 75 (75+Dx s)),.bool (AJ s 40==1)] else Pg.none.row),.bool (Ed s)])/\Below w.heap.size w w'
theorem Dm.bad {s:ByteArray}{w w' : World}(hb:Ed s=false)(h:Below w.heap.size w w'):Dm s w (.returned (.tuple #[.agg Pg.none.row,.bool false])) w':=by
 unfold Dm
 rw[hb]
 exact⟨rfl,h⟩
theorem Dm.good {s:ByteArray}{w w' : World}{N:Nat}{v:Bool}(hb:Ed s=true)(h:Below w.heap.size w w')(hN:N=Dx s)(hv:v=(AJ s 40==1)):
 Dm s w (.returned (.tuple #[.agg #[.string (s.extract 0 32),.string (s.extract 43 75),.string (s.extract 75 (75+N)),.bool v],.bool true])) w':=by
 unfold Dm
 rw[hb,<- hN,<- hv]
 exact⟨rfl,h⟩
theorem fT (j:Bg)(s chain:ByteArray)(w:World)(hj:Cq w j)(hch:chain.size<=1000)(he:j.epoch<9223372036854775808)(hs:s.size=512)(ha:((Sha.sha (⟨#[8]⟩++chain++s.extract 32 512)).toList==(s.extract 0 32).toList)=true)(hb:((s.extract 32 40).toList==(big j.epoch 8).toList)=true):
 Calls Tryz.prog 206 #[.pointer (some ⟨j.jb,0,none⟩),.string s,.string chain] w (Dm s w):=by
 have hjl:=hj.self.lt
 have HJ:=zh hj;clear hj
 have hsz:(⟨#[8]⟩++chain++s.extract 32 512:ByteArray).size<=9223372036854775000:=by
  rw[Sha.Ab,Sha.Ab,ByteArray.size_extract]
  show 1+_+_<=_
  omega
 go_enter Tryz.func206,Tryz.ntmps206
 go_wp2
 refine Lex.zl ?_
 go_wp2_with fail
 refine(Dw _ _ hsz).mono ?_
 rintro e w1 ⟨rfl,hb1⟩
 have fQ:=hb1.block
 have hb1:Below w.heap.size w w1:=(((Below.refl w.heap.size w).alloc (Nat.le_refl _) _).drew).trans (hb1.mono (by simp))
 have hrow:At w1 w.heap.size 237 #[.string ⟨#[]⟩,.string ⟨#[]⟩,.string ⟨#[]⟩,.bool false]:=by
  have h:=(At.new w 237 #[.string ⟨#[]⟩,.string ⟨#[]⟩,.string ⟨#[]⟩,.bool false]).drew
  exact h.keep (fQ _ (by simp))
 have h3:=(HJ.out.below hb1 (Nat.le_refl _)).self.cell 3
 simp only[Bg.cells,List.getElem?_toArray,List.getElem?_cons_zero,List.getElem?_cons_succ] at h3
 have HB1:=zh hb1;have HR:=zh hrow;clear hb1 hrow fQ
 go_wp2_with fail
 refine(NP j.epoch 8 w1 he (by omega) (by omega)).mono ?_
 rintro e w2 ⟨rfl,hb2⟩
 have hrow:=At.below HR.out hb2 HR.out.lt
 have hb2':=HB1.out.trans (hb2.mono HB1.out.size)
 have HB2:=zh hb2';have HR2:=zh hrow;clear hb2 hb2' hrow
 go_wp2
 refine Lex.ze ?_
 go_wp2
 refine Lex.zl ?_
 go_wp2
 refine Lex.ze ?_
 have xg:bits BinOp.or IntKind.i64 (wrap64 (wrap64 (s[41].toNat:Int)*256)) (wrap64 (s[42].toNat:Int))=(Dx s:Int):=by
  rw[PD s 41 (by omega),PD s 42 (by omega)]
  exact pO _ _ (CW s 41) (CW s 42)
 have h40:s[40].toNat=AJ s 40:=PD s 40 (by omega)
 rw[xg,h40]
 clear xg h40
 have hL:=CW s 40
 have SK:Ed s=(decide (AJ s 40<=1)&&decide (Dx s<=437) && !(decide (AJ s 40=0) && !decide (Dx s=437))&&((⟨(Lib.trimB (s.extract (75+Dx s) 512).data.toList 0).toArray⟩:ByteArray).toList==[])):=rfl
 obtain⟨L,hLe⟩:∃ L,L=AJ s 40:=⟨_,rfl⟩
 obtain⟨N,hNe⟩:∃ N,N=Dx s:=⟨_,rfl⟩
 rw[<- hLe,<- hNe] at SK
 rw[<- hLe] at hL
 rw[<- hLe,<- hNe]
 have HLN:=zh (And.intro hLe hNe);clear hLe hNe
 by_cases hgood:L<=1/\N<=437/\(L=0->N=437)
 ·have hbody : Ed s = ((⟨(Lib.trimB (s.extract (75 + N) 512).data.toList 0).toArray⟩ : ByteArray).toList == []) :=by
   rw[SK]
   have h1:decide (L<=1)=true:=by simp;omega
   have h2:decide (N<=437)=true:=by simp;omega
   have h3:(!(decide (L=0) && !decide (N=437)))=true:=by simp;omega
   rw[h1,h2,h3];simp
  have HBO:=zh hbody;clear hbody SK
  obtain⟨g1,g2,g3⟩:=hgood
  have hrow:=HR2.out.drew
  have HB3:=zh HB2.out.drew
  have HR3:=zh hrow;clear hrow
  generalize w2.drew=w3 at*
  have hex:(s.extract (75+N) 512).size<=9223372036854775807:=by rw[ByteArray.size_extract];omega
  have HEX:=zh hex;clear hex
  obtain⟨X,hX⟩:∃ X,X=(⟨(Lib.trimB (s.extract (75+N) 512).data.toList 0).toArray⟩:ByteArray):=⟨_,rfl⟩
  have HX:=zh hX;clear hX
  have hcase:(L=0/\N=437)\/(L=1/\N<=437):=by omega
  rcases hcase with ⟨l0,n0⟩|⟨l1,n1⟩
  ·have dL:((L:Int)==0)=true:=by simp;omega
   have dM:decide ((L:Int)>1)=false:=by simp;omega
   have dN:((N:Int) != 437)=false:=by simp;omega
   have HL:=zh l0;have HN:=zh n0;clear l0 n0
   go_wp2_with fail
   refine(Tryz.strings_Trim_one _ 0 (by decide) _ HEX.out).mono ?_
   rintro e w4 ⟨rfl,hw4⟩
   have hB4:Below w.heap.size w w4:=by
    rcases hw4 with rfl|rfl
    ·exact HB3.out
    ·exact HB3.out.drew
   have hrow:At w4 w.heap.size 237 #[.string ⟨#[]⟩,.string ⟨#[]⟩,.string ⟨#[]⟩,.bool false]:=by
    rcases hw4 with rfl|rfl
    ·exact HR3.out
    ·exact HR3.out.drew
   clear hw4
   obtain⟨c0,c1,c2,c3⟩:=hrow.c4
   have z0:w4.frozen? ⟨w.heap.size,0,none⟩=false:=hrow.free 0
   have z1:w4.frozen? ⟨w.heap.size,1,none⟩=false:=hrow.free 1
   have z2:w4.frozen? ⟨w.heap.size,2,none⟩=false:=hrow.free 2
   have z3:w4.frozen? ⟨w.heap.size,3,none⟩=false:=hrow.free 3
   have HB4:=zh hB4;have HR4:=zh hrow;clear hrow hB4
   rw[<- HX.out]
   by_cases hx:X.toList=[]
   ·have hx2:(!X.toList.isEmpty)=false:=by rw[hx];rfl
    have hbo:Ed s=true:=by rw[HBO.out,<- HX.out,hx];rfl
    have HB:=zh hbo;clear hbo
    go_wp2
    refine Lex.zl ?_
    go_wp2
    refine Lex.ze ?_
    go_wp2_with fail
    refine bodyPost_ret (v:=.tuple #[.agg #[.string (s.extract 0 32),.string (s.extract 43 75),.string (s.extract 75 (75+N)),.bool ((L:Int)==1)],.bool true]) (Cz (g:=w.heap.size) rfl rfl ?_ rfl) rfl (Dm.good HB.out ?_ HLN.out.2 ?_)
    ·exact((((HR4.out.set 0 _).set 1 _).set 2 _).set 3 _).drew
    ·exact((((HB4.out.setCell (p:=⟨w.heap.size,0,none⟩) (Nat.le_refl _) _).setCell (p:=⟨w.heap.size,1,none⟩) (Nat.le_refl _) _).setCell (p:=⟨w.heap.size,2,none⟩) (Nat.le_refl _) _).setCell (p:=⟨w.heap.size,3,none⟩) (Nat.le_refl _) _).drew
    ·rw[<- HLN.out.1,Bool.eq_iff_iff]
     simp
     omega
   ·have hx2 : (!X.toList.isEmpty) = true :=by
     cases hc:X.toList with
     | nil=>exact absurd hc hx
     | cons a l=>rfl
    have hbo:Ed s=false:=by
     rw[HBO.out,<- HX.out]
     cases hc:X.toList with
     | nil=>exact absurd hc hx
     | cons a l=>rfl
    have HB:=zh hbo;clear hbo
    go_wp2_with fail
    refine bodyPost_ret (v:=.tuple #[.agg Pg.none.row,.bool false]) (Cz (g:=w.heap.size) rfl rfl ?_ rfl) rfl (Dm.bad HB.out ?_)
    ·exact(((HR4.out.set 0 _).set 1 _).set 2 _).set 3 _
    ·exact((((HB4.out.setCell (p:=⟨w.heap.size,0,none⟩) (Nat.le_refl _) _).setCell (p:=⟨w.heap.size,1,none⟩) (Nat.le_refl _) _).setCell (p:=⟨w.heap.size,2,none⟩) (Nat.le_refl _) _).setCell (p:=⟨w.heap.size,3,none⟩) (Nat.le_refl _) _)
  ·have dL:((L:Int)==0)=false:=by simp;omega
   have dM:decide ((L:Int)>1)=false:=by simp;omega
   have HL:=zh l1;clear l1
   go_wp2_with fail
   refine(Tryz.strings_Trim_one _ 0 (by decide) _ HEX.out).mono ?_
   rintro e w4 ⟨rfl,hw4⟩
   have hB4:Below w.heap.size w w4:=by
    rcases hw4 with rfl|rfl
    ·exact HB3.out
    ·exact HB3.out.drew
   have hrow:At w4 w.heap.size 237 #[.string ⟨#[]⟩,.string ⟨#[]⟩,.string ⟨#[]⟩,.bool false]:=by
    rcases hw4 with rfl|rfl
    ·exact HR3.out
    ·exact HR3.out.drew
   clear hw4
   obtain⟨c0,c1,c2,c3⟩:=hrow.c4
   have z0:w4.frozen? ⟨w.heap.size,0,none⟩=false:=hrow.free 0
   have z1:w4.frozen? ⟨w.heap.size,1,none⟩=false:=hrow.free 1
   have z2:w4.frozen? ⟨w.heap.size,2,none⟩=false:=hrow.free 2
   have z3:w4.frozen? ⟨w.heap.size,3,none⟩=false:=hrow.free 3
   have HB4:=zh hB4;have HR4:=zh hrow;clear hrow hB4
   rw[<- HX.out]
   by_cases hx:X.toList=[]
   ·have hx2:(!X.toList.isEmpty)=false:=by rw[hx];rfl
    have hbo:Ed s=true:=by rw[HBO.out,<- HX.out,hx];rfl
    have HB:=zh hbo;clear hbo
    go_wp2
    refine Lex.zl ?_
    go_wp2
    refine Lex.ze ?_
    go_wp2_with fail
    refine bodyPost_ret (v:=.tuple #[.agg #[.string (s.extract 0 32),.string (s.extract 43 75),.string (s.extract 75 (75+N)),.bool ((L:Int)==1)],.bool true]) (Cz (g:=w.heap.size) rfl rfl ?_ rfl) rfl (Dm.good HB.out ?_ HLN.out.2 ?_)
    ·exact((((HR4.out.set 0 _).set 1 _).set 2 _).set 3 _).drew
    ·exact((((HB4.out.setCell (p:=⟨w.heap.size,0,none⟩) (Nat.le_refl _) _).setCell (p:=⟨w.heap.size,1,none⟩) (Nat.le_refl _) _).setCell (p:=⟨w.heap.size,2,none⟩) (Nat.le_refl _) _).setCell (p:=⟨w.heap.size,3,none⟩) (Nat.le_refl _) _).drew
    ·rw[<- HLN.out.1,Bool.eq_iff_iff]
     simp
     omega
   ·have hx2 : (!X.toList.isEmpty) = true :=by
     cases hc:X.toList with
     | nil=>exact absurd hc hx
     | cons a l=>rfl
    have hbo:Ed s=false:=by
     rw[HBO.out,<- HX.out]
     cases hc:X.toList with
     | nil=>exact absurd hc hx
     | cons a l=>rfl
    have HB:=zh hbo;clear hbo
    go_wp2_with fail
    refine bodyPost_ret (v:=.tuple #[.agg Pg.none.row,.bool false]) (Cz (g:=w.heap.size) rfl rfl ?_ rfl) rfl (Dm.bad HB.out ?_)
    ·exact(((HR4.out.set 0 _).set 1 _).set 2 _).set 3 _
    ·exact((((HB4.out.setCell (p:=⟨w.heap.size,0,none⟩) (Nat.le_refl _) _).setCell (p:=⟨w.heap.size,1,none⟩) (Nat.le_refl _) _).setCell (p:=⟨w.heap.size,2,none⟩) (Nat.le_refl _) _).setCell (p:=⟨w.heap.size,3,none⟩) (Nat.le_refl _) _)
 ·have hbody : Ed s = false :=by
   rw[SK]
   by_cases h1:L<=1
   ·by_cases h2:N<=437
    ·have h3:L=0/\N≠437:=by omega
     simp[h3.1,h3.2]
    ·simp[h2]
   ·simp[h1]
  have HBO:=zh hbody
  have hrow:=HR2.out.drew
  obtain⟨c0,c1,c2,c3⟩:=hrow.c4
  have z0:w2.drew.frozen? ⟨w.heap.size,0,none⟩=false:=hrow.free 0
  have z1:w2.drew.frozen? ⟨w.heap.size,1,none⟩=false:=hrow.free 1
  have z2:w2.drew.frozen? ⟨w.heap.size,2,none⟩=false:=hrow.free 2
  have z3:w2.drew.frozen? ⟨w.heap.size,3,none⟩=false:=hrow.free 3
  have HB3:=zh HB2.out.drew
  have HR3:=zh hrow;clear hrow hbody SK
  generalize w2.drew=w3 at*
  go_wp2_with fail
  all_goals
   refine bodyPost_ret (v:=.tuple #[.agg Pg.none.row,.bool false]) (Cz (g:=w.heap.size) rfl rfl ?_ rfl) rfl (Dm.bad HBO.out ?_)
   ·exact(((HR3.out.set 0 _).set 1 _).set 2 _).set 3 _
   ·exact((((HB3.out.setCell (p:=⟨w.heap.size,0,none⟩) (Nat.le_refl _) _).setCell (p:=⟨w.heap.size,1,none⟩) (Nat.le_refl _) _).setCell (p:=⟨w.heap.size,2,none⟩) (Nat.le_refl _) _).setCell (p:=⟨w.heap.size,3,none⟩) (Nat.le_refl _) _)
def PE (o:Option Pg):Array Value:=(o.getD Pg.none).row
theorem mP (j:Bg)(s chain:ByteArray)(w:World)(hj:Cq w j)(hch:chain.size<=1000)(he:j.epoch<9223372036854775808)(hm:s.size<=9223372036854775000):
 Calls Tryz.prog 206 #[.pointer (some ⟨j.jb,0,none⟩),.string s,.string chain] w fun e w' => e=.returned (.tuple #[.agg (PE (parsed j.epoch s chain)),.bool (parsed j.epoch s chain).isSome])/\Below w.heap.size w w':=by
 by_cases hs:s.size=512
 ·cases ha:((Sha.sha (⟨#[8]⟩++chain++s.extract 32 512)).toList==(s.extract 0 32).toList) with
  | false =>
    have hp:parsed j.epoch s chain=Option.none:=by
     unfold parsed Ju
     rw[ha]
     simp
    rw[hp]
    exact mO j s chain w hj hch hs ha
  | true =>
    cases hb:((s.extract 32 40).toList==(big j.epoch 8).toList) with
    | false =>
      have hp:parsed j.epoch s chain=Option.none:=by
       unfold parsed Ju
       rw[ha,hb]
       simp
      rw[hp]
      exact Z9 j s chain w hj hch he hs ha hb
    | true =>
      refine(fT j s chain w hj hch he hs ha hb).mono ?_
      rintro e w' ⟨rfl,hB⟩
      have hh:Ju j.epoch s chain=true:=by
       unfold Ju
       rw[ha,hb]
       simp[hs]
      unfold parsed
      rw[hh]
      cases hbo:Ed s with
      | false=>exact⟨rfl,hB⟩
      | true=>exact⟨rfl,hB⟩
 ·have hp : parsed j.epoch s chain = Option.none :=by
   unfold parsed Ju
   simp[hs]
  rw[hp]
  exact fP j s chain w hj hs hm
end
section
namespace Lex
open Go
section
variable {P:Program} {ops:Array Oper} {Q:Exit->Act->World->Prop} {n:Nat}
def W (r:Option Nat):Fence :={ Fence.wide with round:=r }
theorem SN {r:Option Nat}{f:FuncId}{args:Array Value}{w:World}{R:Ending->World->Prop}(h:Calls P f args w R):CallsIn (W r) n P f args w R:=by
 have h1:CallsIn Fence.wide n P f args w R:=callsIn_wide.2 h
 exact h1
theorem zau {r:Option Nat}{f:String}{args:Array Value}{w:World}{R:Value->World->Prop}(h:Rows P f args w R):RowsIn (W r) n P f args w R:=by
 have h1:RowsIn Fence.wide n P f args w R:=fun c cs _=>let ⟨v,w',x,s⟩:=h c cs;⟨v,w',x,stepsIn_wide.2 s⟩
 exact h1
theorem SV {r:Option Nat}{o:Oper}{a:Act}{K:Act->World->Prop}{x:Result Next}(h:o.upon P a K Q x):o.uponIn (W r) n P a K Q x:=by
 match x,h with
 | .ok (.value v) w',h=>exact h
 | .ok .skip w',h=>exact h
 | .ok (.defer d) w',h=>exact h
 | .ok (.enter f args) w',h=>exact⟨fun hd=>(by cases hd),SN h⟩
 | .ok (.row row args) w',h=>exact⟨fun hd=>(by cases hd),zau h⟩
 | .halt (.panic v) w',h=>exact h
def Jv (ops:Array Oper):Bool:=ops.all fun o=>match o.op with
 | .defer _=>false
 | _=>true
theorem fV (h:Jv ops=true){i:Nat}{o:Oper}(ho:ops[i]? = some o):∀ c,o.op≠.defer c:=by
 intro c hc
 obtain⟨hi,rfl⟩:=Array.getElem?_eq_some_iff.1 ho
 have:=(Array.all_eq_true.1 h) i hi
 rw[hc] at this
 cases this
theorem Kt {r:Option Nat}{i:Nat}{K K' : Act->World->Prop}{a:Act}{w:World}(hd:Jv ops=true)(hQ:¬ LetsOut Q)(hK:∀ a w,K a w->K' a w)(h:wpOp P ops Q i K a w):wpOpIn (W r) n P ops Q i K' a w:=by
 unfold wpOp at h
 unfold wpOpIn
 split
 ·rename_i ho
  rw[ho] at h
  exact hK _ _ h
 ·rename_i o ho
  rw[ho] at h
  simp only at h
  split
  ·rename_i hw
   rw[if_pos hw] at h
   rcases h with h|⟨_,h⟩
   ·refine⟨fun _ _=>trivial,?_⟩
    rw[Oper.semAt_eq _ _ _ (fV hd ho)]
    exact SV (Oper.wp_mono hK h)
   ·exact absurd h hQ
  ·rename_i hw
   rw[if_neg hw] at h
   exact⟨fun _ _=>trivial,hK _ _ h⟩
theorem Jw {r:Option Nat}{md:Region.Mode}(hd:Jv ops=true)(hQ:¬ LetsOut Q):∀ (fuel:Nat) (listed:Array Bool) (a:Act) (w:World),wpAny P md ops Q fuel listed a w->wpAnyIn (W r) n P md ops Q fuel listed a w
 | 0,_,_,_,h=>h
 | fuel+1,listed,a,w,h=>⟨h.1,fun i hi=>Kt hd hQ (fun a w h=>Jw hd hQ fuel _ a w h) (h.2 i hi)⟩
theorem IZ {r:Option Nat}(hd:Jv ops=true)(hQ:¬ LetsOut Q):∀ (l:List Nat) (a:Act) (w:World),wpOps P ops Q l a w->wpOpsIn (W r) n P ops Q l a w
 | [],_,_,h=>h
 | i :: l,a,w,h => by
   rw[wpOps_cons] at h
   rw[wpOpsIn_cons]
   exact Kt hd hQ (fun a w h=>IZ hd hQ l a w h) h
def Only (Q:Exit->Act->World->Prop):Exit->Act->World->Prop:=fun e a w=>e=.normal/\Q .normal a w
theorem Only.intro {a:Act}{w:World}(h:Q .normal a w):Only Q .normal a w:=⟨rfl,h⟩
theorem Only.Bu:Df (Only Q):=fun _ _ _ he h=>he h.1
theorem CB {r:Option Nat}{id:Nat}{l:List Oper}{a:Act}{w:World}(hd:Jv l.toArray=true)(h:wpList P l.toArray (Only Q) l a w):(Code.region id l.toArray false).wpIn (W r) n P Q a w:=by
 refine wpIn_mono (Q:=Only Q) (wpIn_region (IZ hd Only.Bu.out _ _ _ ?_)) (fun e a' w' he=>by obtain⟨rfl,h⟩:=he;exact h)
 rw[List.range_eq_range',show l.toArray.size=l.length from by simp,wpOps_eq_wpList l 0 (by simp)]
 exact h
theorem Br {r:Option Nat}{id:Nat}{l:List Oper}{a:Act}{w:World}(hm:P.follows .mixedOrders=true)(hA:Zr P l.toArray=true)(hd:Jv l.toArray=true)
 (h:wpList P l.toArray (Ends P l.toArray Q) l a w.drew):(Code.region id l.toArray true).wpIn (W r) n P Q a w:=by
 exact wpIn_mono (Q:=Ag P l.toArray (fun _=>False) w.drew [] Q) (wpIn_region_any hm (Jw hd Ag.Bu.out _ _ _ _ (Na hA h))) (fun e a' w' he=>by obtain⟨rfl,_,_,h⟩:=he;exact h)
theorem Co {r:Option Nat}{id:Nat}{l:List Oper}{a:Act}{w:World}(B:Nat->Prop)(fl:List Nat)(m:Nat)(cs:List Nat)(hm:P.follows .mixedOrders=true)(hA:Jq P l.toArray fl m=true)(hC:Sn P l.toArray m cs l.length 0=true)(hd:Jv l.toArray=true)
 (h:Bh P l.toArray (Ag P l.toArray B w.drew fl Q) (Same B w.drew) cs l a w.drew):(Code.region id l.toArray true).wpIn (W r) n P Q a w:=by
 refine wpIn_mono (Q:=Ag P l.toArray B w.drew fl Q) (wpIn_region_any hm (Jw hd Ag.Bu.out _ _ _ _ ?_)) (fun e a' w' he=>by obtain⟨rfl,_,_,h⟩:=he;exact h)
 have hlt:∀ x∈List.range l.toArray.size,x<l.toArray.size:=fun x hx=>List.mem_range.1 hx
 refine Ik hA l.toArray.size (List.range l.toArray.size) _ a _ (by simp) (by simp) ?_ List.pairwise_lt_range (fun x=>by
  constructor
  ·intro hx
   have:=List.mem_range.1 hx
   exact⟨this,by simp only[Array.getD_eq_getD_getElem?];simp at this ⊢;simp[this]⟩
  ·exact fun hx=>List.mem_range.2 hx.1) (fun _=>Same.refl _ _) ?_
 ·intro j o ho hl
  rw[getD_replicate_false] at hl
  cases hl
 ·refine upC hA _ _ _ hlt List.pairwise_lt_range (fun _=>Same.refl _ _) ?_
  rw[List.range_eq_range',show l.toArray.size=l.length from by simp]
  exact Ls cs l 0 a _ (by simp) hC h
end
end Lex
end
section
open Go Go.RowKit
theorem Mc {P:Program}{n:Nat}{r:Option Nat}{g:Operand}{ps:Array Tmp}{assign body:Code}{Q:Exit->Act->World->Prop}{a:Act}{w:World}{gf:Nat}{lb:Array Value}
 (hro:r=none) (hg:a.eval g=.func (.func gf) #[] lb) (eg:∀ args w,(callFunc gf args).run P w=.ok (.enter gf args) w) (xs:Array Value) (hps:xs.size=ps.size)
 (hone : ∀ (l : Nat) (J : World → Prop) (W : World),Below w.heap.size w W → YieldAt (Lex.W r) (n - 1 - 1) P l xs W (fun e W' => e = .returned (.bool false) ∧ J W') →
   CallsIn (Lex.W r) (n-1) P gf (#[.func (.yield l) #[] #[]]++lb) W (fun e W' => (∃ v,e=.returned v)/\J W'))
 (Ix:Nat->Code->World->Prop) (hIx:∀ D c W (l:Nat) (o:Obj),w.heap.size<=l->Ix D c W->Ix D c (W.putObj l o))
 (a₁ : Act)
 (hassign : ∀ (l : Nat) (W : World) (K : Act → World → Prop),K a₁ W →
   assign.wpIn (Lex.W (some l)) (n-1-1) P (Exit.then K (fun _ _ _=>False)) { tmps:=(ps.zip xs).foldl (fun t (p,v)=>t.setIfInBounds p v) a.tmps,defers:=[] } W)
 (hbody:∀ (l:Nat) (W:World),Below w.heap.size w W->body.wpIn (Lex.W (some l)) (n-1-1) P (fun e _ W' => ∃ c,(e=.ret/\c=.ret\/∃ i,e=.exit i/\c=.exit i)/\KeepsFrom w.heap.size W W' /\ Ix (w.heap.size) c W') a₁ W)
 (hstop:∀ (c:Code) (W:World),Ix w.heap.size c W->W.heap[w.heap.size]? = some (.deferred (some []))->c.wpIn (Lex.W r) n P Q { a with defers :={ target:=.collected w.heap.size,args:=#[] } :: a.defers } W):
 (Code.rangeFunc g ps assign body).wpIn (Lex.W r) n P Q a w:=by
 refine wpIn_rangeFunc ?_
 intro fn hfn
 subst hro
 obtain⟨rec,hrec⟩:∃ rec:LoopState->Option Code->Loop,rec=fun st pe => { state:=st,pending:=pe,fn,tmps:=a.tmps,params:=ps,assign,body,defers:=w.heap.size } :=⟨_,rfl⟩
 obtain⟨W1,hW1⟩:∃ W1,(w.alloc (.deferred (some []))).alloc (.loop (rec .ready none))=W1:=⟨_,rfl⟩
 have hL1:W1.heap[w.heap.size+1]? = some (.loop (rec .ready none)):=by
  rw[<- hW1];have:=World.alloc_heap_new (w.alloc (.deferred (some []))) (.loop (rec .ready none));rwa [World.size_alloc] at this
 have hK1:W1.heap[w.heap.size]? = some (.deferred (some [])):=by
  rw[<- hW1];exact(Below.heap_alloc _ _ _ (by simp)).trans (World.alloc_heap_new w _)
 have hb1:Below w.heap.size w W1:=by
  rw[<- hW1];exact((Below.refl _ w).alloc (Nat.le_refl _) _).alloc (by simp) _
 have hlt:w.heap.size+1<W1.heap.size:=(Array.getElem?_eq_some_iff.1 hL1).1
 refine⟨w.heap.size+1,[{ target:=.collected w.heap.size,args:=#[] }],W1,{ target:=.fn (.func gf) lb,args:=#[.func (.yield (w.heap.size+1)) #[] #[]] },W1,gf,
  #[.func (.yield (w.heap.size+1)) #[] #[]]++lb,W1,?_,?_,fun _ _=>trivial,?_,fun h=>(by cases h),?_⟩
 ·rw[<- hW1,hrec];exact run_enterLoop_outer _ _ _ _ _
 ·simp only[resolve,hg]
  simp[go_sem]
 ·simp[invoke,go_sem,eg]
 ·have hy:=run_yield (P:=P) (args:=xs) hL1 (by rw[hrec];exact hps)
  rw[hrec] at hy
  refine(hone (w.heap.size+1) (fun W' => ∃ c,Ix w.heap.size c W' /\ W'.heap[w.heap.size+1]? = some (.loop (rec .done (some c)))/\W'.heap[w.heap.size]? = some (.deferred (some []))) W1 hb1
   ⟨fn,_,assign,body,hy,roundIn_of_wpIn hfn (hassign _ W1 _ ⟨_,run_beginRound hL1 (by rw[hrec]),?_⟩)⟩).mono ?_
  ·have hl2:(W1.putObj (w.heap.size+1) (.loop { rec .ready none with state:=.busy })).heap[w.heap.size+1]? = some (.loop { rec .ready none with state:=.busy }):=World.putObj_heap_same hlt
   have hk2:(W1.putObj (w.heap.size+1) (.loop { rec .ready none with state:=.busy })).heap[w.heap.size]? = some (.deferred (some [])):=(World.putObj_heap_other (by omega)).trans hK1
   have hb2:Below w.heap.size w (W1.putObj (w.heap.size+1) (.loop { rec .ready none with state:=.busy })):=
    hb1.trans ⟨rfl,rfl,rfl,by simp[World.putObj],fun k hk=>World.putObj_heap_other (by omega)⟩
   refine wpIn_mono (hbody _ _ hb2) ?_
   rintro e a3 W3 ⟨c,hc,hk3,hi3⟩
   have hl3:=hk3.same _ _ (by omega) hl2 rfl
   have hd3:=hk3.same _ _ (Nat.le_refl _) hk2 rfl
   have hr:=run_endRound (P:=P) (some c) hl3
   have hl4:=World.putObj_heap_same (o:=.loop (rec .done (some c))) (Array.getElem?_eq_some_iff.1 hl3).1
   have hk4:(W3.putObj (w.heap.size+1) (.loop (rec .done (some c)))).heap[w.heap.size]? = some (.deferred (some [])):=(World.putObj_heap_other (by omega)).trans hd3
   rw[hrec] at hr hl4 hk4
   rcases hc with ⟨rfl,rfl⟩|⟨i,rfl,rfl⟩
   ·exact⟨_,_,hr,rfl,.ret,hIx _ _ _ _ _ (by omega) hi3,by rw[hrec];exact hl4,hk4⟩
   ·exact⟨_,_,hr,rfl,.exit i,hIx _ _ _ _ _ (by omega) hi3,by rw[hrec];exact hl4,hk4⟩
  ·rintro e W2 ⟨⟨v,rfl⟩,c,hi,hl,hk⟩
   refine⟨some c,_,by have:=run_endLoop (P:=P) hl (by rw[hrec];simp);rw[hrec] at this;exact this,hstop c _ (hIx _ _ _ _ _ (by omega) hi) ((World.putObj_heap_other (by omega)).trans hk)⟩
end
section
open Go Go.RowKit Go.Maps Go.Shelf
attribute [local go_sem] Oper.semAt_some
theorem DStep.put {w w' : World}{d d' : Au}{c' : Ac}(h:DStep w w' d d' c'){l:Nat}{o:Obj}(hl:w.heap.size<=l)(hf:∀ k,d'.foot k->k<w.heap.size):DStep w (w'.putObj l o) d d' c' :=
 ⟨h.at_.keep fun k hk => World.putObj_heap_other (by have :=hf k hk;omega),h.a,h.bd,h.mp,h.foot,
   h.fr.trans (w':=w'.putObj l o) (G:=fun k=>k=l) ⟨rfl,rfl,rfl,by simp[World.putObj],fun k _ hk=>World.putObj_heap_other hk⟩ (fun k hk=>.inr (by omega))⟩
theorem ZA (w:World):
 Calls Tryz.prog 76 #[.slice none 0 0] w fun e w' => e=.returned (.func (.func 139) #[] #[.pointer (some ⟨w.heap.size,0,none⟩)])/\
  Below w.heap.size w w' /\ w'.cell? ⟨w.heap.size,0,none⟩=some (.slice (some ⟨w.heap.size+1,0,none⟩) 1 1)/\w'.cell? ⟨w.heap.size+1,0,none⟩=some (.int .i64 0):=by
 go_enter Tryz.func76,Tryz.ntmps76
 go_wp2
 go_ret
 refine⟨rfl,((Below.refl w.heap.size w).alloc (Nat.le_refl _) _).alloc (by rw[World.size_alloc];omega) _,?_,?_⟩
 ·exact((At.new w 152 #[.slice (some ⟨w.heap.size+1,0,none⟩) 1 1]).alloc _).cell 0
 ·have h:=(At.new (w.alloc (.cells #[.slice (some ⟨w.heap.size+1,0,none⟩) 1 1] 152)) 3 #[.int .i64 0]).cell 0
  rw[World.size_alloc] at h
  exact h
theorem XO (F:Fence)(n:Nat)(hn:2<=n)(hro:F.round=none)(hfn:F.fn 139)(b:Nat)(l:Nat)(J:World->Prop)(W:World)(h0:W.cell? ⟨b,0,none⟩=some (.slice (some ⟨b+1,0,none⟩) 1 1))(h1:W.cell? ⟨b+1,0,none⟩=some (.int .i64 0))
 (hy:YieldAt F (n-1) Tryz.prog l #[.int .i64 0] W (fun e W' => e=.returned (.bool false)/\J W')):
 CallsIn F n Tryz.prog 139 (#[.func (.yield l) #[] #[]]++#[.pointer (some ⟨b,0,none⟩)]) W (fun e W' => (∃ v,e=.returned v)/\J W'):=by
 have hn1:1<=n:=by omega
 refine callsIn_of_wp Tryz.func139 rfl hfn ?_ hro
 simp only[Tryz.ntmps139,List.size_toArray,List.length_cons,List.length_nil,Nat.reduceAdd,Nat.reduceSub,Array.replicate_succ,Array.replicate_zero,List.push_toArray,List.append_toArray,List.nil_append,List.cons_append]
 obtain⟨fn,tmps,assign,body,hyy,hR⟩:=hy
 gi_wp2
 refine wpIn_loop_rounds 1 ?_
 rw[roundsIn_succ]
 gi_wp2
 refine wpIn_loop_rounds 1 ?_
 rw[roundsIn_succ]
 gi_wp2
 refine hR.mono ?_
 rintro e W' ⟨rfl,hJ⟩
 gi_wp2
 refine bodyPost_ret (results_none rfl _ _ _) rfl ?_
 exact⟨⟨_,rfl⟩,hJ⟩
theorem fZ (d:Au)(c:Ac)(w:World)(h:Ak w d c)(hp:c.pending=[]):
 Calls Tryz.prog 29 #[.pointer (some ⟨d.a,0,none⟩),.slice none 0 0] w fun e w' => e=.returned (.tuple #[])/\DStep w w' d { d with pv:=.slice none 0 0 } { c with pending:=[] } :=by
 refine(callsIn_wide (n:=6)).1 ?_
 have hrr:Fence.wide.round=none:=rfl
 refine callsIn_of_wp_marks Tryz.func29 rfl trivial ?_ rfl
 simp only[Tryz.ntmps29,List.size_toArray,List.length_cons,List.length_nil,Nat.reduceAdd,Nat.reduceSub,Array.replicate_succ,Array.replicate_zero,List.push_toArray,List.append_toArray,List.nil_append,List.cons_append]
 have H:=zh h;clear h
 have HP:=zh hp;clear hp
 gi_wp2
 refine⟨trivial,(callsIn_wide.2 (ZA _)).mono ?_⟩
 rintro e w1 ⟨rfl,hb,hc0,hc1⟩
 simp only[World.size_alloc] at hb hc0 hc1
 have e0:At w1 w.heap.size 38 #[.pointer (some ⟨d.a,0,none⟩)]:=At.below (((At.new w 38 #[.pointer (some ⟨d.a,0,none⟩)]).alloc (.cells #[.int .i64 0] 3))) hb (by omega)
 have e1:At w1 (w.heap.size+1) 3 #[.int .i64 0]:=by
  have h:=At.new (w.alloc (.cells #[.pointer (some ⟨d.a,0,none⟩)] 38)) 3 #[.int .i64 0]
  rw[World.size_alloc] at h
  exact At.below h hb (by omega)
 have hbw:Below w.heap.size w w1:=(((Below.refl w.heap.size w).alloc (Nat.le_refl _) _).alloc (by rw[World.size_alloc];omega) _).trans (hb.mono (by omega))
 have hsz:=hb.size
 have HB:=zh hbw;have H0:=zh e0;have H1:=zh e1;have HC0:=zh hc0;have HC1:=zh hc1
 clear hb hbw e0 e1 hc0 hc1
 have hsz' : w.heap.size+2<=w1.heap.size:=by simp only[World.size_alloc] at hsz;omega
 clear hsz
 have hHD:Ak w1 d c:=H.out.below HB.out (Nat.le_refl _)
 have HD:=zh hHD;clear hHD
 have hdl:=H.out.lt
 have HL:=zh hdl;clear hdl
 gi_wp2
 have zbJ:w.heap.size+1+1<w1.heap.size:=kg HC0.out
 have zbK:w.heap.size+1+1+1<w1.heap.size:=kg HC1.out
 refine Mc (r:=none) rfl rfl (enters_of Tryz.func139 (by kernel_rfl) rfl) #[.int .i64 0] rfl
  (fun l J W hb hy=>XO Fence.wide (6-1) (by omega) rfl trivial (w.heap.size+1+1) l J W ((hb.cell zbJ).trans HC0.out) ((hb.cell zbK).trans HC1.out) hy)
  (fun _ c0 W=>c0=.exit 0/\Below w1.heap.size w1 W)
  (fun D c0 W l o hl h=>⟨h.1,h.2.trans ⟨rfl,rfl,rfl,by simp[World.putObj],fun k hk=>World.putObj_heap_other (by omega)⟩⟩)
  { tmps:=#[.pointer (some ⟨d.a,0,none⟩),.slice none 0 0,.pointer (some ⟨w.heap.size,0,none⟩),undef,.pointer (some ⟨w.heap.size+1,0,none⟩),.int .i64 0,undef,.slice none 0 0,.func (.func 139) #[] #[.pointer (some ⟨w.heap.size+1+1,0,none⟩)],.int .i64 0,undef,undef,undef,undef,undef,undef,undef,undef,undef,undef,undef,undef,undef,undef,undef,undef,undef,undef,undef,undef,undef,undef,undef,undef,undef,undef,undef,undef,undef,undef,undef,undef,undef,undef,undef,undef,undef,undef,undef],defers:=[] }
  ?assign ?body ?stop
 case assign=>
  intro l W K hK
  refine Lex.CB (by kernel_rfl) ?_
  go_wp2
  refine Lex.Only.intro ?_
  exact hK
 case body=>
  intro l W hb
  have k0:=(At.below H0.out hb H0.out.lt).cell 0
  have k1:=(At.below H1.out hb H1.out.lt).cell 0
  have k2:=((HD.out.below hb (Nat.le_refl _)).self).cell 1
  simp only[zg] at k0 k1 k2
  have hpv:∃ b cap,d.pv=.slice b 0 cap:=by
   obtain⟨_,⟨h0,_⟩|⟨g,cap,cur,h0,_⟩⟩:=HD.out.pend
   ·exact⟨none,0,h0⟩
   ·rw[HP.out] at h0;exact⟨_,_,h0⟩
  obtain⟨pb,pc,hpv⟩:=hpv
  rw[hpv] at k2
  clear hpv
  have HW:=zh hb;clear hb
  gi_wp2
  refine Lex.Br (by kernel_rfl) (by kernel_rfl) (by kernel_rfl) ?_
  go_wp2
  refine Lex.ze ?_
  gi_wp2
  exact⟨.exit 0,.inr ⟨0,rfl,rfl⟩,(KeepsOthers.drew W).from _,rfl,HW.out.drew⟩
 case stop=>
  rintro c0 W ⟨rfl,hb⟩ hD
  have k0:=(At.below H0.out hb H0.out.lt).cell 0
  simp only[List.getElem?_toArray,List.getElem?_cons_zero] at k0
  have hd:=HD.out.below hb (Nat.le_refl _)
  have HDD:=zh hd;clear hd
  have HW:=zh hb;clear hb
  have HDe:=zh hD;clear hD
  gi_wp2
  refine⟨trivial,(callsIn_wide.2 (Sy d c W HDD.out)).mono ?_⟩
  rintro e w2 ⟨rfl,h2⟩
  have H2:=zh h2;clear h2
  gi_wp2
  have hf:∀ k,Au.foot { d with pv:=.slice none 0 0 } k->k<w.heap.size:=by
   intro k hk
   refine HL.out k ?_
   rcases hk with h|h|h|h|h
   ·exact .inl h
   ·exact .inr (.inl h)
   ·exact .inr (.inr (.inl h))
   ·cases h
   ·exact .inr (.inr (.inr (.inr h)))
  have hsz1:=HB.out.size
  have hszW:=HW.out.size
  have hK:w2.heap[w1.heap.size]? = some (.deferred (some [])):=(H2.out.fr.keep _ (Array.getElem?_eq_some_iff.1 HDe.out).1 (fun h=>by have:=HL.out _ h;omega)).trans HDe.out
  refine⟨by simp,.inl ⟨_,_,rfl,run_takeDeferred hK,?_⟩⟩
  refine⟨_,results_none rfl _ _ _,rfl,?_⟩
  have hs0:DStep w W d d c:=⟨HDD.out,rfl,rfl,rfl,fun _ h=>.inl h,Fr.of_below (HB.out.trans (HW.out.mono hsz1))⟩
  exact(hs0.trans H2.out).put (by omega) hf
end
section
open Go Go.RowKit
structure Im (d b:Nat) (W W' : World):Prop where
 size:W.heap.size<=W'.heap.size
 two:W'.heap[d]? = W.heap[d]? /\ W'.heap[d+1]? = W.heap[d+1]?
 bet:∀ k,b<=k->k<W.heap.size->W'.heap[k]? = W.heap[k]?
theorem Im.below {d b:Nat}{W W' : World}(h:Below W.heap.size W W')(hd:d+1<W.heap.size):Im d b W W':=⟨h.size,⟨h.block _ (by omega),h.block _ hd⟩,fun _ _ hk=>h.block _ hk⟩
theorem Im.fr {F:Nat->Prop}{d b:Nat}{W W' : World}(h:Fr F W W')(hd:d+1<W.heap.size)(h1:¬ F d)(h2:¬ F (d+1))(hb:∀ k,F k->k<b):Im d b W W' :=
 ⟨h.size,⟨h.keep _ (by omega) h1,h.keep _ hd h2⟩,fun k hk hl=>h.keep k hl (fun hf=>by have:=hb k hf;omega)⟩
def roundEnd {β : Type}(d b:Nat)(J : β -> World->Prop)(Jx:Code->World->Prop)(s' : β)(W:World):Exit->Act->World->Prop:=fun e _ W' =>
 Im d b W W' /\ (e=.normal/\J s' W' \/ ∃ c,(e=.ret/\c=.ret\/∃ i,e=.exit i/\c=.exit i)/\Jx c W')
def pQ {β : Type}(J' : β -> World->Prop)(Jx' : World->Prop)(Done : β -> Prop)(e:Ending)(W' : World):Prop:=(∃ v,e=.returned v)/\((∃ s,Done s/\J' s W')\/Jx' W')
def Iter {α β : Type}(F:Fence)(m:Nat)(P:Program)(gf:Nat)(args:Nat->Array Value)(encs : α -> Array Value)(J : β -> World->Prop)(Step : β -> α -> β -> Prop)(Done : β -> Prop)(s0 : β):Prop:=
 ∀ (l : Nat) (J' : β → World → Prop) (Jx' : World → Prop) (W : World),(∀ s W,J' s W → J s W) → (∀ s W W',J' s W → Below W.heap.size W W' → J' s W') →
   (∀ s x s' W0 W,J' s W0->Below W0.heap.size W0 W->Step s x s' -> YieldAt F (m-1) P l (encs x) W (fun e W' => e=.returned (.bool true)/\J' s' W' /\ (∀ k,W0.heap.size<=k->k<W.heap.size->W'.heap[k]? = W.heap[k]?)\/e=.returned (.bool false)/\Jx' W'))->J' s0 W->
   CallsIn F m P gf (args l) W (pQ J' Jx' Done)
theorem Du (W:World)(l:Nat)(o:Obj):Fr (fun k=>k=l) W (W.putObj l o):=⟨rfl,rfl,rfl,by simp[World.putObj],fun _ _ hn=>World.putObj_heap_other hn⟩
theorem Md {α β : Type}{P:Program}{n:Nat}{r:Option Nat}{g:Operand}{ps:Array Tmp}{assign body:Code}{Q:Exit->Act->World->Prop}{a:Act}{w:World}{gf:Nat}{pre lb:Array Value}
 (hro:r=none) (hg:a.eval g=.func (.func gf) pre lb) (eg:∀ args w,(callFunc gf args).run P w=.ok (.enter gf args) w) (encs : α -> Array Value) (hps:∀ x,(encs x).size=ps.size)
 (J : β -> World->Prop) (Jx:Code->World->Prop) (Step : β -> α -> β -> Prop) (Done : β -> Prop) (s0 : β)
 (hJb:∀ s W W',J s W->Below W.heap.size W W' -> J s W') (hJl:∀ s W W',J s W->Fr (fun k=>k=w.heap.size+1) W W' -> J s W') (SX:∀ c W W',Jx c W->Fr (fun k=>k=w.heap.size+1) W W' -> Jx c W')
 (h0:J s0 w)
 (hiter:Iter (Lex.W r) (n-1) P gf (fun l=>pre++(#[.func (.yield l) #[] #[]]++lb)) encs J Step Done s0)
 (Jy : ∀ s x s' W0 W,w.heap.size + 1 < W0.heap.size → J s W0 → Below W0.heap.size W0 W → Step s x s' →
   assign.wpIn (Lex.W (some (w.heap.size+1))) (n-1-1) P (Exit.then (fun a₁ W₁ => Im w.heap.size W0.heap.size W W₁ /\ ∀ W₂,Fr (fun k=>k=w.heap.size+1) W₁ W₂ -> 
    body.wpIn (Lex.W (some (w.heap.size+1))) (n-1-1) P (roundEnd w.heap.size W0.heap.size J Jx s' W₂) a₁ W₂) (fun _ _ _=>False)) { tmps:=(ps.zip (encs x)).foldl (fun t (p,v)=>t.setIfInBounds p v) a.tmps,defers:=[] } W)
 (hdone:∀ s W,Done s->J s W->W.heap[w.heap.size]? = some (.deferred (some []))->Q .normal { a with defers :={ target:=.collected w.heap.size,args:=#[] } :: a.defers } W)
 (hstop:∀ (c:Code) (W:World),Jx c W->W.heap[w.heap.size]? = some (.deferred (some []))->c.wpIn (Lex.W r) n P Q { a with defers :={ target:=.collected w.heap.size,args:=#[] } :: a.defers } W):
 (Code.rangeFunc g ps assign body).wpIn (Lex.W r) n P Q a w:=by
 refine wpIn_rangeFunc ?_
 intro fn hfn
 subst hro
 obtain⟨rec,hrec⟩:∃ rec:LoopState->Option Code->Loop,rec=fun st pe => { state:=st,pending:=pe,fn,tmps:=a.tmps,params:=ps,assign,body,defers:=w.heap.size } :=⟨_,rfl⟩
 obtain⟨W1,hW1⟩:∃ W1,(w.alloc (.deferred (some []))).alloc (.loop (rec .ready none))=W1:=⟨_,rfl⟩
 have hL1:W1.heap[w.heap.size+1]? = some (.loop (rec .ready none)):=by
  rw[<- hW1];have:=World.alloc_heap_new (w.alloc (.deferred (some []))) (.loop (rec .ready none));rwa [World.size_alloc] at this
 have hK1:W1.heap[w.heap.size]? = some (.deferred (some [])):=by
  rw[<- hW1];exact(Below.heap_alloc _ _ _ (by simp)).trans (World.alloc_heap_new w _)
 have hb1:Below w.heap.size w W1:=by
  rw[<- hW1];exact((Below.refl _ w).alloc (Nat.le_refl _) _).alloc (by simp) _
 refine⟨w.heap.size+1,[{ target:=.collected w.heap.size,args:=#[] }],W1,{ target:=.fn (.func gf) lb,args:=pre++#[.func (.yield (w.heap.size+1)) #[] #[]] },W1,gf,
  pre++(#[.func (.yield (w.heap.size+1)) #[] #[]]++lb),W1,?_,?_,fun _ _=>trivial,?_,fun h=>(by cases h),?_⟩
 ·rw[<- hW1,hrec];exact run_enterLoop_outer _ _ _ _ _
 ·simp only[resolve,hg]
  simp[go_sem]
 ·simp[invoke,go_sem,eg]
 ·refine (hiter (w.heap.size + 1) (fun s W' => J s W' ∧ W'.heap[w.heap.size + 1]? = some (.loop (rec .ready none)) ∧ W'.heap[w.heap.size]? = some (.deferred (some [])))
   (fun W' => ∃ c,Jx c W' /\ W'.heap[w.heap.size+1]? = some (.loop (rec .done (some c)))/\W'.heap[w.heap.size]? = some (.deferred (some []))) W1
   (fun s W h=>h.1)
   (fun s W W' h hb => by
     have hl:=(Array.getElem?_eq_some_iff.1 h.2.1).1
     exact⟨hJb s W W' h.1 hb,(hb.block _ hl).trans h.2.1,(hb.block _ (by omega)).trans h.2.2⟩) ?_ ⟨hJb s0 w W1 h0 hb1,hL1,hK1⟩).mono ?_
  ·rintro s x s' W0 W ⟨hJ,hl0,hd0⟩ hbW hst
   have zav:w.heap.size+1<W0.heap.size:=(Array.getElem?_eq_some_iff.1 hl0).1
   have hl:=(hbW.block _ zav).trans hl0
   have hd:=(hbW.block w.heap.size (by omega)).trans hd0
   have hlt:w.heap.size+1<W.heap.size:=(Array.getElem?_eq_some_iff.1 hl).1
   have hy:=run_yield (P:=P) (args:=encs x) hl (by rw[hrec];exact hps x)
   rw[hrec] at hy
   refine⟨fn,_,assign,body,hy,roundIn_of_wpIn hfn (wpIn_mono (Jy s x s' W0 W zav hJ hbW hst) ?_)⟩
   rintro e a₁ W₁ he
   cases e with
   | normal =>
     obtain⟨hk,hbody⟩:=he
     have hl1:W₁.heap[w.heap.size+1]? = some (.loop (rec .ready none)):=hk.two.2.trans hl
     have hd1:W₁.heap[w.heap.size]? = some (.deferred (some [])):=hk.two.1.trans hd
     refine⟨_,run_beginRound hl1 (by rw[hrec]),?_⟩
     have hlt1:w.heap.size+1<W₁.heap.size:=(Array.getElem?_eq_some_iff.1 hl1).1
     have hl2:(W₁.putObj (w.heap.size+1) (.loop { rec .ready none with state:=.busy })).heap[w.heap.size+1]? = some (.loop { rec .ready none with state:=.busy }):=World.putObj_heap_same hlt1
     have hd2:(W₁.putObj (w.heap.size+1) (.loop { rec .ready none with state:=.busy })).heap[w.heap.size]? = some (.deferred (some [])):=(World.putObj_heap_other (by omega)).trans hd1
     refine wpIn_mono (hbody _ (Du _ _ _)) ?_
     rintro e a3 W3 ⟨hk3,hres⟩
     have hl3:=hk3.two.2.trans hl2
     have hd3:=hk3.two.1.trans hd2
     rcases hres with ⟨rfl,hJ3⟩|⟨c,hc,hx⟩
     ·have hr:=run_endRound (P:=P) none hl3
      have hl4:=World.putObj_heap_same (o:=.loop (rec .ready none)) (Array.getElem?_eq_some_iff.1 hl3).1
      have hk4:(W3.putObj (w.heap.size+1) (.loop (rec .ready none))).heap[w.heap.size]? = some (.deferred (some [])):=(World.putObj_heap_other (by omega)).trans hd3
      have hf:=hJl s' _ _ hJ3 (Du W3 (w.heap.size+1) (.loop (rec .ready none)))
      rw[hrec] at hr hl4 hk4 hf
      refine⟨_,_,hr,.inl ⟨rfl,⟨hf,by rw[hrec];exact hl4,hk4⟩,fun k hk0 hkl=>?_⟩⟩
      have hsz2:W₁.heap.size=(W₁.putObj (w.heap.size+1) (.loop { rec .ready none with state:=.busy })).heap.size:=by simp[World.putObj]
      exact(World.putObj_heap_other (by omega)).trans ((hk3.bet k hk0 (by rw[<- hsz2];exact Nat.lt_of_lt_of_le hkl hk.size)).trans ((World.putObj_heap_other (by omega)).trans (hk.bet k hk0 hkl)))
     ·have hr:=run_endRound (P:=P) (some c) hl3
      have hl4:=World.putObj_heap_same (o:=.loop (rec .done (some c))) (Array.getElem?_eq_some_iff.1 hl3).1
      have hk4:(W3.putObj (w.heap.size+1) (.loop (rec .done (some c)))).heap[w.heap.size]? = some (.deferred (some [])):=(World.putObj_heap_other (by omega)).trans hd3
      have hf:=SX c _ _ hx (Du W3 (w.heap.size+1) (.loop (rec .done (some c))))
      rw[hrec] at hr hl4 hk4 hf
      rcases hc with ⟨rfl,rfl⟩|⟨i,rfl,rfl⟩
      ·exact⟨_,_,hr,.inr ⟨rfl,.ret,hf,by rw[hrec];exact hl4,hk4⟩⟩
      ·exact⟨_,_,hr,.inr ⟨rfl,.exit i,hf,by rw[hrec];exact hl4,hk4⟩⟩
   | ret=>exact he.elim
   | exit id=>exact he.elim
   | goto t=>exact he.elim
   | panic ch=>exact he.elim
   | outgrown=>exact he.elim
  ·rintro e W2 ⟨⟨v,rfl⟩,⟨s,hD,hJ,hl,hd⟩|⟨c,hi,hl,hd⟩⟩
   ·refine⟨none,_,by have:=run_endLoop (P:=P) hl (by rw[hrec];simp);rw[hrec] at this;exact this,hdone s _ hD (hJl s _ _ hJ (Du _ _ _)) ((World.putObj_heap_other (by omega)).trans hd)⟩
   ·refine⟨some c,_,by have:=run_endLoop (P:=P) hl (by rw[hrec];simp);rw[hrec] at this;exact this,hstop c _ (SX c _ _ hi (Du _ _ _)) ((World.putObj_heap_other (by omega)).trans hd)⟩
end
section
open Go Go.RowKit Go.Maps
attribute [local go_sem] Oper.semAt_some
def uJ (j:Bg)(d:Au)(c:Ac)(w:World):Prop:=(∃ j' : Bg,Cq w j' /\ j'.jb=j.jb/\j'.da=j.da/\j'.first=j.first/\j'.count=j.count/\j'.epoch=j.epoch)/\Ak w d c
def gu (j:Bg)(c:Ac)(s:Nat × ByteArray)(p:Pg)(s' : Nat × ByteArray):Prop:=
 s.1<j.count/\(c.read ((j.first:Int)+s.1)).2=0/\parsed j.epoch (c.read ((j.first:Int)+s.1)).1 s.2=some p/\s' = (s.1+1,p.check)
def pR (j:Bg)(c:Ac)(s:Nat × ByteArray):Prop:=
 s.1=j.count\/s.1<j.count/\((c.read ((j.first:Int)+s.1)).2≠0\/parsed j.epoch (c.read ((j.first:Int)+s.1)).1 s.2=Option.none)
theorem Gt {e:Nat}{s ch:ByteArray}{p:Pg}(h:parsed e s ch=some p):p.check.size<=32:=by
 unfold parsed at h
 split at h
 ·cases h
  rw[ByteArray.size_extract]
  omega
 ·cases h
theorem gy (j:Bg)(d:Au)(c:Ac)(n:Nat)(J:Nat × ByteArray->World->Prop)(hda:d.a=j.da)(he:j.epoch<9223372036854775808)(hcnt:j.count<=4096)(hfi:j.first<=4096)
 (hch:j.chain.size<=1000) (hp:c.pending.length<=1000000) (hsz:∀ p,(c.read p).1.size<=9223372036854775000) (hJ:∀ s W,J s W->uJ j d c W)
 (hJ0:∀ W,J (0,j.chain) W->W.cell? ⟨j.jb,6,none⟩=some (.string j.chain)) (hJc:∀ s W,J s W->s.2.size<=1000):
 Iter (Lex.W none) n Tryz.prog 167 (fun l=>#[.pointer (some ⟨j.jb,0,none⟩)]++(#[.func (.yield l) #[] #[]]++#[])) (fun p:Pg=>#[.agg p.row]) J (gu j c) (pR j c) (0,j.chain):=by
 intro l J' Jx' W hJJ hJb hY h0
 have hrr:(Lex.W none).round=none:=rfl
 refine callsIn_of_wp Tryz.func167 rfl trivial ?_ rfl
 simp only[Tryz.ntmps167,List.size_toArray,List.length_cons,List.length_nil,Nat.reduceAdd,Nat.reduceSub,Array.replicate_succ,Array.replicate_zero,List.push_toArray,List.append_toArray,List.nil_append,List.cons_append]
 have hc5:=hJ0 W (hJJ _ _ h0)
 obtain⟨⟨j0,hj0,e1,e2,e3,e4,e5⟩,hd0⟩:=hJ _ _ (hJJ _ _ h0)
 have hc2:=hj0.self.cell 2
 simp only[Bg.cells,List.getElem?_toArray,List.getElem?_cons_zero,List.getElem?_cons_succ] at hc2
 rw[e1,e4] at hc2
 clear hj0 e1 e2 e3 e4 e5 hd0 j0
 have H0:=zh h0;have HJJ:=zh hJJ;have HJ:=zh hJ;have HJb:=zh hJb;have HJc:=zh hJc;have HY:=zh hY;have HSZ:=zh hsz;have HCH:=zh hch;have HDA:=zh hda
 clear h0 hJJ hJ hJb hJc hY hsz hJ0 hch hda
 gi_wp2
 gi_loopw [4,19] (fun ch i wr=>∃ (k:Nat) (chain:ByteArray),k<=j.count/\i=.int .i64 k/\ch=.string chain/\J' (k,chain) wr) (fun _ i _=>j.count-(intOf i).toNat)
 case atStart=>exact⟨0,j.chain,by omega,rfl,rfl,H0.out⟩
 case round=>
  obtain⟨k,chain,hk,rfl,rfl,hs⟩:=hrel
  obtain⟨⟨j0,hj0,e1,e2,e3,e4,e5⟩,hd0⟩:=HJ.out _ _ (HJJ.out _ _ hs)
  have hc0:=hj0.self.cell 0
  have hc1:=hj0.self.cell 1
  simp only[Bg.cells,List.getElem?_toArray,List.getElem?_cons_zero,List.getElem?_cons_succ] at hc0 hc1
  rw[e1,e2,<- HDA.out] at hc0
  rw[e1,e3] at hc1
  have uK:=HJc.out _ _ (HJJ.out _ _ hs)
  have HS:=zh hs;clear hs
  have HD:=zh hd0;have HJ0:=zh hj0;clear hd0 hj0
  have HE1:=zh e1;have HE5:=zh e5;clear e1 e2 e3 e4 e5
  by_cases hlt:k<j.count
  ·have dk:decide ((k:Int)<j.count)=true:=by simp;omega
   have hrs:=HSZ.out ((j.first:Int)+k)
   obtain⟨rd,hrd⟩:∃ rd,rd=c.read ((j.first:Int)+k):=⟨_,rfl⟩
   obtain⟨s,e⟩:=rd
   rw[<- hrd] at hrs
   have HRD:=zh hrd;clear hrd
   have hJd:J' (k,chain) wr.drew:=HJb.out _ _ _ HS.out (Below.refl _ _).drew
   have HSd:=zh hJd;clear hJd
   have hDd:Ak wr.drew d c:=HD.out.keep fun _ _=>rfl
   have HDd:=zh hDd;clear hDd
   by_cases hee:e=0
   ·subst hee
    have hpar:=mP j0 s chain wr.drew (HJ0.out.keep fun _ _=>rfl) uK (by rw[HE5.out];exact he) hrs
    rw[HE1.out,HE5.out] at hpar
    cases hpd:parsed j.epoch s chain with
    | none =>
      rw[hpd,show PE Option.none=#[.string ⟨#[]⟩,.string ⟨#[]⟩,.string ⟨#[]⟩,.bool false] from rfl,show(Option.none:Option Pg).isSome=false from rfl] at hpar
      have HPD:=zh hpd;clear hpd
      have HP:=zh hpar;clear hpar
      gi_wp2
      refine Lex.Br (by kernel_rfl) (by kernel_rfl) (by kernel_rfl) ?_
      go_wp2_with fail
      refine(IY d c _ _ hp HDd.out).mono ?_
      rintro e' w' ⟨rfl,rfl⟩
      rw[<- HRD.out]
      go_wp2
      refine Lex.ze ?_
      gi_wp2
      refine⟨trivial,fun h=>(by cases h),(Lex.SN HP.out).mono ?_⟩
      rintro e' w1 ⟨rfl,hB⟩
      have hJ1:=HJb.out _ _ _ HSd.out hB
      have HJ1:=zh hJ1;clear hJ1 hB
      gi_wp2
      refine⟨fun _ h=>(by cases h),?_⟩
      gi_wp2
      refine bodyPost_ret (results_none rfl _ _ _) rfl ⟨⟨_,rfl⟩,.inl ⟨(k,chain),.inr ⟨hlt,.inr ?_⟩,HJb.out _ _ _ HJ1.out zb⟩⟩
      rw[<- HRD.out]
      exact HPD.out
    | some p =>
      rw[hpd,show PE (some p)=#[.string p.check,.string p.digest,.string p.data,.bool p.last] from rfl,show(some p).isSome=true from rfl] at hpar
      have hstep:gu j c (k,chain) p (k+1,p.check):=⟨hlt,by rw[<- HRD.out],by rw[<- HRD.out];exact hpd,rfl⟩
      have HST:=zh hstep;clear hstep
      have HPD:=zh hpd;clear hpd
      have HP:=zh hpar;clear hpar
      gi_wp2
      refine Lex.Br (by kernel_rfl) (by kernel_rfl) (by kernel_rfl) ?_
      go_wp2_with fail
      refine(IY d c _ _ hp HDd.out).mono ?_
      rintro e' w' ⟨rfl,rfl⟩
      rw[<- HRD.out]
      go_wp2
      refine Lex.ze ?_
      gi_wp2
      refine⟨trivial,fun h=>(by cases h),(Lex.SN HP.out).mono ?_⟩
      rintro e' w1 ⟨rfl,hB⟩
      have hbw:Below wr.heap.size wr (w1.alloc (.cells #[.string p.check,.string p.digest,.string p.data,.bool p.last] 237)):=((Below.refl wr.heap.size wr).drew.trans hB).alloc hB.size _
      have hsz1:wr.heap.size<=w1.heap.size:=hB.size
      have zbL:=zh hsz1;clear hsz1
      obtain⟨fn,tmps,assign,body,hy,hR⟩:=HY.out (k,chain) p (k+1,p.check) wr _ HS.out hbw HST.out
      simp only[Pg.row] at hy
      clear hB hbw
      gi_wp2
      refine⟨fun h=>(by cases h),hR.mono ?_⟩
      rintro e W3 (⟨rfl,hJ3,hk3⟩|⟨rfl,hJx3⟩)
      ·have hc8 : W3.cell? ⟨w1.heap.size,0,none⟩ = some (.string p.check) :=by
        have h1:=At.new w1 237 #[.string p.check,.string p.digest,.string p.data,.bool p.last]
        have h2:At W3 w1.heap.size 237 #[.string p.check,.string p.digest,.string p.data,.bool p.last]:=h1.keep (hk3 _ zbL.out (by simp))
        exact h2.cell 0
       have HJ3:=zh hJ3;clear hJ3 hk3
       gi_wp2
       go_roundw
       case rel=>exact⟨k+1,p.check,by omega,by go_num,rfl,HJ3.out⟩
       case measure=>simp[intOf];omega
      ·gi_wp2
       refine bodyPost_ret (results_none rfl _ _ _) rfl ?_
       exact⟨⟨_,rfl⟩,.inr hJx3⟩
   ·have de:(e != 0)=true:=by simp[hee]
    gi_wp2
    refine Lex.Br (by kernel_rfl) (by kernel_rfl) (by kernel_rfl) ?_
    go_wp2_with fail
    refine(IY d c _ _ hp HDd.out).mono ?_
    rintro e' w' ⟨rfl,rfl⟩
    rw[<- HRD.out]
    go_wp2
    refine Lex.ze ?_
    gi_wp2
    refine bodyPost_ret (results_none rfl _ _ _) rfl ⟨⟨_,rfl⟩,.inl ⟨(k,chain),.inr ⟨hlt,.inl ?_⟩,HSd.out⟩⟩
    rw[<- HRD.out]
    exact hee
  ·have hk' : k=j.count:=by omega
   have dk:decide ((k:Int)<j.count)=false:=by simp;omega
   have HK:=zh hk';clear hk'
   gi_wp2
   refine bodyPost_end (results_none rfl _ _ _) rfl ⟨⟨_,rfl⟩,.inl ⟨(k,chain),.inl HK.out,HS.out⟩⟩
end
section
open Go Go.RowKit
theorem ZC:(Tryz.prog.info? 118).map (·.size)=some 2:=by kernel_rfl
theorem pU:liesAt Tryz.prog Tryz.prog.depth 118 (2/Tryz.prog.cellsOf 118) 0 118 1=true:=by kernel_rfl
theorem Mk (b:Nat)(w:World)(h0:w.cell? ⟨b,0,none⟩=some (.pointer (some ⟨b,0,none⟩))):
 Calls Tryz.prog 102 #[.pointer (some ⟨b,0,none⟩)] w fun e w' => e=.returned (.tuple #[])/\w' = w:=by
 obtain⟨j,hj,_⟩:=Option.map_eq_some_iff.1 ZC
 go_enter Tryz.func102,Tryz.ntmps102
 go_wp2
 rw[Lib.run_neq_ptr_same w _ Tryz.underlying115 hj]
 go_wp2
 go_end0
 exact⟨rfl,rfl⟩
theorem Ku (b:Nat)(w:World)(h0:w.cell? ⟨b,0,none⟩=some (.pointer none))(hsh:w.shape? b=some (118,2))(hfz:w.frozen? ⟨b,0,none⟩=false):
 Calls Tryz.prog 102 #[.pointer (some ⟨b,0,none⟩)] w fun e w' => e=.returned (.tuple #[])/\w' = w.setCell ⟨b,0,none⟩ (.pointer (some ⟨b,0,none⟩)):=by
 obtain⟨j,hj,hjs⟩:=Option.map_eq_some_iff.1 ZC
 go_enter Tryz.func102,Tryz.ntmps102
 go_wp2
 rw[Lib.run_to_unsafe w ⟨b,0,none⟩ Tryz.underlying115 Tryz.underlying220 hj (by rw[hjs];decide) hsh (Nat.zero_lt_succ 1)]
 simp only[Result.andThen]
 rw[Oper.upon_value]
 go_wp2
 rw[run_callFunc_extern Tryz.func156 (by kernel_rfl) (by kernel_rfl) (by kernel_rfl) (e:=Extern.AbiNoEscape.same) (by kernel_rfl)]
 rw[Lib.run_noEscape]
 simp only[Result.andThen]
 rw[Oper.upon_value]
 go_wp2
 rw[Lib.run_from_unsafe w ⟨b,0,none⟩ Tryz.underlying220 Tryz.underlying115 hj hsh pU]
 simp only[Result.andThen]
 rw[Oper.upon_value]
 go_wp2
 go_end0
 exact⟨rfl,rfl⟩
theorem XP (B b:Nat)(bs:List Value)(w:World)(h:Lib.IsBuilderF 118 5 B b bs w):
 Calls Tryz.prog 102 #[.pointer (some ⟨b,0,none⟩)] w fun e w' => e=.returned (.tuple #[])/\(Lib.BuilderAtF 118 5 B b (.pointer (some ⟨b,0,none⟩)) bs w' /\ Below B w w'):=by
 rcases h with h|h
 ·refine(Ku b w h.cell0 h.shape h.frozen0).mono ?_
  rintro e w' ⟨rfl,rfl⟩
  exact⟨rfl,h.used _,(Below.refl B w).setCell (p:=⟨b,0,none⟩) h.1 _⟩
 ·refine(Mk b w h.cell0).mono ?_
  rintro e w' ⟨rfl,rfl⟩
  exact⟨rfl,h,Below.refl B _⟩
theorem Jz (B b:Nat)(bs:List Value)(s:ByteArray)(w:World)(h:Lib.IsBuilderF 118 5 B b bs w)(hlen:bs.length+s.size<=140737488355328)(hBw:B<=w.heap.size):
 Calls Tryz.prog 51 #[.pointer (some ⟨b,0,none⟩),.string s] w fun e w' => e=.returned (.tuple #[.int .i64 s.size,.nilIface])/\(Lib.IsBuilderF 118 5 B b (bs++Lib.strCells s) w' /\ Below B w w'):=by
 obtain⟨i0,hi,hz0,hz1,hz2⟩:=info_parts Lm
 go_enter Tryz.func51,Tryz.ntmps51
 go_wp2_with (go_at_call 102;refine(XP B b bs _ h).mono ?_)
 rintro e w1 ⟨rfl,h1,hb1⟩
 obtain⟨hB,v,hbk,hown,hne⟩:=h1
 have c0:w1.cell? ⟨b,0,none⟩=some (.pointer (some ⟨b,0,none⟩)):=by rw[Lib.cell_of_heap hbk];rfl
 have c1:w1.cell? ⟨b,1,none⟩=some v:=by rw[Lib.cell_of_heap hbk];rfl
 go_wp2_with (at_builtin;refine Lib.wpList_append_own_stringF _ rfl _ _ 116 9 rfl B 5 i0 Tryz.underlying116 Tryz.underlying9 hi hz0 hz1 hz2 _ _ _ rfl hown s rfl ?c3 ?c4 ?c5 ?_)
 case c3=>unfold maxLen;omega
 case c4=>omega
 case c5=>have:=hb1.size;omega
 intro v' w2 hown' hgrow _
 have hlt:b<w1.heap.size:=by
  rcases Nat.lt_or_ge b w1.heap.size with h' | h'
  ·exact h'
  ·simp[Array.getElem?_eq_none h'] at hbk
 have hb2:w2.heap[b]? = some (.cells #[.pointer (some ⟨b,0,none⟩),v] 118 (0,0)):=by
  rw[hgrow.block b hlt (fun e=>hne e.symm)]
  exact hbk
 have d0:w2.cell? ⟨b,0,none⟩=some (.pointer (some ⟨b,0,none⟩)):=by rw[Lib.cell_of_heap hb2];rfl
 have d1:w2.cell? ⟨b,1,none⟩=some v:=by rw[Lib.cell_of_heap hb2];rfl
 have f1:w2.frozen? ⟨b,1,none⟩=false:=Lib.frozen_of_heap hb2 1
 obtain⟨ao,n',cap,rfl⟩:∃ ao n' cap,v' = .slice ao n' cap:=by
  rcases hown'.2 with ⟨hv,_⟩|⟨g,cap,cur,fz,hv,_⟩
  ·exact⟨_,_,_,hv⟩
  ·exact⟨_,_,_,hv⟩
 go_wp2
 go_ret2
 refine⟨rfl,?_,?_⟩
 ·exact .inr (Lib.BuilderAtF.put (T:=118) (e:=5) hB hb2 (bs':=bs++Lib.strCells s) (by simpa [Lib.strCells_length] using hown') (by decide))
 ·exact(hb1.grown hgrow (by have:=hb1.size;omega) (fun k hk=>(hown.lt k hk).1)).setCell (p:=⟨b,1,none⟩) hB _
theorem gF (w:World):Lib.IsBuilderF 118 5 w.heap.size w.heap.size [] (w.alloc (.cells #[.pointer none,.slice none 0 0] 118)):=
 .inl ⟨Nat.le_refl _,_,heap_alloc_new w _,⟨rfl,.inl ⟨rfl,rfl⟩⟩,by simp[Value.ownBlock]⟩
theorem SY {w w' : World}(h:Below w.heap.size w w'):w.grownBy w' none:=⟨h.os,h.tape,h.output,h.size,fun k hk _=>h.block k hk⟩
theorem Ml (l m:List UInt8):Lib.byteCells l++Lib.byteCells m=Lib.byteCells (l++m):=by simp[Lib.byteCells]
theorem Ja {T e:TypeId}{B b:Nat}{p:Value}{bs:List Value}{w w' : World}(h:Lib.BuilderAtF T e B b p bs w)(hb:Below w.heap.size w w'):Lib.BuilderAtF T e B b p bs w':=by
 have hlt:=h.lt
 obtain⟨hB,v,hbk,hown,hne⟩:=h
 exact⟨hB,v,(hb.block _ hlt).trans hbk,hown.kept (SY hb) (by cases hv:v.ownBlock<;>simp),hne⟩
theorem Jb {T e:TypeId}{B b:Nat}{bs:List Value}{w:World}(h:Lib.IsBuilderF T e B b bs w)(o:Obj):Lib.IsBuilderF T e B b bs (w.alloc o):=h.imp (fun h=>h.alloc o) (fun h=>h.alloc o)
theorem Ey {T e:TypeId}{B b:Nat}{bs:List Value}{w:World}(h:Lib.IsBuilderF T e B b bs w):Lib.IsBuilderF T e B b bs w.drew:=h
theorem Fv {T e:TypeId}{B b:Nat}{bs:List Value}{w w' : World}(h:Lib.IsBuilderF T e B b bs w)(hb:Below w.heap.size w w'):Lib.IsBuilderF T e B b bs w':=h.imp (fun h=>Ja h hb) (fun h=>Ja h hb)
end
section
open Go Go.RowKit Go.Maps
structure OSt where
 open_:List Pg
 recs:List ByteArray
 next:Nat
 jch:ByteArray
def EK (l:List Pg):List UInt8:=l.flatMap fun p=>p.data.data.toList
def BS (l:List Pg):ByteArray:=⟨(EK l).toArray⟩
theorem Wx (l:List Pg)(m:Nat)(h:m<l.length):EK (l.take (m+1))=EK (l.take m)++l[m].data.data.toList:=by
 unfold EK
 rw[List.take_succ_eq_append_getElem h,List.flatMap_append]
 simp
theorem Ta (l:List Pg)(h:∀ q∈l,q.data.size<=437):(EK l).length<=437*l.length:=by
 induction l with
 | nil=>exact Nat.zero_le _
 | cons q l ih =>
   have h1:=ih (fun x hx=>h x (List.mem_cons_of_mem _ hx))
   have h2:=h q List.mem_cons_self
   have e:EK (q::l)=q.data.data.toList++EK l:=rfl
   have h3:q.data.data.toList.length=q.data.size:=Array.length_toList
   rw[e,List.length_append,List.length_cons,h3]
   omega
theorem FL (b:Nat)(l:List Pg)(w:World)(h:Lib.IsBuilderF 118 5 b b (Lib.byteCells (EK l)) w)(hBw:b<=w.heap.size):
 Calls Tryz.prog 52 #[.pointer (some ⟨b,0,none⟩)] w fun e w' => e=.returned (.string (BS l))/\(Lib.IsBuilderF 118 5 b b (Lib.byteCells (EK l)) w' /\ Below b w w'):=Tryz.Builder_String_any_f b b (EK l) w h hBw
def DY (s:OSt)(p:Pg):Bool:=match s.open_ with
 | []=>false
 | q::_=>q.digest.toList != p.digest.toList
def OSt.step (s:OSt)(p:Pg):Option OSt:=
 if DY s p then none
 else if p.last then (if (Sha.sha (BS (s.open_++[p]))).toList==p.digest.toList then some ⟨[],s.recs++[BS (s.open_++[p])],s.next+(s.open_++[p]).length,p.check⟩ else none)
 else some { s with open_:=s.open_++[p] }
def opens (epoch:Nat)(rd:Nat->ByteArray × Int):Nat->Nat->ByteArray->OSt->OSt
 | 0,_,_,s=>s
 | n + 1,k,ch,s => if (rd k).2 = 0 then (match parsed epoch (rd k).1 ch with
     | none=>s
     | some p => match s.step p with
       | none=>s
       | some s' => opens epoch rd n (k+1) p.check s') else s
def Hf (epoch:Nat):ByteArray:=Sha.sha (⟨#[9]⟩++big epoch 8)
def OSt.zero (epoch:Nat):OSt:=⟨[],[],0,Hf epoch⟩
def opened (epoch count:Nat)(rd:Nat->ByteArray × Int):OSt:=opens epoch rd count 0 (Hf epoch) (OSt.zero epoch)
def DZ (l:List Pg):List Value:=l.flatMap fun p=>[.string p.check,.string p.digest,.string p.data,.bool p.last]
theorem NU (l:List Pg)(p:Pg):DZ (l++[p])=DZ l++[.string p.check,.string p.digest,.string p.data,.bool p.last]:=by simp[DZ]
theorem Qu (l:List Pg)(i:Nat)(h:i<l.length):(DZ l)[i*4]? = some (.string l[i].check)/\(DZ l)[i*4+1]? = some (.string l[i].digest)/\(DZ l)[i*4+2]? = some (.string l[i].data)/\(DZ l)[i*4+3]? = some (.bool l[i].last):=by
 induction l generalizing i with
 | nil=>cases h
 | cons x l ih =>
   match i with
   | 0=>exact⟨rfl,rfl,rfl,rfl⟩
   | i + 1 =>
     have:=ih i (by simpa using h)
     rw[show(i+1)*4=i*4+4 by omega]
     exact this
structure CG (w0:World) (dp:Au) (first count epoch jb b8 b9 d:Nat) (s:OSt) (ov rv:Value) (W:World):Prop where
 Kv:At W b8 128 #[.pointer (some ⟨jb,0,none⟩)]
 J2:At W b9 234 #[ov]
 rows:W.ownsRow 0 237 4 ov s.open_.length (DZ s.open_)
 AV:Cq W ⟨jb,dp.a,first,count,epoch,rv,s.recs,s.next,s.jch⟩
 hov:∀ k,ov.ownBlock=some k->d+1<k
 hrv:∀ k,rv.ownBlock=some k->d+1<k
 old:Below w0.heap.size w0 W
section
variable {w0 W W' : World} {dp:Au} {first count epoch jb b8 b9 d:Nat} {s:OSt} {ov rv:Value}
theorem CG.keep (h:CG w0 dp first count epoch jb b8 b9 d s ov rv W)(hk:∀ k,k=jb\/k=b8\/k=b9\/ov.ownBlock=some k\/rv.ownBlock=some k->W'.heap[k]? = W.heap[k]?)(ho:Below w0.heap.size w0 W'):
 CG w0 dp first count epoch jb b8 b9 d s ov rv W' :=
 ⟨h.Kv.keep (hk _ (by simp)),h.J2.keep (hk _ (by simp)),Ar h.rows (fun k hb=>hk k (by simp[hb])),h.AV.keep (fun k hb=>hk k (by rcases hb with rfl|hb;simp;simp[show rv.ownBlock=some k from hb])),h.hov,h.hrv,ho⟩
theorem CG.lt (h:CG w0 dp first count epoch jb b8 b9 d s ov rv W):∀ k,k=jb\/k=b8\/k=b9\/ov.ownBlock=some k\/rv.ownBlock=some k->k<W.heap.size:=by
 rintro k (rfl|rfl|rfl|hk|hk)
 ·exact h.AV.self.lt
 ·exact h.Kv.lt
 ·exact h.J2.lt
 ·obtain⟨cur,hc⟩:=Ao h.rows hk;exact hc.lt
 ·exact h.AV.lt k (.inr hk)
theorem CG.below (h:CG w0 dp first count epoch jb b8 b9 d s ov rv W)(hb:Below W.heap.size W W'):CG w0 dp first count epoch jb b8 b9 d s ov rv W' :=
 h.keep (fun k hk=>hb.block k (h.lt k hk)) (h.old.trans (hb.mono h.old.size))
theorem CG.fr (h:CG w0 dp first count epoch jb b8 b9 d s ov rv W)(hd:w0.heap.size<=d)(hjb:jb<=d)(h8:b8<=d)(h9:b9<=d)(hb:Fr (fun k=>k=d+1) W W'):CG w0 dp first count epoch jb b8 b9 d s ov rv W' :=
 h.keep (fun k hk=>hb.keep k (h.lt k hk) (by
  rcases hk with rfl|rfl|rfl|hk|hk
  ·omega
  ·omega
  ·omega
  ·have:=h.hov k hk;omega
  ·have:=h.hrv k hk;omega)) ⟨hb.os.trans h.old.os,hb.tape.trans h.old.tape,hb.output.trans h.old.output,Nat.le_trans h.old.size hb.size,fun k hk=>(hb.keep k (Nat.lt_of_lt_of_le hk h.old.size) (by omega)).trans (h.old.block k hk)⟩
end
section
variable {w0 W W1 W2:World} {dp:Au} {first count epoch jb b8 b9 d:Nat} {s:OSt} {ov rv v' : Value}
def Gj (jb b9:Nat)(ov rv:Value)(k:Nat):Prop:=k=jb\/k=b9\/ov.ownBlock=some k\/rv.ownBlock=some k
theorem Fw (h:CG w0 dp first count epoch jb b8 b9 d s ov rv W)(hjb:jb<d)(h9:b9<d):¬ Gj jb b9 ov rv d/\¬ Gj jb b9 ov rv (d+1):=by
 constructor
 ·rintro(e|e|e|e)
  ·omega
  ·omega
  ·have:=h.hov _ e;omega
  ·have:=h.hrv _ e;omega
 ·rintro(e|e|e|e)
  ·omega
  ·omega
  ·have:=h.hov _ e;omega
  ·have:=h.hrv _ e;omega
theorem Hg (h:CG w0 dp first count epoch jb b8 b9 d s ov rv W){k:Nat}(hk:Gj jb b9 ov rv k):k<W.heap.size:=
 h.lt k (by rcases hk with e|e|e|e<;>simp[e])
theorem CG.pushed {p:Pg}(h:CG w0 dp first count epoch jb b8 b9 d s ov rv W)(hd:w0.heap.size<=d)(h9:w0.heap.size<=b9)(hb:Below W.heap.size W W1)(hg:W1.grownBy W2 ov.ownBlock)
 (how:W2.ownsRow 0 237 4 v' (s.open_++[p]).length (DZ (s.open_++[p]))) (hv:v'.ownBlock=ov.ownBlock\/∃ g,v'.ownBlock=some g/\d+1<g):
 CG w0 dp first count epoch jb b8 b9 d { s with open_:=s.open_++[p] } v' rv (W2.setCell ⟨b9,0,none⟩ v')/\Fr (Gj jb b9 ov rv) W (W2.setCell ⟨b9,0,none⟩ v'):=by
 have h1:=h.below hb
 have hj:=At.grown h1.AV.self hg (by intro e;exact(h1.AV.self.own_ne h1.rows (by decide)) e.symm)
 have h8:=At.grown h1.Kv hg (by intro e;exact(h1.Kv.own_ne h1.rows (by decide)) e.symm)
 have h9':=At.grown h1.J2 hg (by intro e;exact(h1.J2.own_ne h1.rows (by decide)) e.symm)
 have hr:=Ar (w':=W2) h1.AV.recs (fun k hk=>hg.block k (by obtain⟨cur,hc⟩:=Ao h1.AV.recs hk;exact hc.lt) (by
  intro e
  obtain⟨cur,hc⟩:=Ao h1.AV.recs hk
  obtain⟨cur',hc'⟩:=Ao h1.rows e.symm
  exact hc.ne hc' (by decide) rfl))
 have hov:∀ k,v'.ownBlock=some k->d+1<k:=by
  intro k hk
  rcases hv with hv|⟨g,hv,hgd⟩
  ·exact h.hov k (hv.symm.trans hk)
  ·have:g=k:=by rw[hv] at hk;simpa using hk
   omega
 have n9j:b9≠jb:=h9'.ne hj (by decide)
 have n98:b9≠b8:=h9'.ne h8 (by decide)
 have hf:Fr (Gj jb b9 ov rv) W (W2.setCell ⟨b9,0,none⟩ v'):=
  ((Fr.of_below hb).grown hg (fun k hk=>.inl (.inr (.inr (.inl hk))))).setCell (.inl (.inr (.inl rfl))) _
 refine⟨⟨h8.far (Ne.symm n98) _,h9'.set 0 v',ownsRow_setCell_other how (by
  intro e
  exact(h9'.own_ne how (by decide)) e) _,⟨hj.far (Ne.symm n9j) _,ownsRow_setCell_other hr (by
  intro e
  exact(h9'.own_ne hr (by decide)) e) _,h.AV.few,h.AV.count,h.AV.next⟩,hov,h.hrv,?_⟩,hf⟩
 have hb2:Below w0.heap.size w0 W2:=(h1.old).grown hg (Nat.le_trans (Nat.le_refl _) h1.old.size) (fun k hk=>by have:=h.hov k hk;omega)
 exact hb2.setCell h9 _
theorem CG.done {rs:List ByteArray}{nx:Nat}{chk:ByteArray}(h:CG w0 dp first count epoch jb b8 b9 d s ov rv W)(hd:w0.heap.size<=d)(h9:w0.heap.size<=b9)(hjb:w0.heap.size<=jb)(hb:Below W.heap.size W W1)(hg:W1.grownBy W2 rv.ownBlock)
 (how:W2.ownsRow 0 9 1 v' rs.length (rs.map Value.string)) (hv:v'.ownBlock=rv.ownBlock\/∃ g,v'.ownBlock=some g/\d+1<g) (fO:rs.length<=1000000) (hnx:nx<=count):
 CG w0 dp first count epoch jb b8 b9 d ⟨[],rs,nx,chk⟩ (.slice none 0 0) v' ((((W2.setCell ⟨jb,4,none⟩ v').setCell ⟨jb,5,none⟩ (.int .i64 nx)).setCell ⟨jb,6,none⟩ (.string chk)).setCell ⟨b9,0,none⟩ (.slice none 0 0))/\
  Fr (Gj jb b9 (.slice none 0 0) rv) W ((((W2.setCell ⟨jb,4,none⟩ v').setCell ⟨jb,5,none⟩ (.int .i64 nx)).setCell ⟨jb,6,none⟩ (.string chk)).setCell ⟨b9,0,none⟩ (.slice none 0 0)):=by
 have h1:=h.below hb
 have hj:=At.grown h1.AV.self hg (by intro e;exact(h1.AV.self.own_ne h1.AV.recs (by show 183≠9;decide)) e.symm)
 have h8:=At.grown h1.Kv hg (by intro e;exact(h1.Kv.own_ne h1.AV.recs (by decide)) e.symm)
 have h9':=At.grown h1.J2 hg (by intro e;exact(h1.J2.own_ne h1.AV.recs (by decide)) e.symm)
 have n9j:b9≠jb:=h9'.ne hj (by decide)
 have n98:b9≠b8:=h9'.ne h8 (by decide)
 have n8j:b8≠jb:=h8.ne hj (by decide)
 have hvj:v'.ownBlock≠some jb:=hj.own_ne how (by decide)
 have hv9:v'.ownBlock≠some b9:=h9'.own_ne how (by decide)
 have hrv:∀ k,v'.ownBlock=some k->d+1<k:=by
  intro k hk
  rcases hv with hv|⟨g,hv,hgd⟩
  ·exact h.hrv k (hv.symm.trans hk)
  ·have:g=k:=by rw[hv] at hk;simpa using hk
   omega
 have hf:Fr (Gj jb b9 (.slice none 0 0) rv) W ((((W2.setCell ⟨jb,4,none⟩ v').setCell ⟨jb,5,none⟩ (.int .i64 nx)).setCell ⟨jb,6,none⟩ (.string chk)).setCell ⟨b9,0,none⟩ (.slice none 0 0)):=
  (((((Fr.of_below hb).grown hg (fun k hk=>.inl (.inr (.inr (.inr hk))))).setCell (.inl (.inl rfl)) _).setCell (.inl (.inl rfl)) _).setCell (.inl (.inl rfl)) _).setCell (.inl (.inr (.inl rfl))) _
 have hown:=ownsRow_setCell_other (ownsRow_setCell_other (ownsRow_setCell_other (ownsRow_setCell_other how (a:=⟨jb,4,none⟩) (fun e=>hvj e) v') (a:=⟨jb,5,none⟩) (fun e=>hvj e) (.int .i64 nx)) (a:=⟨jb,6,none⟩) (fun e=>hvj e) (.string chk)) (a:=⟨b9,0,none⟩) (fun e=>hv9 e) (.slice none 0 0)
 refine⟨⟨(((h8.far (p:=⟨jb,4,none⟩) n8j _).far (p:=⟨jb,5,none⟩) n8j _).far (p:=⟨jb,6,none⟩) n8j _).far (p:=⟨b9,0,none⟩) (Ne.symm n98) _,
  (((h9'.far (p:=⟨jb,4,none⟩) n9j _).far (p:=⟨jb,5,none⟩) n9j _).far (p:=⟨jb,6,none⟩) n9j _).set 0 _,⟨rfl,.inl ⟨rfl,rfl⟩⟩,
  ⟨(((hj.set 4 v').set 5 (.int .i64 nx)).set 6 (.string chk)).far (p:=⟨b9,0,none⟩) (Ne.symm n9j) _,hown,fO,h.AV.count,hnx⟩,fun k hk=>(by cases hk),hrv,?_⟩,hf⟩
 have hb2:Below w0.heap.size w0 W2:=(h1.old).grown hg h1.old.size (fun k hk=>by have:=h.hrv k hk;omega)
 exact(((hb2.setCell (p:=⟨jb,4,none⟩) hjb _).setCell (p:=⟨jb,5,none⟩) hjb _).setCell (p:=⟨jb,6,none⟩) hjb _).setCell (p:=⟨b9,0,none⟩) h9 _
end
theorem Hl {epoch:Nat}{rd:Nat->ByteArray × Int}{count k:Nat}{ch:ByteArray}{t t' : OSt}{p:Pg}(hk:k<count)(hr:(rd k).2=0)(hp:parsed epoch (rd k).1 ch=some p)(hs:t.step p=some t'):
 opens epoch rd (count-k) k ch t=opens epoch rd (count-(k+1)) (k+1) p.check t':=by
 obtain⟨n,hn⟩:∃ n,count-k=n+1:=⟨count-k-1,by omega⟩
 have hn' : count-(k+1)=n:=by omega
 rw[hn,hn']
 show(if (rd k).2=0 then _ else _)=_
 rw[if_pos hr,hp]
 simp only[hs]
theorem Nf {epoch:Nat}{rd:Nat->ByteArray × Int}{count k:Nat}{ch:ByteArray}{t:OSt}{p:Pg}(hk:k<count)(hr:(rd k).2=0)(hp:parsed epoch (rd k).1 ch=some p)(hs:t.step p=none):
 opens epoch rd (count-k) k ch t=t:=by
 obtain⟨n,hn⟩:∃ n,count-k=n+1:=⟨count-k-1,by omega⟩
 rw[hn]
 show(if (rd k).2=0 then _ else _)=_
 rw[if_pos hr,hp]
 simp only[hs]
theorem Wy {epoch:Nat}{rd:Nat->ByteArray × Int}{count k:Nat}{ch:ByteArray}{t:OSt}(h:k=count\/k<count/\((rd k).2≠0\/parsed epoch (rd k).1 ch=none)):
 opens epoch rd (count-k) k ch t=t:=by
 rcases h with rfl|⟨hk,h⟩
 ·rw[Nat.sub_self];rfl
 ·obtain⟨n,hn⟩:∃ n,count-k=n+1:=⟨count-k-1,by omega⟩
  rw[hn]
  show(if (rd k).2=0 then _ else _)=_
  by_cases hr:(rd k).2=0
  ·rw[if_pos hr]
   rcases h with h|h
   ·exact absurd hr h
   ·rw[h]
  ·rw[if_neg hr]
def zaw (w0:World)(dp:Au)(rd:Nat->ByteArray × Int)(first count epoch jb b8 b9 d:Nat)(t:Nat × ByteArray)(W:World):Prop:=
 ∃ s ov rv,(t.1 = 0 → s = OSt.zero epoch) ∧ t.1 ≤ count ∧ s.next + s.open_.length = t.1 ∧ s.recs.length ≤ t.1 ∧ (∀ q ∈ s.open_,q.data.size ≤ 437) ∧ t.2.size ≤ 1000 ∧
   opens epoch rd (count-t.1) t.1 t.2 s=opened epoch count rd/\CG w0 dp first count epoch jb b8 b9 d s ov rv W
def zax (w0:World)(dp:Au)(rd:Nat->ByteArray × Int)(first count epoch jb b8 b9 d:Nat)(c:Code)(W:World):Prop:=
 c=.exit 0/\∃ s ov rv,(opened epoch count rd).recs=s.recs/\(opened epoch count rd).next=s.next/\(opened epoch count rd).jch=s.jch/\CG w0 dp first count epoch jb b8 b9 d s ov rv W
theorem FZ {e:Nat}{s ch:ByteArray}{p:Pg}(h:parsed e s ch=some p):p.data.size<=437:=by
 unfold parsed at h
 split at h
 ·rename_i hh
  cases h
  have hl:Dx s<=437:=by
   simp only[Ed,Bool.and_eq_true,decide_eq_true_eq] at hh
   omega
  rw[ByteArray.size_extract]
  omega
 ·cases h
end
section
open Go Go.RowKit Go.Maps
theorem uL (r:Option Nat):(Lex.W r).round=r:=rfl
attribute [local go_sem] Oper.semAt_some uL
def pV (w:World)(dp:Au)(rd:Nat->ByteArray × Int)(first count epoch:Nat)(e:Ending)(w' : World):Prop:=
 ∃ j : Bg,e = .returned (.tuple #[.pointer (some ⟨j.jb,0,none⟩),.int .i64 0]) ∧ Cq w' j ∧ j.da = dp.a ∧ j.first = first ∧ j.count = count ∧ j.epoch = epoch ∧
   j.recs=(opened epoch count rd).recs/\j.next=(opened epoch count rd).next/\j.chain=(opened epoch count rd).jch/\(∀ k,j.foot k->w.heap.size<=k)/\Below w.heap.size w w'
theorem kH:(Tryz.prog.info? 237).map (fun i=>(i.zero,i.size,i.bytes))=some (some (.agg #[.string ⟨#[]⟩,.string ⟨#[]⟩,.string ⟨#[]⟩,.bool false]),4,56):=by kernel_rfl
theorem pW (d:Au)(c:Ac)(rd:Nat->ByteArray × Int)(first count epoch n:Nat)(w:World)(hn:n=c.Aa.length)(h:Ak w d c)(h2:1<=count)(h3:count<=n)(h4:first+count<=n)(h6:epoch<=4611686018427387903)
 (hp:c.pending.length<=1000000) (hsz:∀ p,(c.read p).1.size<=9223372036854775000) (hrd:∀ k,rd k=c.read ((first:Int)+k)):
 Calls Tryz.prog 110 #[.pointer (some ⟨d.a,0,none⟩),.agg #[.int .i64 first,.int .i64 count],.int .i64 epoch] w (pV w d rd first count epoch):=by
 refine(callsIn_wide (n:=9)).1 ?_
 have hrr:Fence.wide.round=none:=rfl
 have oM:=h.most
 rw[<- hn] at oM
 have HH:=zh h;have HN:=zh hn;have HSZ:=zh hsz;have HRD:=zh hrd;clear h hn hsz hrd
 have d1:decide ((first:Int)<0)=false:=by simp
 have d2:decide ((count:Int)<1)=false:=by simp;omega
 have d3:decide (n<count)=false:=by simp;omega
 have d4:decide ((n:Int)-count<first)=false:=by simp;omega
 have d5:decide ((epoch:Int)<0)=false:=by simp
 have d6:decide ((4611686018427387903:Int)<epoch)=false:=by simp;omega
 refine callsIn_of_wp_marks Tryz.func110 rfl trivial ?_ rfl
 simp only[Tryz.ntmps110,List.size_toArray,List.length_cons,List.length_nil,Nat.reduceAdd,Nat.reduceSub,Array.replicate_succ,Array.replicate_zero,List.push_toArray,List.append_toArray,List.nil_append,List.cons_append]
 gi_wp2
 have hd1:Ak (w.alloc (.cells #[.int .i64 first,.int .i64 count] 51)).drew d c:=HH.out.below ((Below.refl w.heap.size w).alloc (Nat.le_refl _) _).drew (Nat.le_refl _)
 have hB1:Below w.heap.size w (w.alloc (.cells #[.int .i64 first,.int .i64 count] 51)).drew:=((Below.refl w.heap.size w).alloc (Nat.le_refl _) _).drew
 have hA1:At (w.alloc (.cells #[.int .i64 first,.int .i64 count] 51)).drew w.heap.size 51 #[.int .i64 first,.int .i64 count]:=(At.new w _ _).drew
 have HD1:=zh hd1;have HB1:=zh hB1;have HA1:=zh hA1;clear hd1 hB1 hA1
 refine Lex.Co (fun k=>k=w.heap.size) [10,17,21] 23 [13,7] (by kernel_rfl) (by kernel_rfl) (by kernel_rfl) (by kernel_rfl) ?_
 simp only[Lex.Bh,zd]
 generalize (w.alloc (.cells #[.int .i64 first,.int .i64 count] 51)).drew=w1 at*
 obtain⟨c0,c1⟩:=HA1.out.c2
 go_wp2_with fail
 (with_reducible refine(GX d c _ HD1.out).mono ?_);rintro e w1 ⟨rfl,rfl⟩;rw[<- HN.out];go_wp2_with fail
 refine Lex.Mid.intro (fun k _ hk=>rfl) ?_
 go_wp2_with fail
 (with_reducible refine(GX d c _ HD1.out).mono ?_);rintro e w1 ⟨rfl,rfl⟩;rw[<- HN.out];go_wp2_with fail
 refine Lex.Mid.intro (fun k _ hk=>rfl) ?_
 go_wp2
 refine Lex.zk ?_ ?_
 ·exact⟨⟨rfl,zi c1⟩,⟨rfl,zi c0⟩,⟨rfl,zi c1⟩,trivial⟩
 clear d1 d2 d3 d4 d5 d6
 gi_wp2
 obtain⟨jr,hjr⟩:∃ jr:Array Value,jr=#[.pointer (some ⟨d.a,0,none⟩),.int .i64 first,.int .i64 count,.int .i64 epoch,.slice none 0 0,.int .i64 0,.string ⟨#[]⟩]:=⟨_,rfl⟩
 have a3:At (((w1.alloc (.cells jr 183)).alloc (.cells #[.pointer (some ⟨w1.heap.size,0,none⟩)] 128)).drew) w1.heap.size 183 jr:=((At.new w1 183 jr).alloc _).drew
 have b3:At (((w1.alloc (.cells jr 183)).alloc (.cells #[.pointer (some ⟨w1.heap.size,0,none⟩)] 128)).drew) (w1.heap.size+1) 128 #[.pointer (some ⟨w1.heap.size,0,none⟩)]:=by
  have h:=(At.new (w1.alloc (.cells jr 183)) 128 #[.pointer (some ⟨w1.heap.size,0,none⟩)]).drew
  rw[World.size_alloc] at h
  exact h
 have B3:Below w1.heap.size w1 (((w1.alloc (.cells jr 183)).alloc (.cells #[.pointer (some ⟨w1.heap.size,0,none⟩)] 128)).drew):=(((Below.refl w1.heap.size w1).alloc (Nat.le_refl _) _).alloc (by rw[World.size_alloc];omega) _).drew
 have HJR:=zh hjr
 rw[<- hjr]
 clear hjr
 have HA3:=zh a3;have HB3:=zh b3;have xU:=zh B3;clear a3 b3 B3
 refine Lex.Co (fun k=>k=w1.heap.size+1) [0] 5 [3,2] (by kernel_rfl) (by kernel_rfl) (by kernel_rfl) (by kernel_rfl) ?_
 simp only[Lex.Bh,zd]
 generalize ((w1.alloc (.cells jr 183)).alloc (.cells #[.pointer (some ⟨w1.heap.size,0,none⟩)] 128)).drew=w3 at*
 have p0:=HB3.out.c1
 go_wp2_with fail
 refine(NP epoch 8 w3 (by omega) (by omega) (by omega)).mono ?_
 rintro e w4 ⟨rfl,hb4⟩
 have HB4:=zh hb4;clear hb4
 go_wp2
 refine Lex.Mid.intro (fun k hk hl=>by subst hk;exact HB4.out.block _ hl) ?_
 go_wp2_with fail
 refine(Dw _ _ (by rw[Sha.Ab,Bq];decide)).mono ?_
 rintro e w5 ⟨rfl,hb5⟩
 have zay : Below w3.heap.size w3 w5:=HB4.out.trans (hb5.mono HB4.out.size)
 have HB5:=zh zay;clear hb5 zay
 go_wp2
 refine Lex.Mid.intro (fun k hk hl=>by subst hk;exact HB5.out.block _ hl) ?_
 have a5:=At.below HA3.out HB5.out HA3.out.lt
 have q6:w5.frozen? ⟨w1.heap.size,6,none⟩=false:=a5.free 6
 have c6:=a5.cell 6
 rw[HJR.out] at c6
 simp only[zg] at c6
 have HA5:=zh a5;clear a5
 go_wp2
 refine Lex.zk ?_ ?_
 ·exact⟨⟨rfl,zi p0⟩,trivial⟩
 have Py:w1.heap.size+1<w3.heap.size:=HB3.out.lt
 have hsz5:=HB5.out.size
 have hbx:Below w1.heap.size w1 (w5.setCell ⟨w1.heap.size,6,none⟩ (.string (Sha.sha (⟨#[9]⟩++big epoch 8)))):=(xU.out.trans (HB5.out.mono xU.out.size)).setCell (p:=⟨w1.heap.size,6,none⟩) (Nat.le_refl _) _
 have hja:At (w5.setCell ⟨w1.heap.size,6,none⟩ (.string (Sha.sha (⟨#[9]⟩++big epoch 8)))) w1.heap.size 183 #[.pointer (some ⟨d.a,0,none⟩),.int .i64 first,.int .i64 count,.int .i64 epoch,.slice none 0 0,.int .i64 0,.string (Sha.sha (⟨#[9]⟩++big epoch 8))]:=by
  have h:=HA5.out.set 6 (.string (Sha.sha (⟨#[9]⟩++big epoch 8)))
  rw[HJR.out] at h
  exact h
 have hjb:At (w5.setCell ⟨w1.heap.size,6,none⟩ (.string (Sha.sha (⟨#[9]⟩++big epoch 8)))) (w1.heap.size+1) 128 #[.pointer (some ⟨w1.heap.size,0,none⟩)]:=(At.below HB3.out HB5.out HB3.out.lt).far (by show w1.heap.size+1≠w1.heap.size;omega) _
 have hs6:(w5.setCell ⟨w1.heap.size,6,none⟩ (.string (Sha.sha (⟨#[9]⟩++big epoch 8)))).heap.size=w5.heap.size:=by simp[World.setCell]
 have HX:=zh hbx;have HJA:=zh hja;have HJB:=zh hjb;have HS6:=zh hs6
 clear hbx hja hjb c6 q6 p0 hs6
 generalize w5.setCell ⟨w1.heap.size,6,none⟩ (.string (Sha.sha (⟨#[9]⟩++big epoch 8)))=w6 at*
 have e8:=HJB.out.c1
 have zaz:w1.heap.size+1<w6.heap.size:=HJB.out.lt
 gi_wp2
 obtain⟨jb,pX⟩:∃ jb,jb=w1.heap.size:=⟨_,rfl⟩
 obtain⟨b9,pY⟩:∃ b9,b9=w6.heap.size:=⟨_,rfl⟩
 have h7:CG w d first count epoch jb (jb+1) b9 (b9+1) (OSt.zero epoch) (.slice none 0 0) (.slice none 0 0) (w6.alloc (.cells #[.slice none 0 0] 234)):=by
  rw[pX,pY]
  refine⟨HJB.out.alloc _,At.new _ _ _,⟨rfl,.inl ⟨rfl,rfl⟩⟩,⟨HJA.out.alloc _,⟨rfl,.inl ⟨rfl,rfl⟩⟩,by show 0<=1000000;omega,by show count<=4096;omega,Nat.zero_le _⟩,fun k hk=>(by cases hk),fun k hk=>(by cases hk),?_⟩
  exact(HB1.out.trans (HX.out.mono HB1.out.size)).alloc (Nat.le_trans HB1.out.size HX.out.size) _
 have hs7:(w6.alloc (.cells #[.slice none 0 0] 234)).heap.size=b9+1:=by rw[World.size_alloc,pY]
 have zcV:jb+1<b9:=by rw[pX,pY];exact zaz
 have hjw:w.heap.size<=jb:=by rw[pX];exact HB1.out.size
 rw[<- pX,<- pY]
 have H7:=zh h7;have HS7:=zh hs7;clear h7 hs7 e8 zaz Py hsz5 HS6 HX HJA HJB HA5 HB5 HB4 HA3 HB3 xU HJR c0 c1 HD1 HA1
 clear pX pY HB1
 generalize w6.alloc (.cells #[.slice none 0 0] 234)=w7 at*
 have hs7:=HS7.out
 refine Md (r:=none) rfl rfl (enters_of Tryz.func167 (by kernel_rfl) rfl) (fun p:Pg=>#[.agg #[.string p.check,.string p.digest,.string p.data,.bool p.last]]) (fun _=>rfl)
  (zaw w d rd first count epoch jb (jb+1) b9 (b9+1)) (zax w d rd first count epoch jb (jb+1) b9 (b9+1))
  (gu ⟨jb,d.a,first,count,epoch,.slice none 0 0,[],0,Hf epoch⟩ c) (pR ⟨jb,d.a,first,count,epoch,.slice none 0 0,[],0,Hf epoch⟩ c) (0,Hf epoch)
  ?hJb ?hJl ?SX ?h0 ?hiter ?Jy ?hdone ?hstop
 case hJb=>
  rintro s W W' ⟨t,ov,rv,h0,h1,h2,h3,h4,h5,h6,h7⟩ hb
  exact⟨t,ov,rv,h0,h1,h2,h3,h4,h5,h6,h7.below hb⟩
 case hJl=>
  rintro s W W' ⟨t,ov,rv,h0,h1,h2,h3,h4,h5,h6,h7⟩ hb
  rw[hs7] at hb
  exact⟨t,ov,rv,h0,h1,h2,h3,h4,h5,h6,h7.fr (by omega) (by omega) (by omega) (by omega) hb⟩
 case SX=>
  rintro c W W' ⟨rfl,t,ov,rv,h1,h2,h3,h7⟩ hb
  rw[hs7] at hb
  exact⟨rfl,t,ov,rv,h1,h2,h3,h7.fr (by omega) (by omega) (by omega) (by omega) hb⟩
 case h0=>exact⟨OSt.zero epoch,_,_,fun _=>rfl,Nat.zero_le _,rfl,Nat.le_refl _,fun q hq=>(by cases hq),by show(Sha.sha _).size<=1000;rw[Sha.Bn];omega,rfl,H7.out⟩
 case hiter=>
  refine gy ⟨jb,d.a,first,count,epoch,.slice none 0 0,[],0,Hf epoch⟩ d c _ _ rfl (by show epoch<_;omega) (by show count<=_;omega) (by show first<=_;omega) (by show(Sha.sha _).size<=1000;rw[Sha.Bn];omega) hp HSZ.out ?_ ?_ ?_
  ·rintro s W ⟨t,ov,rv,h0,h1,h2,h3,h4,h5,h6,h7⟩
   exact⟨⟨_,h7.AV,rfl,rfl,rfl,rfl,rfl⟩,HH.out.below h7.old (Nat.le_refl _)⟩
  ·rintro W ⟨t,ov,rv,h0,h1,h2,h3,h4,h5,h6,h7⟩
   have e:=h0 rfl
   subst e
   exact h7.AV.self.cell 6
  ·rintro s W ⟨t,ov,rv,h0,h1,h2,h3,h4,h5,h6,h7⟩
   exact h5
 case Jy=>
  rintro⟨k,ch⟩ p s' W0 W hsz0 ⟨t,ov,rv,g0,g1,g2,g3,g4,g5,g6,hW⟩ hb ⟨hk,hrk,hpd,rfl⟩
  have hWW:=hW.below hb
  have HW:=zh hWW;have HW0:=zh hW;have HB:=zh hb;have HPD:=zh hpd;have HG4:=zh g4;have HG6:=zh g6;have HRK:=zh hrk;have HG0:=zh g0
  clear hWW hW hb hpd g4 g6 hrk g0 hs7
  simp only at g1 g2 g3 g5 hk
  gi_wp2
  have hszW:=HB.out.size
  refine⟨Im.below zb (by omega),fun W2 hf2=>?_⟩
  have hO2:CG w d first count epoch jb (jb+1) b9 (b9+1) t ov rv W2:=(HW.out.below zb).fr (by omega) (by omega) (by omega) (by omega) (by rw[HS7.out] at hf2;exact hf2)
  have hP2:At W2 W.heap.size 237 #[.string p.check,.string p.digest,.string p.data,.bool p.last]:=(At.new W _ _).keep (hf2.keep _ (by simp) (by omega))
  obtain⟨bp,hbp⟩:∃ bp,bp=W.heap.size:=⟨_,rfl⟩
  have zcW:W0.heap.size<=bp:=by omega
  have hsz2:w7.heap.size+1<W2.heap.size:=by have:=hf2.size;rw[World.size_alloc] at this;omega
  have hs7:=HS7.out
  rw[<- hbp] at hP2 ⊢
  have HO2:=zh hO2;have HP2:=zh hP2;clear hO2 hP2 hf2 hszW hbp
  have o9:=HO2.out.J2.c1;have o8:=HO2.out.Kv.c1;obtain⟨r0,r1,r2,r3⟩:=HP2.out.c4
  cases hto:t.open_ with
  | nil =>
    have hov:∃ b cap,ov=.slice b 0 cap:=by
     obtain⟨_,⟨h0,_⟩|⟨g,cap,cur,h0,_⟩⟩:=HO2.out.rows
     ·exact⟨none,0,h0⟩
     ·rw[hto] at h0;exact⟨_,_,h0⟩
    obtain⟨ob,oc,hov⟩:=hov
    have qb:(Value.slice ob 0 oc)=ov:=hov.symm
    have xW:=zh qb
    rw[hov] at o9
    clear hov qb
    have hoff:DY t p=false:=by unfold DY;rw[hto]
    have XQ:=zh hoff;clear hoff
    have HTO:=zh hto;clear hto
    gi_wp2
    refine Lex.Br (by kernel_rfl) (by kernel_rfl) (by kernel_rfl) ?_
    go_wp2
    refine Lex.ze ?_
    iterate 7 gi_step
    refine Lex.CB (by kernel_rfl) ?_
    obtain⟨i0,hi,hz0,hz1,hz2⟩:=info_parts kH
    have hlen:t.open_.length<=4096:=by omega
    go_wp2_with (at_builtin;go_must (refine wpList_append_own_at _ rfl _ _ 234 rfl 0 237 i0 _ 4 56 Tryz.underlying234 hi hz0 hz1 hz2 rfl (by omega) ov t.open_.length (DZ t.open_) xW.out ((HO2.out.rows.drew).alloc _) ⟨W2.heap.size,0,none⟩ 1 1 [.string p.check,.string p.digest,.string p.data,.bool p.last] rfl rfl ?c1 ?c2 ?c3 ?c4 ?c5 ?_))
    case c1=>
     intro j u hj
     match j,hj with
     | 0,hj=>simp at hj;subst hj;simp[Addr.add]
     | 1,hj=>simp at hj;subst hj;simp[Addr.add]
     | 2,hj=>simp at hj;subst hj;simp[Addr.add]
     | 3,hj=>simp at hj;subst hj;simp[Addr.add]
    case c2=>intro u hu;simp at hu;rcases hu with rfl|rfl|rfl|rfl<;>rfl
    case c3=>unfold maxLen;omega
    case c4=>omega
    case c5=>omega
    intro v' w' how hg _ hb'
    have hbel:Below W2.heap.size W2 (W2.alloc (.cells #[.string p.check,.string p.digest,.string p.data,.bool p.last] 237)).drew:=((Below.refl W2.heap.size W2).alloc (Nat.le_refl _) _).drew
    obtain⟨hO3,hF3⟩:=HO2.out.pushed (p:=p) (by omega) (by omega) hbel hg (by rw[NU,List.length_append];exact how) (hb'.imp id (fun h=>⟨_,h,by simp;omega⟩))
    obtain⟨g,cap,rfl,hgc⟩:=BM how (by omega)
    have a9:At w' b9 234 #[ov]:=At.grown ((HO2.out.J2.alloc _).drew) hg (by intro e;exact(HO2.out.J2.own_ne HO2.out.rows (by decide)) e.symm)
    have q9:w'.frozen? ⟨b9,0,none⟩=false:=a9.free 0
    have k9:=a9.c1
    have HO3:=zh hO3;have HF3:=zh hF3;clear how hg hb' hbel hO3 hF3 a9 hgc
    go_wp2
    refine Lex.Only.intro ?_
    clear k9 q9
    have hP9:=HF3.out.at HP2.out (by
     rintro(h|h|h|h)
     ·have:=HW0.out.lt bp (.inl h);omega
     ·have:=HW0.out.lt bp (.inr (.inr (.inl h)));omega
     ·have:=HW0.out.lt bp (.inr (.inr (.inr (.inl h))));omega
     ·have:=HW0.out.lt bp (.inr (.inr (.inr (.inr h))));omega)
    have HP9:=zh hP9;clear hP9
    generalize w'.setCell ⟨b9,0,none⟩ (.slice (some ⟨g,0,none⟩) (t.open_.length+1) cap)=w9 at*
    obtain⟨y0,y1,y2,y3⟩:=HP9.out.c4
    clear r0 r1 r2 r3 o8 o9 hi hz0 hz1 hz2
    cases hla:p.last with
    | false =>
      rw[hla] at y3
      have HLA:=zh hla;clear hla
      gi_wp2
      have hstep:t.step p=some { t with open_:=t.open_++[p] } :=by
       unfold OSt.step
       rw[XQ.out,HLA.out]
       rfl
      obtain⟨f1,f2⟩:=Fw HW0.out (by omega) (by omega)
      rw[hs7]
      refine⟨Im.fr HF3.out (by omega) f1 f2 (fun k hk=>Hg HW0.out hk),.inl ⟨rfl,⟨_,_,_,fun h=>(by cases h),hk,?_,by show t.recs.length<=_;omega,?_,?_,?_,HO3.out⟩⟩⟩
      ·show t.next+(t.open_++[p]).length=k+1
       rw[List.length_append]
       show _+(_+1)=_
       omega
      ·intro q hq
       rcases List.mem_append.1 hq with hq|hq
       ·exact HG4.out q hq
       ·simp at hq;subst hq;exact FZ HPD.out
      ·have:=Gt HPD.out
       show p.check.size<=1000
       omega
      ·exact(Hl hk (by rw[HRD.out];exact HRK.out) (by rw[HRD.out];exact HPD.out) hstep).symm.trans HG6.out
    | true =>
      rw[hla] at y3
      have HLA:=zh hla;clear hla
      have z9:=HO3.out.J2.c1
      have hl9:=HO3.out.J2.lt
      gi_wp2
      obtain⟨L,hL⟩:∃ L,L=t.open_++[p]:=⟨_,rfl⟩
      have hLn:t.open_.length+1=L.length:=by rw[hL,List.length_append];rfl
      have hLd:∀ q∈L,q.data.size<=437:=by
       intro q hq
       rw[hL] at hq
       rcases List.mem_append.1 hq with hq|hq
       ·exact HG4.out q hq
       ·simp at hq;subst hq;exact FZ HPD.out
      have Tc:∀ i x,(DZ L)[i]? = some x->w9.cell? ⟨g,i,none⟩=some x:=by
       have hr:=HO3.out.rows
       rw[<- hL] at hr
       obtain⟨g',cap',hv',hc'⟩:=BM hr (by show 0<L.length;omega)
       simp only[Value.slice.injEq,Option.some.injEq,Addr.mk.injEq,and_true] at hv'
       rw[hv'.1]
       exact hc'
      have hgl:g<w9.heap.size:=HO3.out.lt g (by simp[Value.ownBlock])
      obtain⟨b11,Ii⟩:∃ b11,b11=w9.heap.size:=⟨_,rfl⟩
      have hB0:Lib.IsBuilderF 118 5 b11 b11 (Lib.byteCells (EK (L.take 0))) (w9.alloc (.cells #[.pointer none,.slice none 0 0] 118)):=by rw[Ii];exact gF w9
      have hb0:Below b11 w9 (w9.alloc (.cells #[.pointer none,.slice none 0 0] 118)):=by rw[Ii];exact zb
      rw[<- Ii]
      rw[Ii] at hb0
      have hgb:g<b11:=by omega
      have h9b:b9<b11:=by omega
      have hln:L.length<=4097:=by omega
      have XT:∀ m,(EK (L.take m)).length<=437*4097:=by
       intro m
       have h1:=Ta (L.take m) (fun q hq=>hLd q (List.mem_of_mem_take hq))
       have h2:(L.take m).length<=4097:=by rw[List.length_take];omega
       omega
      rw[<- Ii] at hb0
      have HLd:=zh hLd;have HCL:=zh Tc;have HB0:=zh hB0;have Hb0:=zh hb0;have HL:=zh hL;have HLN:=zh hLn;have I7:=zh Ii;have qd:=zh XT
      clear hLd Tc hB0 hb0 hL hLn hgl Ii XT
      generalize w9.alloc (.cells #[.pointer none,.slice none 0 0] 118)=w10 at*
      gi_loopw [83] (fun i wr=>∃ m:Nat,m<=L.length/\i=.int .i64 m/\Lib.IsBuilderF 118 5 b11 b11 (Lib.byteCells (EK (L.take m))) wr/\Below b11 w9 wr) (fun i _=>L.length-(intOf i).toNat)
      case atStart=>exact⟨0,Nat.zero_le _,rfl,HB0.out,Hb0.out⟩
      case round=>
       obtain⟨m,hm,rfl,Td,hbe⟩:=hrel
       by_cases hlt:m<L.length
       ·have hmt:(m:Int)<(t.open_.length:Int)+1:=by have:=HLN.out;omega
        obtain⟨x0,x1,x2,x3⟩:=Qu L m hlt
        obtain⟨q,hq⟩:∃ q,q=L[m]:=⟨_,rfl⟩
        rw[<- hq] at x0 x1 x2 x3
        have hqs:q.data.size<=437:=by rw[hq];exact HLd.out _ (List.getElem_mem hlt)
        have hcs:=qd.out m
        have u0:=(hbe.cell (p:=⟨g,m*4,none⟩) hgb).trans (HCL.out _ _ x0)
        have u1:=(hbe.cell (p:=⟨g,m*4+1,none⟩) hgb).trans (HCL.out _ _ x1)
        have u2:=(hbe.cell (p:=⟨g,m*4+2,none⟩) hgb).trans (HCL.out _ _ x2)
        have u3:=(hbe.cell (p:=⟨g,m*4+3,none⟩) hgb).trans (HCL.out _ _ x3)
        have PG:b11<=wr.heap.size:=by have:=hbe.size;have:=I7.out;omega
        have hnext:Lib.byteCells (EK (L.take m))++Lib.strCells q.data=Lib.byteCells (EK (L.take (m+1))):=by
         rw[Wx L m hlt,<- hq]
         exact Ml _ _
        have XU:=zh Td;have HBE:=zh hbe;have HNX:=zh hnext;have HQ:=zh hq
        clear Td hbe x0 x1 x2 x3 hnext hq
        gi_wp2
        refine⟨trivial,(Lex.SN (Jz b11 b11 _ q.data _ (Jb XU.out _) (by rw[Lib.byteCells_length];omega) (by rw[World.size_alloc];omega))).mono ?_⟩
        rintro e w' ⟨rfl,hb',qg⟩
        rw[HNX.out] at hb'
        have qj:Below b11 w9 w':=(HBE.out.alloc PG (.cells #[.string q.check,.string q.digest,.string q.data,.bool q.last] 237)).trans qg
        have HB':=zh hb';have HE':=zh qj;clear hb' qj qg
        gi_wp2
        go_roundw
        case rel=>exact⟨m+1,by omega,by go_num,HB'.out,HE'.out⟩
        case measure=>simp[intOf];omega
       ·have hmL:m=L.length:=by omega
        have dm:decide ((m:Int)<(t.open_.length:Int)+1)=false:=by have:=HLN.out;simp;omega
        rw[hmL,List.take_length] at Td
        have XU:=zh Td;have HBE:=zh hbe;clear Td hbe hmL
        gi_wp2
        have hbw:b11<=wr.heap.size:=by have:=HBE.out.size;have:=I7.out;omega
        have XV:bp<b11:=by have:=HP9.out.lt;have:=I7.out;omega
        have XW:Below w9.heap.size w9 wr:=by rw[<- I7.out];exact HBE.out
        have hOr:CG w d first count epoch jb (jb+1) b9 (b9+1) { t with open_:=t.open_++[p] } (.slice (some ⟨g,0,none⟩) (t.open_.length+1) cap) rv wr:=HO3.out.below XW
        have hFr:Fr (Gj jb b9 ov rv) W2 wr:=HF3.out.trans (Fr.of_below (F:=fun _=>False) XW) (fun _ hk=>hk.elim)
        have hPr:At wr bp 237 #[.string p.check,.string p.digest,.string p.data,.bool p.last]:=At.below HP9.out XW HP9.out.lt
        have HOR:=zh hOr;have HFR:=zh hFr;have HPR:=zh hPr
        clear XW hOr hFr hPr y0 y1 y2 y3
        have hcs:(BS L).size<=9223372036854775000:=by
         have h1:=qd.out L.length
         rw[List.take_length] at h1
         have h2:(BS L).size=(EK L).length:=by show(EK L).toArray.size=_;simp
         omega
        refine Lex.Co (fun k=>k=bp) [3] 4 [1,1] (by kernel_rfl) (by kernel_rfl) (by kernel_rfl) (by kernel_rfl) ?_
        simp only[Lex.Bh,zd]
        go_wp2_with fail
        refine(FL b11 L _ (Ey XU.out) hbw).mono ?_
        rintro e w12 ⟨rfl,NY,ZE⟩
        have gG:=zh NY;have gH:=zh ZE;clear NY ZE
        go_wp2
        refine Lex.Mid.intro (fun k hk hl=>by subst hk;exact gH.out.block _ XV) ?_
        go_wp2_with fail
        refine(Dw (BS L) _ hcs).mono ?_
        rintro e w13 ⟨rfl,J3⟩
        have qo:Below b11 wr.drew w13:=gH.out.trans (J3.mono (by have:=gH.out.size;exact Nat.le_trans hbw this))
        have qy:=Fv gG.out J3
        have I8:=zh qo;have gJ:=zh qy;clear J3 qo qy
        go_wp2
        refine Lex.Mid.intro (fun k hk hl=>by subst hk;exact I8.out.block _ XV) ?_
        have gK:At w13 bp 237 #[.string p.check,.string p.digest,.string p.data,.bool p.last]:=HPR.out.drew.keep (I8.out.block _ XV)
        obtain⟨y0,y1⟩:=gK.c2
        have xX:=zh gK;clear gK
        go_wp2
        refine Lex.zk ?_ ?_
        ·exact⟨⟨rfl,by show(wr.cell? ⟨bp,1,none⟩).isSome=true;rw[HPR.out.cell 1];rfl⟩,trivial⟩
        have qA:CG w d first count epoch jb (jb+1) b9 (b9+1) { t with open_:=t.open_++[p] } (.slice (some ⟨g,0,none⟩) (t.open_.length+1) cap) rv w13:=
         HOR.out.keep (fun k hk=>I8.out.block k (by have:=HO3.out.lt k hk;rw[I7.out];exact this)) ((HOR.out.old.drew).trans (I8.out.mono (by have:=HO3.out.old.size;rw[I7.out];exact this)))
        have qB:Fr (Gj jb b9 ov rv) W2 w13:=by
         refine HFR.out.trans (G:=fun k=>b11<=k) ⟨I8.out.os,I8.out.tape,I8.out.output,I8.out.size,fun k hk hn=>I8.out.block k (by omega)⟩ (fun k hk=>.inr ?_)
         have:=HF3.out.size
         rw[I7.out] at hk
         omega
        have Te:=zh qA;have qC:=zh qB;clear qA qB
        cases hS:((Sha.sha (BS L)).toList==p.digest.toList) with
        | false =>
          have hS2:((Sha.sha (BS L)).toList != p.digest.toList)=true:=by rw[bne,hS];rfl
          have hstep:t.step p=none:=by
           unfold OSt.step
           rw[XQ.out,HLA.out,<- HL.out,hS]
           rfl
          have HST:=zh hstep;clear hstep hS
          gi_wp2
          obtain⟨f1,f2⟩:=Fw HW0.out (by omega) (by omega)
          rw[hs7]
          have htot:=(Nf hk (by rw[HRD.out];exact HRK.out) (by rw[HRD.out];exact HPD.out) HST.out).symm.trans HG6.out
          refine⟨Im.fr qC.out (by omega) f1 f2 (fun k hk=>Hg HW0.out hk),.inr ⟨.exit 0,.inr ⟨0,rfl,rfl⟩,rfl,{ t with open_:=t.open_++[p] },_,_,?_,?_,?_,Te.out⟩⟩
          ·rw[<- htot]
          ·rw[<- htot]
          ·rw[<- htot]
        | true =>
          have hS2:((Sha.sha (BS L)).toList != p.digest.toList)=false:=by rw[bne,hS];rfl
          have hstep:t.step p=some ⟨[],t.recs++[BS (t.open_++[p])],t.next+(t.open_++[p]).length,p.check⟩:=by
           unfold OSt.step
           rw[XQ.out,HLA.out,<- HL.out,hS]
           rfl
          have HST:=zh hstep;clear hstep hS
          gi_wp2
          have qD:b11<=w13.heap.size:=by have:=I8.out.size;exact Nat.le_trans hbw this
          have p8:=Te.out.Kv.cell 0
          have p4:=Te.out.AV.self.cell 4
          simp only[Bg.cells,List.getElem?_toArray,List.getElem?_cons_zero,List.getElem?_cons_succ] at p8 p4
          refine Lex.Co (fun k=>k=jb+1\/k=jb) [0,1,4] 8 [6,2] (by kernel_rfl) (by kernel_rfl) (by kernel_rfl) (by kernel_rfl) ?_
          simp only[Lex.Bh,zd]
          go_wp2_with fail
          refine(FL b11 L _ (Ey gJ.out) qD).mono ?_
          rintro e w14 ⟨rfl,_,Ej⟩
          have qE:CG w d first count epoch jb (jb+1) b9 (b9+1) { t with open_:=t.open_++[p] } (.slice (some ⟨g,0,none⟩) (t.open_.length+1) cap) rv w14:=
           Te.out.keep (fun k hk=>Ej.block k (by have:=HO3.out.lt k hk;rw[I7.out];exact this)) ((Te.out.old.drew).trans (Ej.mono (by have:=HO3.out.old.size;rw[I7.out];exact this)))
          have qF:Fr (Gj jb b9 ov rv) W2 w14:=by
           refine qC.out.drew.trans (G:=fun k=>b11<=k) ⟨Ej.os,Ej.tape,Ej.output,Ej.size,fun k hk hn=>Ej.block k (by omega)⟩ (fun k hk=>.inr ?_)
           have:=HF3.out.size
           rw[I7.out] at hk
           omega
          have qG:At w14 bp 237 #[.string p.check,.string p.digest,.string p.data,.bool p.last]:=xX.out.drew.keep (Ej.block _ XV)
          have EM:=zh qE;have qH:=zh qF;have qI:=zh Ej;have qJ:=zh qG;clear qE qF Ej qG
          go_wp2
          refine Lex.Mid.intro (fun k hk hl=>qI.out.block _ (by rcases hk with rfl|rfl<;>omega)) ?_
          obtain⟨i1,hi,hz0,hz1,hz2⟩:=info_parts NR
          have hrl:t.recs.length<=4096:=by omega
          go_wp2_with (at_builtin;go_must (refine wpList_append_own_at _ rfl _ _ 23 rfl 0 9 i1 _ 1 16 Tryz.underlying23 hi hz0 hz1 hz2 rfl (by omega) rv t.recs.length (t.recs.map Value.string) rfl (EM.out.AV.recs.alloc _) ⟨w14.heap.size,0,none⟩ 1 1 [.string (BS L)] rfl rfl ?c1 ?c2 ?c3 ?c4 ?c5 ?_))
          case c1=>
           intro j u hj
           match j,hj with
           | 0,hj=>simp at hj;subst hj;simp[Addr.add]
          case c2=>intro u hu;simp at hu;subst hu;rfl
          case c3=>unfold maxLen;omega
          case c4=>omega
          case c5=>omega
          intro v2 w15 how hg _ hb'
          have hbel:Below w14.heap.size w14 (w14.alloc (.cells #[.string (BS L)] 9)):=zb
          have hnx:t.next+(t.open_++[p]).length<=count:=by
           rw[List.length_append]
           show _+(_+1)<=_
           omega
          obtain⟨hOf,hFf⟩:=EM.out.done (rs:=t.recs++[BS (t.open_++[p])]) (nx:=t.next+(t.open_++[p]).length) (chk:=p.check) (by omega) (by omega) (by omega) hbel hg
           (by rw [List.length_append,List.map_append,← HL.out];exact how) (hb'.imp id (fun h => ⟨_,h,by
             have h1:=qH.out.size
             omega⟩)) (by rw[List.length_append];show _+1<=_;omega) hnx
          have qK : Fr (Gj jb b9 ov rv) W2 ((((w15.setCell ⟨jb,4,none⟩ v2).setCell ⟨jb,5,none⟩ (.int .i64 ((t.next+(t.open_++[p]).length:Nat):Int))).setCell ⟨jb,6,none⟩ (.string p.check)).setCell ⟨b9,0,none⟩ (.slice none 0 0)):=
           qH.out.trans hFf (fun k hk=>.inl (by
            rcases hk with h|h|h|h
            ·exact .inl h
            ·exact .inr (.inl h)
            ·cases h
            ·exact .inr (.inr (.inr h))))
          obtain⟨g2,cap2,rfl,_⟩:=BM how (by omega)
          have s15:=At.grown (EM.out.AV.self.alloc (.cells #[.string (BS L)] 9)) hg (by intro e;exact(EM.out.AV.self.own_ne EM.out.AV.recs (by show 183≠9;decide)) e.symm)
          have b15:=At.grown (EM.out.Kv.alloc (.cells #[.string (BS L)] 9)) hg (by intro e;exact(EM.out.Kv.own_ne EM.out.AV.recs (by decide)) e.symm)
          have o15:=At.grown (EM.out.J2.alloc (.cells #[.string (BS L)] 9)) hg (by intro e;exact(EM.out.J2.own_ne EM.out.AV.recs (by decide)) e.symm)
          have p15:=At.grown (qJ.out.alloc (.cells #[.string (BS L)] 9)) hg (by intro e;exact(qJ.out.own_ne EM.out.AV.recs (by decide)) e.symm)
          have k4:=s15.cell 4;have k5:=s15.cell 5;have k6:=s15.cell 6;have k8:=b15.cell 0;have k9:=o15.cell 0;have kp:=p15.cell 0
          simp only[Bg.cells,List.getElem?_toArray,List.getElem?_cons_zero,List.getElem?_cons_succ] at k4 k5 k6 k8 k9 kp
          have z4:w15.frozen? ⟨jb,4,none⟩=false:=s15.free 4
          have z5:w15.frozen? ⟨jb,5,none⟩=false:=s15.free 5
          have z6:w15.frozen? ⟨jb,6,none⟩=false:=s15.free 6
          have zz9:w15.frozen? ⟨b9,0,none⟩=false:=o15.free 0
          have hsame:∀ k,(k=jb+1\/k=jb)->w15.heap[k]? = w14.heap[k]? :=by
           intro k hk
           rcases hk with rfl|rfl
           ·exact b15.trans EM.out.Kv.symm
           ·exact s15.trans EM.out.AV.self.symm
          have HSM:=zh hsame;have HOF:=zh hOf;have HFF:=zh qK
          clear how hg hb' hbel hFf hOf qK s15 b15 o15 p15 hsame
          refine Lex.Mid.intro (fun k hk hl=>(HSM.out k hk).trans (qI.out.block _ (by rcases hk with rfl|rfl<;>omega))) ?_
          go_wp2
          refine Lex.zk ?_ ?_
          ·refine⟨⟨.inl rfl,?_⟩,⟨.inl rfl,?_⟩,⟨.inr rfl,?_⟩,trivial⟩
           ·show(w13.cell? ⟨jb+1,0,none⟩).isSome=true;rw[p8];rfl
           ·show(w13.cell? ⟨jb+1,0,none⟩).isSome=true;rw[p8];rfl
           ·show(w13.cell? ⟨jb,4,none⟩).isSome=true;rw[p4];rfl
          gi_wp2
          refine Lex.Br (by kernel_rfl) (by kernel_rfl) (by kernel_rfl) ?_
          go_wp2
          refine Lex.ze ?_
          gi_wp2
          have gL:((t.next+(t.open_++[p]).length:Nat):Int)=(t.next:Int)+((t.open_.length:Int)+1):=by rw[List.length_append];simp
          have hOf:=HOF.out
          have hFf:=HFF.out
          rw[gL] at hOf hFf
          obtain⟨f1,f2⟩:=Fw HW0.out (by omega) (by omega)
          rw[hs7]
          refine⟨Im.fr hFf.drew (by omega) f1 f2 (fun k hk=>Hg HW0.out hk),.inl ⟨rfl,⟨_,_,_,fun h=>(by cases h),hk,?_,?_,fun q hq=>(by cases hq),?_,?_,hOf.keep (fun _ _=>rfl) hOf.old.drew⟩⟩⟩
          ·show t.next+(t.open_++[p]).length+0=k+1
           rw[List.length_append]
           show _+(_+1)+0=_
           omega
          ·show(t.recs++[BS (t.open_++[p])]).length<=k+1
           rw[List.length_append]
           show _+1<=_
           omega
          ·have:=Gt HPD.out
           show p.check.size<=1000
           omega
          ·exact(Hl hk (by rw[HRD.out];exact HRK.out) (by rw[HRD.out];exact HPD.out) HST.out).symm.trans HG6.out
  | cons q l =>
    have hpos:0<t.open_.length:=by rw[hto];show 0<l.length+1;omega
    obtain⟨g0,cap0,hov,hcell⟩:=BM HO2.out.rows hpos
    have x1:=hcell 1 (.string q.digest) (by rw[hto];rfl)
    have qb:(Value.slice (some ⟨g0,0,none⟩) t.open_.length cap0)=ov:=hov.symm
    have xW:=zh qb
    rw[hov] at o9
    clear hov qb hcell
    have hpi:(0:Int)<t.open_.length:=by omega
    have hlt:t.open_.length<=4096:=by omega
    cases hS:(q.digest.toList==p.digest.toList) with
    | false =>
      have hoff:DY t p=true:=by unfold DY;rw[hto];simp only[bne,hS];rfl
      have XQ:=zh hoff;clear hoff
      have HTO:=zh hto;clear hto
      gi_wp2
      refine Lex.Br (by kernel_rfl) (by kernel_rfl) (by kernel_rfl) ?_
      go_wp2
      refine Lex.ze ?_
      gi_wp2
      have hstep:t.step p=none:=by
       unfold OSt.step
       rw[XQ.out]
       rfl
      obtain⟨f1,f2⟩:=Fw HW0.out (by omega) (by omega)
      rw[hs7]
      have htot:=(Nf hk (by rw[HRD.out];exact HRK.out) (by rw[HRD.out];exact HPD.out) hstep).symm.trans HG6.out
      refine⟨Im.fr (Fr.refl (Gj jb b9 ov rv) W2).drew (by omega) f1 f2 (fun k hk=>Hg HW0.out hk),.inr ⟨.exit 0,.inr ⟨0,rfl,rfl⟩,rfl,t,ov,rv,?_,?_,?_,HO2.out.keep (fun _ _=>rfl) HO2.out.old.drew⟩⟩
      ·rw[<- htot]
      ·rw[<- htot]
      ·rw[<- htot]
    | true =>
      have hoff:DY t p=false:=by unfold DY;rw[hto];simp only[bne,hS];rfl
      have XQ:=zh hoff;clear hoff
      have HTO:=zh hto;clear hto
      gi_wp2
      refine Lex.Br (by kernel_rfl) (by kernel_rfl) (by kernel_rfl) ?_
      go_wp2
      refine Lex.ze ?_
      iterate 7 gi_step
      refine Lex.CB (by kernel_rfl) ?_
      clear x1 hpos hpi hlt hS
      obtain⟨i0,hi,hz0,hz1,hz2⟩:=info_parts kH
      have hlen:t.open_.length<=4096:=by omega
      go_wp2_with (at_builtin;go_must (refine wpList_append_own_at _ rfl _ _ 234 rfl 0 237 i0 _ 4 56 Tryz.underlying234 hi hz0 hz1 hz2 rfl (by omega) ov t.open_.length (DZ t.open_) xW.out ((HO2.out.rows.drew).alloc _) ⟨W2.heap.size,0,none⟩ 1 1 [.string p.check,.string p.digest,.string p.data,.bool p.last] rfl rfl ?c1 ?c2 ?c3 ?c4 ?c5 ?_))
      case c1=>
       intro j u hj
       match j,hj with
       | 0,hj=>simp at hj;subst hj;simp[Addr.add]
       | 1,hj=>simp at hj;subst hj;simp[Addr.add]
       | 2,hj=>simp at hj;subst hj;simp[Addr.add]
       | 3,hj=>simp at hj;subst hj;simp[Addr.add]
      case c2=>intro u hu;simp at hu;rcases hu with rfl|rfl|rfl|rfl<;>rfl
      case c3=>unfold maxLen;omega
      case c4=>omega
      case c5=>omega
      intro v' w' how hg _ hb'
      have hbel:Below W2.heap.size W2 (W2.alloc (.cells #[.string p.check,.string p.digest,.string p.data,.bool p.last] 237)).drew:=((Below.refl W2.heap.size W2).alloc (Nat.le_refl _) _).drew
      obtain⟨hO3,hF3⟩:=HO2.out.pushed (p:=p) (by omega) (by omega) hbel hg (by rw[NU,List.length_append];exact how) (hb'.imp id (fun h=>⟨_,h,by simp;omega⟩))
      obtain⟨g,cap,rfl,hgc⟩:=BM how (by omega)
      have a9:At w' b9 234 #[ov]:=At.grown ((HO2.out.J2.alloc _).drew) hg (by intro e;exact(HO2.out.J2.own_ne HO2.out.rows (by decide)) e.symm)
      have q9:w'.frozen? ⟨b9,0,none⟩=false:=a9.free 0
      have k9:=a9.c1
      have HO3:=zh hO3;have HF3:=zh hF3;clear how hg hb' hbel hO3 hF3 a9 hgc
      go_wp2
      refine Lex.Only.intro ?_
      clear k9 q9
      have hP9:=HF3.out.at HP2.out (by
       rintro(h|h|h|h)
       ·have:=HW0.out.lt bp (.inl h);omega
       ·have:=HW0.out.lt bp (.inr (.inr (.inl h)));omega
       ·have:=HW0.out.lt bp (.inr (.inr (.inr (.inl h))));omega
       ·have:=HW0.out.lt bp (.inr (.inr (.inr (.inr h))));omega)
      have HP9:=zh hP9;clear hP9
      generalize w'.setCell ⟨b9,0,none⟩ (.slice (some ⟨g,0,none⟩) (t.open_.length+1) cap)=w9 at*
      obtain⟨y0,y1,y2,y3⟩:=HP9.out.c4
      clear r0 r1 r2 r3 o8 o9 hi hz0 hz1 hz2
      cases hla:p.last with
      | false =>
        rw[hla] at y3
        have HLA:=zh hla;clear hla
        gi_wp2
        have hstep:t.step p=some { t with open_:=t.open_++[p] } :=by
         unfold OSt.step
         rw[XQ.out,HLA.out]
         rfl
        obtain⟨f1,f2⟩:=Fw HW0.out (by omega) (by omega)
        rw[hs7]
        refine⟨Im.fr HF3.out (by omega) f1 f2 (fun k hk=>Hg HW0.out hk),.inl ⟨rfl,⟨_,_,_,fun h=>(by cases h),hk,?_,by show t.recs.length<=_;omega,?_,?_,?_,HO3.out⟩⟩⟩
        ·show t.next+(t.open_++[p]).length=k+1
         rw[List.length_append]
         show _+(_+1)=_
         omega
        ·intro q hq
         rcases List.mem_append.1 hq with hq|hq
         ·exact HG4.out q hq
         ·simp at hq;subst hq;exact FZ HPD.out
        ·have:=Gt HPD.out
         show p.check.size<=1000
         omega
        ·exact(Hl hk (by rw[HRD.out];exact HRK.out) (by rw[HRD.out];exact HPD.out) hstep).symm.trans HG6.out
      | true =>
        rw[hla] at y3
        have HLA:=zh hla;clear hla
        have z9:=HO3.out.J2.c1
        have hl9:=HO3.out.J2.lt
        gi_wp2
        obtain⟨L,hL⟩:∃ L,L=t.open_++[p]:=⟨_,rfl⟩
        have hLn:t.open_.length+1=L.length:=by rw[hL,List.length_append];rfl
        have hLd:∀ q∈L,q.data.size<=437:=by
         intro q hq
         rw[hL] at hq
         rcases List.mem_append.1 hq with hq|hq
         ·exact HG4.out q hq
         ·simp at hq;subst hq;exact FZ HPD.out
        have Tc:∀ i x,(DZ L)[i]? = some x->w9.cell? ⟨g,i,none⟩=some x:=by
         have hr:=HO3.out.rows
         rw[<- hL] at hr
         obtain⟨g',cap',hv',hc'⟩:=BM hr (by show 0<L.length;omega)
         simp only[Value.slice.injEq,Option.some.injEq,Addr.mk.injEq,and_true] at hv'
         rw[hv'.1]
         exact hc'
        have hgl:g<w9.heap.size:=HO3.out.lt g (by simp[Value.ownBlock])
        obtain⟨b11,Ii⟩:∃ b11,b11=w9.heap.size:=⟨_,rfl⟩
        have hB0:Lib.IsBuilderF 118 5 b11 b11 (Lib.byteCells (EK (L.take 0))) (w9.alloc (.cells #[.pointer none,.slice none 0 0] 118)):=by rw[Ii];exact gF w9
        have hb0:Below b11 w9 (w9.alloc (.cells #[.pointer none,.slice none 0 0] 118)):=by rw[Ii];exact zb
        rw[<- Ii]
        rw[Ii] at hb0
        have hgb:g<b11:=by omega
        have h9b:b9<b11:=by omega
        have hln:L.length<=4097:=by omega
        have XT:∀ m,(EK (L.take m)).length<=437*4097:=by
         intro m
         have h1:=Ta (L.take m) (fun q hq=>hLd q (List.mem_of_mem_take hq))
         have h2:(L.take m).length<=4097:=by rw[List.length_take];omega
         omega
        rw[<- Ii] at hb0
        have HLd:=zh hLd;have HCL:=zh Tc;have HB0:=zh hB0;have Hb0:=zh hb0;have HL:=zh hL;have HLN:=zh hLn;have I7:=zh Ii;have qd:=zh XT
        clear hLd Tc hB0 hb0 hL hLn hgl Ii XT
        generalize w9.alloc (.cells #[.pointer none,.slice none 0 0] 118)=w10 at*
        gi_loopw [83] (fun i wr=>∃ m:Nat,m<=L.length/\i=.int .i64 m/\Lib.IsBuilderF 118 5 b11 b11 (Lib.byteCells (EK (L.take m))) wr/\Below b11 w9 wr) (fun i _=>L.length-(intOf i).toNat)
        case atStart=>exact⟨0,Nat.zero_le _,rfl,HB0.out,Hb0.out⟩
        case round=>
         obtain⟨m,hm,rfl,Td,hbe⟩:=hrel
         by_cases hlt:m<L.length
         ·have hmt:(m:Int)<(t.open_.length:Int)+1:=by have:=HLN.out;omega
          obtain⟨x0,x1,x2,x3⟩:=Qu L m hlt
          obtain⟨q,hq⟩:∃ q,q=L[m]:=⟨_,rfl⟩
          rw[<- hq] at x0 x1 x2 x3
          have hqs:q.data.size<=437:=by rw[hq];exact HLd.out _ (List.getElem_mem hlt)
          have hcs:=qd.out m
          have u0:=(hbe.cell (p:=⟨g,m*4,none⟩) hgb).trans (HCL.out _ _ x0)
          have u1:=(hbe.cell (p:=⟨g,m*4+1,none⟩) hgb).trans (HCL.out _ _ x1)
          have u2:=(hbe.cell (p:=⟨g,m*4+2,none⟩) hgb).trans (HCL.out _ _ x2)
          have u3:=(hbe.cell (p:=⟨g,m*4+3,none⟩) hgb).trans (HCL.out _ _ x3)
          have PG:b11<=wr.heap.size:=by have:=hbe.size;have:=I7.out;omega
          have hnext:Lib.byteCells (EK (L.take m))++Lib.strCells q.data=Lib.byteCells (EK (L.take (m+1))):=by
           rw[Wx L m hlt,<- hq]
           exact Ml _ _
          have XU:=zh Td;have HBE:=zh hbe;have HNX:=zh hnext;have HQ:=zh hq
          clear Td hbe x0 x1 x2 x3 hnext hq
          gi_wp2
          refine⟨trivial,(Lex.SN (Jz b11 b11 _ q.data _ (Jb XU.out _) (by rw[Lib.byteCells_length];omega) (by rw[World.size_alloc];omega))).mono ?_⟩
          rintro e w' ⟨rfl,hb',qg⟩
          rw[HNX.out] at hb'
          have qj:Below b11 w9 w':=(HBE.out.alloc PG (.cells #[.string q.check,.string q.digest,.string q.data,.bool q.last] 237)).trans qg
          have HB':=zh hb';have HE':=zh qj;clear hb' qj qg
          gi_wp2
          go_roundw
          case rel=>exact⟨m+1,by omega,by go_num,HB'.out,HE'.out⟩
          case measure=>simp[intOf];omega
         ·have hmL:m=L.length:=by omega
          have dm:decide ((m:Int)<(t.open_.length:Int)+1)=false:=by have:=HLN.out;simp;omega
          rw[hmL,List.take_length] at Td
          have XU:=zh Td;have HBE:=zh hbe;clear Td hbe hmL
          gi_wp2
          have hbw:b11<=wr.heap.size:=by have:=HBE.out.size;have:=I7.out;omega
          have XV:bp<b11:=by have:=HP9.out.lt;have:=I7.out;omega
          have XW:Below w9.heap.size w9 wr:=by rw[<- I7.out];exact HBE.out
          have hOr:CG w d first count epoch jb (jb+1) b9 (b9+1) { t with open_:=t.open_++[p] } (.slice (some ⟨g,0,none⟩) (t.open_.length+1) cap) rv wr:=HO3.out.below XW
          have hFr:Fr (Gj jb b9 ov rv) W2 wr:=HF3.out.trans (Fr.of_below (F:=fun _=>False) XW) (fun _ hk=>hk.elim)
          have hPr:At wr bp 237 #[.string p.check,.string p.digest,.string p.data,.bool p.last]:=At.below HP9.out XW HP9.out.lt
          have HOR:=zh hOr;have HFR:=zh hFr;have HPR:=zh hPr
          clear XW hOr hFr hPr y0 y1 y2 y3
          have hcs:(BS L).size<=9223372036854775000:=by
           have h1:=qd.out L.length
           rw[List.take_length] at h1
           have h2:(BS L).size=(EK L).length:=by show(EK L).toArray.size=_;simp
           omega
          refine Lex.Co (fun k=>k=bp) [3] 4 [1,1] (by kernel_rfl) (by kernel_rfl) (by kernel_rfl) (by kernel_rfl) ?_
          simp only[Lex.Bh,zd]
          go_wp2_with fail
          refine(FL b11 L _ (Ey XU.out) hbw).mono ?_
          rintro e w12 ⟨rfl,NY,ZE⟩
          have gG:=zh NY;have gH:=zh ZE;clear NY ZE
          go_wp2
          refine Lex.Mid.intro (fun k hk hl=>by subst hk;exact gH.out.block _ XV) ?_
          go_wp2_with fail
          refine(Dw (BS L) _ hcs).mono ?_
          rintro e w13 ⟨rfl,J3⟩
          have qo:Below b11 wr.drew w13:=gH.out.trans (J3.mono (by have:=gH.out.size;exact Nat.le_trans hbw this))
          have qy:=Fv gG.out J3
          have I8:=zh qo;have gJ:=zh qy;clear J3 qo qy
          go_wp2
          refine Lex.Mid.intro (fun k hk hl=>by subst hk;exact I8.out.block _ XV) ?_
          have gK:At w13 bp 237 #[.string p.check,.string p.digest,.string p.data,.bool p.last]:=HPR.out.drew.keep (I8.out.block _ XV)
          obtain⟨y0,y1⟩:=gK.c2
          have xX:=zh gK;clear gK
          go_wp2
          refine Lex.zk ?_ ?_
          ·exact⟨⟨rfl,by show(wr.cell? ⟨bp,1,none⟩).isSome=true;rw[HPR.out.cell 1];rfl⟩,trivial⟩
          have qA:CG w d first count epoch jb (jb+1) b9 (b9+1) { t with open_:=t.open_++[p] } (.slice (some ⟨g,0,none⟩) (t.open_.length+1) cap) rv w13:=
           HOR.out.keep (fun k hk=>I8.out.block k (by have:=HO3.out.lt k hk;rw[I7.out];exact this)) ((HOR.out.old.drew).trans (I8.out.mono (by have:=HO3.out.old.size;rw[I7.out];exact this)))
          have qB:Fr (Gj jb b9 ov rv) W2 w13:=by
           refine HFR.out.trans (G:=fun k=>b11<=k) ⟨I8.out.os,I8.out.tape,I8.out.output,I8.out.size,fun k hk hn=>I8.out.block k (by omega)⟩ (fun k hk=>.inr ?_)
           have:=HF3.out.size
           rw[I7.out] at hk
           omega
          have Te:=zh qA;have qC:=zh qB;clear qA qB
          cases hS:((Sha.sha (BS L)).toList==p.digest.toList) with
          | false =>
            have hS2:((Sha.sha (BS L)).toList != p.digest.toList)=true:=by rw[bne,hS];rfl
            have hstep:t.step p=none:=by
             unfold OSt.step
             rw[XQ.out,HLA.out,<- HL.out,hS]
             rfl
            have HST:=zh hstep;clear hstep hS
            gi_wp2
            obtain⟨f1,f2⟩:=Fw HW0.out (by omega) (by omega)
            rw[hs7]
            have htot:=(Nf hk (by rw[HRD.out];exact HRK.out) (by rw[HRD.out];exact HPD.out) HST.out).symm.trans HG6.out
            refine⟨Im.fr qC.out (by omega) f1 f2 (fun k hk=>Hg HW0.out hk),.inr ⟨.exit 0,.inr ⟨0,rfl,rfl⟩,rfl,{ t with open_:=t.open_++[p] },_,_,?_,?_,?_,Te.out⟩⟩
            ·rw[<- htot]
            ·rw[<- htot]
            ·rw[<- htot]
          | true =>
            have hS2:((Sha.sha (BS L)).toList != p.digest.toList)=false:=by rw[bne,hS];rfl
            have hstep:t.step p=some ⟨[],t.recs++[BS (t.open_++[p])],t.next+(t.open_++[p]).length,p.check⟩:=by
             unfold OSt.step
             rw[XQ.out,HLA.out,<- HL.out,hS]
             rfl
            have HST:=zh hstep;clear hstep hS
            gi_wp2
            have qD:b11<=w13.heap.size:=by have:=I8.out.size;exact Nat.le_trans hbw this
            have p8:=Te.out.Kv.cell 0
            have p4:=Te.out.AV.self.cell 4
            simp only[Bg.cells,List.getElem?_toArray,List.getElem?_cons_zero,List.getElem?_cons_succ] at p8 p4
            refine Lex.Co (fun k=>k=jb+1\/k=jb) [0,1,4] 8 [6,2] (by kernel_rfl) (by kernel_rfl) (by kernel_rfl) (by kernel_rfl) ?_
            simp only[Lex.Bh,zd]
            go_wp2_with fail
            refine(FL b11 L _ (Ey gJ.out) qD).mono ?_
            rintro e w14 ⟨rfl,_,Ej⟩
            have qE:CG w d first count epoch jb (jb+1) b9 (b9+1) { t with open_:=t.open_++[p] } (.slice (some ⟨g,0,none⟩) (t.open_.length+1) cap) rv w14:=
             Te.out.keep (fun k hk=>Ej.block k (by have:=HO3.out.lt k hk;rw[I7.out];exact this)) ((Te.out.old.drew).trans (Ej.mono (by have:=HO3.out.old.size;rw[I7.out];exact this)))
            have qF:Fr (Gj jb b9 ov rv) W2 w14:=by
             refine qC.out.drew.trans (G:=fun k=>b11<=k) ⟨Ej.os,Ej.tape,Ej.output,Ej.size,fun k hk hn=>Ej.block k (by omega)⟩ (fun k hk=>.inr ?_)
             have:=HF3.out.size
             rw[I7.out] at hk
             omega
            have qG:At w14 bp 237 #[.string p.check,.string p.digest,.string p.data,.bool p.last]:=xX.out.drew.keep (Ej.block _ XV)
            have EM:=zh qE;have qH:=zh qF;have qI:=zh Ej;have qJ:=zh qG;clear qE qF Ej qG
            go_wp2
            refine Lex.Mid.intro (fun k hk hl=>qI.out.block _ (by rcases hk with rfl|rfl<;>omega)) ?_
            obtain⟨i1,hi,hz0,hz1,hz2⟩:=info_parts NR
            have hrl:t.recs.length<=4096:=by omega
            go_wp2_with (at_builtin;go_must (refine wpList_append_own_at _ rfl _ _ 23 rfl 0 9 i1 _ 1 16 Tryz.underlying23 hi hz0 hz1 hz2 rfl (by omega) rv t.recs.length (t.recs.map Value.string) rfl (EM.out.AV.recs.alloc _) ⟨w14.heap.size,0,none⟩ 1 1 [.string (BS L)] rfl rfl ?c1 ?c2 ?c3 ?c4 ?c5 ?_))
            case c1=>
             intro j u hj
             match j,hj with
             | 0,hj=>simp at hj;subst hj;simp[Addr.add]
            case c2=>intro u hu;simp at hu;subst hu;rfl
            case c3=>unfold maxLen;omega
            case c4=>omega
            case c5=>omega
            intro v2 w15 how hg _ hb'
            have hbel:Below w14.heap.size w14 (w14.alloc (.cells #[.string (BS L)] 9)):=zb
            have hnx:t.next+(t.open_++[p]).length<=count:=by
             rw[List.length_append]
             show _+(_+1)<=_
             omega
            obtain⟨hOf,hFf⟩:=EM.out.done (rs:=t.recs++[BS (t.open_++[p])]) (nx:=t.next+(t.open_++[p]).length) (chk:=p.check) (by omega) (by omega) (by omega) hbel hg
             (by rw [List.length_append,List.map_append,← HL.out];exact how) (hb'.imp id (fun h => ⟨_,h,by
               have h1:=qH.out.size
               omega⟩)) (by rw[List.length_append];show _+1<=_;omega) hnx
            have qK : Fr (Gj jb b9 ov rv) W2 ((((w15.setCell ⟨jb,4,none⟩ v2).setCell ⟨jb,5,none⟩ (.int .i64 ((t.next+(t.open_++[p]).length:Nat):Int))).setCell ⟨jb,6,none⟩ (.string p.check)).setCell ⟨b9,0,none⟩ (.slice none 0 0)):=
             qH.out.trans hFf (fun k hk=>.inl (by
              rcases hk with h|h|h|h
              ·exact .inl h
              ·exact .inr (.inl h)
              ·cases h
              ·exact .inr (.inr (.inr h))))
            obtain⟨g2,cap2,rfl,_⟩:=BM how (by omega)
            have s15:=At.grown (EM.out.AV.self.alloc (.cells #[.string (BS L)] 9)) hg (by intro e;exact(EM.out.AV.self.own_ne EM.out.AV.recs (by show 183≠9;decide)) e.symm)
            have b15:=At.grown (EM.out.Kv.alloc (.cells #[.string (BS L)] 9)) hg (by intro e;exact(EM.out.Kv.own_ne EM.out.AV.recs (by decide)) e.symm)
            have o15:=At.grown (EM.out.J2.alloc (.cells #[.string (BS L)] 9)) hg (by intro e;exact(EM.out.J2.own_ne EM.out.AV.recs (by decide)) e.symm)
            have p15:=At.grown (qJ.out.alloc (.cells #[.string (BS L)] 9)) hg (by intro e;exact(qJ.out.own_ne EM.out.AV.recs (by decide)) e.symm)
            have k4:=s15.cell 4;have k5:=s15.cell 5;have k6:=s15.cell 6;have k8:=b15.cell 0;have k9:=o15.cell 0;have kp:=p15.cell 0
            simp only[Bg.cells,List.getElem?_toArray,List.getElem?_cons_zero,List.getElem?_cons_succ] at k4 k5 k6 k8 k9 kp
            have z4:w15.frozen? ⟨jb,4,none⟩=false:=s15.free 4
            have z5:w15.frozen? ⟨jb,5,none⟩=false:=s15.free 5
            have z6:w15.frozen? ⟨jb,6,none⟩=false:=s15.free 6
            have zz9:w15.frozen? ⟨b9,0,none⟩=false:=o15.free 0
            have hsame:∀ k,(k=jb+1\/k=jb)->w15.heap[k]? = w14.heap[k]? :=by
             intro k hk
             rcases hk with rfl|rfl
             ·exact b15.trans EM.out.Kv.symm
             ·exact s15.trans EM.out.AV.self.symm
            have HSM:=zh hsame;have HOF:=zh hOf;have HFF:=zh qK
            clear how hg hb' hbel hFf hOf qK s15 b15 o15 p15 hsame
            refine Lex.Mid.intro (fun k hk hl=>(HSM.out k hk).trans (qI.out.block _ (by rcases hk with rfl|rfl<;>omega))) ?_
            go_wp2
            refine Lex.zk ?_ ?_
            ·refine⟨⟨.inl rfl,?_⟩,⟨.inl rfl,?_⟩,⟨.inr rfl,?_⟩,trivial⟩
             ·show(w13.cell? ⟨jb+1,0,none⟩).isSome=true;rw[p8];rfl
             ·show(w13.cell? ⟨jb+1,0,none⟩).isSome=true;rw[p8];rfl
             ·show(w13.cell? ⟨jb,4,none⟩).isSome=true;rw[p4];rfl
            gi_wp2
            refine Lex.Br (by kernel_rfl) (by kernel_rfl) (by kernel_rfl) ?_
            go_wp2
            refine Lex.ze ?_
            gi_wp2
            have gL:((t.next+(t.open_++[p]).length:Nat):Int)=(t.next:Int)+((t.open_.length:Int)+1):=by rw[List.length_append];simp
            have hOf:=HOF.out
            have hFf:=HFF.out
            rw[gL] at hOf hFf
            obtain⟨f1,f2⟩:=Fw HW0.out (by omega) (by omega)
            rw[hs7]
            refine⟨Im.fr hFf.drew (by omega) f1 f2 (fun k hk=>Hg HW0.out hk),.inl ⟨rfl,⟨_,_,_,fun h=>(by cases h),hk,?_,?_,fun q hq=>(by cases hq),?_,?_,hOf.keep (fun _ _=>rfl) hOf.old.drew⟩⟩⟩
            ·show t.next+(t.open_++[p]).length+0=k+1
             rw[List.length_append]
             show _+(_+1)+0=_
             omega
            ·show(t.recs++[BS (t.open_++[p])]).length<=k+1
             rw[List.length_append]
             show _+1<=_
             omega
            ·have:=Gt HPD.out
             show p.check.size<=1000
             omega
            ·exact(Hl hk (by rw[HRD.out];exact HRK.out) (by rw[HRD.out];exact HPD.out) HST.out).symm.trans HG6.out
 case hdone=>
  rintro⟨k,ch⟩ W hdn ⟨t,ov,rv,g0,g1,g2,g3,g4,g5,g6,hW⟩ hD
  have htot:opened epoch count rd=t:=by
   rw[<- g6]
   refine Wy ?_
   rcases hdn with h|⟨h,hh⟩
   ·exact .inl h
   ·exact .inr ⟨h,by rw[HRD.out];exact hh⟩
  have HT:=zh htot;clear htot g0 g4 g6 hdn
  have e8:=hW.Kv.c1
  have HW:=zh hW;have HDD:=zh hD;clear hW hD
  gi_wp2
  simp only[hs7] at HDD ⊢
  refine⟨by simp,.inl ⟨_,_,rfl,run_takeDeferred HDD.out,?_⟩⟩
  refine⟨.tuple #[.pointer (some ⟨jb,0,none⟩),.int .i64 0],(results_tmp2 (fn:=Tryz.f110) (t:=6) (u:=7) rfl _ _ _).trans rfl,?_⟩
  have hput:∀ (o:Obj) k,k≠b9+1->(W.putObj (b9+1) o).heap[k]? = W.heap[k]? :=fun o k hk=>World.putObj_heap_other hk
  have Io:∀ k,(⟨jb,d.a,first,count,epoch,rv,t.recs,t.next,t.jch⟩:Bg).foot k->k=jb\/b9+1+1<k:=by
   intro k hk
   rcases hk with h|h
   ·exact .inl h
   ·exact .inr (HW.out.hrv k h)
  refine⟨⟨jb,d.a,first,count,epoch,rv,t.recs,t.next,t.jch⟩,rfl,HW.out.AV.keep (fun k hk=>hput _ k (by have:=Io k hk;omega)),rfl,rfl,rfl,rfl,(by rw[HT.out]),(by rw[HT.out]),(by rw[HT.out]),fun k hk=>by have:=Io k hk;omega,?_⟩
  exact HW.out.old.trans ⟨rfl,rfl,rfl,by simp[World.putObj],fun k hk=>hput _ k (by omega)⟩
 case hstop=>
  rintro c0 W ⟨rfl,t,ov,rv,g1,g2,g3,hW⟩ hD
  have HG1:=zh g1;have HG2:=zh g2;have HG3:=zh g3;clear g1 g2 g3
  have e8:=hW.Kv.c1
  have HW:=zh hW;have HDD:=zh hD;clear hW hD
  gi_wp2
  simp only[hs7] at HDD ⊢
  refine⟨by simp,.inl ⟨_,_,rfl,run_takeDeferred HDD.out,?_⟩⟩
  refine⟨.tuple #[.pointer (some ⟨jb,0,none⟩),.int .i64 0],(results_tmp2 (fn:=Tryz.f110) (t:=6) (u:=7) rfl _ _ _).trans rfl,?_⟩
  have hput:∀ (o:Obj) k,k≠b9+1->(W.putObj (b9+1) o).heap[k]? = W.heap[k]? :=fun o k hk=>World.putObj_heap_other hk
  have Io:∀ k,(⟨jb,d.a,first,count,epoch,rv,t.recs,t.next,t.jch⟩:Bg).foot k->k=jb\/b9+1+1<k:=by
   intro k hk
   rcases hk with h|h
   ·exact .inl h
   ·exact .inr (HW.out.hrv k h)
  refine⟨⟨jb,d.a,first,count,epoch,rv,t.recs,t.next,t.jch⟩,rfl,HW.out.AV.keep (fun k hk=>hput _ k (by have:=Io k hk;omega)),rfl,rfl,rfl,rfl,HG1.out.symm,HG2.out.symm,HG3.out.symm,fun k hk=>by have:=Io k hk;omega,?_⟩
  exact HW.out.old.trans ⟨rfl,rfl,rfl,by simp[World.putObj],fun k hk=>hput _ k (by omega)⟩
end
end Go.Proofs.YtdiiafgoccakkaaGreatDoor
