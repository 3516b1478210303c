/- What the program's SHA-256 computes, as plain functions on integers and lists, and small laws on them. -/
import Derived.WalkKit
import Derived.Test.YtjlmglgmcekmhaaGreatDoorChecked
import Derived.WalkLawsBesides
import Derived.WalkSpells
import Derived.Lib.Hide
import Derived.BigQuiet
import Derived.Deep.QuietTactic
import Derived.Lib.SlBytesRow
import Derived.Deep.Draws
import Derived.Deep.AppendLies
import Derived.Maps.AppendAt
import Derived.Maps.OwnSet
import Derived.Lib.Bytes
import Derived.Laws.BytesArg
import Derived.KernelRfl
import Derived.NoCompiler
import Derived.StillTail
import Derived.Laws.ResultCell
import Derived.Deep.MidRow
import Derived.Deep.RegionHeld3
import Derived.Deep.DrawnRows
import Derived.Deep.Cut
import Derived.StillTailTactics
import Derived.Deep.RegionLaw
import Derived.Shelf.Strings.Builder1
import Derived.Shelf.Strings.Builder2
import Derived.Shelf.Strings.OnBuilder
import Derived.Shelf.Small.Utf8
import Derived.Shelf.Small.Bits
import Derived.Shelf.Small.Strs
import Derived.Shelf.Strings.BuilderF
import Derived.Shelf.Strings.BuilderK
import Derived.Shelf.Utf8.RuneCount
import Derived.Shelf.Strings.Builder2Cap
import Derived.Shelf.Strconv.Itoa0
import Derived.Shelf.LaysM
import Derived.Shelf.Strconv.Clone
import Derived.Shelf.Strings.Search1
import Derived.Shelf.Strings.Search2
import Derived.Shelf.Strings.Search3
import Derived.Shelf.Strings.Count
import Derived.Shelf.Strings.Shaped
import Derived.Shelf.Strings.Prefix
import Derived.Shelf.Strings.Split
import Derived.Shelf.Strings.SplitShaped
import Derived.Shelf.Unicode.Decode
import Derived.Shelf.Strings.Runes
import Derived.Shelf.Strings.RuneCount
import Derived.Shelf.Strings.Explode
import Derived.Shelf.Bits.Mul64
import Derived.Shelf.Strings.Repeat
import Derived.Shelf.Unicode.DecodeSlow
import Derived.Shelf.Unicode.DecodeAny
import Derived.Shelf.Strings.BuilderCap
import Derived.Shelf.Slices.Turned
import Derived.Ground.SlgnProg
import Derived.Shelf.SlicesE.Index
import Derived.Shelf.SlicesE.Clone
import Derived.Ground.SlgfProg
import Derived.Shelf.SlicesE.IndexFunc
import Derived.Shelf.SlicesQ.IndexFunc
import Derived.Test.YtjlmglgmcekmhaaGreatDoorProg
set_option linter.unusedVariables false
set_option linter.unusedSimpArgs false
set_option maxRecDepth 100000
set_option maxHeartbeats 4000000
namespace Go.Proofs.YtjlmglgmcekmhaaGreatDoor
theorem zh{p:Prop}(h:p):Go.RowKit.Hid p:=h
theorem zo{w:Go.World}{p:Go.Addr}{k:Nat}{v:Go.Value}(h:k≠p.block):(w.setCell p v).heap[k]?=w.heap[k]?:=Go.heap_setCell_other w p k v h
theorem zi{α:Type}{a:Option α}{v:α}(h:a=some v):a.isSome=true:=by rw[h];rfl
theorem zt{p:Prop}[Decidable p](h:p:=by omega):decide p=true:=decide_eq_true h
theorem zf{p:Prop}[Decidable p](h:¬p:=by omega):decide p=false:=decide_eq_false h
theorem zg:(∀ (l:List Go.Value)(i:Nat),(List.toArray l)[i]?=l[i]?)/\(∀ (a:Go.Value)(l:List Go.Value),(a::l)[0]?=some a)/\(∀ (a:Go.Value)(l:List Go.Value)(i:Nat),(a::l)[i+1]?=l[i]?):=⟨fun _ _=>List.getElem?_toArray,fun _ _=>rfl,fun _ _ _=>rfl⟩
theorem zd{α:Type}:(∀ (a:α)(l:List α)(i:Nat),(a::l).take (i+1)=a::l.take i)/\(∀ l:List α,l.take 0=[])/\(∀ (a:α)(l:List α)(i:Nat),(a::l).drop (i+1)=l.drop i)/\(∀ l:List α,l.drop 0=l):=⟨fun _ _ _=>rfl,fun _=>rfl,fun _ _ _=>rfl,fun _=>rfl⟩
theorem zb{w:Go.World}{o:Go.Obj}:Go.RowKit.Below w.heap.size w (w.alloc o):=(Go.RowKit.Below.refl _ _).alloc (Nat.le_refl _) _
section
open Go
namespace Sha
def rotl (x r:Int):Int:=bits BinOp.or IntKind.u32 (x*2^r.toNat%4294967296) (x/2^(32-r).toNat)
def x32 (x y:Int):Int:=bits BinOp.xor IntKind.u32 x y
def a32 (x y:Int):Int:=bits BinOp.and IntKind.u32 x y
def sg (x ra rb rc:Int):Int:=x32 (x32 (rotl x ra) (rotl x rb)) (rotl x rc)
def ss (x ra rb s:Int):Int:=x32 (x32 (rotl x ra) (rotl x rb)) (x/2^s.toNat)
def row (l:List Int):Array Value:=(l.map (Value.int .u32)).toArray
theorem BS (l:List Int):(row l).size=l.length:=by simp[row]
theorem FZ (l:List Int)(i:Nat):(row l)[i]? = (l[i]?).map (Value.int .u32):=by simp[row]
theorem Qe (l:List Int)(i:Nat)(v:Int):(row l).setIfInBounds i (.int .u32 v)=row (l.set i v):=by
 simp[row,List.map_set]
theorem row_one (l:List Int):∀ v∈(row l).toList,v.oneCell' = true:=by
 simp[row];intro a _;rfl
def K:List Int:=[1116352408,1899447441,3049323471,3921009573,961987163,1508970993,2453635748,2870763221,3624381080,310598401,607225278,1426881987,1925078388,2162078206,2614888103,3248222580,3835390401,4022224774,264347078,604807628,770255983,1249150122,1555081692,1996064986,2554220882,2821834349,2952996808,3210313671,3336571891,3584528711,113926993,338241895,666307205,773529912,1294757372,1396182291,1695183700,1986661051,2177026350,2456956037,2730485921,2820302411,3259730800,3345764771,3516065817,3600352804,4094571909,275423344,430227734,506948616,659060556,883997877,958139571,1322822218,1537002063,1747873779,1955562222,2024104815,2227730452,2361852424,2428436474,2756734187,3204031479,3329325298]
theorem jH:K.length=64:=by decide
def acc (s:ByteArray)(i:Nat):Nat->Int
 | 0=>0
 | k+1=>bits BinOp.or IntKind.u32 (acc s i k*256%4294967296) ((s.data.toList.getD (4*i+k) 0).toNat:Int)
def nxt (l:List Int):Int:=
 (ss (l.getD (l.length-2) 0) 15 13 10+l.getD (l.length-7) 0+ss (l.getD (l.length-15) 0) 25 14 3+l.getD (l.length-16) 0)%4294967296
def step (s:ByteArray)(l:List Int):List Int:=l++[if l.length<16 then acc s l.length 4 else nxt l]
def sched (s:ByteArray):Nat->List Int
 | 0=>[]
 | n+1=>step s (sched s n)
theorem AY (s:ByteArray):∀ n,(sched s n).length=n
 | 0=>rfl
 | n+1=>by simp[sched,step,AY s n]
def lay (l:List Int):List Int:=l++List.replicate (64-l.length) 0
theorem nU (l:List Int)(h:l.length<=64):(lay l).length=64:=by simp[lay];omega
theorem nV (l:List Int)(v:Int)(h:l.length<64):(lay l).set l.length v=lay (l++[v]):=by
 unfold lay
 rw[List.set_append_right _ _ (Nat.le_refl _)]
 simp only[Nat.sub_self,List.length_append,List.length_singleton,List.append_assoc]
 congr 1
 obtain⟨m,hm⟩:∃ m,64-l.length=m+1:=⟨63-l.length,by omega⟩
 rw[hm,show 64-(l.length+1)=m by omega,List.replicate_succ]
 rfl
theorem Vp (l:List Int)(u v:Int)(_h:l.length<64):(lay (l++[u])).set l.length v=lay (l++[v]):=by
 unfold lay
 simp[List.set_append]
theorem jI (l:List Int)(h:l.length<64):lay (l++[0])=lay l:=by
 unfold lay
 simp only[List.length_append,List.length_singleton,List.append_assoc]
 congr 1
 obtain⟨m,hm⟩:∃ m,64-l.length=m+1:=⟨63-l.length,by omega⟩
 rw[hm,show 64-(l.length+1)=m by omega,List.replicate_succ]
 rfl
theorem rO (l:List Int)(v:Int)(h:l.length<64):(row (lay (l++[v])))[l.length]? = some (.int .u32 v):=by
 rw[FZ]
 simp[lay]
theorem jJ (s:ByteArray)(i k:Nat)(h:4*i+k<s.size):acc s i (k+1)=bits BinOp.or IntKind.u32 (acc s i k*256%4294967296) ((s[4*i+k].toNat:Int)%4294967296):=by
 have e:s.data.toList.getD (4*i+k) 0=s[4*i+k]:=by
  have:4*i+k<s.data.toList.length:=by simpa using h
  rw[List.getD_eq_getElem?_getD,List.getElem?_eq_getElem this]
  rfl
 rw[acc,e]
 congr 1
 have:=s[4*i+k].toNat_lt
 omega
theorem jK (s:ByteArray)(i:Nat):∀ k,0<=acc s i k/\acc s i k<4294967296
 | 0=>by simp[acc]
 | k + 1 => by
   simp only[acc,bits]
   have:=(BitVec.ofInt 32 (acc s i k*256%4294967296) ||| BitVec.ofInt 32 ((s.data.toList.getD (4*i+k) 0).toNat:Int)).isLt
   show 0<=IntKind.u32.wrap _/\IntKind.u32.wrap _<_
   rw[IntKind.wrap_u32]
   omega
theorem Xj (s:ByteArray):∀ n,∀ x∈sched s n,0<=x/\x<4294967296
 | 0,x,h=>by cases h
 | n + 1,x,h => by
   rw[sched,step,List.mem_append,List.mem_singleton] at h
   rcases h with h|rfl
   ·exact Xj s n x h
   ·split
    ·exact jK _ _ _
    ·unfold nxt;omega
theorem Dz (s:ByteArray)(n j:Nat):0<=(sched s n).getD j 0/\(sched s n).getD j 0<4294967296:=by
 rw[List.getD_eq_getElem?_getD]
 cases h:(sched s n)[j]? with
 | none=>simp
 | some x=>exact Xj s n x (List.mem_of_getElem? h)
theorem nW (l:List Int)(j:Nat)(h:j<l.length):(row (lay l))[j]? = some (.int .u32 (l.getD j 0)):=by
 rw[FZ]
 unfold lay
 rw[List.getElem?_append_left h,List.getElem?_eq_getElem h,List.getD_eq_getElem?_getD,List.getElem?_eq_getElem h]
 rfl
theorem Xk (s:ByteArray)(k:Nat)(h:k<64):(row (sched s 64))[k]? = some (.int .u32 ((sched s 64).getD k 0)):=by
 have hl:k<(sched s 64).length:=by rw[AY];exact h
 rw[FZ,List.getElem?_eq_getElem hl,List.getD_eq_getElem?_getD,List.getElem?_eq_getElem hl]
 rfl
theorem qG (k:Nat)(h:k<64):(row K)[k]? = some (.int .u32 (K.getD k 0)):=by
 have hl:k<K.length:=by rw[jH];exact h
 rw[FZ,List.getElem?_eq_getElem hl,List.getD_eq_getElem?_getD,List.getElem?_eq_getElem hl]
 rfl
def n32 (x:Int):Int:=x32 4294967295 x
def rnd (v:List Int)(k w:Int):List Int:=
 match v with
 | [a,b,c,d,e,f,g,h] =>
   let t1:=(h+sg e 26 21 7+x32 (a32 e f) (a32 (n32 e) g)+k+w)%4294967296
   let t2:=(sg a 30 19 10+x32 (x32 (a32 a b) (a32 a c)) (a32 b c))%4294967296
   [(t1+t2)%4294967296,a,b,c,(d+t1)%4294967296,e,f,g]
 | _=>v
theorem nX (y0 y1 y2 y3 y4 y5 y6 y7 k w:Int):row (rnd [y0,y1,y2,y3,y4,y5,y6,y7] k w)=
 row [(y7+sg y4 26 21 7+bits .xor .u32 (bits .and .u32 y4 y5) (bits .and .u32 (bits .xor .u32 IntKind.u32.max y4) y6)+k+w+
  (sg y0 30 19 10+bits .xor .u32 (bits .xor .u32 (bits .and .u32 y0 y1) (bits .and .u32 y0 y2)) (bits .and .u32 y1 y2)))%4294967296,y0,y1,y2,
  (y3+(y7+sg y4 26 21 7+bits .xor .u32 (bits .and .u32 y4 y5) (bits .and .u32 (bits .xor .u32 IntKind.u32.max y4) y6)+k+w))%4294967296,y4,y5,y6]:=by
 simp only[rnd,x32,a32,n32,show IntKind.u32.max=4294967295 from rfl]
 generalize bits BinOp.xor IntKind.u32 _ _=p
 generalize bits BinOp.xor IntKind.u32 _ _=q
 generalize sg y4 26 21 7=r
 generalize sg y0 30 19 10=s
 have e1:∀ a b:Int,(a%4294967296+b%4294967296)%4294967296=(a+b)%4294967296:=fun a b=>by omega
 have e2:∀ a b:Int,(a+b%4294967296)%4294967296=(a+b)%4294967296:=fun a b=>by omega
 rw[e1,e2]
def rounds (W:List Int)(v:List Int):Nat->List Int
 | 0=>v
 | n+1=>rnd (rounds W v n) (K.getD n 0) (W.getD n 0)
def Word (v:List Int):Prop:=v.length=8/\∀ x∈v,0<=x/\x<4294967296
theorem Word.lit {v:List Int}(h:Word v):∃ a b c d e f g i,v=[a,b,c,d,e,f,g,i]/\(0<=a/\a<4294967296)/\(0<=b/\b<4294967296)/\(0<=c/\c<4294967296)/\(0<=d/\d<4294967296)/\(0<=e/\e<4294967296)/\(0<=f/\f<4294967296)/\(0<=g/\g<4294967296)/\(0<=i/\i<4294967296):=by
 obtain⟨h1,h2⟩:=h
 match v,h1 with
 | [a,b,c,d,e,f,g,i],_=>exact⟨a,b,c,d,e,f,g,i,rfl,h2 _ (by simp),h2 _ (by simp),h2 _ (by simp),h2 _ (by simp),h2 _ (by simp),h2 _ (by simp),h2 _ (by simp),h2 _ (by simp)⟩
theorem Word.rnd {v:List Int}(h:Word v)(k w:Int):Word (rnd v k w):=by
 obtain⟨a,b,c,d,e,f,g,i,rfl,ha,hb,hc,hd,he,hf,hg,hi⟩:=h.lit
 refine⟨rfl,fun x hx=>?_⟩
 simp only[Sha.rnd,List.mem_cons,List.mem_nil_iff,or_false] at hx
 rcases hx with rfl|rfl|rfl|rfl|rfl|rfl|rfl|rfl<;>first|assumption|omega
theorem Word.rounds {v:List Int}(h:Word v)(W:List Int):∀ n,Word (rounds W v n)
 | 0=>h
 | n+1=>(Word.rounds h W n).rnd _ _
def block (v:List Int)(s:ByteArray):List Int:=List.zipWith (fun x y=>(x+y)%4294967296) v (rounds (sched s 64) v 64)
def part (v z:List Int)(k:Nat):List Int:=List.zipWith (fun x y=>(x+y)%4294967296) (v.take k) z++v.drop k
theorem Jr (v z:List Int)(h:v.length=8)(h' : z.length=8)(k:Nat)(hk:k<=8):(part v z k).length=8:=by
 simp[part];omega
theorem fu (v z:List Int):part v z 0=v:=by simp[part]
theorem jL (v z:List Int)(h:v.length=8)(h' : z.length=8)(k:Nat)(hk:k<8):(part v z k).getD k 0=v.getD k 0:=by
 have hl:(List.zipWith (fun x y=>(x+y)%4294967296) (v.take k) z).length=k:=by simp;omega
 simp only[part,List.getD_eq_getElem?_getD]
 rw[List.getElem?_append_right (by omega),hl]
 simp
theorem fA (v z:List Int)(h:v.length=8)(h' : z.length=8)(k:Nat)(hk:k<8):(part v z k).set k ((v.getD k 0+z.getD k 0)%4294967296)=part v z (k+1):=by
 match v,h,z,h' with
 | [a,b,c,d,e,f,g,i],_,[a',b',c',d',e',f',g',i'],_ =>
   match k,hk with
   | 0,_=>rfl
   | 1,_=>rfl
   | 2,_=>rfl
   | 3,_=>rfl
   | 4,_=>rfl
   | 5,_=>rfl
   | 6,_=>rfl
   | 7,_=>rfl
theorem jM (v z:List Int)(h:v.length=8):part v z 8=List.zipWith (fun x y=>(x+y)%4294967296) v z:=by
 simp[part,List.take_of_length_le,List.drop_eq_nil_of_le,h]
theorem Word.block {v:List Int}(h:Word v)(s:ByteArray):Word (block v s):=by
 refine⟨?_,fun x hx=>?_⟩
 ·simp[Sha.block,h.1,(h.rounds (sched s 64) 64).1]
 ·obtain⟨i,hi,rfl⟩:=List.getElem_of_mem hx
  simp only[Sha.block,List.getElem_zipWith]
  omega
end Sha
end
section
open Go Go.RowKit
theorem Js (x k r:Int)(w:World)(hk:bits BinOp.and IntKind.u64 (IntKind.u64.wrap k) 31=r)(h0:0<=r)(h1:r<=31)(_hx0:0<=x)(_hx:x<4294967296):
 Calls Tryz.prog 272 #[.int .u32 x,.int .i64 k] w fun e w' => e=.returned (.int .u32 (Sha.rotl x r))/\w=w':=by
 go_enter Tryz.func272,Tryz.ntmps272
 go_wp2
 go_ret
 exact⟨rfl,rfl⟩
theorem jN (x k:Int)(w:World)(h0:0<=k)(h1:k<=32)(_hx0:0<=x)(_hx:x<4294967296):
 Calls Tryz.prog 255 #[.int .u32 x,.int .i64 k] w fun e w' => e=.returned (.int .u32 (bits BinOp.or IntKind.u32 (x/2^k.toNat) (x*2^(32-k).toNat%4294967296)))/\∃ n,w' = w.drewN n:=by
 go_enter Tryz.func255,Tryz.ntmps255
 go_wp2
 go_quiet (fail)
 go_wp2
 go_ret
 exact⟨rfl,_,rfl⟩
theorem Xl (x a b c ra rb rc:Int)(w:World)(ha:bits BinOp.and IntKind.u64 (IntKind.u64.wrap (-a)) 31=ra)(ha0:0<=ra)(ha1:ra<=31)
 (hb:bits BinOp.and IntKind.u64 (IntKind.u64.wrap (-b)) 31=rb) (hb0:0<=rb) (hb1:rb<=31)
 (hc:bits BinOp.and IntKind.u64 (IntKind.u64.wrap (-c)) 31=rc) (hc0:0<=rc) (hc1:rc<=31)
 (_a1:0<=a) (_a2:a<=32) (_b1:0<=b) (_b2:b<=32) (_c1:0<=c) (_c2:c<=32) (hx0:0<=x) (hx:x<4294967296):
  Calls Tryz.prog 271 #[.int .u32 x,.int .i64 a,.int .i64 b,.int .i64 c] w fun e w' => e=.returned (.int .u32 (Sha.sg x ra rb rc))/\w=w':=by
 have A:=zh ha;have B:=zh hb;have C:=zh hc
 clear ha hb hc
 go_enter Tryz.func271,Tryz.ntmps271
 go_wp2_with fail
 refine(Js x _ ra _ A.out ha0 ha1 hx0 hx).mono ?_
 rintro e w' ⟨rfl,rfl⟩
 go_wp2_with fail
 refine(Js x _ rb _ B.out hb0 hb1 hx0 hx).mono ?_
 rintro e w' ⟨rfl,rfl⟩
 go_wp2_with fail
 refine(Js x _ rc _ C.out hc0 hc1 hx0 hx).mono ?_
 rintro e w' ⟨rfl,rfl⟩
 go_wp2
 go_ret
 exact⟨rfl,rfl⟩
theorem Xm (x a b c ra rb:Int)(w:World)(ha:bits BinOp.and IntKind.u64 (IntKind.u64.wrap (-a)) 31=ra)(ha0:0<=ra)(ha1:ra<=31)
 (hb:bits BinOp.and IntKind.u64 (IntKind.u64.wrap (-b)) 31=rb) (hb0:0<=rb) (hb1:rb<=31)
 (_a1:0<=a) (_a2:a<=32) (_b1:0<=b) (_b2:b<=32) (c1:0<=c) (c2:c<=31) (hx0:0<=x) (hx:x<4294967296):
  Calls Tryz.prog 276 #[.int .u32 x,.int .i64 a,.int .i64 b,.int .i64 c] w fun e w' => e=.returned (.int .u32 (Sha.ss x ra rb c))/\∃ n,w' = w.drewN n:=by
 have A:=zh ha;have B:=zh hb
 clear ha hb
 go_enter Tryz.func276,Tryz.ntmps276
 go_wp2_with fail
 go_quiet ((go_at_call 272;first|(with_reducible exact Calls.quiet_of_same ((Js x (-a) ra _ A.out ha0 ha1 hx0 hx).mono fun _ _ h=>⟨h.1,h.2.symm⟩))|(with_reducible exact Calls.quiet_of_same ((Js x (-b) rb _ B.out hb0 hb1 hx0 hx).mono fun _ _ h=>⟨h.1,h.2.symm⟩))))
 go_wp2
 go_ret
 exact⟨rfl,_,rfl⟩
namespace Sha
theorem BG {a b:ByteArray}(h:a.data.toList=b.data.toList):a=b:=by
 apply ByteArray.ext
 exact Array.toList_inj.1 h
theorem Cj (s:ByteArray)(a b:Nat):(s.extract a b).data.toList=(s.data.toList.drop a).take (b-a):=by
 simp[ByteArray.data_extract,Array.toList_extract,List.extract]
theorem Bq (s t:ByteArray):(s++t).data.toList=s.data.toList++t.data.toList:=by simp
theorem Bo (s:ByteArray):s.data.toList.length=s.size:=by simp
def IV:List Int:=[1779033703,3144134277,1013904242,2773480762,1359893119,2600822924,528734635,1541459225]
theorem Vq:Word IV:=by
 refine⟨rfl,?_⟩
 decide
def run (v:List Int)(s:ByteArray):Nat->List Int
 | 0=>v
 | k+1=>block (run v s k) (s.extract (64*k) (64*k+64))
theorem Word.run {v:List Int}(h:Word v)(s:ByteArray):∀ k,Word (run v s k)
 | 0=>h
 | k+1=>(Word.run h s k).block _
def state (m:ByteArray):List Int:=run IV m (m.size/64)
def rest (m:ByteArray):ByteArray:=m.extract (64*(m.size/64)) m.size
theorem Ew (m:ByteArray):Word (state m):=Vq.run _ _
theorem Kj (m:ByteArray):(rest m).data.toList=m.data.toList.drop (64*(m.size/64)):=by
 rw[rest,Cj]
 apply List.take_of_length_le
 rw[List.length_drop,Bo]
 omega
theorem Kk (m:ByteArray):(rest m).size=m.size%64:=by
 rw[<- Bo,Kj,List.length_drop,Bo]
 omega
theorem Un (v:List Int)(s t:ByteArray)(q:Nat):∀ j,(∀ i,i<j->s.extract (64*i) (64*i+64)=t.extract (64*(q+i)) (64*(q+i)+64))->run (run v t q) s j=run v t (q+j)
 | 0,_=>rfl
 | j + 1,h => by
   rw[run,Un v s t q j (fun i hi=>h i (by omega)),h j (by omega)]
   rfl
theorem Qq (v:List Int)(m s:ByteArray):∀ k,64*k<=m.size->run v (m++s) k=run v m k
 | 0,_=>rfl
 | k + 1,h => by
   rw[run,run,Qq v m s k (by omega)]
   congr 1
   apply BG
   rw[Cj,Cj,Bq,List.drop_append_of_le_length (by rw[Bo];omega),List.take_append_of_le_length (by rw[List.length_drop,Bo];omega)]
theorem Zw (m s:ByteArray)(i:Nat):(rest m++s).extract (64*i) (64*i+64)=(m++s).extract (64*(m.size/64+i)) (64*(m.size/64+i)+64):=by
 apply BG
 rw[Cj,Cj,Bq,Bq,Kj]
 rw[<- List.drop_append_of_le_length (by rw[Bo];omega),List.drop_drop,show 64*(m.size/64)+64*i=64*(m.size/64+i) by omega,show 64*i+64-64*i=64 by omega,show 64*(m.size/64+i)+64-64*(m.size/64+i)=64 by omega]
theorem jO (m s:ByteArray)(j:Nat):run (state m) (rest m++s) j=run IV (m++s) (m.size/64+j):=by
 rw[state,<- Qq IV m s (m.size/64) (by omega)]
 exact Un IV _ _ _ j (fun i _=>Zw m s i)
theorem Ag (m s:ByteArray):(m++s).size=m.size+s.size:=by
 rw[<- Bo,Bq,List.length_append,Bo,Bo]
theorem Jt (m s:ByteArray):m.size/64+(rest m++s).size/64=(m++s).size/64:=by
 rw[Ag,Ag,Kk]
 omega
theorem Zx (m s:ByteArray):run (state m) (rest m++s) ((rest m++s).size/64)=state (m++s):=by
 rw[jO,Jt]
 rfl
theorem fB (m s:ByteArray):(rest m++s).extract (64*((rest m++s).size/64)) (rest m++s).size=rest (m++s):=by
 apply BG
 rw[Kj,Cj,Bq,Bq,Kj,<- Jt m s]
 rw[<- List.drop_append_of_le_length (l₁ :=m.data.toList) (by rw[Bo];omega),List.drop_drop,show 64*(m.size/64)+64*((rest m++s).size/64)=64*(m.size/64+(rest m++s).size/64) by omega]
 apply List.take_of_length_le
 have:=Jt m s
 rw[List.length_drop,List.length_append,Bo,Bo]
 have e:=Ag m s
 have e2:=Ag (rest m) s
 have e3:=Kk m
 omega
end Sha
end
section
open Go
namespace Cod
def EZ:Nat->Nat->List UInt8
 | 0,_=>[]
 | f+1,n=>if n<128 then [n.toUInt8] else (n%128+128).toUInt8::EZ f (n/128)
def rdL:List UInt8->Nat->Option (Nat × Nat)
 | [],_=>none
 | b :: l,i => if i = 9 ∧ 1 < b.toNat then none else if b.toNat < 128 then (if b.toNat = 0 ∧ i ≠ 0 then none else some (b.toNat,1)) else match rdL l (i + 1) with
   | some (v,c)=>some (b.toNat%128+128*v,c+1)
   | none=>none
theorem Gn (n:Nat)(h:n<256):(n.toUInt8).toNat=n:=by
 simp[UInt8.toNat_ofNat]
 omega
theorem jP (f n:Nat)(h:0<f):0<(EZ f n).length:=by
 match f,h with
 | f+1,_=>unfold EZ;split<;>simp
theorem jQ (f n:Nat):(EZ f n).length<=f:=by
 induction f generalizing n with
 | zero=>exact Nat.le_refl _
 | succ f ih=>unfold EZ;split<;>simp;exact ih _
theorem rP (f:Nat):∀ (n i:Nat) (rest:List UInt8),n<128^f->n*128^i<18446744073709551616->i+f<=10->0<f->(i≠0->n≠0)->rdL (EZ f n++rest) i=some (n,(EZ f n).length):=by
 induction f with
 | zero=>intro n i rest _ _ _ h;omega
 | succ f ih =>
   intro n i rest hn hv hi _ hz
   unfold EZ
   by_cases h:n<128
   ·rw[if_pos h]
    show rdL (n.toUInt8::rest) i=_
    unfold rdL
    rw[Gn n (by omega)]
    rw[if_neg (by
     rintro⟨rfl,h2⟩
     have:(128:Nat)^9=9223372036854775808:=by decide
     rw[this] at hv
     omega),if_pos h,if_neg (by rintro⟨h1,h2⟩;exact hz h2 h1)]
    rfl
   ·rw[if_neg h]
    show rdL ((n%128+128).toUInt8::(EZ f (n/128)++rest)) i=_
    unfold rdL
    rw[Gn _ (by omega)]
    have h9:i≠9:=by
     rintro rfl
     have:(128:Nat)^9=9223372036854775808:=by decide
     rw[this] at hv
     omega
    have hf:0<f:=by
     rcases Nat.eq_zero_or_pos f with rfl|h1
     ·simp at hn;omega
     ·exact h1
    rw[if_neg (by rintro⟨h1,_⟩;exact h9 h1),if_neg (by omega)]
    have hv2:n/128*128^(i+1)<18446744073709551616:=by
     rw[Nat.pow_succ,Nat.mul_comm (128^i) 128,<- Nat.mul_assoc]
     exact Nat.lt_of_le_of_lt (Nat.mul_le_mul_right _ (Nat.div_mul_le_self n 128)) hv
    rw[ih (n/128) (i+1) rest (by rw[Nat.pow_succ] at hn;omega) hv2 (by omega) hf (by omega)]
    show some ((n%128+128)%128+128*(n/128),(EZ f (n/128)).length+1)=_
    congr 2
    omega
theorem bY:∀ (l:List UInt8) (i v c:Nat),i<=9->rdL l i=some (v,c)->c<=l.length/\0<c/\c+i<=10/\l.take c=EZ (10-i) v/\v*128^i<18446744073709551616/\(i≠0->v≠0)
 | [],_,_,_,_,h=>by cases h
 | b :: l,i,v,c,hi,h => by
   unfold rdL at h
   by_cases h1:i=9/\1<b.toNat
   ·rw[if_pos h1] at h;cases h
   ·rw[if_neg h1] at h
    have hb:b.toNat<256:=b.toNat_lt
    have hf:10-i=(9-i)+1:=by omega
    by_cases h2:b.toNat<128
    ·rw[if_pos h2] at h
     by_cases h3:b.toNat=0/\i≠0
     ·rw[if_pos h3] at h;cases h
     ·rw[if_neg h3] at h
      cases h
      refine⟨by simp,by omega,by omega,?_,?_,fun h4 h5=>h3 ⟨h5,h4⟩⟩
      ·rw[hf]
       unfold EZ
       rw[if_pos h2]
       simp
      ·by_cases h9:i=9
       ·subst h9
        have h10:b.toNat<=1:=by
         rcases Nat.lt_or_ge 1 b.toNat with h5|h5
         ·exact absurd ⟨rfl,h5⟩ h1
         ·exact h5
        have:(128:Nat)^9=9223372036854775808:=by decide
        rw[this]
        omega
       ·have h5:128^i<=128^8:=Nat.pow_le_pow_right (by omega) (by omega)
        have h6:(128:Nat)^8=72057594037927936:=by decide
        rw[h6] at h5
        have:=Nat.mul_le_mul (Nat.le_of_lt_succ (by omega:b.toNat<127+1)) h5
        omega
    ·rw[if_neg h2] at h
     cases hr:rdL l (i+1) with
     | none=>rw[hr] at h;cases h
     | some x =>
       obtain⟨v',c'⟩:=x
       rw[hr] at h
       simp only[Option.some.injEq,Prod.mk.injEq] at h
       obtain⟨rfl,rfl⟩:=h
       have h9:i≠9:=by
        rintro rfl
        exact h1 ⟨rfl,by omega⟩
       obtain⟨g1,g2,g3,g4,g5,g6⟩:=bY l (i+1) v' c' (by omega) hr
       refine⟨by simp;omega,by omega,by omega,?_,?_,fun _=>?_⟩
       ·have hf2:10-(i+1)=9-i:=by omega
        rw[hf2] at g4
        rw[hf]
        unfold EZ
        have:=g6 (by omega)
        rw[if_neg (by omega),List.take_succ_cons,g4]
        congr 1
        ·apply UInt8.toNat_inj.1
         rw[Gn _ (by omega)]
         omega
        ·congr 1
         omega
       ·obtain ⟨M,hM⟩ : 128 ^ (i + 1) ∣ 18446744073709551616 :=by
         have h7:(18446744073709551616:Nat)=2^64:=by decide
         rw[h7,show(128:Nat)=2^7 by decide,<- Nat.pow_mul]
         exact Nat.pow_dvd_pow 2 (by omega)
        rw[hM,Nat.mul_comm (128^(i+1)) M] at g5
        have hlt:v' < M:=Nat.lt_of_mul_lt_mul_right g5
        have hp:0<128^i:=Nat.pow_pos (by omega)
        have e:(18446744073709551616:Nat)=128*M*128^i:=by rw[hM,Nat.pow_succ,Nat.mul_comm (128^i) 128,Nat.mul_assoc,Nat.mul_assoc,Nat.mul_comm (128^i) M]
        rw[e]
        exact Nat.mul_lt_mul_of_pos_right (by omega) hp
       ·have:=g6 (by omega)
        omega
def uns (n:Nat):ByteArray:=⟨(EZ 10 n).toArray⟩
theorem Qr (n:Nat):(uns n).data.toList=EZ 10 n:=by simp[uns]
theorem Qs (n:Nat):(uns n).size=(EZ 10 n).length:=by rw[<- Sha.Bo,Qr]
theorem nY (n:Nat):0<(uns n).size:=by rw[Qs];exact jP _ _ (by omega)
theorem Ce (n:Nat):(uns n).size<=10:=by rw[Qs];exact jQ _ _
def rdU (s:ByteArray)(at_:Nat):Option (Nat × Nat):=match rdL (s.data.toList.drop at_) 0 with
 | some (v,c)=>some (v,at_+c)
 | none=>none
def rdN (s:ByteArray)(at_:Nat):Option (Nat × Nat):=match rdU s at_ with
 | some (v,a)=>if v<9223372036854775808 then some (v,a) else none
 | none=>none
def rdT (s:ByteArray)(at_:Nat):Option (ByteArray × Nat):=match rdN s at_ with
 | some (n,a)=>if n<=s.size-a then some (s.extract a (a+n),a+n) else none
 | none=>none
def Kw (s:ByteArray):Nat->Nat->Option (List ByteArray × Nat)
 | 0,a=>some ([],a)
 | n + 1,a => match rdT s a with
   | some (x,b) => match Kw s n b with
     | some (l,c)=>some (x::l,c)
     | none=>none
   | none=>none
def Br (s:ByteArray)(at_:Nat):Option (List ByteArray × Nat):=match rdN s at_ with
 | some (n,a)=>if n<=s.size-a then Kw s n a else none
 | none=>none
def cat:List ByteArray->ByteArray
 | []=>⟨#[]⟩
 | x::l=>x++cat l
def text (s:ByteArray):ByteArray:=uns s.size++s
def texts (l:List ByteArray):ByteArray:=uns l.length++cat (l.map text)
theorem Xn {s:ByteArray}{a n:Nat} : (s.extract a (a+n)).data.toList=(s.data.toList.drop a).take n:=by
 rw[Sha.Cj]
 congr 1
 omega
theorem Ht (s:ByteArray)(a b c:Nat)(h1:a<=b)(h2:b<=c):s.extract a c=s.extract a b++s.extract b c:=by
 apply Sha.BG
 rw[Sha.Bq,Sha.Cj,Sha.Cj,Sha.Cj]
 have e:c-a=(b-a)+(c-b):=by omega
 rw[e,List.take_add,List.drop_drop,show a+(b-a)=b by omega]
theorem Xo {s:ByteArray}{a v b:Nat}(h:rdU s a=some (v,b)):a<b/\b<=s.size/\s.extract a b=uns v/\v<18446744073709551616:=by
 unfold rdU at h
 cases hr:rdL (s.data.toList.drop a) 0 with
 | none=>rw[hr] at h;cases h
 | some x =>
   obtain⟨v',c⟩:=x
   rw[hr] at h
   simp only[Option.some.injEq,Prod.mk.injEq] at h
   obtain⟨rfl,rfl⟩:=h
   obtain⟨g1,g2,g3,g4,g5,_⟩:=bY _ 0 _ _ (by omega) hr
   rw[List.length_drop,Sha.Bo] at g1
   refine⟨by omega,by omega,?_,by simpa using g5⟩
   apply Sha.BG
   rw[Xn,Qr]
   exact g4
theorem rQ {p s r:ByteArray}{n a:Nat}(ha:a=p.size)(hn:n<18446744073709551616):rdU (p++(uns n++r)) a=some (n,a+(uns n).size):=by
 unfold rdU
 have hd:(p++(uns n++r)).data.toList.drop a=EZ 10 n++r.data.toList:=by
  rw[Sha.Bq,Sha.Bq,Qr,ha,<- Sha.Bo p,List.drop_left]
 rw[hd,rP 10 n 0 _ (by
  have:(128:Nat)^10=1180591620717411303424:=by decide
  omega) (by simpa using hn) (by omega) (by omega) (fun h=>absurd rfl h),Qs]
theorem Fa {s:ByteArray}{a v b:Nat}(h:rdN s a=some (v,b)):a<b/\b<=s.size/\s.extract a b=uns v/\v<9223372036854775808:=by
 unfold rdN at h
 cases hr:rdU s a with
 | none=>rw[hr] at h;cases h
 | some x =>
   obtain⟨v',b'⟩:=x
   rw[hr] at h
   by_cases hv:v' < 9223372036854775808
   ·simp only[if_pos hv,Option.some.injEq,Prod.mk.injEq] at h
    obtain⟨rfl,rfl⟩:=h
    obtain⟨h1,h2,h3,_⟩:=Xo hr
    exact⟨h1,h2,h3,hv⟩
   ·simp only[if_neg hv] at h
    cases h
theorem Zy {p r:ByteArray}{n a:Nat}(ha:a=p.size)(hn:n<9223372036854775808):rdN (p++(uns n++r)) a=some (n,a+(uns n).size):=by
 unfold rdN
 rw[rQ (s:=r) ha (by omega)]
 simp only[if_pos hn]
theorem Mc {s x:ByteArray}{a b:Nat}(h:rdT s a=some (x,b)):a<b/\b<=s.size/\s.extract a b=text x:=by
 unfold rdT at h
 cases hr:rdN s a with
 | none=>rw[hr] at h;cases h
 | some y =>
   obtain⟨n,a'⟩:=y
   rw[hr] at h
   obtain⟨h1,h2,h3,_⟩:=Fa hr
   by_cases hv:n<=s.size-a'
   ·simp only[if_pos hv,Option.some.injEq,Prod.mk.injEq] at h
    obtain⟨rfl,rfl⟩:=h
    refine⟨by omega,by omega,?_⟩
    rw[Ht s a a' (a' + n) (by omega) (by omega),h3]
    unfold text
    rw[ByteArray.size_extract,show min (a' + n) s.size-a' = n by omega]
   ·simp only[if_neg hv] at h
    cases h
theorem jR {p x r:ByteArray}{a:Nat}(ha:a=p.size)(hn:x.size<9223372036854775808):rdT (p++(text x++r)) a=some (x,a+(text x).size):=by
 unfold rdT text
 rw[ByteArray.append_assoc,Zy ha hn]
 have hz:(p++(uns x.size++(x++r))).size=p.size+((uns x.size).size+(x.size+r.size)):=by simp only[Sha.Ag]
 have h1:x.size<=(p++(uns x.size++(x++r))).size-(a+(uns x.size).size):=by rw[hz];omega
 simp only[if_pos h1]
 congr 2
 ·apply Sha.BG
  rw[Xn,Sha.Bq,Sha.Bq,Sha.Bq]
  have h2:a+(uns x.size).size=(p.data.toList++(uns x.size).data.toList).length:=by rw[List.length_append,Sha.Bo,Sha.Bo,ha]
  rw[h2,<- List.append_assoc,List.drop_left,<- Sha.Bo x,List.take_left]
 ·rw[Sha.Ag];omega
theorem Uo {s:ByteArray} : ∀ {n a b:Nat} {l:List ByteArray},a<=s.size->Kw s n a=some (l,b)->a<=b/\b<=s.size/\s.extract a b=cat (l.map text)/\l.length=n
 | 0,a,b,l,ha,h => by
   simp only[Kw,Option.some.injEq,Prod.mk.injEq] at h
   obtain⟨rfl,rfl⟩:=h
   refine⟨Nat.le_refl _,ha,?_,rfl⟩
   apply Sha.BG
   rw[Sha.Cj,Nat.sub_self]
   rfl
 | n + 1,a,b,l,ha,h => by
   unfold Kw at h
   cases hr:rdT s a with
   | none=>rw[hr] at h;cases h
   | some y =>
     obtain⟨x,a'⟩:=y
     rw[hr] at h
     obtain⟨h1,h2,h3⟩:=Mc hr
     cases hq:Kw s n a' with
     | none=>simp only[hq] at h;cases h
     | some z =>
       obtain⟨l',b'⟩:=z
       simp only[hq,Option.some.injEq,Prod.mk.injEq] at h
       obtain⟨rfl,rfl⟩:=h
       obtain⟨g1,g2,g3,g4⟩:=Uo h2 hq
       refine⟨by omega,g2,?_,by simp[g4]⟩
       rw[Ht s a a' b' (by omega) g1,h3,g3]
       rfl
theorem bZ {r:ByteArray} : ∀ (l:List ByteArray) (p:ByteArray) (a:Nat),a=p.size->(∀ x∈l,x.size<9223372036854775808)->Kw (p++(cat (l.map text)++r)) l.length a=some (l,a+(cat (l.map text)).size)
 | [],p,a,_,_=>rfl
 | x :: l,p,a,ha,hx => by
   have e:p++(cat ((x::l).map text)++r)=p++(text x++(cat (l.map text)++r)):=by
    show p++((text x++cat (l.map text))++r)=_
    rw[ByteArray.append_assoc]
   have e2:p++(text x++(cat (l.map text)++r))=(p++text x)++(cat (l.map text)++r):=by rw[ByteArray.append_assoc]
   rw[e]
   show Kw _ (l.length+1) a=_
   unfold Kw
   rw[jR ha (hx x List.mem_cons_self)]
   simp only
   rw[e2,bZ l (p++text x) (a+(text x).size) (by rw[Sha.Ag,ha]) (fun y hy=>hx y (List.mem_cons_of_mem _ hy))]
   simp only[Option.some.injEq,Prod.mk.injEq,true_and]
   show _=a+(text x++cat (l.map text)).size
   rw[Sha.Ag]
   omega
theorem Xp (l:List ByteArray):l.length<=(cat (l.map text)).size:=by
 induction l with
 | nil=>exact Nat.zero_le _
 | cons x l ih =>
   show _<=(text x++cat (l.map text)).size
   have h1:0<(text x).size:=by unfold text;rw[Sha.Ag];have:=nY x.size;omega
   rw[Sha.Ag,List.length_cons]
   omega
theorem Md {s:ByteArray}{a b:Nat}{l:List ByteArray}(h:Br s a=some (l,b)):a<b/\b<=s.size/\s.extract a b=texts l:=by
 unfold Br at h
 cases hr:rdN s a with
 | none=>rw[hr] at h;cases h
 | some y =>
   obtain⟨n,a'⟩:=y
   rw[hr] at h
   obtain⟨h1,h2,h3,_⟩:=Fa hr
   by_cases hv:n<=s.size-a'
   ·simp only[if_pos hv] at h
    obtain⟨g1,g2,g3,g4⟩:=Uo h2 h
    refine⟨by omega,g2,?_⟩
    rw[Ht s a a' b (by omega) g1,h3,g3,<- g4]
    rfl
   ·simp only[if_neg hv] at h
    cases h
theorem Zz {p r:ByteArray}{l:List ByteArray}{a:Nat}(ha:a=p.size)(hl:l.length<9223372036854775808)(hx:∀ x∈l,x.size<9223372036854775808):Br (p++(texts l++r)) a=some (l,a+(texts l).size):=by
 unfold Br texts
 rw[ByteArray.append_assoc,Zy ha hl]
 have hz:(p++(uns l.length++(cat (l.map text)++r))).size=p.size+((uns l.length).size+((cat (l.map text)).size+r.size)):=by simp only[Sha.Ag]
 have hc:=Xp l
 simp only[if_pos (show l.length<=(p++(uns l.length++(cat (l.map text)++r))).size-(a+(uns l.length).size) by rw[hz];omega)]
 have e2:p++(uns l.length++(cat (l.map text)++r))=(p++uns l.length)++(cat (l.map text)++r):=by rw[ByteArray.append_assoc]
 rw[e2,bZ l _ _ (by rw[Sha.Ag,ha]) hx]
 simp only[Option.some.injEq,Prod.mk.injEq,true_and,Sha.Ag]
 omega
end Cod
def Ld (l:List ByteArray):Bool:=l.all fun r=>decide (r.size=32)
end
section
open Go Go.RowKit
theorem Qt {P:Program}{ops:Array Oper}{Q:Exit->Act->World->Prop}{a:Act}{w w' : World}{rest:List Oper}{o:Oper}{v:Value}(hg:o.guard=none)
 (hr:(execOp a.eval o).run P w=.ok (.value v) w') (h:wpList P ops Q rest (a.put o.dst v) w'):wpList P ops Q (o::rest) a w:=
 wpList_plain hg fun K hK=>by
  unfold Oper.wp
  rw[hr]
  exact hK _ _ h
theorem Ju {P:Program}{ops:Array Oper}{Q:Exit->Act->World->Prop}{a:Act}{w:World}{rest:List Oper}{o:Oper}(v:Value)(hg:o.guard=none)
 (hr:(execOp a.eval o).run P w=.ok (.value v) w) (h:wpList P ops Q rest (a.put o.dst v) w):wpList P ops Q (o::rest) a w:=Qt hg hr h
theorem Gp {P:Program}(t e:TypeId)(n:Nat)(cs:Array Value)(k:IntKind)(i:Nat)(v:Value)(w:World)(h:P.underlying t=some (.array n e))(hi:i<n)(hv:cs[i]? = some v)(hs:∀ w,(sizeOf e).run P w=.ok 1 w)(ha:∀ w,(isAgg e).run P w=.ok false w):
 (Instr.index t (.agg cs) (.int k i)).run P w=.ok v w:=by
 simp[Instr.index,run_underlying h,asIntOf,hi,hv,hs,ha,go_sem]
def At (w:World)(b:Nat)(t:TypeId)(cs:Array Value):Prop:=w.heap[b]? = some (.cells cs t (0,0))
section
variable {w w' : World} {b:Nat} {t:TypeId} {cs:Array Value}
theorem At.lt (h:At w b t cs):b<w.heap.size:=lt_of_block h
theorem At.cell (h:At w b t cs)(i:Nat):w.cell? ⟨b,i,none⟩=cs[i]? :=cell_of_row w b i cs t (0,0) h
theorem At.free (h:At w b t cs)(i:Nat):w.frozen? ⟨b,i,none⟩=false:=frozen_of_row w b i cs t h
theorem At.new (w:World)(t:TypeId)(cs:Array Value):At (w.alloc (.cells cs t)) w.heap.size t cs:=heap_alloc_new w _
theorem At.alloc (h:At w b t cs)(o:Obj):At (w.alloc o) b t cs:=(Below.heap_alloc w o b h.lt).trans h
theorem At.drewN (h:At w b t cs)(n:Nat):At (w.drewN n) b t cs:=h
theorem At.drew (h:At w b t cs):At w.drew b t cs:=h
theorem At.set (h:At w b t cs)(i:Nat)(u:Value):At (w.setCell ⟨b,i,none⟩ u) b t (cs.setIfInBounds i u):=heap_setCell_same w b i cs t u h
theorem At.far (h:At w b t cs){p:Addr}(hp:b≠p.block)(u:Value):At (w.setCell p u) b t cs:=(heap_setCell_other w p b u hp).trans h
theorem At.keep (h:At w b t cs)(hk:w'.heap[b]? = w.heap[b]?):At w' b t cs:=hk.trans h
theorem At.below {B:Nat}(h:At w b t cs)(hb:Below B w w')(hlt:b<B):At w' b t cs:=(hb.block b hlt).trans h
theorem At.grown {row:Option Nat}(h:At w b t cs)(hg:w.grownBy w' row)(hr:some b≠row):At w' b t cs:=(hg.block b h.lt hr).trans h
end
theorem Me (w:World)(z cs:Array Value)(t:TypeId):(w.alloc (.cells z t)).setRow w.heap.size cs=w.alloc (.cells cs t):=by
 cases w with
 | mk heap tape drawn os output =>
   simp only[World.setRow,World.alloc]
   congr 1
   apply Array.ext
   ·simp
   ·intro k h1 h2
    simp only[Array.size_modify,Array.size_push] at h1 h2
    by_cases hk:k=heap.size
    ·subst hk;simp[Array.getElem_modify]
    ·have:k<heap.size:=by omega
     simp[Array.getElem_modify,Array.getElem_push,this,hk,Ne.symm hk]
theorem Tf {P:Program}(w:World)(b:Nat)(t ty:TypeId)(cur cs:Array Value)(hg:At w b t cur)(hs:cur.size=cs.size)(hi:(P.info? ty).map (·.size)=some cs.size)(h1:∀ v∈cs.toList,v.oneCell' = true):
 (Instr.storeAt ty (.pointer (some ⟨b,0,none⟩)) (.agg cs)).run P w=.ok () (w.setRow b cs):=by
 have h:=run_storeCells_at P b 0 t cs.toList 0 cur w hg (by simp[hs]) h1
 have hd:cur.toList.drop cs.size=[]:=by rw[List.drop_eq_nil_iff];simp[hs]
 simp only[Nat.zero_add,List.take_zero,List.nil_append,Array.length_toList,hd,List.append_nil,Array.toArray_toList] at h
 cases hq:P.info? ty with
 | none=>simp[hq] at hi
 | some i =>
   have hsz:cs.size=i.size:=by simp[hq] at hi;omega
   simp[Instr.storeAt,Instr.sureAddr,storeVar,sizeOf,typeInfo,hq,Value.cells,hsz,h]
theorem Ey {P:Program}{ops:Array Oper}{rest:List Oper}{op:Oper}{a:Act}{w:World}{Q:Exit->Act->World->Prop}(hgd:op.guard=none)(e:TypeId)(ho:op.op=.alloc e)(z:Array Value)
 (hz:(P.info? e).map (·.zero)=some (some (.agg z))) (h:wpList P ops Q rest (a.put op.dst (.pointer (some ⟨w.heap.size,0,none⟩))) (w.alloc (.cells z e))):wpList P ops Q (op::rest) a w:=
 Qt (w':=w.alloc (.cells z e)) (v:=.pointer (some ⟨w.heap.size,0,none⟩)) hgd (by
  cases hq:P.info? e with
  | none=>simp[hq] at hz
  | some i =>
    rw[hq] at hz
    have hz' : i.zero=some (.agg z):=by simpa using hz
    unfold execOp
    simp[ho,Instr.alloc,zeroValue,typeInfo,hq,hz',newVar,newRow,newObj,Value.cells];rfl) h
theorem wpList_store_row {P:Program}{ops:Array Oper}{rest:List Oper}{op:Oper}{a:Act}{w:World}{Q:Exit->Act->World->Prop}(hgd:op.guard=none)(ty:TypeId)(x y:Operand)(ho:op.op=.store ty x y)
 (b:Nat) (t:TypeId) (cur cs:Array Value) (hx:a.eval x=.pointer (some ⟨b,0,none⟩)) (hy:a.eval y=.agg cs)
 (hg:At w b t cur) (hs:cur.size=cs.size) (hi:(P.info? ty).map (·.size)=some cs.size) (h1:∀ v∈cs.toList,v.oneCell' = true)
 (h:wpList P ops Q rest (a.put op.dst undef) (w.setRow b cs)):wpList P ops Q (op::rest) a w:=
 wpList_plain hgd fun _ hK=>by
  unfold Oper.wp execOp
  simp only[ho,hx,hy,Sem.run_bind,Sem.run_pure,Result.andThen_ok,Tf w b t ty cur cs hg hs hi h1]
  exact hK _ _ h
theorem At.setRow {w:World}{b:Nat}{t:TypeId}{cs:Array Value}(h:At w b t cs)(cs' : Array Value):At (w.setRow b cs') b t cs':=by
 unfold At at h ⊢
 simp[World.setRow,Array.getElem?_modify,h]
theorem At.Gq {w:World}{b g:Nat}{t:TypeId}{cs:Array Value}(h:At w b t cs)(hne:b≠g)(cs' : Array Value):At (w.setRow g cs') b t cs:=by
 unfold At at h ⊢
 simp[World.setRow,Array.getElem?_modify,h,Ne.symm hne]
theorem _root_.Go.RowKit.Below.setRow {B g:Nat}{a w:World}(h:Below B a w)(hg:B<=g)(cs:Array Value):Below B a (w.setRow g cs):=
 h.trans ⟨rfl,rfl,rfl,by simp,fun k hk=>by simp only[World.setRow,Array.getElem?_modify];rw[if_neg (by omega)]⟩
structure Fr (F:Nat->Prop) (w w' : World):Prop where
 os:w'.os=w.os
 tape:w'.tape=w.tape
 output:w'.output=w.output
 size:w.heap.size<=w'.heap.size
 keep:∀ k,k<w.heap.size->¬ F k->w'.heap[k]? = w.heap[k]?
section
variable {F G:Nat->Prop} {a w w' : World}
theorem Fr.refl (F:Nat->Prop)(w:World):Fr F w w:=⟨rfl,rfl,rfl,Nat.le_refl _,fun _ _ _=>rfl⟩
theorem Fr.trans (h:Fr F a w)(k:Fr G w w')(hG:∀ k,G k->F k\/a.heap.size<=k):Fr F a w' :=
 ⟨k.os.trans h.os,k.tape.trans h.tape,k.output.trans h.output,Nat.le_trans h.size k.size,fun i hi hn =>
   (k.keep i (Nat.lt_of_lt_of_le hi h.size) (fun hg=>by rcases hG i hg with h1|h1;exact hn h1;omega)).trans (h.keep i hi hn)⟩
theorem Fr.mono (h:Fr F a w)(hF:∀ k,F k->G k):Fr G a w:=⟨h.os,h.tape,h.output,h.size,fun k hk hn=>h.keep k hk (fun hf=>hn (hF k hf))⟩
theorem Fr.of_below (h:Below a.heap.size a w):Fr F a w:=⟨h.os,h.tape,h.output,h.size,fun k hk _=>h.block k hk⟩
theorem Fr.below {B:Nat}(h:Fr F a w)(hB:B<=a.heap.size)(hF:∀ k,F k->B<=k):Below B a w:=
 ⟨h.os,h.tape,h.output,h.size,fun k hk=>h.keep k (by omega) (fun hf=>by have:=hF k hf;omega)⟩
theorem Fr.drew (h:Fr F a w):Fr F a w.drew:=⟨h.os,h.tape,h.output,h.size,h.keep⟩
theorem Fr.alloc (h:Fr F a w)(o:Obj):Fr F a (w.alloc o):=
 ⟨h.os,h.tape,h.output,by simp;have:=h.size;omega,fun k hk hn=>(Below.heap_alloc w o k (Nat.lt_of_lt_of_le hk h.size)).trans (h.keep k hk hn)⟩
theorem Fr.setCell (h:Fr F a w){p:Addr}(hp:F p.block\/a.heap.size<=p.block)(u:Value):Fr F a (w.setCell p u):=
 ⟨h.os,h.tape,h.output,by simpa [World.setCell] using h.size,fun k hk hn => (heap_setCell_other w p k u (by
   rintro rfl
   rcases hp with hp|hp
   ·exact hn hp
   ·omega)).trans (h.keep k hk hn)⟩
theorem Fr.grown (h:Fr F a w){row:Option Nat}(hg:w.grownBy w' row)(hr:∀ k,row=some k->F k\/a.heap.size<=k):Fr F a w' :=
 ⟨hg.os.trans h.os,hg.tape.trans h.tape,hg.output.trans h.output,Nat.le_trans h.size hg.size,fun k hk hn =>
   (hg.block k (Nat.lt_of_lt_of_le hk h.size) (fun e=>by rcases hr k e.symm with h1|h1;exact hn h1;omega)).trans (h.keep k hk hn)⟩
theorem Fr.at (h:Fr F a w){b:Nat}{t:TypeId}{cs:Array Value}(hat:At a b t cs)(hn:¬ F b):At w b t cs:=(h.keep b hat.lt hn).trans hat
end
end
section
open Go Go.RowKit Go.Maps
theorem below_drewN {B:Nat}{a w:World}(h:Below B a w)(n:Nat):Below B a (w.drewN n):=⟨h.os,h.tape,h.output,h.size,h.block⟩
theorem At.ne {w:World}{b b' : Nat}{t t' : TypeId}{cs cs' : Array Value}(h:At w b t cs)(h' : At w b' t' cs')(ht:t≠t'):b≠b':=by
 rintro rfl
 unfold At at h h'
 rw[h] at h'
 simp only[Option.some.injEq,Obj.cells.injEq] at h'
 exact ht h'.2.1
theorem Db {w:World}{base g n size:Nat}{e:TypeId}{v:Value}{xs:List Value}(h:w.ownsRow base e size v n xs)(hg:v.ownBlock=some g):∃ cur,At w g e cur:=by
 obtain⟨_,⟨rfl,_⟩|⟨g',cap,cur,rfl,_,hc,_⟩⟩:=h
 ·cases hg
 ·cases hg;exact⟨cur,hc⟩
theorem Ae {w w' : World}{base n size:Nat}{e:TypeId}{v:Value}{xs:List Value}(h:w.ownsRow base e size v n xs)(hk:∀ k,v.ownBlock=some k->w'.heap[k]? = w.heap[k]?):w'.ownsRow base e size v n xs:=by
 obtain⟨hl,hn|⟨g,cap,cur,rfl,hb,hc,hr⟩⟩:=h
 ·exact⟨hl,.inl hn⟩
 ·exact⟨hl,.inr ⟨g,cap,cur,rfl,hb,by rw[hk g rfl];exact hc,hr⟩⟩
theorem Ct {w:World}{base n size:Nat}{e:TypeId}{v:Value}{xs:List Value}(h:w.ownsRow base e size v n xs)(hn:0<n):∃ g cap,v=.slice (some ⟨g,0,none⟩) n cap/\∀ i x,xs[i]? = some x->w.cell? ⟨g,i,none⟩=some x:=by
 obtain⟨hl,⟨_,h0⟩|⟨g,cap,cur,rfl,_,hc,_,_,hcs,ht⟩⟩:=h
 ·omega
 ·refine⟨g,cap,rfl,fun i x hx=>?_⟩
  rw[At.cell hc i,<- Array.getElem?_toList]
  rw[<- ht,List.getElem?_take] at hx
  split at hx
  ·exact hx
  ·cases hx
theorem Ac {w:World}{base n size:Nat}{e:TypeId}{v:Value}{xs:List Value}(h:w.ownsRow base e size v n xs):∃ a m c,v=.slice a m c:=by
 obtain⟨_,⟨rfl,_⟩|⟨g,cap,cur,rfl,_⟩⟩:=h
 ·exact⟨_,_,_,rfl⟩
 ·exact⟨_,_,_,rfl⟩
theorem Ak {w:World}{base n size:Nat}{e:TypeId}{v:Value}{xs:List Value}(h:w.ownsRow base e size v n xs):∀ k,v.ownBlock=some k->base<=k:=by
 intro k hk
 obtain⟨_,⟨rfl,_⟩|⟨g,cap,cur,rfl,hg,_⟩⟩:=h
 ·cases hk
 ·have : g = k :=by
   have hk' : some g=some k:=hk
   simpa using hk'
  omega
theorem cu {w:World}{base g n' cap n size:Nat}{e:TypeId}{xs:List Value}(h:w.ownsRow base e size (.slice (some ⟨g,0,none⟩) n' cap) n xs):base<=g/\g<w.heap.size:=by
 obtain⟨_,⟨h0,_⟩|⟨g',cap',cur,hgv,hle,hc,_⟩⟩:=h
 ·cases h0
 ·cases hgv
  exact⟨hle,lt_of_block hc⟩
theorem At.own_ne {w:World}{b base n size:Nat}{t e:TypeId}{cs:Array Value}{v:Value}{xs:List Value}(h:At w b t cs)(ho:w.ownsRow base e size v n xs)(ht:t≠e):v.ownBlock≠some b:=by
 intro hb
 obtain⟨cur,hc⟩:=Db ho hb
 exact h.ne hc ht rfl
theorem cB {w:World}{b i:Nat}{v:Value}(h:w.cell? ⟨b,i,none⟩=some v):b<w.heap.size:=by
 by_cases hb:b<w.heap.size
 ·exact hb
 ·have e:w.heap[b]? = none:=Array.getElem?_eq_none (by omega)
  simp[World.cell?,e] at h
theorem Kl {w w' : World}{a:Addr}(h:w'.heap[a.block]? = w.heap[a.block]?):w'.cell? a=w.cell? a:=by unfold World.cell?;rw[h]
theorem Ez (w:World):w.drew.heap=w.heap:=rfl
theorem block_lt {w:World}{a:Addr}{v:Value}(h:w.cell? a=some v):a.block<w.heap.size:=by
 apply Classical.byContradiction
 intro hn
 have:w.heap[a.block]? = none:=Array.getElem?_eq_none (by omega)
 unfold World.cell? at h
 rw[this] at h
 cases h
theorem At.new1 (w:World)(o:Obj)(t:TypeId)(cs:Array Value):At ((w.alloc o).alloc (.cells cs t)) (w.heap.size+1) t cs:=by
 have:=At.new (w.alloc o) t cs
 rw[World.size_alloc] at this
 exact this
theorem Xq (w:World)(x:Value)(t:TypeId):(w.alloc (.cells #[x] t)).cell? ⟨w.heap.size,0,none⟩=some x:=(At.new w t #[x]).cell 0
theorem Bh {base:Nat}{e:TypeId}{size n:Nat}{xs:List Value}{v:Value}{a w1 w w' : World}(h:Below base a w)(hB:base<=w.heap.size)(hv:w1.ownsRow base e size v n xs)(hg:w.grownBy w' v.ownBlock):Below base a w':=by
 refine h.grown hg hB fun k hk=>?_
 obtain⟨_,⟨rfl,_⟩|⟨g,cap,cur,rfl,hb,_⟩⟩:=hv
 ·cases hk
 ·cases hk;exact hb
theorem PG {P:Program}{w:World}(base:Nat)(t ty e:TypeId)(i:TypeInfo)(size:Nat)(ht:P.underlying t=some (.slice e))(hi:P.info? e=some i)(v:Value)(n c:Nat)(xs:List Value)(hown:w.ownsRow base e size v n xs):
 (Builtin.append_ #[t,t] ty #[v,.slice none 0 c]).run P w=.ok v w:=by
 rcases hown.2 with ⟨rfl,rfl⟩|⟨g,cap,cur,rfl,_,_,hnc,_⟩
 ·simp[Builtin.append_,run_underlying ht,sizeOf,typeInfo,hi,Builtin.lenOf,Builtin.firstCells]
 ·simp[Builtin.append_,run_underlying ht,sizeOf,typeInfo,hi,Builtin.lenOf,Builtin.firstCells,hnc,storeCells]
theorem Ck {P:Program}(w:World)(src e dst:TypeId)(hs:P.underlying src=some (.slice e))(he:P.underlying e=some (.int .u8))(hd:P.underlying dst=some .string){base n:Nat}{v:Value}(xs:List Int)
 (h:w.ownsRow base e 1 v n (xs.map (Value.int .u8))):(convert src dst v).run P w=.ok (.string (strOfNums xs)) w:=by
 obtain⟨hl,⟨rfl,hn⟩|⟨g,cap,cur,rfl,hb,hg,hc,hm,hcs,ht⟩⟩:=h
 ·have : xs = [] :=by
   rw[List.length_map,hn] at hl
   exact List.eq_nil_of_length_eq_zero (by omega)
  subst this
  exact run_convert_bytes_nil w src e hs he 0 0 dst hd
 ·have hl' : xs.length=n:=by rw[List.length_map] at hl;omega
  refine run_convert_bytes_arg w src e hs he g 0 n cap xs hl' (fun i hi=>?_) dst hd
  rw[Nat.zero_add,At.cell hg i]
  have h1:cur.toList[i]? = ((xs.map (Value.int .u8)))[i]? :=by
   rw[<- ht,List.getElem?_take_of_lt (by omega)]
  rw[<- Array.getElem?_toList,h1,List.getElem?_map,List.getD_eq_getElem?_getD,List.getElem?_eq_getElem (by omega)]
  rfl
theorem At.c1{w:World}{k:Nat}{t:TypeId}{a:Value}(h:At w k t #[a]):w.cell? ⟨k,0,none⟩=some a:=by
 simpa using h.cell 0
theorem At.c2{w:World}{k:Nat}{t:TypeId}{a b:Value}(h:At w k t #[a,b]):w.cell? ⟨k,0,none⟩=some a/\w.cell? ⟨k,1,none⟩=some b:=by
 simpa using And.intro (h.cell 0) (h.cell 1)
theorem At.c3{w:World}{k:Nat}{t:TypeId}{a b c:Value}(h:At w k t #[a,b,c]):w.cell? ⟨k,0,none⟩=some a/\w.cell? ⟨k,1,none⟩=some b/\w.cell? ⟨k,2,none⟩=some c:=⟨h.cell 0,h.cell 1,h.cell 2⟩
theorem At.c4{w:World}{k:Nat}{t:TypeId}{a b c d:Value}(h:At w k t #[a,b,c,d]):w.cell? ⟨k,0,none⟩=some a/\w.cell? ⟨k,1,none⟩=some b/\w.cell? ⟨k,2,none⟩=some c/\w.cell? ⟨k,3,none⟩=some d:=⟨h.cell 0,h.cell 1,h.cell 2,h.cell 3⟩
theorem At.c5{w:World}{k:Nat}{t:TypeId}{a b c d e:Value}(h:At w k t #[a,b,c,d,e]):w.cell? ⟨k,0,none⟩=some a/\w.cell? ⟨k,1,none⟩=some b/\w.cell? ⟨k,2,none⟩=some c/\w.cell? ⟨k,3,none⟩=some d/\w.cell? ⟨k,4,none⟩=some e:=⟨h.cell 0,h.cell 1,h.cell 2,h.cell 3,h.cell 4⟩
end
section
open Go
namespace Lex
/-! ### 1. What a computation may do,by its text -/
def Dead {α : Type}(P:Program):Sem α -> Prop
 | .program k=>Dead P (k P)
 | .mark _ k=>Dead P k
 | .halt _=>True
 | .choose _ k=>∀ n,Dead P (k n)
 | _=>False
def Calm {α : Type}(P:Program):Sem α -> Prop
 | .pure _=>True
 | .program k=>Calm P (k P)
 | .mark _ k=>Calm P k
 | .halt _=>True
 | .choose _ k=>∀ n,Dead P (k n)
 | _=>False
def Iz {α : Type}(P:Program):Sem α -> Prop
 | .pure _=>True
 | .program k=>Iz P (k P)
 | .mark _ k=>Iz P k
 | .halt _=>True
 | .choose _ k=>∀ n,Dead P (k n)
 | .load _ _ k=>∀ v,Iz P (k v)
 | .getObj _ k=>∀ o,Iz P (k o)
 | _=>False
def Makes {α : Type}(P:Program):Sem α -> Prop
 | .pure _=>True
 | .program k=>Makes P (k P)
 | .mark _ k=>Makes P k
 | .halt _=>True
 | .choose _ k=>∀ n,Dead P (k n)
 | .load _ _ k=>∀ v,Makes P (k v)
 | .getObj _ k=>∀ o,Makes P (k o)
 | .new _ k=>∀ n,Makes P (k n)
 | _=>False
theorem Dead.bind {α β : Type}{P:Program}{s:Sem α}(h:Dead P s)(f : α -> Sem β):Dead P (s.bind f):=by
 induction s with
 | pure a=>exact h.elim
 | program k ih=>exact ih P h
 | mark m k ih=>exact ih h
 | halt h0=>trivial
 | load m a k ih=>exact h.elim
 | getObj r k ih=>exact h.elim
 | new o k ih=>exact h.elim
 | store m a v k ih=>exact h.elim
 | shape r k ih=>exact h.elim
 | freeze a n k ih=>exact h.elim
 | frozen a k ih=>exact h.elim
 | setObj r o k ih=>exact h.elim
 | choose q k ih=>exact fun n=>ih n (h n)
 | sys c k ih=>exact h.elim
theorem Dead.run {P:Program}{α : Type}{s:Sem α}{w w' : World}{a : α}(h:Dead P s)(hr:s.run P w=.ok a w'):False:=by
 induction s generalizing w w' with
 | pure x=>exact h.elim
 | program k ih=>exact ih P h hr
 | mark m k ih=>exact ih h hr
 | halt h0=>simp[Sem.run] at hr
 | load m ad k ih=>exact h.elim
 | getObj r k ih=>exact h.elim
 | new o k ih=>exact h.elim
 | store m ad v k ih=>exact h.elim
 | shape r k ih=>exact h.elim
 | freeze ad n k ih=>exact h.elim
 | frozen ad k ih=>exact h.elim
 | setObj r o k ih=>exact h.elim
 | choose q k ih => 
   simp only[Sem.run] at hr
   split at hr
   ·exact ih _ (h _) hr
   ·exact ih _ (h _) hr
 | sys c k ih=>exact h.elim
theorem Calm.bind {α β : Type}{P:Program}{s:Sem α}{f : α -> Sem β}(h:Calm P s)(hf:∀ a,Calm P (f a)):Calm P (s.bind f):=by
 induction s with
 | pure a=>exact hf _
 | program k ih=>exact ih P h
 | mark m k ih=>exact ih h
 | halt h0=>trivial
 | load m a k ih=>exact h.elim
 | getObj r k ih=>exact h.elim
 | new o k ih=>exact h.elim
 | store m a v k ih=>exact h.elim
 | shape r k ih=>exact h.elim
 | freeze a n k ih=>exact h.elim
 | frozen a k ih=>exact h.elim
 | setObj r o k ih=>exact h.elim
 | choose q k ih=>exact fun n=>(h n).bind f
 | sys c k ih=>exact h.elim
theorem Iz.bind {α β : Type}{P:Program}{s:Sem α}{f : α -> Sem β}(h:Iz P s)(hf:∀ a,Iz P (f a)):Iz P (s.bind f):=by
 induction s with
 | pure a=>exact hf _
 | program k ih=>exact ih P h
 | mark m k ih=>exact ih h
 | halt h0=>trivial
 | load m a k ih=>exact fun v=>ih v (h v)
 | getObj r k ih=>exact fun v=>ih v (h v)
 | new o k ih=>exact h.elim
 | store m a v k ih=>exact h.elim
 | shape r k ih=>exact h.elim
 | freeze a n k ih=>exact h.elim
 | frozen a k ih=>exact h.elim
 | setObj r o k ih=>exact h.elim
 | choose q k ih=>exact fun n=>(h n).bind f
 | sys c k ih=>exact h.elim
theorem Makes.bind {α β : Type}{P:Program}{s:Sem α}{f : α -> Sem β}(h:Makes P s)(hf:∀ a,Makes P (f a)):Makes P (s.bind f):=by
 induction s with
 | pure a=>exact hf _
 | program k ih=>exact ih P h
 | mark m k ih=>exact ih h
 | halt h0=>trivial
 | load m a k ih=>exact fun v=>ih v (h v)
 | getObj r k ih=>exact fun v=>ih v (h v)
 | new o k ih=>exact fun v=>ih v (h v)
 | store m a v k ih=>exact h.elim
 | shape r k ih=>exact h.elim
 | freeze a n k ih=>exact h.elim
 | frozen a k ih=>exact h.elim
 | setObj r o k ih=>exact h.elim
 | choose q k ih=>exact fun n=>(h n).bind f
 | sys c k ih=>exact h.elim
theorem Calm.Z4 {α : Type}{P:Program}{s:Sem α}(h:Calm P s):Iz P s:=by
 induction s with
 | pure a=>trivial
 | program k ih=>exact ih P h
 | mark m k ih=>exact ih h
 | halt h0=>trivial
 | load m a k ih=>exact h.elim
 | getObj r k ih=>exact h.elim
 | new o k ih=>exact h.elim
 | store m a v k ih=>exact h.elim
 | shape r k ih=>exact h.elim
 | freeze a n k ih=>exact h.elim
 | frozen a k ih=>exact h.elim
 | setObj r o k ih=>exact h.elim
 | choose q k ih=>exact h
 | sys c k ih=>exact h.elim
theorem Iz.makes {α : Type}{P:Program}{s:Sem α}(h:Iz P s):Makes P s:=by
 induction s with
 | pure a=>trivial
 | program k ih=>exact ih P h
 | mark m k ih=>exact ih h
 | halt h0=>trivial
 | load m a k ih=>exact fun v=>ih v (h v)
 | getObj r k ih=>exact fun v=>ih v (h v)
 | new o k ih=>exact h.elim
 | store m a v k ih=>exact h.elim
 | shape r k ih=>exact h.elim
 | freeze a n k ih=>exact h.elim
 | frozen a k ih=>exact h.elim
 | setObj r o k ih=>exact h.elim
 | choose q k ih=>exact h
 | sys c k ih=>exact h.elim
def More (w w' : World):Prop:=∀ (i:Nat) (o:Obj),w.heap[i]? = some o->w'.heap[i]? = some o
theorem More.refl (w:World):More w w:=fun _ _ h=>h
theorem More.trans {a b c:World}(h:More a b)(k:More b c):More a c:=fun i o e=>k i o (h i o e)
theorem More.push (w:World)(o:Obj):More w { w with heap:=w.heap.push o } :=fun i x h=>by
 show(w.heap.push o)[i]? = some x
 have hlt:i<w.heap.size:=(Array.getElem?_eq_some_iff.1 h).1
 rw[Array.getElem?_push,if_neg (by omega)]
 exact h
theorem Z5 {w w2:World}(hm:More w w2){a:Addr}{v:Value}(h:w.cell? a=some v):w2.cell? a=some v:=by
 unfold World.cell? at*
 cases hb:w.heap[a.block]? with
 | none=>simp[hb] at h
 | some o=>rw[hm _ _ hb];rw[hb] at h;exact h
theorem Vr {P:Program}{w w2:World}(hm:More w w2){a:Addr}{b:Bool}{r:Value × List Addr}(h:w.farLoad P a b=.ok r):w2.farLoad P a b=.ok r:=by
 unfold World.farLoad at*
 cases hb:w.heap[a.block]? with
 | none=>simp[hb] at h
 | some o =>
   rw[hm _ _ hb]
   rw[hb] at h
   cases o with
   | view at_ u =>
     simp only at h ⊢
     have hv:∀ x,w.viewLoad P at_ u a b=.ok x->w2.viewLoad P at_ u a b=.ok x:=by
      intro x hx
      unfold World.viewLoad at*
      have hs:∀ y,w.seen P at_ u a b=.ok y->w2.seen P at_ u a b=.ok y:=by
       intro y hy
       unfold World.seen at*
       cases hb2:w.heap[at_.block]? with
       | some o2=>rw[hm _ _ hb2];rw[hb2] at hy;exact hy
       | none =>
         exfalso
         rw[hb2] at hy
         revert hy
         simp only[bind,Except.bind,throw,throwThe,MonadExceptOf.throw,pure,Except.pure]
         repeat' split
         all_goals (intro hy;simp at hy)
      cases hse:w.seen P at_ u a b with
      | error e=>rw[hse] at hx;simp[bind,Except.bind] at hx
      | ok y=>rw[hs y hse];rw[hse] at hx;exact hx
     cases hvl:w.viewLoad P at_ u a b with
     | error e=>rw[hvl] at h;simp at h
     | ok x=>rw[hv x hvl];rw[hvl] at h;exact h
   | _=>simp at h
theorem Calm.run {P:Program}{α : Type}{s:Sem α}{w w' : World}{a : α}(h:Calm P s)(hr:s.run P w=.ok a w'):w' = w/\∀ w2,s.run P w2=.ok a w2:=by
 induction s generalizing w w' with
 | pure x => 
   simp only[Sem.run,Result.ok.injEq] at hr
   obtain⟨rfl,rfl⟩:=hr
   exact⟨rfl,fun _=>rfl⟩
 | program k ih=>exact ih P h hr
 | mark m k ih=>exact ih h hr
 | halt h0=>simp[Sem.run] at hr
 | load m ad k ih=>exact h.elim
 | getObj r k ih=>exact h.elim
 | new o k ih=>exact h.elim
 | store m ad v k ih=>exact h.elim
 | shape r k ih=>exact h.elim
 | freeze ad n k ih=>exact h.elim
 | frozen ad k ih=>exact h.elim
 | setObj r o k ih=>exact h.elim
 | choose q k ih =>
   simp only[Sem.run] at hr
   split at hr
   ·exact((h _).run hr).elim
   ·exact((h _).run hr).elim
 | sys c k ih=>exact h.elim
theorem Iz.run {P:Program}{α : Type}{s:Sem α}{w w' : World}{a : α}(h:Iz P s)(hr:s.run P w=.ok a w'):w' = w/\∀ w2,More w w2->s.run P w2=.ok a w2:=by
 induction s generalizing w w' with
 | pure x => 
   simp only[Sem.run,Result.ok.injEq] at hr
   obtain⟨rfl,rfl⟩:=hr
   exact⟨rfl,fun _ _=>rfl⟩
 | program k ih=>exact ih P h hr
 | mark m k ih=>exact ih h hr
 | halt h0=>simp[Sem.run] at hr
 | load m ad k ih => 
   simp only[Sem.run] at hr
   cases hc:w.cell? ad with
   | some v =>
     rw[hc] at hr
     obtain⟨h1,h2⟩:=ih v (h v) hr
     exact⟨h1,fun w2 hm=>by simp only[Sem.run,Z5 hm hc];exact h2 w2 hm⟩
   | none =>
     rw[hc] at hr
     cases hf:w.farLoad P ad (m==.atomic) with
     | error e=>rw[hf] at hr;simp at hr
     | ok x =>
       rw[hf] at hr
       obtain⟨h1,h2⟩:=ih x.1 (h x.1) hr
       refine⟨h1,fun w2 hm=>?_⟩
       have hn:w2.cell? ad=none:=by
        unfold World.cell? at hc ⊢
        unfold World.farLoad at hf
        cases hb:w.heap[ad.block]? with
        | none=>rw[hb] at hf;simp at hf
        | some o=>rw[hm _ _ hb];rw[hb] at hc;exact hc
       simp only[Sem.run,hn,Vr hm hf]
       exact h2 w2 hm
 | getObj r k ih => 
   simp only[Sem.run] at hr
   cases hb:w.heap[r]? with
   | none=>rw[hb] at hr;simp at hr
   | some o =>
     rw[hb] at hr
     have hx:∃ o',o' = o:=⟨_,rfl⟩
     cases o with
     | cells c e f=>simp at hr
     | _ =>
       simp only at hr
       obtain⟨h1,h2⟩:=ih _ (h _) hr
       exact⟨h1,fun w2 hm=>by simp only[Sem.run,hm _ _ hb];exact h2 w2 hm⟩
 | new o k ih=>exact h.elim
 | store m ad v k ih=>exact h.elim
 | shape r k ih=>exact h.elim
 | freeze ad n k ih=>exact h.elim
 | frozen ad k ih=>exact h.elim
 | setObj r o k ih=>exact h.elim
 | choose q k ih =>
   simp only[Sem.run] at hr
   split at hr
   ·exact((h _).run hr).elim
   ·exact((h _).run hr).elim
 | sys c k ih=>exact h.elim
theorem Makes.run {P:Program}{α : Type}{s:Sem α}{w w' : World}{a : α}(h:Makes P s)(hr:s.run P w=.ok a w'):More w w':=by
 induction s generalizing w w' with
 | pure x => 
   simp only[Sem.run,Result.ok.injEq] at hr
   obtain⟨rfl,rfl⟩:=hr
   exact More.refl _
 | program k ih=>exact ih P h hr
 | mark m k ih=>exact ih h hr
 | halt h0=>simp[Sem.run] at hr
 | load m ad k ih => 
   simp only[Sem.run] at hr
   split at hr
   ·exact ih _ (h _) hr
   ·split at hr
    ·exact ih _ (h _) hr
    ·simp at hr
 | getObj r k ih => 
   simp only[Sem.run] at hr
   split at hr
   ·simp at hr
   ·exact ih _ (h _) hr
   ·simp at hr
 | new o k ih => 
   simp only[Sem.run] at hr
   exact(More.push w o).trans (ih _ (h _) hr)
 | store m ad v k ih=>exact h.elim
 | shape r k ih=>exact h.elim
 | freeze ad n k ih=>exact h.elim
 | frozen ad k ih=>exact h.elim
 | setObj r o k ih=>exact h.elim
 | choose q k ih =>
   simp only[Sem.run] at hr
   split at hr
   ·exact((h _).run hr).elim
   ·exact((h _).run hr).elim
 | sys c k ih=>exact h.elim
/-! ### 2. The operations -/
section
variable {P:Program} {α β : Type}
theorem Ad {s:Sem α}{f : α -> Sem β}(h:Calm P s)(hf:∀ a,Calm P (f a)):Calm P (s >>= f):=h.bind hf
theorem Hw {s:Sem α}{f : α -> Sem β}(h:Iz P s)(hf:∀ a,Iz P (f a)):Iz P (s >>= f):=h.bind hf
theorem J5 {s:Sem α}{f : α -> Sem β}(h:Makes P s)(hf:∀ a,Makes P (f a)):Makes P (s >>= f):=h.bind hf
theorem Uq (a : α):Calm P (pure a:Sem α):=trivial
theorem I4 {s:Sem α}(h:Dead P s):Calm P s:=by
 induction s with
 | program k ih=>exact ih P h
 | mark m k ih=>exact ih h
 | halt h0=>trivial
 | choose q k ih=>exact h
 | _=>exact h.elim
theorem I5 (m:String):Calm P (stuck m:Sem α):=trivial
theorem Z7 (u:Unsupported):Calm P (unsupported u:Sem α):=trivial
theorem KG (t:TypeId):Calm P (typeInfo t):=by
 show Calm P (match P.info? t with|some i=>pure i|none=>stuck _)
 split<;>trivial
theorem Aw (t:TypeId):Calm P (underlying t):=by
 show Calm P (match P.underlying t with|some i=>pure i|none=>stuck _)
 split<;>trivial
theorem BU (t:TypeId):Calm P (sizeOf t):=Ad (KG t) fun _=>trivial
theorem Gs (t:TypeId):Calm P (zeroValue t):=Ad (KG t) fun i=>by
 show Calm P (match i.zero with|some v=>pure v|none=>unsupported _)
 split<;>trivial
theorem Le (t:TypeId):Calm P (isAgg t):=Ad (Aw t) fun d=>by
 show Calm P (match d with|.struct _|.array _ _=>pure true|_=>pure false)
 split<;>trivial
theorem Hy (t:TypeId)(cs:Array Value)(off:Nat):Calm P (part t cs off):=by
 unfold part
 refine Ad (Le t) fun b=>?_
 split
 ·exact Ad (BU t) fun _=>trivial
 ·split<;>trivial
theorem I6 (v:Value):Calm P (asIntOf v):=by unfold asIntOf;split<;>trivial
theorem EM (v:Value):Calm P (Instr.sureAddr v):=by unfold Instr.sureAddr;split<;>trivial
theorem Qu (m:String):Dead P (runtimePanic (.error m):Sem α):=trivial
theorem Nz (k:IntKind)(x y:Int)(c:BoundsCode):Dead P (boundsPanic k x y c:Sem α):=by
 unfold boundsPanic
 split
 ·exact fun n=>trivial
 ·trivial
theorem D6 (k:IntKind)(x y:Int)(c:BoundsCode):Calm P (boundsPanic k x y c:Sem α):=I4 (Nz k x y c)
theorem Xr (v:Value):Calm P (asAddr v):=by unfold asAddr;split<;>trivial
theorem PI (x:Value)(y:Nat)(c:BoundsCode):Calm P (Instr.sliceBound x y c):=by
 unfold Instr.sliceBound
 refine Ad (I6 x) fun p=>?_
 obtain⟨k,i⟩:=p
 dsimp only
 split
 ·trivial
 ·exact D6 _ _ _ _
theorem D7 (b:Bool)(n c:Nat)(lo hi mx:Option Value):Calm P (Instr.sliceBounds b n c lo hi mx):=by
 unfold Instr.sliceBounds
 dsimp only
 repeat' first
  | exact PI _ _ _
  | exact Uq _
  | exact I5 _
  | refine Ad ?_ (fun _=>?_)
  | split
theorem Z8 (t:TypeId)(x:Value)(lo hi mx:Option Value):Calm P (Instr.slice t x lo hi mx):=by
 unfold Instr.slice
 refine Ad (Aw t) fun d=>?_
 split
 ·split
  ·exact trivial
  ·exact Ad (D7 _ _ _ _ _ _) fun _=>trivial
 ·exact Ad (D7 _ _ _ _ _ _) fun _=>Ad (BU _) fun _=>trivial
 ·refine Ad (Xr _) fun a=>Ad (Aw _) fun d=>?_
  split
  ·exact Ad (D7 _ _ _ _ _ _) fun _=>Ad (BU _) fun _=>trivial
  ·trivial
 ·trivial
theorem Vs (t:TypeId)(x:Value)(lo hi mx:Option Value):Calm P (Instr.sliceAt t x lo hi mx):=by
 unfold Instr.sliceAt
 refine Ad (Aw t) fun d=>?_
 split
 ·exact Ad (EM _) fun a=>Ad (D7 _ _ _ _ _ _) fun _=>Ad (BU _) fun _=>trivial
 ·exact Z8 _ _ _ _ _
theorem Z9 (t:TypeId)(x i:Value):Calm P (Instr.index t x i):=by
 unfold Instr.index
 refine Ad (I6 i) fun p=>?_
 obtain⟨k,j⟩:=p
 refine Ad (Aw t) fun d=>?_
 split
 ·split
  ·exact Ad (BU _) fun _=>Hy _ _ _
  ·exact D6 _ _ _ _
 ·split
  ·trivial
  ·exact D6 _ _ _ _
 ·trivial
theorem Vt (t:TypeId)(x i:Value):Calm P (Instr.indexAt t x i):=by
 unfold Instr.indexAt
 refine Ad (I6 i) fun p=>?_
 obtain⟨k,j⟩:=p
 refine Ad (Aw t) fun d=>?_
 dsimp only
 repeat' first
  | exact D6 _ _ _ _
  | exact EM _
  | exact Aw _
  | exact BU _
  | exact Uq _
  | exact I5 _
  | exact Z7 _
  | refine Ad ?_ (fun _=>?_)
  | split
theorem AL {t:TypeId}{f:TypeDesc->Sem β}(h:∀ d,P.underlying t=some d->Calm P (f d)):Calm P (underlying t >>= f):=by
 show Calm P (Sem.bind (match P.underlying t with|some d=>pure d|none=>stuck _) f)
 cases hu:P.underlying t with
 | none=>trivial
 | some d=>exact h d hu
theorem Vu (t:TypeId)(x:Value)(f:Nat)(hs:∀ fs fl i,P.underlying t=some (.struct fs)->fs[f]? = some fl->P.info? fl.type=some i->i.size≠0):Calm P (Instr.fieldAt t x f):=by
 unfold Instr.fieldAt
 refine AL fun d hd=>?_
 split
 ·rename_i fs
  split
  ·rename_i fl hf
   refine Ad (EM _) fun a=>Ad ?_ fun _=>trivial
   unfold fieldPlace sizeOf
   show Calm P (Sem.bind (Sem.bind (match P.info? fl.type with|some i=>pure i|none=>stuck _) (fun i=>pure i.size)) _)
   cases hi:P.info? fl.type with
   | none=>trivial
   | some i =>
     show Calm P (if i.size=0 then _ else _)
     rw[if_neg (hs fs fl i hd hf hi)]
     trivial
  ·trivial
 ·trivial
theorem PK (t:TypeId)(parts:Array (Nat × Value)):Calm P (Instr.build t parts):=by
 unfold Instr.build
 refine Ad (Gs t) fun z=>Ad (Aw t) fun d=>?_
 split
 ·refine Ad ?_ fun pl=>?_
  ·rename_i fs
   have hm:∀ l:List Field,Calm P (l.mapM (m:=Sem) fun f=>do pure (f.offset,<- sizeOf f.type)):=by
    intro l
    rw[<- List.mapM'_eq_mapM]
    induction l with
    | nil=>trivial
    | cons x l ih=>exact Ad (Ad (BU _) fun _=>trivial) fun _=>Ad ih fun _=>trivial
   rw[Array.mapM_eq_mapM_toList]
   exact Ad (hm _) fun _=>trivial
  ·split<;>trivial
 ·refine Ad (BU _) fun n=>?_
  split<;>trivial
 ·trivial
theorem Vv (v:Value)(i:Nat):Calm P (Instr.extract v i):=by
 unfold Instr.extract
 repeat' first
  | trivial
  | split
theorem Lf (t:TypeId)(x:Value):Calm P (Instr.makeInterface t x):=by
 unfold Instr.makeInterface
 refine Ad (Aw t) fun d=>?_
 split<;>trivial
theorem ZA (op:UnOp)(x:Value):Calm P (Op.unary op x):=by
 unfold Op.unary
 split<;>first|trivial|(unfold Op.intArith;trivial)|(unfold Op.intBits;trivial)
theorem ZC (op:BinOp)(k yk:IntKind)(x y:Int):Calm P (Op.shift op k x yk y):=by
 unfold Op.shift
 split
 ·exact I4 (Qu _)
 ·dsimp only;split<;>trivial
theorem Xt (op:BinOp)(k:IntKind)(x y:Int):Calm P (Op.intDiv op k x y):=by
 unfold Op.intDiv
 split
 ·exact I4 (Qu _)
 ·split<;>trivial
theorem Tg (op:BinOp)(k:IntKind)(x y:Int):Calm P (Op.intArith op k x y):=by unfold Op.intArith;split<;>trivial
theorem Vw (op:BinOp)(k:IntKind)(x y:Int):Calm P (Op.intBits op k x y):=by unfold Op.intBits;dsimp only;split<;>trivial
theorem Xu (op:BinOp)(x y:Int):Calm P (Op.intCmp op x y):=by unfold Op.intCmp;split<;>trivial
theorem Ti (op:BinOp)(x y:ByteArray):Calm P (Op.stringOp op x y):=by
 unfold Op.stringOp
 dsimp only
 repeat' first
  | trivial
  | split
theorem Xv (op:BinOp)(t:TypeId)(k k' : IntKind)(a b:Int):Calm P (binOp op t (.int k a) (.int k' b)):=by
 cases op<;>simp only[binOp]<;>(try split)<;>first|exact I5 _|exact ZC _ _ _ _ _|exact Xt _ _ _ _|exact Tg _ _ _ _|exact Vw _ _ _ _|exact Xu _ _ _
theorem Xw (op:BinOp)(t:TypeId)(a b:ByteArray):Calm P (binOp op t (.string a) (.string b)):=by
 cases op<;>simp only[binOp]<;>exact Ti _ _ _
theorem Vx (op:BinOp)(t:TypeId)(a b:Bool)(hu:P.underlying t=some .bool):Calm P (binOp op t (.bool a) (.bool b)):=by
 have h:∀ d,Calm P (Op.equalIn (d+1) t (.bool a) (.bool b)):=fun d=>by
  unfold Op.equalIn
  refine AL fun x hx=>?_
  rw[hu] at hx
  injection hx with hx
  subst hx
  trivial
 cases op<;>simp only[binOp]<;>first|exact I5 _|exact Ad (h 9999) fun _=>trivial|trivial
theorem Ga (op:BinOp)(t:TypeId)(x y:Operand)(a b:Value)(h:(match a with|.agg _=>false|.nilIface=>false|_=>true)=true):Calm P (eqGuard op t x y a b):=by
 cases a<;>first|(cases h;done)|(cases op<;>trivial)
theorem Xx (op:BinOp)(hop:op=.eql\/op=.neq)(t e:TypeId)(a b:Option Addr)(hn:a=none\/b=none)(hu:P.underlying t=some (.pointer e)):Calm P (binOp op t (.pointer a) (.pointer b)):=by
 have h:∀ d,Calm P (Op.equalIn (d+1) t (.pointer a) (.pointer b)):=fun d=>by
  unfold Op.equalIn
  refine AL fun x hx=>?_
  rw[hu] at hx
  injection hx with hx
  subst hx
  rcases hn with rfl|rfl
  ·trivial
  ·cases a<;>trivial
 rcases hop with rfl|rfl
 ·cases a<;>cases b<;>exact Ad (h 9999) fun _=>trivial
 ·cases a<;>cases b<;>exact Ad (h 9999) fun _=>trivial
theorem Lg {β : Type}(f : α -> β -> Sem (ForInStep β)):∀ (l:List α) (b : β),(∀ a∈l,∀ b,Calm P (f a b))->Calm P (forIn l b f)
 | [],b,_=>trivial
 | a :: l,b,h => by
   rw[List.forIn_cons]
   refine Ad (h a List.mem_cons_self b) fun r=>?_
   cases r with
   | done b' => trivial
   | yield b' => exact Lg f l b' fun a ha=>h a (List.mem_cons_of_mem _ ha)
def NC (P:Program)(t:TypeId):Bool:=match P.underlying t with|some (.struct fs)=>fs.all fun f=>(match P.underlying f.type with|some .string=>true|_=>false)|_=>false
theorem Xy {t:TypeId}(ht:P.underlying t=some .string)(d:Nat)(x y:Value):Calm P (Op.equalIn (d+1) t x y):=by
 unfold Op.equalIn
 refine AL fun u hu=>?_
 rw[ht] at hu
 injection hu with hu
 subst hu
 split<;>first|trivial|contradiction
theorem NG {t:TypeId}(ht:P.underlying t=some .string)(d:Nat)(x y:Value):Calm P (Op.eqGuardIn (d+1) t x y):=by
 unfold Op.eqGuardIn
 refine AL fun u hu=>?_
 rw[ht] at hu
 injection hu with hu
 subst hu
 split<;>first|trivial|contradiction
theorem cO {t:TypeId}(h:NC P t=true):∃ fs,P.underlying t=some (.struct fs)/\∀ f∈fs.toList,P.underlying f.type=some .string:=by
 unfold NC at h
 split at h
 ·rename_i fs hu
  refine⟨fs,hu,fun f hf=>?_⟩
  have h:=Array.all_eq_true'.1 h f (by simpa using hf)
  split at h
  ·assumption
  ·cases h
 ·cases h
theorem Xz {t:TypeId}(h:NC P t=true)(xs ys:Array Value)(d:Nat):Calm P (Op.equalIn (d+2) t (.agg xs) (.agg ys)):=by
 obtain⟨fs,ht,hf⟩:=cO h
 unfold Op.equalIn
 refine AL fun x hx=>?_
 rw[ht] at hx
 injection hx with hx
 subst hx
 dsimp only
 have hl : Calm P (forIn (m :=Sem) fs (none,()) fun (f : Field) (_ : Option Bool × Unit) =>
            if f.name ≠ "_" then do
             let a <- part f.type xs f.offset
             let b <- part f.type ys f.offset
             let c <- Op.equalIn (d+1) f.type a b
             if (!c)=true then pure (ForInStep.done (some false,()))
              else pure (ForInStep.yield (none,()))
            else pure (ForInStep.yield (none,()))):=by
  rw[<- Array.forIn_toList]
  refine Lg _ _ _ fun f hfm b=>?_
  split
  ·exact Ad (Hy _ _ _) fun _=>Ad (Hy _ _ _) fun _=>Ad (Xy (hf f hfm) _ _ _) fun _=>by split<;>trivial
  ·trivial
 refine Ad (s:=program) trivial fun p=>?_
 split
 ·trivial
 ·exact Ad hl fun r=>by split<;>trivial
theorem Qv {t:TypeId}(h:NC P t=true)(op:BinOp)(hop:op=.eql\/op=.neq)(x y:Operand)(xs ys:Array Value):Calm P (eqGuard op t x y (.agg xs) (.agg ys)):=by
 obtain⟨fs,ht,hf⟩:=cO h
 have hl:Calm P (Op.eqGuardIn (9998+2) t (.agg xs) (.agg ys)):=by
  unfold Op.eqGuardIn
  refine AL fun x hx=>?_
  rw[ht] at hx
  injection hx with hx
  subst hx
  dsimp only
  rw[<- Array.forIn_toList]
  refine Ad (Lg _ _ _ fun f hfm b=>?_) fun r=>by split<;>trivial
  split
  ·exact Ad (Hy _ _ _) fun _=>Ad (Hy _ _ _) fun _=>Ad (NG (hf f hfm) _ _ _) fun _=>by split<;>trivial
  ·trivial
 have hg : Calm P (do if !(← program).eqGuardType (← program).depth t then return
                      if ← Op.eqGuardIn Op.maxDepth t (.agg xs) (.agg ys) then unsupported (.noEntry "binop/eql: two nil values of an interface type with methods, in a part of a struct or an array")) := by
  refine Ad (s:=program) trivial fun p=>Ad (s:=program) trivial fun p=>?_
  split
  ·trivial
  ·exact Ad hl fun r=>by split<;>trivial
 rcases hop with rfl|rfl
 ·exact hg
 ·exact hg
theorem Vy {t:TypeId}(h:NC P t=true)(op:BinOp)(hop:op=.eql\/op=.neq)(xs ys:Array Value):Calm P (binOp op t (.agg xs) (.agg ys)):=by
 have hc:=Xz h xs ys 9998
 rcases hop with rfl|rfl
 ·exact Ad hc fun _=>trivial
 ·exact Ad hc fun _=>trivial
theorem Tj (t ty:TypeId)(a:Option Addr)(n c:Nat):Calm P (Builtin.len_ #[t] ty #[.slice a n c]):=by
 refine Ad (s:=underlying t) (Aw t) fun d=>?_
 cases d<;>first|trivial|exact Ad (Aw _) fun d=>(by cases d<;>trivial)
theorem X0 (t ty:TypeId)(s:ByteArray):Calm P (Builtin.len_ #[t] ty #[.string s]):=by
 refine Ad (s:=underlying t) (Aw t) fun d=>?_
 cases d<;>first|trivial|exact Ad (Aw _) fun d=>(by cases d<;>trivial)
theorem Jv (a:Addr):∀ (n i:Nat) (acc:Array Value),Iz P (loadCellsFrom a i n acc)
 | 0,_,_=>trivial
 | n+1,i,acc=>Hw (s:=load (a.add i)) (fun _=>trivial) fun v=>Jv a n (i+1) (acc.push v)
theorem zcz (t:TypeId)(x:Value):Iz P (Instr.loadAt t x):=by
 unfold Instr.loadAt
 refine Hw (EM _).Z4 fun a=>?_
 unfold loadVar
 refine Hw (Le _).Z4 fun b=>?_
 split
 ·exact Hw (BU _).Z4 fun n=>Hw (Jv _ _ _ _) fun _=>trivial
 ·exact fun _=>trivial
theorem I7 (t:TypeId)(cs:Array Value):Makes P (newRow t cs):=fun _=>trivial
theorem OQ (t:TypeId):Makes P (Instr.alloc t true (.tuple #[])):=by
 unfold Instr.alloc
 exact J5 (Gs _).Z4.makes fun z=>J5 (I7 _ _) fun _=>trivial
theorem Ur (t:TypeId)(x:Value):Makes P (Instr.box t x):=J5 (I7 _ _) fun _=>trivial
theorem Hz (t:TypeId)(n:Nat)(parts:Array (Nat × Value)):Makes P (Instr.buildSlice t n parts):=by
 unfold Instr.buildSlice
 refine J5 (Aw _).Z4.makes fun d=>?_
 split
 ·refine J5 (BU _).Z4.makes fun k=>?_
  dsimp only
  repeat' first
   | trivial
   | exact(Gs _).Z4.makes
   | exact I7 _ _
   | refine J5 ?_ (fun _=>?_)
   | split
 ·trivial
def isInt (P:Program)(t:TypeId):Bool:=match P.underlying t with|some (.int _)=>true|_=>false
def isBool (P:Program)(t:TypeId):Bool:=match P.underlying t with|some .bool=>true|_=>false
def cZ (P:Program)(t:TypeId):Bool:=match P.underlying t with|some (.pointer _)=>true|_=>false
def sized (P:Program)(s:TypeId)(f:Nat):Bool:=
 match P.underlying s with
 | some (.struct fs)=>(match fs[f]? with|some fl=>(match P.info? fl.type with|some i=>i.size != 0|none=>true)|none=>true)
 | _=>true
def isLen (c:Call):Bool:=(match c.callee with|.builtin .len=>true|_=>false)&&c.args.size==1&&c.argTypes.size==1
def kind (P:Program)(o:Oper):Nat:=
 match o.op with
 | .move _|.assign _|.pick _ _ _|.build _ _|.makeFunc _ _ _|.extract _ _|.index _ _ _|.indexAddr _ _ _|.makeInterface _ _|.unOp _ _ _|.slice _ _ _ _ _|.binOp _ _ _ _ _|.nilCheck _=>0
 | .fieldAddr s _ f=>if sized P s f then 0 else 3
 | .convert s d _=>if isInt P s&&isInt P d then 0 else 3
 | .call c=>if isLen c then 0 else 3
 | .load _ _=>1
 | .alloc _|.box _ _|.buildSlice _ _ _=>2
 | _=>3
def good (P:Program)(o:Oper)(ρ : Operand->Value):Bool:=
 match o.op with
 | .binOp op t x y _ =>
   (match ρ x,ρ y with
    | .int _ _,.int _ _=>true
    | .string _,.string _=>true
    | .bool _,.bool _=>isBool P t
    | .pointer none,.pointer _=>cZ P t&&(op==.eql || op==.neq)
    | .pointer _,.pointer none=>cZ P t&&(op==.eql || op==.neq)
    | .agg _,.agg _=>NC P t&&(op==.eql || op==.neq)
    | _,_=>false)
 | .nilCheck x=>(match ρ x with|.pointer (some _)=>true|_=>false)
 | .convert _ _ x=>(match ρ x with|.int _ _=>true|_=>false)
 | .call c => !isLen c || (match (c.args[0]?).map ρ with|some (.slice _ _ _)=>true|some (.string _)=>true|_=>false)
 | _=>true
def Quiet (P:Program)(s:Sem Next):Prop:=∀ n w w',s.run P w=.ok n w' -> (∃ v,n=.value v)/\w' = w/\∀ w2,s.run P w2=.ok n w2
def Reads (P:Program)(s:Sem Next):Prop:=∀ n w w',s.run P w=.ok n w' -> (∃ v,n=.value v)/\w' = w/\∀ w2,More w w2->s.run P w2=.ok n w2
def Mf (P:Program)(s:Sem Next):Prop:=∀ n w w',s.run P w=.ok n w' -> (∃ v,n=.value v)/\More w w'
theorem Mg {s:Sem Value}{w w' : World}{n:Next}(h:(s >>= fun x=>pure (.value x):Sem Next).run P w=.ok n w'):∃ v,n=.value v/\s.run P w=.ok v w':=by
 rw[Sem.run_bind] at h
 cases hs:s.run P w with
 | halt x y=>rw[hs] at h;simp[Result.andThen] at h
 | ok v y =>
   rw[hs] at h
   simp only[Result.andThen,Sem.run_pure,Result.ok.injEq] at h
   obtain⟨rfl,rfl⟩:=h
   exact⟨v,rfl,rfl⟩
theorem Cm {s:Sem Value}(h:Calm P s):Quiet P (s >>= fun x=>pure (.value x)):=by
 intro n w w' hr
 obtain⟨v,rfl,hv⟩:=Mg hr
 obtain⟨h1,h2⟩:=h.run hv
 refine⟨⟨v,rfl⟩,h1,fun w2=>?_⟩
 rw[Sem.run_bind,h2 w2]
 rfl
theorem fC {s:Sem Value}(h:Iz P s):Reads P (s >>= fun x=>pure (.value x)):=by
 intro n w w' hr
 obtain⟨v,rfl,hv⟩:=Mg hr
 obtain⟨h1,h2⟩:=h.run hv
 refine⟨⟨v,rfl⟩,h1,fun w2 hm=>?_⟩
 rw[Sem.run_bind,h2 w2 hm]
 rfl
theorem Qw {s:Sem Value}(h:Makes P s):Mf P (s >>= fun x=>pure (.value x)):=by
 intro n w w' hr
 obtain⟨v,rfl,hv⟩:=Mg hr
 exact⟨⟨v,rfl⟩,h.run hv⟩
theorem Gt (v:Value):Quiet P (pure (.value v):Sem Next):=Cm (s:=pure v) trivial
theorem quiet_of {o:Oper}{ρ : Operand->Value}(hk:kind P o=0)(hg:good P o ρ = true):Quiet P (execOp ρ o):=by
 obtain⟨dst,op,type,pos,after,guard⟩:=o
 cases op<;>simp only[kind] at hk<;>try (exact absurd hk (by decide))
 case move x=>exact Gt _
 case assign x=>exact Gt _
 case pick c a b=>
  show Quiet P (asBool (ρ c) >>= fun b' => pure (.value (if b' then ρ a else ρ b)))
  cases ρ c with
  | bool b' => exact Gt _
  | _=>intro n w w' hr;cases hr
 case build t ps=>exact Cm (PK _ _)
 case nilCheck x=>
  simp only[good] at hg
  cases hx : ρ x with
  | pointer a =>
    cases a with
    | none=>rw[hx] at hg;cases hg
    | some a =>
      show Quiet P (match ρ x with|.pointer none|.nilIface|.nilFunc=>_|.func (.method name) first captured=>_|x=>_)
      rw[hx]
      exact Gt _
  | _=>rw[hx] at hg;cases hg
 case binOp bop t x y u=>
  refine Cm (Ad ?_ fun _=>?_)
  ·simp only[good] at hg
   cases hx : ρ x with
   | int k a=>exact Ga _ _ _ _ _ _ rfl
   | string a=>exact Ga _ _ _ _ _ _ rfl
   | bool a=>exact Ga _ _ _ _ _ _ rfl
   | pointer a=>exact Ga _ _ _ _ _ _ rfl
   | agg a => cases hy : ρ y with
     | agg b =>
       rw[hx,hy] at hg
       simp at hg
       exact Qv hg.1 _ hg.2 _ _ _ _
     | _=>rw[hx,hy] at hg;cases hg
   | _=>rw[hx] at hg;cases hg
  ·simp only[good] at hg
   cases hx : ρ x with
   | int k a => cases hy : ρ y with
     | int k' b=>exact Xv _ _ _ _ _ _
     | _=>rw[hx,hy] at hg;cases hg
   | string a => cases hy : ρ y with
     | string b=>exact Xw _ _ _ _
     | _=>rw[hx,hy] at hg;cases hg
   | bool a => cases hy : ρ y with
     | bool b =>
       rw[hx,hy] at hg
       refine Vx _ _ _ _ ?_
       simp only[isBool] at hg
       split at hg
       ·assumption
       ·cases hg
     | _=>rw[hx,hy] at hg;cases hg
   | pointer a => cases hy : ρ y with
     | pointer b =>
       rw[hx,hy] at hg
       have hh:(a=none\/b=none)/\cZ P t=true/\(bop=.eql\/bop=.neq):=by
        cases a<;>cases b<;>simp at hg<;>exact⟨by simp,hg⟩
       obtain⟨h1,h2,h3⟩:=hh
       simp only[cZ] at h2
       split at h2
       ·exact Xx _ h3 _ _ _ _ h1 (by assumption)
       ·cases h2
     | _=>rw[hx,hy] at hg;cases a<;>cases hg
   | agg a => cases hy : ρ y with
     | agg b =>
       rw[hx,hy] at hg
       simp at hg
       exact Vy hg.1 _ hg.2 _ _
     | _=>rw[hx,hy] at hg;cases hg
   | _=>rw[hx] at hg;cases hg
 case unOp _ _ x=>exact Cm (ZA _ _)
 case convert s d x=>
  split at hk
  ·rename_i hsd
   simp only[Bool.and_eq_true,isInt] at hsd
   obtain⟨h1,h2⟩:=hsd
   split at h1
   ·rename_i k1 hs
    split at h2
    ·rename_i k2 hd
     simp only[good] at hg
     cases hx : ρ x with
     | int k a =>
       refine Cm ?_
       show Calm P (convert s d (ρ x))
       rw[hx]
       unfold convert
       refine AL fun d1 e1=>AL fun d2 e2=>?_
       rw[hs] at e1
       rw[hd] at e2
       injection e1 with e1
       injection e2 with e2
       subst e1 e2
       trivial
     | _=>rw[hx] at hg;cases hg
    ·cases h2
   ·cases h1
  ·cases hk
 case makeInterface t x=>exact Cm (Lf _ _)
 case makeFunc f a b=>exact Gt _
 case slice t x lo hi mx=>exact Cm (Vs _ _ _ _ _)
 case fieldAddr s x f=>
  split at hk
  ·rename_i hsz
   refine Cm (Vu _ _ _ fun fs fl i h1 h2 h3=>?_)
   simp only[sized,h1,h2,h3] at hsz
   simpa using hsz
  ·cases hk
 case indexAddr t x i=>exact Cm (Vt _ _ _)
 case index t x i=>exact Cm (Z9 _ _ _)
 case extract x i=>exact Cm (Vv _ _)
 case call c=>
  split at hk
  ·rename_i hl
   obtain⟨callee,args,tys⟩:=c
   simp only[good,hl,Bool.not_true,Bool.false_or] at hg
   simp only[isLen,Bool.and_eq_true,beq_iff_eq] at hl
   obtain⟨⟨h1,h2⟩,h3⟩:=hl
   split at h1
   ·rename_i h1'
    obtain⟨la⟩:=args
    obtain⟨lt⟩:=tys
    match la,lt,h2,h3 with
    | [x],[t],_,_ =>
      simp only[List.getElem?_toArray,List.getElem?_cons_zero,Option.map_some] at hg
      change Quiet P (execOp ρ { dst:=dst,op:=.call { callee:=.builtin .len,args:=#[x],argTypes:=#[t] },type:=type,pos:=pos,after:=after,guard:=guard })
      rw[BigFrame.execOp_builtin,BigFrame.builtin_len,show(#[x]:Array Operand).map ρ = #[ρ x] from by simp]
      refine Cm (s:=Builtin.len_ #[t] type #[ρ x]) ?_
      cases hx : ρ x with
      | slice a n c=>exact Tj _ _ _ _ _
      | string s=>exact X0 _ _ _
      | _=>rw[hx] at hg;cases hg
   ·cases h1
  ·cases hk
theorem Cu {o:Oper}{ρ : Operand->Value}(hk:kind P o=1):Reads P (execOp ρ o):=by
 obtain⟨dst,op,type,pos,after,guard⟩:=o
 cases op<;>simp only[kind] at hk<;>try (exact absurd hk (by decide))
 case load t x=>exact fC (zcz _ _)
 all_goals (split at hk<;>cases hk)
theorem Gb {o:Oper}{ρ : Operand->Value}(hk:kind P o=2):Mf P (execOp ρ o):=by
 obtain⟨dst,op,type,pos,after,guard⟩:=o
 cases op<;>simp only[kind] at hk<;>try (exact absurd hk (by decide))
 case alloc t=>exact Qw (OQ _)
 case box t x=>exact Qw (Ur _ _)
 case buildSlice t n ps=>exact Qw (Hz _ _ _)
 all_goals (split at hk<;>cases hk)
theorem Reads.news {s:Sem Next}(h:Reads P s):Mf P s:=fun n w w' hr=>by
 obtain⟨h1,rfl,_⟩:=h n w w' hr
 exact⟨h1,More.refl _⟩
end
/-! ### 3. Two operations that stand side by side are swapped -/
section
variable {P:Program} {ops:Array Oper} {Q:Exit->Act->World->Prop}
def CS (Q:Exit->Act->World->Prop):Prop:=∀ e a w,e≠.normal->¬ Q e a w
def Rch (a:Act)(d:Option Tmp)(a' : Act):Prop:=∃ v ds,a' = ({ a with defers:=ds } : Act).put d v
theorem CS.out (hQ:CS Q):¬ LetsOut Q:=fun h=>by
 obtain⟨a,w,h⟩:=h
 exact hQ _ _ _ (by simp) h
theorem zc0 (a:Act)(ds:List Deferred):({ a with defers:=ds } : Act).eval=a.eval:=by
 funext x;cases x<;>rfl
theorem Rch.exec {a a' : Act}{d:Option Tmp}(h:Rch a d a'){o:Oper}(hs:∀ cs b,o.op≠.select cs b)(hd:∀ t,d=some t->t ∉ o.looksAt ops):
 execOp a'.eval o=execOp a.eval o/\Region.wanted o (yielded ops a'.tmps)=Region.wanted o (yielded ops a.tmps):=by
 obtain⟨v,ds,rfl⟩:=h
 refine⟨?_,?_⟩
 ·rw[execOp_put o hs _ d v hd,zc0]
 ·rw[wanted_put o _ d v hd]
theorem Rch.Gu (a:Act)(d:Option Tmp)(v:Value):Rch a d (a.put d v):=⟨v,a.defers,by cases a;rfl⟩
theorem Qx {i:Nat}{o:Oper}(hi:ops[i]? = some o){K:Act->World->Prop}{a:Act}{w:World}(h:wpOp P ops Q i K a w):
 wpOp P ops Q i (fun a' w' => Rch a o.dst a' /\ K a' w') a w:=by
 unfold wpOp at*
 simp only[hi] at*
 split
 ·rename_i hw
  simp only[hw,if_true] at h
  rcases h with h|h
  case inr=>exact .inr h
  refine .inl ?_
  unfold Oper.wp at*
  generalize (execOp a.eval o).run P w=r at*
  cases r with
  | ok n w' =>
    cases n<;>simp only[Oper.upon] at h ⊢
    case value u=>exact⟨.Gu _ _ _,h⟩
    case skip=>exact⟨.Gu _ _ _,h⟩
    case defer d=>exact⟨⟨undef,_,rfl⟩,h⟩
    case enter f args=>
     refine Calls.mono h fun e w'' he=>?_
     cases e with
     | returned u=>exact⟨.Gu _ _ _,he⟩
     | panicked c=>exact he
     | outgrown=>exact he
    case row row args=>exact Rows.mono h fun u w'' he=>⟨.Gu _ _ _,he⟩
  | halt x w' => cases x<;>simp only[Oper.upon] at h ⊢ <;> exact h
 ·rename_i hw
  simp only[hw] at h
  exact⟨.Gu _ _ _,h⟩
theorem EO (hQ:CS Q){i:Nat}{o:Oper}(hi:ops[i]? = some o){K:Act->World->Prop}{a:Act}{w:World}(h:wpOp P ops Q i K a w):
 ∃ a' w',Rch a o.dst a' /\ K a' w':=by
 replace h:=Qx hi h
 unfold wpOp at h
 simp only[hi] at h
 split at h
 ·rcases h with h|h
  case inr=>exact absurd h.2 hQ.out
  unfold Oper.wp at h
  generalize (execOp a.eval o).run P w=r at*
  cases r with
  | ok n w' =>
    cases n<;>simp only[Oper.upon] at h
    case value u=>exact⟨_,_,h⟩
    case skip=>exact⟨_,_,h⟩
    case defer d=>exact⟨_,_,h⟩
    case enter f args=>
     obtain⟨e,w'',fr,he,_⟩:=h []
     cases e with
     | returned u=>exact⟨_,_,he⟩
     | panicked c=>exact absurd he (hQ _ _ _ (by simp))
     | outgrown=>exact absurd he hQ.out
    case row row args=>
     obtain⟨v,w'',he,_⟩:=h default []
     exact⟨_,_,he⟩
  | halt x w' =>
    cases x<;>simp only[Oper.upon] at h
    exact absurd h (hQ _ _ _ (by simp))
 ·exact⟨_,_,h⟩
theorem I8 (hQ:CS Q){k:Nat}{o:Oper}(hk:ops[k]? = some o)(hs:∀ cs b,o.op≠.select cs b){d:Option Tmp}{v:Value}(h1:∀ t,d=some t->t ∉ o.looksAt ops)(h2:∀ t,d=some t->o.dst≠some t)
 {K K1:Act->World->Prop} {a:Act} {w:World} (h:wpOp P ops Q k K1 a w) (hK:∀ a' w',Rch a o.dst a' -> K1 a' w' -> K (a'.put d v) w'):wpOp P ops Q k K (a.put d v) w:=by
 replace h:=Qx hk h
 unfold wpOp at*
 simp only[hk] at*
 rw[wanted_put o a d v h1]
 split
 ·rename_i hw
  simp only[hw,if_true] at h
  rcases h with h|h
  case inr=>exact absurd h.2 hQ.out
  refine .inl ?_
  unfold Oper.wp at*
  rw[execOp_put o hs a d v h1]
  generalize (execOp a.eval o).run P w=r at*
  cases r with
  | ok n w' =>
    cases n<;>simp only[Oper.upon] at h ⊢
    case value u=>rw[Act.put_comm a v u h2];exact hK _ _ h.1 h.2
    case skip=>rw[Act.put_comm a v undef h2];exact hK _ _ h.1 h.2
    case defer dd=>rw[Act.put_defers,Act.put_comm _ v undef h2];exact hK _ _ h.1 h.2
    case enter f args=>
     refine Calls.mono h fun e w'' he=>?_
     cases e with
     | returned u=>dsimp only at he ⊢;rw[Act.put_comm a v u h2];exact hK _ _ he.1 he.2
     | panicked c=>exact absurd he (hQ _ _ _ (by simp))
     | outgrown=>exact he
    case row row args=>exact Rows.mono h fun u w'' he=>by rw[Act.put_comm a v u h2];exact hK _ _ he.1 he.2
  | halt x w' =>
    cases x<;>simp only[Oper.upon] at h ⊢
    exact absurd h (hQ _ _ _ (by simp))
 ·rename_i hw
  simp only[hw] at h
  rw[Act.put_comm a v undef h2];exact hK _ _ h.1 h.2
theorem Qy (hQ:CS Q){k:Nat}{o:Oper}(hk:ops[k]? = some o)(hs:∀ cs b,o.op≠.select cs b){d:Option Tmp}{v:Value}(h1:∀ t,d=some t->t ∉ o.looksAt ops)(h2:∀ t,d=some t->o.dst≠some t)
 {K K1:Act->World->Prop} {a:Act} {w:World} (h:wpOp P ops Q k K1 (a.put d v) w) (hK:∀ a' w',Rch a o.dst a' -> K1 (a'.put d v) w' -> K a' w'):wpOp P ops Q k K a w:=by
 unfold wpOp at*
 simp only[hk] at*
 rw[wanted_put o a d v h1] at h
 split
 ·rename_i hw
  simp only[hw,if_true] at h
  rcases h with h|h
  case inr=>exact absurd h.2 hQ.out
  refine .inl ?_
  unfold Oper.wp at*
  rw[execOp_put o hs a d v h1] at h
  generalize (execOp a.eval o).run P w=r at*
  cases r with
  | ok n w' =>
    cases n<;>simp only[Oper.upon] at h ⊢
    case value u=>rw[Act.put_comm a v u h2] at h;exact hK _ _ (.Gu _ _ _) h
    case skip=>rw[Act.put_comm a v undef h2] at h;exact hK _ _ (.Gu _ _ _) h
    case defer dd=>rw[Act.put_defers,Act.put_comm _ v undef h2] at h;exact hK _ _ ⟨_,_,rfl⟩ h
    case enter f args=>
     refine Calls.mono h fun e w'' he=>?_
     cases e with
     | returned u=>dsimp only at he ⊢;rw[Act.put_comm a v u h2] at he;exact hK _ _ (.Gu _ _ _) he
     | panicked c=>exact absurd he (hQ _ _ _ (by simp))
     | outgrown=>exact he
    case row row args=>exact Rows.mono h fun u w'' he=>by rw[Act.put_comm a v u h2] at he;exact hK _ _ (.Gu _ _ _) he
  | halt x w' =>
    cases x<;>simp only[Oper.upon] at h ⊢
    exact absurd h (hQ _ _ _ (by simp))
 ·rename_i hw
  simp only[hw] at h
  rw[Act.put_comm a v undef h2] at h;exact hK _ _ (.Gu _ _ _) h
def Yl (P:Program)(ops:Array Oper)(o:Oper)(a:Act)(w:World)(v:Value)(w' : World):Prop:=
 (Region.wanted o (yielded ops a.tmps)=true/\(execOp a.eval o).run P w=.ok (.value v) w')\/(Region.wanted o (yielded ops a.tmps)=false/\v=undef/\w' = w)
theorem Yl.mk {i:Nat}{o:Oper}(hi:ops[i]? = some o){a:Act}{w w' : World}{v:Value}(hy:Yl P ops o a w v w'){K:Act->World->Prop}(h:K (a.put o.dst v) w'):wpOp P ops Q i K a w:=by
 unfold wpOp
 simp only[hi]
 rcases hy with ⟨hw,hr⟩|⟨hw,rfl,rfl⟩
 ·rw[if_pos hw]
  refine .inl ?_
  unfold Oper.wp
  rw[hr]
  exact h
 ·rw[if_neg (by simp[hw])]
  exact h
theorem Dn (hQ:CS Q){i:Nat}{o:Oper}(hi:ops[i]? = some o){a:Act}{w:World}(hn:Region.wanted o (yielded ops a.tmps)=true->Mf P (execOp a.eval o)){K:Act->World->Prop}
 (h:wpOp P ops Q i K a w):∃ v w',Yl P ops o a w v w' /\ K (a.put o.dst v) w':=by
 unfold wpOp at h
 simp only[hi] at h
 split at h
 ·rename_i hw
  rcases h with h|h
  case inr=>exact absurd h.2 hQ.out
  unfold Oper.wp at h
  cases hr:(execOp a.eval o).run P w with
  | ok n w' =>
    obtain⟨⟨v,rfl⟩,_⟩:=hn hw n w w' hr
    rw[hr] at h
    exact⟨v,w',.inl ⟨hw,hr⟩,h⟩
  | halt x w' =>
    rw[hr] at h
    cases x<;>simp only[Oper.upon] at h
    exact absurd h (hQ _ _ _ (by simp))
 ·rename_i hw
  exact⟨undef,w,.inr ⟨by simpa using hw,rfl,rfl⟩,h⟩
theorem Yl.same {o:Oper}{a a' : Act}{w w' : World}{v:Value}(h:Yl P ops o a w v w')(he:execOp a'.eval o=execOp a.eval o/\Region.wanted o (yielded ops a'.tmps)=Region.wanted o (yielded ops a.tmps)):Yl P ops o a' w v w':=by
 unfold Yl at*
 rw[he.1,he.2]
 exact h
theorem Yl.quiet {o:Oper}{a:Act}{w w' : World}{v:Value}(h:Yl P ops o a w v w')(hq:Region.wanted o (yielded ops a.tmps)=true->Quiet P (execOp a.eval o)):w' = w/\∀ w2,Yl P ops o a w2 v w2:=by
 rcases h with ⟨hw,hr⟩|⟨hw,rfl,rfl⟩
 ·obtain⟨_,h1,h2⟩:=hq hw _ _ _ hr
  exact⟨h1,fun w2=>.inl ⟨hw,h2 w2⟩⟩
 ·exact⟨rfl,fun _=>.inr ⟨hw,rfl,rfl⟩⟩
theorem Yl.reads {o:Oper}{a:Act}{w w' : World}{v:Value}(h:Yl P ops o a w v w')(hq:Region.wanted o (yielded ops a.tmps)=true->Reads P (execOp a.eval o)):w' = w/\∀ w2,More w w2->Yl P ops o a w2 v w2:=by
 rcases h with ⟨hw,hr⟩|⟨hw,rfl,rfl⟩
 ·obtain⟨_,h1,h2⟩:=hq hw _ _ _ hr
  exact⟨h1,fun w2 hm=>.inl ⟨hw,h2 w2 hm⟩⟩
 ·exact⟨rfl,fun _ _=>.inr ⟨hw,rfl,rfl⟩⟩
theorem Yl.more {o:Oper}{a:Act}{w w' : World}{v:Value}(h:Yl P ops o a w v w')(hq:Region.wanted o (yielded ops a.tmps)=true->Mf P (execOp a.eval o)):More w w':=by
 rcases h with ⟨hw,hr⟩|⟨hw,rfl,rfl⟩
 ·exact(hq hw _ _ _ hr).2
 ·exact More.refl _
theorem Yl.det {o:Oper}{a:Act}{w w1 w2:World}{v1 v2:Value}(h:Yl P ops o a w v1 w1)(h' : Yl P ops o a w v2 w2):v1=v2/\w1=w2:=by
 rcases h with ⟨hw,hr⟩|⟨hw,rfl,rfl⟩<;>rcases h' with ⟨hw',hr'⟩|⟨hw',rfl,rfl⟩
 ·rw[hr] at hr';injection hr' with h1 h2;injection h1 with h1;exact⟨h1,h2⟩
 ·rw[hw] at hw';cases hw'
 ·rw[hw] at hw';cases hw'
 ·exact⟨rfl,rfl⟩
theorem Quiet.news {s:Sem Next}(h:Quiet P s):Mf P s:=fun n w w' hr=>by
 obtain⟨h1,rfl,_⟩:=h n w w' hr
 exact⟨h1,More.refl _⟩
theorem swap (hQ:CS Q){k j:Nat}{ok oj:Oper}(hk:ops[k]? = some ok)(hj:ops[j]? = some oj)(hap:ok.apart ops oj=true)
 (hsk:∀ cs b,ok.op≠.select cs b) (hsj:∀ cs b,oj.op≠.select cs b) {K:Act->World->Prop} {a:Act} {w:World}
 (hc : (Region.wanted oj (yielded ops a.tmps) = true → Quiet P (execOp a.eval oj)) ∨ (Region.wanted ok (yielded ops a.tmps) = true → Quiet P (execOp a.eval ok)) ∨
   ((Region.wanted ok (yielded ops a.tmps)=true->Reads P (execOp a.eval ok))/\(Region.wanted oj (yielded ops a.tmps)=true->Mf P (execOp a.eval oj))))
 (h:wpOp P ops Q k (fun a' w' => wpOp P ops Q j K a' w') a w):wpOp P ops Q j (fun a' w' => wpOp P ops Q k K a' w') a w:=by
 obtain⟨h1,h2,h3⟩:=Oper.apart_spec hap
 have h2' : ∀ t,oj.dst=some t->ok.dst≠some t:=fun t ht hk' => h2 t hk' ht
 rcases hc with hc|hc|⟨hc1,hc2⟩
 ·obtain⟨a1,w1,hR,h'⟩:=EO hQ hk h
  have he:=hR.exec (o:=oj) (ops:=ops) hsj h1
  obtain⟨v,w2,hy,_⟩:=Dn hQ hj (by rw[he.1,he.2];exact fun hw=>(hc hw).news) h'
  have hy0:Yl P ops oj a w1 v w2:=hy.same ⟨he.1.symm,he.2.symm⟩
  obtain⟨_,hall⟩:=hy0.quiet hc
  refine Yl.mk hj (hall w) ?_
  refine I8 hQ hk hsk h3 h2' h fun a' w' hR' hj' => ?_
  have he':=hR'.exec (o:=oj) (ops:=ops) hsj h1
  obtain⟨v2,w3,hy2,hK⟩:=Dn hQ hj (by rw[he'.1,he'.2];exact fun hw=>(hc hw).news) hj'
  obtain⟨rfl,rfl⟩:=(hy2.same ⟨he'.1.symm,he'.2.symm⟩).det (hall w')
  exact hK
 ·obtain⟨v,w1,hy,h'⟩:=Dn hQ hk (fun hw=>(hc hw).news) h
  obtain⟨rfl,hall⟩:=hy.quiet hc
  refine Qy hQ hj hsj h1 h2 h' fun a' w' hR hK=>?_
  exact Yl.mk hk ((hall w').same (hR.exec (o:=ok) (ops:=ops) hsk h3)) hK
 ·obtain⟨v,w1,hy,h'⟩:=Dn hQ hk (fun hw=>(hc1 hw).news) h
  obtain⟨rfl,hall⟩:=hy.reads hc1
  have he:execOp (a.put ok.dst v).eval oj=execOp a.eval oj/\Region.wanted oj (yielded ops (a.put ok.dst v).tmps)=Region.wanted oj (yielded ops a.tmps):=(Rch.Gu a ok.dst v).exec (ops:=ops) hsj h1
  obtain⟨u,w2,hy2,hK⟩:=Dn hQ hj (by rw[he.1,he.2];exact hc2) h'
  have jS : Yl P ops oj a w1 u w2:=hy2.same ⟨he.1.symm,he.2.symm⟩
  refine Yl.mk hj jS (Yl.mk hk ((hall w2 (jS.more hc2)).same ((Rch.Gu a oj.dst u).exec (ops:=ops) hsk h3)) ?_)
  rw[<- Act.put_comm a v u h2]
  exact hK
/-! ### 4. Any order comes to what the order of the text comes to -/
def needs (o:Oper):Bool:=match o.op with|.binOp _ _ _ _ _|.nilCheck _|.convert _ _ _|.call _=>true|_=>false
theorem NH {o:Oper}(h:needs o=false)(ρ : Operand->Value):good P o ρ = true:=by
 obtain⟨dst,op,type,pos,after,guard⟩:=o
 cases op<;>first|rfl|cases h
theorem Lh (o:Oper){ρ ρ' : Operand->Value}(h:∀ x∈o.op.operands,ρ x = ρ' x):good P o ρ = good P o ρ' :=by
 obtain⟨dst,op,type,pos,after,guard⟩:=o
 cases op<;>try rfl
 case nilCheck x=>simp only[good,h x (by simp[Op.operands])]
 case binOp b t x y u=>simp only[good,h x (by simp[Op.operands]),h y (by simp[Op.operands])]
 case convert s d x=>simp only[good,h x (by simp[Op.operands])]
 case call c=>
  simp only[good]
  cases hx:c.args[0]? with
  | none=>rfl
  | some x =>
    have hm:x∈c.args:=Array.mem_of_getElem? hx
    simp only[Option.map_some,h x (by simp[Op.operands,Call.operands,hm])]
def Gc (P:Program)(ops:Array Oper)(a:Act):Bool:=ops.all fun o=>kind P o != 0 || !Region.wanted o (yielded ops a.tmps) || good P o a.eval
def Ends (P:Program)(ops:Array Oper)(Q:Exit->Act->World->Prop):Exit->Act->World->Prop:=fun e a w=>e=.normal/\Gc P ops a=true/\Q .normal a w
theorem Ends.Bb (P:Program)(ops:Array Oper)(Q:Exit->Act->World->Prop):CS (Ends P ops Q):=fun _ _ _ he h=>he h.1
theorem Ends.intro {a:Act}{w:World}(hg:Gc P ops a=true)(h:Q .normal a w):Ends P ops Q .normal a w:=⟨rfl,hg,h⟩
theorem fin:∀ (l:List Nat) (a:Act) (w:World),(∀ i∈l,i<ops.size)->wpOps P ops (Ends P ops Q) l a w->
 ∃ a' w',Ends P ops Q .normal a' w' /\ ∀ t,(∀ i∈l,∀ o,ops[i]? = some o->o.dst≠some t)->a'.tmps[t]? = a.tmps[t]?
 | [],a,w,_,h=>⟨a,w,h,fun _ _=>rfl⟩
 | i :: l,a,w,hl,h => by
   obtain⟨o,hi⟩:∃ o,ops[i]? = some o:=⟨_,Array.getElem?_eq_getElem (hl i (by simp))⟩
   rw[wpOps_cons] at h
   obtain⟨a1,w1,⟨v,ds,rfl⟩,h1⟩:=EO (Ends.Bb P ops Q) hi h
   obtain⟨a2,w2,he,ht⟩:=fin l _ _ (fun j hj=>hl j (by simp[hj])) h1
   refine⟨a2,w2,he,fun t hn=>?_⟩
   rw[ht t fun j hj o ho=>hn j (by simp[hj]) o ho]
   have:=hn i (by simp) _ hi
   cases hd:o.dst with
   | none=>rfl
   | some d =>
     have hne:d≠t:=fun e=>this (by rw[hd,e])
     simp[Act.put,Array.getElem?_setIfInBounds_ne hne]
theorem Ia {a a' : Act}{x:Operand}(h:∀ t,x=.tmp t->a'.tmps[t]? = a.tmps[t]?):a'.eval x=a.eval x:=by
 cases x with
 | tmp t=>simp only[Act.eval,Array.getD_eq_getD_getElem?,h t rfl]
 | _=>rfl
theorem Gd {l:List Nat}{a:Act}{w:World}(hl:∀ i∈l,i<ops.size)(h:wpOps P ops (Ends P ops Q) l a w){k:Nat}{o:Oper}(hk:ops[k]? = some o)(hkd:kind P o=0)
 (hf:needs o=true->∀ i∈l,∀ o',ops[i]? = some o' -> ∀ t,o'.dst=some t->t ∉ o.looksAt ops):Region.wanted o (yielded ops a.tmps)=true->Quiet P (execOp a.eval o):=by
 intro hw
 refine quiet_of hkd ?_
 cases hn:needs o with
 | false=>exact NH hn _
 | true =>
   obtain⟨a',w',⟨_,hg,_⟩,ht⟩:=fin l a w hl h
   have hg1:=Array.all_eq_true_iff_forall_mem.1 hg o (Array.mem_of_getElem? hk)
   have hsame:∀ t,t∈o.looksAt ops->a'.tmps[t]? = a.tmps[t]? :=fun t hm=>ht t fun i hi o' ho' e=>hf hn i hi o' ho' t e hm
   have hev:∀ x∈o.op.operands,a'.eval x=a.eval x:=fun x hx=>Ia fun t e=>hsame t (by
    subst e
    exact List.mem_append_left _ (List.mem_filterMap.2 ⟨.tmp t,by simpa using hx,rfl⟩))
   have hwn:Region.wanted o (yielded ops a'.tmps)=Region.wanted o (yielded ops a.tmps):=by
    unfold Region.wanted
    cases hgd:o.guard with
    | none=>rfl
    | some gw =>
      obtain⟨g,want⟩:=gw
      have:yielded ops a'.tmps g=yielded ops a.tmps g:=by
       unfold yielded
       cases hd:(ops[g]?).bind (·.dst) with
       | none=>rfl
       | some t =>
         have:=hsame t (by simp[Oper.looksAt,hgd,hd])
         simp[this]
      simp only[this]
   rw[hkd,hwn,hw] at hg1
   simp at hg1
   rw[<- Lh o hev]
   exact hg1
def BM (P:Program)(ops:Array Oper)(a b:Nat):Bool:=
 match ops[a]?,ops[b]? with
 | some oa,some ob=>oa.apart ops ob&&(kind P ob==0 || kind P oa==0 || (kind P oa==1&&(kind P ob==1 || kind P ob==2)))
 | _,_=>false
def waits (ops:Array Oper):Nat->Nat->Nat->Bool
 | 0,_,_=>false
 | f + 1,b,a => match ops[b]? with
   | some ob=>ob.after.any fun e=>Region.binds .any e&&(e.on==a || waits ops f e.on a)
   | none=>false
def strict (n:Nat)(f:Nat->Bool):Bool:=match n with
 | 0=>f 0
 | k+1=>f (k+1)
theorem fD (n:Nat)(f:Nat->Bool):strict n f=f n:=by cases n<;>rfl
def rowOf (W acc:Nat)(o:Oper):Nat:=o.after.toList.foldl (fun m e=>if Region.binds .any e then m ||| (1 <<< e.on) ||| ((acc >>> (e.on*W))%2^W) else m) 0
def I9 (ops:Array Oper)(pair:Nat->Nat->Bool)(W:Nat):Nat->Nat->Nat->Bool
 | 0,_,_=>true
 | n + 1,b,acc => match ops[b]? with
   | none=>true
   | some ob => (ob.after.all fun e => !Region.binds .any e || decide (e.on < b)) &&
     strict (rowOf W acc ob) fun r=>((List.range b).all fun a=>r.testBit a || pair a b)&&strict (acc ||| (r <<< (b*W))) fun acc' => I9 ops pair W n (b+1) acc'
theorem Q5 {ops:Array Oper} : ∀ (f b a:Nat),waits ops f b a=true->waits ops (f+1) b a=true
 | 0,_,_,h=>by cases h
 | f + 1,b,a,h => by
   unfold waits at h ⊢
   split at h
   ·rename_i ob hb
    rw[Array.any_eq_true'] at h ⊢
    obtain⟨e,he,h⟩:=h
    refine⟨e,he,?_⟩
    simp only[Bool.and_eq_true,Bool.or_eq_true] at h ⊢
    exact⟨h.1,h.2.imp id (Q5 f _ _)⟩
   ·cases h
theorem Ib {ops:Array Oper}{f g b a:Nat}(hfg:f<=g)(h:waits ops f b a=true):waits ops g b a=true:=by
 induction hfg with
 | refl=>exact h
 | step _ ih=>exact Q5 _ _ _ ih
theorem ZE {W acc:Nat}{o:Oper}{t:Nat}(h:(rowOf W acc o).testBit t=true):∃ e∈o.after,Region.binds .any e=true/\(e.on=t\/t<W/\acc.testBit (e.on*W+t)=true):=by
 have key:∀ (l:List _) (m:Nat),(l.foldl (fun m e=>if Region.binds .any e then m ||| (1 <<< e.on) ||| ((acc >>> (e.on*W))%2^W) else m) m).testBit t=true->m.testBit t=true\/∃ e∈l,Region.binds .any e=true/\(e.on=t\/t<W/\acc.testBit (e.on*W+t)=true):=by
  intro l
  induction l with
  | nil=>exact fun m h=>.inl h
  | cons e l ih =>
    intro m h
    rcases ih _ h with h|⟨e',he',h'⟩
    ·simp only at h
     split at h
     ·rename_i hb
      simp only[Nat.testBit_or,Bool.or_eq_true] at h
      rcases h with (h|h)|h
      ·exact .inl h
      ·refine .inr ⟨e,List.mem_cons_self,hb,.inl ?_⟩
       rw[Nat.testBit_shiftLeft] at h
       simp only[Bool.and_eq_true,decide_eq_true_eq] at h
       have h2:=h.2
       rw[Nat.testBit_one_eq_true_iff_self_eq_zero] at h2
       omega
      ·refine .inr ⟨e,List.mem_cons_self,hb,.inr ?_⟩
       rw[Nat.testBit_mod_two_pow] at h
       simp only[Bool.and_eq_true,decide_eq_true_eq,Nat.testBit_shiftRight] at h
       exact h
     ·exact .inl h
    ·exact .inr ⟨e',List.mem_cons_of_mem _ he',h'⟩
 rcases key _ _ h with h|⟨e,he,h⟩
 ·simp at h
 ·exact⟨e,Array.mem_toList_iff.1 he,h⟩
theorem OT {ops:Array Oper}{pair:Nat->Nat->Bool}{W:Nat}(hW:W=ops.size):∀ (n b acc:Nat),I9 ops pair W n b acc=true->(∀ i,acc.testBit i=true->∃ j a,j<b/\a<W/\i=j*W+a/\waits ops (j+1) j a=true)->
 ∀ b',b<=b' -> b' < b+n->∀ ob,ops[b']? = some ob->(∀ e∈ob.after,Region.binds .any e=true->e.on<b')/\∀ a,a<b' -> waits ops (b' + 1) b' a=true\/pair a b' = true
 | 0,b,acc,_,_,b',h1,h2,_,_=>by omega
 | n + 1,b,acc,h,hacc,b',h1,h2,ob,hob => by
   have hbW:b<W:=by rw[hW];exact Nat.lt_of_le_of_lt h1 (Array.getElem?_eq_some_iff.1 hob).1
   unfold I9 at h
   rw[Array.getElem?_eq_getElem (by rw[<- hW];exact hbW)] at h
   simp only[fD,Bool.and_eq_true,List.all_eq_true,List.mem_range] at h
   obtain⟨hdn,hrow,hrest⟩:=h
   have qH:∀ e∈(ops[b]'(by rw[<- hW];exact hbW)).after,Region.binds .any e=true->e.on<b:=fun e he hbi=>by
    have:=Array.all_eq_true_iff_forall_mem.1 hdn e he
    simpa [hbi] using this
   have hbit:∀ t,(rowOf W acc (ops[b]'(by rw[<- hW];exact hbW))).testBit t=true->t<W/\waits ops (b+1) b t=true:=by
    intro t ht
    obtain⟨e,he,hbi,hcase⟩:=ZE ht
    have hlt:=qH e he hbi
    have hw:∀ x,(e.on==x || waits ops b e.on x)=true->waits ops (b+1) b x=true:=fun x hx=>by
     unfold waits
     rw[Array.getElem?_eq_getElem (by rw[<- hW];exact hbW)]
     simp only
     rw[Array.any_eq_true']
     exact⟨e,he,by rw[hbi,hx];rfl⟩
    rcases hcase with rfl|⟨htW,hta⟩
    ·exact⟨by omega,hw _ (by simp)⟩
    ·obtain⟨j,a,hj,haW,heq,hwt⟩:=hacc _ hta
     have hja:j=e.on/\a=t:=by
      have h3:(e.on*W+t)/W=e.on:=by rw[Nat.add_comm,Nat.add_mul_div_right _ _ (by omega),Nat.div_eq_of_lt htW,Nat.zero_add]
      have h4:(j*W+a)/W=j:=by rw[Nat.add_comm,Nat.add_mul_div_right _ _ (by omega),Nat.div_eq_of_lt haW,Nat.zero_add]
      have h5:j=e.on:=by rw[<- h3,<- h4,heq]
      subst h5
      exact⟨rfl,by omega⟩
     obtain⟨rfl,rfl⟩:=hja
     refine⟨htW,hw _ ?_⟩
     rw[Ib (by omega) hwt]
     simp
   by_cases hbb:b' = b
   ·subst hbb
    rw[Array.getElem?_eq_getElem (by rw[<- hW];exact hbW)] at hob
    cases hob
    refine⟨qH,fun a ha=>?_⟩
    have:=hrow a ha
    simp only[Bool.or_eq_true] at this
    exact this.imp (fun h=>(hbit a h).2) id
   ·refine OT hW n (b+1) _ hrest ?_ b' (by omega) (by omega) ob hob
    intro i hi
    rw[Nat.testBit_or,Bool.or_eq_true] at hi
    rcases hi with hi|hi
    ·obtain⟨j,a,hj,r⟩:=hacc i hi
     exact⟨j,a,by omega,r⟩
    ·rw[Nat.testBit_shiftLeft] at hi
     simp only[Bool.and_eq_true,decide_eq_true_eq] at hi
     obtain⟨h3,h4⟩:=hbit _ hi.2
     exact⟨b,i-b*W,by omega,h3,by omega,h4⟩
theorem BN {ops:Array Oper}{pair:Nat->Nat->Bool}(h:I9 ops pair ops.size ops.size 0 0=true){b:Nat}{ob:Oper}(hb:ops[b]? = some ob):
 (∀ e∈ob.after,Region.binds .any e=true->e.on<b)/\∀ a,a<b->waits ops ops.size b a=true\/pair a b=true:=by
 have hbl:=(Array.getElem?_eq_some_iff.1 hb).1
 obtain⟨h1,h2⟩:=OT rfl _ _ _ h (fun i hi=>by simp at hi) b (Nat.zero_le _) (by omega) ob hb
 exact⟨h1,fun a ha=>(h2 a ha).imp (Ib (by omega)) id⟩
theorem Cn {o:Oper}{ρ : Operand->Value}(h:kind P o=1\/kind P o=2):Mf P (execOp ρ o):=by
 rcases h with h|h
 ·exact(Cu h).news
 ·exact Gb h
def Closed (ops:Array Oper)(listed:Array Bool):Prop:=∀ j o,ops[j]? = some o->listed.getD j false=true->∀ e∈o.after,Region.binds .any e=true->listed.getD e.on false=true
theorem CU {listed:Array Bool}(hc:Closed ops listed):∀ (f:Nat) (b a:Nat) (ob:Oper),ops[b]? = some ob->(∀ e∈ob.after,Region.binds .any e=true->listed.getD e.on false=true)->waits ops f b a=true->listed.getD a false=true
 | 0,_,_,_,_,_,h=>by cases h
 | f + 1,b,a,ob,hb,hall,h => by
   simp only[waits,hb] at h
   obtain⟨e,he,hx⟩:=Array.any_eq_true'.1 h
   simp only[Bool.and_eq_true,Bool.or_eq_true,beq_iff_eq] at hx
   obtain⟨hbi,hx⟩:=hx
   have hl:=hall e he hbi
   rcases hx with rfl|hx
   ·exact hl
   ·cases f with
    | zero=>cases hx
    | succ f =>
      cases ho:ops[e.on]? with
      | none=>simp[waits,ho] at hx
      | some oe=>exact CU hc (f+1) e.on a oe ho (hc e.on oe ho hl) hx
/-! ### 5. Loads beside calls: the blocks of B,which stood when the region began,are kept by each operation in front of the tail -/
def Same (B:Nat->Prop)(w0 w:World):Prop:=∀ b,B b->b<w0.heap.size->w.heap[b]? = w0.heap[b]?
theorem Same.refl (B:Nat->Prop)(w:World):Same B w w:=fun _ _ _=>rfl
theorem Same.more {B:Nat->Prop}{w0 w w' : World}(h:Same B w0 w)(hm:More w w'):Same B w0 w':=fun b hB hb=>by
 have e:=h b hB hb
 have hx:w0.heap[b]? = some w0.heap[b]:=Array.getElem?_eq_getElem hb
 rw[hx] at e ⊢
 exact hm b _ e
def inB (B:Nat->Prop)(w0:World)(o:Oper)(ρ : Operand->Value):Prop:=
 match o.op with
 | .load _ x=>(match ρ x with|.pointer (some ad)=>B ad.block/\(w0.cell? ad).isSome=true|_=>False)
 | _=>True
def Local {α : Type}(P:Program)(b:Nat):Sem α -> Prop
 | .pure _=>True
 | .program k=>Local P b (k P)
 | .mark _ k=>Local P b k
 | .halt _=>True
 | .choose _ k=>∀ n,Dead P (k n)
 | .load _ a k=>a.block=b/\∀ v,Local P b (k v)
 | _=>False
theorem Local.bind {α β : Type}{P:Program}{b:Nat}{s:Sem α}{f : α -> Sem β}(h:Local P b s)(hf:∀ a,Local P b (f a)):Local P b (s.bind f):=by
 induction s with
 | pure a=>exact hf _
 | program k ih=>exact ih P h
 | mark m k ih=>exact ih h
 | halt h0=>trivial
 | load m a k ih=>exact⟨h.1,fun v=>ih v (h.2 v)⟩
 | getObj r k ih=>exact h.elim
 | new o k ih=>exact h.elim
 | store m a v k ih=>exact h.elim
 | shape r k ih=>exact h.elim
 | freeze a n k ih=>exact h.elim
 | frozen a k ih=>exact h.elim
 | setObj r o k ih=>exact h.elim
 | choose q k ih=>exact fun n=>(h n).bind f
 | sys c k ih=>exact h.elim
theorem Calm.jT {α : Type}{P:Program}{b:Nat}{s:Sem α}(h:Calm P s):Local P b s:=by
 induction s with
 | pure a=>trivial
 | program k ih=>exact ih P h
 | mark m k ih=>exact ih h
 | halt h0=>trivial
 | load m a k ih=>exact h.elim
 | getObj r k ih=>exact h.elim
 | new o k ih=>exact h.elim
 | store m a v k ih=>exact h.elim
 | shape r k ih=>exact h.elim
 | freeze a n k ih=>exact h.elim
 | frozen a k ih=>exact h.elim
 | setObj r o k ih=>exact h.elim
 | choose q k ih=>exact h
 | sys c k ih=>exact h.elim
theorem Local.run {α : Type}{P:Program}{b:Nat}{s:Sem α}{w w2 w' : World}{a : α}{c:Array Value}{tc:TypeId}{f:Nat × Nat}(h:Local P b s)(hb:w.heap[b]? = some (.cells c tc f))(hb2:w2.heap[b]? = some (.cells c tc f))(hr:s.run P w=.ok a w'):w' = w/\s.run P w2=.ok a w2:=by
 induction s generalizing w w2 w' with
 | pure x => 
   simp only[Sem.run,Result.ok.injEq] at hr
   obtain⟨rfl,rfl⟩:=hr
   exact⟨rfl,rfl⟩
 | program k ih=>exact ih P h hb hb2 hr
 | mark m k ih=>exact ih h hb hb2 hr
 | halt h0=>simp[Sem.run] at hr
 | load m ad k ih => 
   obtain⟨rfl,hk⟩:=h
   have hc:w2.cell? ad=w.cell? ad:=by unfold World.cell?;rw[hb,hb2]
   have hfr : ∀ bb, w.farLoad P ad bb = .error (w.noCell ad "load: no such cell") := fun bb => by unfold World.farLoad; rw [hb]
   simp only[Sem.run] at hr ⊢
   rw[hc]
   cases hv:w.cell? ad with
   | some v =>
     rw[hv] at hr
     exact ih v (hk v) hb hb2 hr
   | none =>
     rw[hv,hfr] at hr
     cases hr
 | getObj r k ih=>exact h.elim
 | new o k ih=>exact h.elim
 | store m ad v k ih=>exact h.elim
 | shape r k ih=>exact h.elim
 | freeze ad n k ih=>exact h.elim
 | frozen ad k ih=>exact h.elim
 | setObj r o k ih=>exact h.elim
 | choose q k ih => 
   simp only[Sem.run] at hr
   split at hr
   ·exact((h _).run hr).elim
   ·exact((h _).run hr).elim
 | sys c k ih=>exact h.elim
theorem IB {α β : Type}{b:Nat}{s:Sem α}{f : α -> Sem β}(h:Local P b s)(hf:∀ a,Local P b (f a)):Local P b (s >>= f):=h.bind hf
theorem add_block (ad:Addr)(i:Nat):(ad.add i).block=ad.block:=by unfold Addr.add;split<;>rfl
theorem Jg (a:Addr):∀ (n i:Nat) (acc:Array Value),Local P a.block (loadCellsFrom a i n acc)
 | 0,_,_=>trivial
 | n+1,i,acc=>IB (s:=load (a.add i)) ⟨add_block a i,fun _=>trivial⟩ fun v=>Jg a n (i+1) (acc.push v)
theorem Mh (t:TypeId)(ad:Addr):Local P ad.block (Instr.loadAt t (.pointer (some ad))):=by
 show Local P ad.block (loadVar t ad)
 unfold loadVar
 refine IB (Le _).jT fun b=>?_
 split
 ·exact IB (BU _).jT fun n=>IB (Jg _ _ _ _) fun _=>trivial
 ·exact⟨rfl,fun _=>trivial⟩
def Vz (P:Program)(S:World->Prop)(s:Sem Next):Prop:=∀ n w w',S w->s.run P w=.ok n w' -> (∃ v,n=.value v)/\w' = w/\∀ w2,S w2->s.run P w2=.ok n w2
theorem dh {B:Nat->Prop}{w0:World}{o:Oper}{ρ : Operand->Value}(hk:kind P o=1)(hb:inB B w0 o ρ):Vz P (Same B w0) (execOp ρ o):=by
 obtain⟨dst,op,type,pos,after,guard⟩:=o
 cases op<;>simp only[kind] at hk<;>try (exact absurd hk (by decide))
 case load t x=>
  simp only[inB] at hb
  split at hb
  ·rename_i ad hx
   obtain⟨hB,hc⟩:=hb
   have hblk:∃ c tc f,w0.heap[ad.block]? = some (.cells c tc f):=by
    unfold World.cell? at hc
    split at hc
    ·exact⟨_,_,_,by assumption⟩
    ·cases hc
   obtain⟨c,tc,f,hw0⟩:=hblk
   have hlt:ad.block<w0.heap.size:=(Array.getElem?_eq_some_iff.1 hw0).1
   intro n w w' hS hr
   have hr' : (Instr.loadAt t (ρ x) >>= fun v=>pure (.value v):Sem Next).run P w=.ok n w':=hr
   rw[hx] at hr'
   obtain⟨v,rfl,hv⟩:=Mg hr'
   have h1:=(hS ad.block hB hlt).trans hw0
   obtain⟨rfl,_⟩:=(Mh t ad).run h1 h1 hv
   refine⟨⟨v,rfl⟩,rfl,fun w2 hS2=>?_⟩
   have h2:=((Mh t ad).run h1 ((hS2 ad.block hB hlt).trans hw0) hv).2
   show(Instr.loadAt t (ρ x) >>= fun v=>pure (.value v):Sem Next).run P w2=_
   rw[hx,Sem.run_bind,h2]
   rfl
  ·exact hb.elim
 all_goals (split at hk<;>cases hk)
theorem Yl.Ky {S:World->Prop}{o:Oper}{a:Act}{w w' : World}{v:Value}(hS:S w)(h:Yl P ops o a w v w')(hq:Region.wanted o (yielded ops a.tmps)=true->Vz P S (execOp a.eval o)):w' = w/\∀ w2,S w2->Yl P ops o a w2 v w2:=by
 rcases h with ⟨hw,hr⟩|⟨hw,rfl,rfl⟩
 ·obtain⟨_,h1,h2⟩:=hq hw _ _ _ hS hr
  exact⟨h1,fun w2 hm=>.inl ⟨hw,h2 w2 hm⟩⟩
 ·exact⟨rfl,fun _ _=>.inr ⟨hw,rfl,rfl⟩⟩
theorem Quiet.Ky {S:World->Prop}{s:Sem Next}(h:Quiet P s):Vz P S s:=fun n w w' _ hr=>by
 obtain⟨h1,h2,h3⟩:=h n w w' hr
 exact⟨h1,h2,fun w2 _=>h3 w2⟩
theorem jU (hQ:CS Q){S:World->Prop}{k j:Nat}{ok oj:Oper}(hk:ops[k]? = some ok)(hj:ops[j]? = some oj)(hap:ok.apart ops oj=true)
 (hsk:∀ cs b,ok.op≠.select cs b) (hsj:∀ cs b,oj.op≠.select cs b) {K:Act->World->Prop} {a:Act} {w:World} (hS:S w)
 (hc : ((Region.wanted oj (yielded ops a.tmps) = true → Vz P S (execOp a.eval oj)) ∧ (Region.wanted oj (yielded ops a.tmps) = true → Mf P (execOp a.eval oj))) ∨
   ((Region.wanted ok (yielded ops a.tmps)=true->Vz P S (execOp a.eval ok))/\(Region.wanted ok (yielded ops a.tmps)=true->Mf P (execOp a.eval ok)))\/
   ((Region.wanted ok (yielded ops a.tmps)=true->Reads P (execOp a.eval ok))/\(Region.wanted oj (yielded ops a.tmps)=true->Mf P (execOp a.eval oj))))
 (h:wpOp P ops Q k (fun a' w' => S w' /\ wpOp P ops Q j (fun a'' w'' => S w'' /\ K a'' w'') a' w') a w):
 wpOp P ops Q j (fun a' w' => S w' /\ wpOp P ops Q k (fun a'' w'' => S w'' /\ K a'' w'') a' w') a w:=by
 obtain⟨h1,h2,h3⟩:=Oper.apart_spec hap
 have h2' : ∀ t,oj.dst=some t->ok.dst≠some t:=fun t ht hk' => h2 t hk' ht
 rcases hc with ⟨hc,hn⟩|⟨hc,hn⟩|⟨hc1,hc2⟩
 ·obtain⟨a1,w1,hR,hS1,h'⟩:=EO hQ hk h
  have he:=hR.exec (o:=oj) (ops:=ops) hsj h1
  obtain⟨v,w2,hy,_⟩:=Dn hQ hj (by rw[he.1,he.2];exact hn) h'
  have hy0:Yl P ops oj a w1 v w2:=hy.same ⟨he.1.symm,he.2.symm⟩
  obtain⟨_,hall⟩:=hy0.Ky hS1 hc
  refine Yl.mk hj (hall w hS) ⟨hS,?_⟩
  refine I8 hQ hk hsk h3 h2' h fun a' w' hR' hj' => ?_
  obtain⟨hS',hj'⟩:=hj'
  have he':=hR'.exec (o:=oj) (ops:=ops) hsj h1
  obtain⟨v2,w3,hy2,hK⟩:=Dn hQ hj (by rw[he'.1,he'.2];exact hn) hj'
  obtain⟨rfl,rfl⟩:=(hy2.same ⟨he'.1.symm,he'.2.symm⟩).det (hall w' hS')
  exact hK
 ·obtain⟨v,w1,hy,hS1,h'⟩:=Dn hQ hk hn h
  obtain⟨rfl,hall⟩:=hy.Ky hS hc
  refine Qy hQ hj hsj h1 h2 h' fun a' w' hR hK=>?_
  exact⟨hK.1,Yl.mk hk ((hall w' hK.1).same (hR.exec (o:=ok) (ops:=ops) hsk h3)) hK⟩
 ·obtain⟨v,w1,hy,hS1,h'⟩:=Dn hQ hk (fun hw=>(hc1 hw).news) h
  obtain⟨rfl,hall⟩:=hy.reads hc1
  have he:execOp (a.put ok.dst v).eval oj=execOp a.eval oj/\Region.wanted oj (yielded ops (a.put ok.dst v).tmps)=Region.wanted oj (yielded ops a.tmps):=(Rch.Gu a ok.dst v).exec (ops:=ops) hsj h1
  obtain⟨u,w2,hy2,hS2,hK⟩:=Dn hQ hj (by rw[he.1,he.2];exact hc2) h'
  have jS : Yl P ops oj a w1 u w2:=hy2.same ⟨he.1.symm,he.2.symm⟩
  refine Yl.mk hj jS ⟨hS2,Yl.mk hk ((hall w2 (jS.more hc2)).same ((Rch.Gu a oj.dst u).exec (ops:=ops) hsk h3)) ⟨hS2,?_⟩⟩
  rw[<- Act.put_comm a v u h2]
  exact hK
def wpS (P:Program)(ops:Array Oper)(Q:Exit->Act->World->Prop)(S:World->Prop)(m:Nat):List Nat->Act->World->Prop
 | []=>fun a w=>Q .normal a w
 | i::l=>fun a w=>wpOp P ops Q i (fun a' w' => (i<m->S w')/\wpS P ops Q S m l a' w') a w
theorem GV {S:World->Prop}{m:Nat} : ∀ (l:List Nat) (a:Act) (w:World),wpS P ops Q S m l a w->wpOps P ops Q l a w
 | [],_,_,h=>h
 | i :: l,a,w,h => by
   have h1:wpOp P ops Q i (fun a' w' => (i<m->S w')/\wpS P ops Q S m l a' w') a w:=h
   rw[wpOps_cons]
   exact wpOp_mono (fun a' w' hh=>GV l a' w' hh.2) h1
def Cv (P:Program)(ops:Array Oper)(fl:List Nat)(a b:Nat):Bool:=
 match ops[a]?,ops[b]? with
 | some oa,some ob=>oa.apart ops ob&&(kind P ob==0 || kind P oa==0 || (kind P oa==1&&(kind P ob==1 || kind P ob==2)) || (kind P oa==1&&fl.contains a) || (kind P ob==1&&fl.contains b))
 | _,_=>false
def Lj (P:Program)(ops:Array Oper)(fl:List Nat)(m:Nat):Bool:=
 Region.noSelect ops&&
 I9 ops (fun a b=>decide (b<m)&&Cv P ops fl a b) ops.size ops.size 0 0&&
 ((List.range ops.size).all fun k => match ops[k]? with
   | some o => !needs o || (List.range ops.size).all fun i=>decide (i<k) || (match ops[i]? with|some o' => (match o'.dst with|some t => !(o.looksAt ops).contains t|none=>true)|none=>true)
   | none=>true)&&
 (fl.all fun k => match ops[k]? with
   | some o=>(List.range ops.size).all fun i=>decide (i<k) || (match ops[i]? with|some o' => (match o'.dst with|some t => !(o.looksAt ops).contains t|none=>true)|none=>true)
   | none=>true)
theorem Jw {fl:List Nat}{m:Nat}(h:Lj P ops fl m=true):
 (∀ (j:Nat) (o:Oper) (cs:Array SelectCase) (b:Bool),ops[j]? = some o->o.op≠.select cs b)/\
 (∀ (b:Nat) (ob:Oper),ops[b]? = some ob->∀ e∈ob.after,Region.binds .any e=true->e.on<b)/\
 (∀ b a,b<ops.size->a<b->waits ops ops.size b a=true\/(b<m/\Cv P ops fl a b=true))/\
 (∀ (k:Nat) (o:Oper),ops[k]? = some o->needs o=true\/k∈fl->∀ i,k<=i->∀ (o' : Oper),ops[i]? = some o' -> ∀ t,o'.dst=some t->t ∉ o.looksAt ops):=by
 simp only[Lj,Bool.and_eq_true,List.all_eq_true,List.mem_range] at h
 obtain⟨⟨⟨h1,h2⟩,h3⟩,h4⟩:=h
 refine⟨fun j o cs b hj=>Region.noSelect_spec h1 j o cs b hj,fun b ob hb e he hbi=>?_,fun b a hb ha=>?_,fun k o hk hn i hki o' hi t ht=>?_⟩
 ·exact(BN h2 hb).1 e he hbi
 ·have:=(BN h2 (Array.getElem?_eq_getElem hb)).2 a ha
  simpa using this
 ·have hkl:k<ops.size:=(Array.getElem?_eq_some_iff.1 hk).1
  have hil:i<ops.size:=(Array.getElem?_eq_some_iff.1 hi).1
  have key:((List.range ops.size).all fun i=>decide (i<k) || (match ops[i]? with|some o' => (match o'.dst with|some t => !(o.looksAt ops).contains t|none=>true)|none=>true))=true:=by
   rcases hn with hn|hn
   ·have:=h3 k hkl
    rw[hk] at this
    simpa [hn] using this
   ·have:=h4 k hn
    rw[hk] at this
    exact this
  simp only[List.all_eq_true,List.mem_range] at key
  have:=key i hil
  rw[hi] at this
  simp only[ht,Bool.or_eq_true,decide_eq_true_eq] at this
  rcases this with this|this
  ·omega
  ·simpa using this
def allIn (B:Nat->Prop)(w0:World)(ops:Array Oper)(a:Act):List Nat->Prop
 | []=>True
 | i :: is => (match ops[i]? with
     | some o=>(match Region.wanted o (yielded ops a.tmps) with|true=>inB B w0 o a.eval|false=>True)
     | none=>True)/\allIn B w0 ops a is
theorem QD {B:Nat->Prop}{w0:World}{a:Act} : ∀ {fl:List Nat},allIn B w0 ops a fl->∀ k∈fl,∀ o,ops[k]? = some o->Region.wanted o (yielded ops a.tmps)=true->inB B w0 o a.eval
 | [],_,_,hk,_,_,_=>by cases hk
 | i :: is,h,k,hk,o,ho,hw => by
   rcases List.mem_cons.1 hk with rfl|hk
   ·have:=h.1
    rw[ho] at this
    simp only[hw] at this
    exact this
   ·exact QD h.2 k hk o ho hw
def Ab (P:Program)(ops:Array Oper)(B:Nat->Prop)(w0:World)(fl:List Nat)(Q:Exit->Act->World->Prop):Exit->Act->World->Prop:=fun e a w=>e=.normal/\Gc P ops a=true/\allIn B w0 ops a fl/\Q .normal a w
theorem Ab.Bb {B:Nat->Prop}{w0:World}{fl:List Nat} : CS (Ab P ops B w0 fl Q):=fun _ _ _ he h=>he h.1
theorem Ab.intro {B:Nat->Prop}{w0:World}{fl:List Nat}{a:Act}{w:World}(hg:Gc P ops a=true)(hi:allIn B w0 ops a fl)(h:Q .normal a w):Ab P ops B w0 fl Q .normal a w:=⟨rfl,hg,hi,h⟩
theorem Bu {B:Nat->Prop}{w0:World}{fl:List Nat}{e:Exit}{a:Act}{w:World}(h:Ab P ops B w0 fl Q e a w):Ends P ops (fun _ a w=>allIn B w0 ops a fl/\Q .normal a w) e a w:=⟨h.1,h.2.1,h.2.2⟩
theorem Us {Q1 Q2:Exit->Act->World->Prop}(hQ:∀ e a w,Q1 e a w->Q2 e a w){i:Nat}{K:Act->World->Prop}{a:Act}{w:World}(h:wpOp P ops Q1 i K a w):wpOp P ops Q2 i K a w:=by
 unfold wpOp at*
 split
 ·rename_i ho;simpa [ho] using h
 ·rename_i o ho
  simp only[ho] at h
  split
  ·rename_i hw
   simp only[hw,if_true] at h
   rcases h with h|⟨h1,a0,w0,h2⟩
   ·refine .inl ?_
    unfold Oper.wp at*
    generalize (execOp a.eval o).run P w=r at*
    cases r with
    | ok n w' =>
      cases n<;>simp only[Oper.upon] at h ⊢ <;> try exact h
      exact Calls.mono h fun e w'' he=>by
       cases e with
       | returned u=>exact he
       | panicked c=>exact hQ _ _ _ he
       | outgrown=>obtain⟨a0,w0,h0⟩:=he;exact⟨a0,w0,hQ _ _ _ h0⟩
    | halt x w' => cases x<;>simp only[Oper.upon] at h ⊢;exact hQ _ _ _ h
   ·exact .inr ⟨h1,a0,w0,hQ _ _ _ h2⟩
  ·rename_i hw
   simp only[hw] at h
   exact h
theorem Cb {Q1 Q2:Exit->Act->World->Prop}(hQ:∀ e a w,Q1 e a w->Q2 e a w):∀ (l:List Nat) (a:Act) (w:World),wpOps P ops Q1 l a w->wpOps P ops Q2 l a w
 | [],_,_,h=>hQ _ _ _ h
 | i :: l,a,w,h => by
   rw[wpOps_cons] at h ⊢
   exact Us hQ (wpOp_mono (fun a' w' hh=>Cb hQ l a' w' hh) h)
theorem Ic {B:Nat->Prop}{w0:World}{fl:List Nat}{l:List Nat}{a:Act}{w:World}(hl:∀ i∈l,i<ops.size)(h:wpOps P ops (Ab P ops B w0 fl Q) l a w){k:Nat}{o:Oper}(hk:ops[k]? = some o)(hkd:kind P o=1)(hm:k∈fl)
 (hf:∀ i∈l,∀ o',ops[i]? = some o' -> ∀ t,o'.dst=some t->t ∉ o.looksAt ops):Region.wanted o (yielded ops a.tmps)=true->Vz P (Same B w0) (execOp a.eval o):=by
 intro hw
 obtain⟨a',w',⟨_,_,hin,_⟩,ht⟩:=fin (Q:=fun _ a w=>allIn B w0 ops a fl/\Q .normal a w) l a w hl (Cb (fun e a w he=>Bu he) l a w h)
 have hsame:∀ t,t∈o.looksAt ops->a'.tmps[t]? = a.tmps[t]? :=fun t hm=>ht t fun i hi o' ho' e=>hf i hi o' ho' t e hm
 have hev:∀ x∈o.op.operands,a'.eval x=a.eval x:=fun x hx=>Ia fun t e=>hsame t (by
  subst e
  exact List.mem_append_left _ (List.mem_filterMap.2 ⟨.tmp t,by simpa using hx,rfl⟩))
 have hwn:Region.wanted o (yielded ops a'.tmps)=Region.wanted o (yielded ops a.tmps):=by
  unfold Region.wanted
  cases hgd:o.guard with
  | none=>rfl
  | some gw =>
    obtain⟨g,want⟩:=gw
    have:yielded ops a'.tmps g=yielded ops a.tmps g:=by
     unfold yielded
     cases hd:(ops[g]?).bind (·.dst) with
     | none=>rfl
     | some t =>
       have:=hsame t (by simp[Oper.looksAt,hgd,hd])
       simp[this]
    simp only[this]
 have h1:=QD hin k hm o hk (by rw[hwn];exact hw)
 refine dh hkd ?_
 obtain⟨dst,op,type,pos,after,guard⟩:=o
 cases op<;>simp only[inB] at h1 ⊢
 case load t x=>rw[<- hev x (by simp[Op.operands])];exact h1
theorem jV {B:Nat->Prop}{w0:World}{fl:List Nat}{m:Nat}(hA:Lj P ops fl m=true){i:Nat}(him:i<m){rest:List Nat} : ∀ (ks:List Nat) (a:Act) (w:World),Same B w0 w->(∀ x∈ks++i::rest,x<ops.size)->(ks++i::rest).Pairwise (· < ·)->
 (∀ k∈ks,Cv P ops fl k i=true)->wpS P ops (Ab P ops B w0 fl Q) (Same B w0) m (ks++i::rest) a w->wpS P ops (Ab P ops B w0 fl Q) (Same B w0) m (i::(ks++rest)) a w
 | [],_,_,_,_,_,_,h=>h
 | k :: ks,a,w,hS,hl,hs,hp,h => by
   obtain⟨hsel,_,_,hkeep⟩:=Jw hA
   have hs':=List.pairwise_cons.1 hs
   have h0:=GV _ _ _ h
   have hki:k<i:=hs'.1 i (by simp)
   have h:wpOp P ops (Ab P ops B w0 fl Q) k (fun a' w' => (k<m->Same B w0 w')/\wpS P ops (Ab P ops B w0 fl Q) (Same B w0) m (ks++i::rest) a' w') a w:=h
   have h1:wpOp P ops (Ab P ops B w0 fl Q) k (fun a' w' => Same B w0 w' /\ wpS P ops (Ab P ops B w0 fl Q) (Same B w0) m (i::(ks++rest)) a' w') a w:=
    wpOp_mono (fun a' w' hh=>⟨hh.1 (by omega),jV hA him ks a' w' (hh.1 (by omega)) (fun x hx=>hl x (by simp at hx ⊢;right;exact hx)) hs'.2 (fun x hx=>hp x (by simp[hx])) hh.2⟩) h
   have hkl:k<ops.size:=hl k (by simp)
   have hil:i<ops.size:=hl i (by simp)
   obtain⟨ok,hk⟩:∃ o,ops[k]? = some o:=⟨_,Array.getElem?_eq_getElem hkl⟩
   obtain⟨oi,hi⟩:∃ o,ops[i]? = some o:=⟨_,Array.getElem?_eq_getElem hil⟩
   have hpk:=hp k (by simp)
   simp only[Cv,hk,hi,Bool.and_eq_true,Bool.or_eq_true,beq_iff_eq,List.contains_iff_mem] at hpk
   obtain⟨hap,hc⟩:=hpk
   have h2:wpOp P ops (Ab P ops B w0 fl Q) k (fun a' w' => Same B w0 w' /\ wpOp P ops (Ab P ops B w0 fl Q) i (fun a'' w'' => Same B w0 w'' /\ wpS P ops (Ab P ops B w0 fl Q) (Same B w0) m (ks++rest) a'' w'') a' w') a w:=
    wpOp_mono (fun a' w' hh=>⟨hh.1,wpOp_mono (fun a'' w'' h3=>⟨h3.1 him,h3.2⟩) (show wpOp P ops _ i (fun a'' w'' => (i<m->Same B w0 w'')/\wpS P ops _ (Same B w0) m (ks++rest) a'' w'') a' w' from hh.2)⟩) h1
   have Fb:∀ x∈k::ks++i::rest,∀ o',ops[x]? = some o' -> (needs oi=true\/i∈fl)->∀ t,o'.dst=some t->t ∉ oi.looksAt ops:=fun x hx o' ho' hn t ht=>by
    by_cases hxi:i<=x
    ·exact hkeep i oi hi hn x hxi o' ho' t ht
    ·have hxm : x ∈ k :: ks :=by
      rcases List.mem_append.1 hx with h|h
      ·exact h
      ·rcases List.mem_cons.1 h with h|h
       ·omega
       ·have:=(List.pairwise_append.1 hs).2.1
        have:=(List.pairwise_cons.1 this).1 x h
        omega
     have hpx:=hp x hxm
     simp only[Cv,ho',hi,Bool.and_eq_true] at hpx
     exact(Oper.apart_spec hpx.1).1 t ht
   have Fe:∀ x∈k::ks++i::rest,∀ o',ops[x]? = some o' -> (needs ok=true\/k∈fl)->∀ t,o'.dst=some t->t ∉ ok.looksAt ops:=fun x hx o' ho' hn t ht=>by
    refine hkeep k ok hk hn x ?_ o' ho' t ht
    rcases List.mem_cons.1 hx with h|h
    ·omega
    ·have:=hs'.1 x h;omega
   have h0g:wpOps P ops (Ends P ops (fun _ a w=>allIn B w0 ops a fl/\Q .normal a w)) (k::ks++i::rest) a w:=Cb (fun e a w he=>Bu he) _ _ _ h0
   have h3:=jU (S:=Same B w0) Ab.Bb hk hi hap (fun cs b=>hsel k ok cs b hk) (fun cs b=>hsel i oi cs b hi) hS ?_ h2
   ·show wpOp P ops _ i (fun a' w' => (i<m->Same B w0 w')/\wpS P ops _ (Same B w0) m (k::(ks++rest)) a' w') a w
    refine wpOp_mono (fun a' w' hh=>⟨fun _=>hh.1,?_⟩) h3
    show wpOp P ops _ k (fun a'' w'' => (k<m->Same B w0 w'')/\wpS P ops _ (Same B w0) m (ks++rest) a'' w'') a' w'
    exact wpOp_mono (fun a'' w'' h4=>⟨fun _=>h4.1,h4.2⟩) hh.2
   ·rcases hc with (((hc|hc)|⟨hc1,hc2⟩)|⟨hc,hm⟩)|⟨hc,hm⟩
    ·have hq:=Gd (l:=k::ks++i::rest) hl h0g hi hc fun hn x hx o' ho' t ht=>Fb x hx o' ho' (.inl hn) t ht
     exact .inl ⟨fun hw=>(hq hw).Ky,fun hw=>(hq hw).news⟩
    ·have hq:=Gd (l:=k::ks++i::rest) hl h0g hk hc fun hn x hx o' ho' t ht=>Fe x hx o' ho' (.inl hn) t ht
     exact .inr (.inl ⟨fun hw=>(hq hw).Ky,fun hw=>(hq hw).news⟩)
    ·exact .inr (.inr ⟨fun _=>Cu hc1,fun _=>Cn hc2⟩)
    ·exact .inr (.inl ⟨Ic (l:=k::ks++i::rest) hl h0 hk hc hm fun x hx o' ho' t ht=>Fe x hx o' ho' (.inr hm) t ht,fun _=>Cn (.inl hc)⟩)
    ·exact .inl ⟨Ic (l:=k::ks++i::rest) hl h0 hi hc hm fun x hx o' ho' t ht=>Fb x hx o' ho' (.inr hm) t ht,fun _=>Cn (.inl hc)⟩
theorem OU {B:Nat->Prop}{w0:World}{fl:List Nat}{m:Nat}(hA:Lj P ops fl m=true):∀ (fuel:Nat) (l:List Nat) (listed:Array Bool) (a:Act) (w:World),l.length=fuel->listed.size=ops.size->Closed ops listed->
 l.Pairwise (· < ·)->(∀ x,x∈l↔x<ops.size/\listed.getD x false=false)->((∃ x∈l,x<m)->Same B w0 w)->wpS P ops (Ab P ops B w0 fl Q) (Same B w0) m l a w->wpAny P .any ops (Ab P ops B w0 fl Q) fuel listed a w
 | 0,l,listed,a,w,hlen,hsz,hcl,hs,hm,_,h => by
   have hl0:l=[]:=List.eq_nil_of_length_eq_zero hlen
   subst hl0
   refine⟨?_,h⟩
   refine List.eq_nil_iff_forall_not_mem.2 fun j hj=>?_
   obtain⟨h0,o,ho,_⟩:=mem_ready.1 hj
   have hjl:j<ops.size:=(Array.getElem?_eq_some_iff.1 ho).1
   have:=(hm j).2 ⟨hjl,getD_both h0⟩
   cases this
 | fuel + 1,l,listed,a,w,hlen,hsz,hcl,hs,hm,hSl,h => by
   obtain⟨_,htop,QA,_⟩:=Jw hA
   have both:∀ x,x<ops.size->listed.getD x false=false->listed.getD x true=false:=fun x hx hf=>getD_in (by omega) hf
   refine⟨fun hr=>?_,fun i hi=>?_⟩
   ·exfalso
    cases l with
    | nil=>cases hlen
    | cons k l =>
      have hm0:=(hm k).1 (by simp)
      obtain⟨o,ho⟩:∃ o,ops[k]? = some o:=⟨_,Array.getElem?_eq_getElem hm0.1⟩
      have:k∈Region.ready .any ops listed:=mem_ready.2 ⟨both k hm0.1 hm0.2,o,ho,fun e he hb=>by
       have hlt:=htop k o ho e he hb
       cases hx:listed.getD e.on false with
       | true=>rfl
       | false =>
         have hin:=(hm e.on).2 ⟨by omega,hx⟩
         rcases List.mem_cons.1 hin with h1|h1
         ·omega
         ·have:=(List.pairwise_cons.1 hs).1 _ h1
          omega⟩
      rw[hr] at this
      cases this
   ·obtain⟨hun,oi,hoi,hall⟩:=mem_ready.1 hi
    have hil:i<ops.size:=(Array.getElem?_eq_some_iff.1 hoi).1
    have hin:i∈l:=(hm i).2 ⟨hil,getD_both hun⟩
    obtain⟨ks,rest,rfl⟩:=List.append_of_mem hin
    have hpw:=List.pairwise_append.1 hs
    have hks:∀ k∈ks,i<m/\Cv P ops fl k i=true:=fun k hk=>by
     have hki:k<i:=hpw.2.2 k hk i (by simp)
     rcases QA i k hil hki with hw|hp
     ·have:=CU hcl ops.size i k oi hoi hall hw
      have hk2:=((hm k).1 (by simp[hk])).2
      rw[hk2] at this
      cases this
     ·exact hp
    have hfr:wpS P ops (Ab P ops B w0 fl Q) (Same B w0) m (i::(ks++rest)) a w:=by
     cases ks with
     | nil=>exact h
     | cons k ks =>
       have him:=(hks k (by simp)).1
       exact jV hA him (k::ks) a w (hSl ⟨i,hin,him⟩) (fun x hx=>((hm x).1 hx).1) hs (fun x hx=>(hks x hx).2) h
    have hfr:wpOp P ops (Ab P ops B w0 fl Q) i (fun a' w' => (i<m->Same B w0 w')/\wpS P ops (Ab P ops B w0 fl Q) (Same B w0) m (ks++rest) a' w') a w:=hfr
    refine wpOp_mono (fun a' w' hh=>?_) hfr
    refine OU hA fuel (ks++rest) _ a' w' (by simp at hlen ⊢;omega) (by simp[hsz]) ?_ ?_ ?_ ?_ hh.2
    ·intro j o ho hl e he hb
     by_cases hij:i=j
     ·subst hij
      have:o=oi:=Option.some.inj (ho.symm.trans hoi)
      subst this
      exact getD_set_true (hall e he hb)
     ·refine getD_set_true (hcl j o ho ?_ e he hb)
      rw[getD_set_ne false (by exact hij)] at hl
      exact hl
    ·exact List.pairwise_append.2 ⟨hpw.1,(List.pairwise_cons.1 hpw.2.1).2,fun x hx y hy=>hpw.2.2 x hx y (by simp[hy])⟩
    ·intro x
     have hx:=hm x
     have hne:x∈ks++rest->i≠x:=by
      intro hxm e
      subst e
      rcases List.mem_append.1 hxm with h1|h1
      ·have:=hpw.2.2 i h1 i (by simp)
       omega
      ·have:=(List.pairwise_cons.1 hpw.2.1).1 i h1
       omega
     constructor
     ·intro hxm
      have h1:=hx.1 (by simp at hxm ⊢;rcases hxm with h|h<;>simp[h])
      exact⟨h1.1,by rw[getD_set_ne false (hne hxm)];exact h1.2⟩
     ·rintro⟨h1,h2⟩
      by_cases hix:i=x
      ·subst hix
       simp[hsz,h1] at h2
      ·rw[getD_set_ne false hix] at h2
       have:=hx.2 ⟨h1,h2⟩
       simp at this ⊢
       rcases this with h|h|h
       ·exact .inl h
       ·exact absurd h.symm hix
       ·exact .inr h
    ·rintro⟨x,hx,hxm⟩
     refine hh.1 ?_
     rcases List.mem_append.1 hx with h1|h1
     ·exact(hks x h1).1
     ·have:=(List.pairwise_cons.1 hpw.2.1).1 x h1
      omega
theorem zdg {S:World->Prop}(hS:∀ w,S w){m:Nat} : ∀ (l:List Nat) (a:Act) (w:World),wpOps P ops Q l a w->wpS P ops Q S m l a w
 | [],_,_,h=>h
 | i :: l,a,w,h => by
   rw[wpOps_cons] at h
   show wpOp P ops Q i (fun a' w' => (i<m->S w')/\wpS P ops Q S m l a' w') a w
   exact wpOp_mono (fun a' w' hh=>⟨fun _=>hS w',zdg hS l a' w' hh⟩) h
def Q7 (P:Program)(ops:Array Oper):Bool:=Lj P ops [] ops.size
theorem Li {l:List Oper}{a:Act}{w:World}(hA:Q7 P l.toArray=true)(h:wpList P l.toArray (Ends P l.toArray Q) l a w):
 wpAny P .any l.toArray (Ab P l.toArray (fun _=>False) w [] Q) l.toArray.size (Array.replicate l.toArray.size false) a w:=by
 refine OU hA l.toArray.size (List.range l.toArray.size) _ a _ (by simp) (by simp) ?_ List.pairwise_lt_range (fun x=>by
  constructor
  ·intro hx
   have:=List.mem_range.1 hx
   exact⟨this,by simp only[Array.getD_eq_getD_getElem?];simp at this ⊢;simp[this]⟩
  ·exact fun hx=>List.mem_range.2 hx.1) (fun _=>Same.refl _ _) ?_
 ·intro j o ho hl
  rw[getD_replicate_false] at hl
  cases hl
 ·refine zdg (fun _ _ hb=>hb.elim) _ _ _ (Cb (Q1:=Ends P l.toArray Q) (fun e a w he=>⟨he.1,he.2.1,trivial,he.2.2⟩) _ _ _ ?_)
  rw[List.range_eq_range',show l.toArray.size=l.length from by simp,wpOps_eq_wpList l 0 (by simp)]
  exact h
theorem Tk {id:Nat}{l:List Oper}{Q:Exit->Act->World->Prop}{a:Act}{w:World}(hm:P.follows .mixedOrders=true)(hA:Q7 P l.toArray=true)
 (h:wpList P l.toArray (Ends P l.toArray Q) l a w.drew):(Code.region id l.toArray true).wp P Q a w:=
 Code.wp_mono (fun e a' w' he=>by obtain⟨rfl,_,_,h⟩:=he;exact h) (wp_region_any hm (Li hA h))
def wild (P:Program)(ops:Array Oper)(i:Nat):Bool:=match ops[i]? with|some o=>kind P o != 0&&kind P o != 1&&kind P o != 2|none=>false
def wpC (P:Program)(ops:Array Oper)(Q:Exit->Act->World->Prop)(S:World->Prop)(m:Nat):List Nat->Act->World->Prop
 | []=>fun a w=>Q .normal a w
 | i::l=>fun a w=>wpOp P ops Q i (fun a' w' => (i<m->wild P ops i=true->S w')/\wpC P ops Q S m l a' w') a w
theorem Qf {S:World->Prop}{m:Nat} : ∀ (l:List Nat) (a:Act) (w:World),wpC P ops Q S m l a w->wpOps P ops Q l a w
 | [],_,_,h=>h
 | i :: l,a,w,h => by
   have h1:wpOp P ops Q i (fun a' w' => (i<m->wild P ops i=true->S w')/\wpC P ops Q S m l a' w') a w:=h
   rw[wpOps_cons]
   exact wpOp_mono (fun a' w' hh=>Qf l a' w' hh.2) h1
theorem upC {B:Nat->Prop}{w0:World}{fl:List Nat}{m:Nat}(hA:Lj P ops fl m=true):∀ (l:List Nat) (a:Act) (w:World),(∀ x∈l,x<ops.size)->l.Pairwise (· < ·)->((∃ x∈l,x<m)->Same B w0 w)->
 wpC P ops (Ab P ops B w0 fl Q) (Same B w0) m l a w->wpS P ops (Ab P ops B w0 fl Q) (Same B w0) m l a w
 | [],_,_,_,_,_,h=>h
 | i :: l,a,w,hl,hs,hS,h => by
   obtain⟨_,_,_,hkeep⟩:=Jw hA
   have h0:=Qf _ _ _ h
   have hs':=List.pairwise_cons.1 hs
   obtain⟨o,hi⟩:∃ o,ops[i]? = some o:=⟨_,Array.getElem?_eq_getElem (hl i (by simp))⟩
   have h:wpOp P ops (Ab P ops B w0 fl Q) i (fun a' w' => (i<m->wild P ops i=true->Same B w0 w')/\wpC P ops (Ab P ops B w0 fl Q) (Same B w0) m l a' w') a w:=h
   show wpOp P ops (Ab P ops B w0 fl Q) i (fun a' w' => (i<m->Same B w0 w')/\wpS P ops (Ab P ops B w0 fl Q) (Same B w0) m l a' w') a w
   have QE:∀ a' w',(i<m->Same B w0 w')->wpC P ops (Ab P ops B w0 fl Q) (Same B w0) m l a' w' -> wpS P ops (Ab P ops B w0 fl Q) (Same B w0) m l a' w':=fun a' w' hS' hh=>
    upC hA l a' w' (fun x hx=>hl x (by simp[hx])) hs'.2 (fun⟨x,hx,hxm⟩=>hS' (by have:=hs'.1 x hx;omega)) hh
   by_cases him:i<m
   ·have hSw:=hS ⟨i,by simp,him⟩
    by_cases hwd:wild P ops i=true
    ·exact wpOp_mono (fun a' w' hh=>⟨fun hm=>hh.1 hm hwd,QE a' w' (fun hm=>hh.1 hm hwd) hh.2⟩) h
    ·have hn : Region.wanted o (yielded ops a.tmps) = true → Mf P (execOp a.eval o) :=by
      simp only[wild,hi,Bool.and_eq_true,bne_iff_ne,ne_eq,not_and,Classical.not_not] at hwd
      intro hw
      by_cases h0k:kind P o=0
      ·have h0g:wpOps P ops (Ends P ops (fun _ a w=>allIn B w0 ops a fl/\Q .normal a w)) (i::l) a w:=Cb (fun e a w he=>Bu he) _ _ _ h0
       exact(Gd hl h0g hi h0k (fun hn x hx o' ho' t ht=>hkeep i o hi (.inl hn) x (by
        rcases List.mem_cons.1 hx with h|h
        ·omega
        ·have:=hs'.1 x h;omega) o' ho' t ht) hw).news
      ·by_cases h1k:kind P o=1
       ·exact(Cu h1k).news
       ·exact Gb (hwd ⟨h0k,h1k⟩)
     obtain⟨v,w',hy,hc,hh⟩:=Dn Ab.Bb hi hn h
     have XA : Same B w0 w':=hSw.more (hy.more hn)
     exact Yl.mk hi hy ⟨fun _=>XA,QE _ _ (fun _=>XA) hh⟩
   ·exact wpOp_mono (fun a' w' hh=>⟨fun hm=>absurd hm him,QE a' w' (fun hm=>absurd hm him) hh.2⟩) h
def Mid (S:World->Prop)(K:Act->World->Prop):Exit->Act->World->Prop:=fun e a w=>e=.normal/\S w/\K a w
theorem Mid.intro {S:World->Prop}{K:Act->World->Prop}{a:Act}{w:World}(hS:S w)(h:K a w):Mid S K .normal a w:=⟨rfl,hS,h⟩
theorem Mid.Bb {S:World->Prop}{K:Act->World->Prop} : CS (Mid S K):=fun _ _ _ he h=>he h.1
def Bp (P:Program)(ops:Array Oper)(Q:Exit->Act->World->Prop)(S:World->Prop):List Nat->List Oper->Act->World->Prop
 | [],l=>wpList P ops Q l
 | c::cs,l=>wpList P ops (Mid S (Bp P ops Q S cs (l.drop c))) (l.take c)
def zbD (P:Program)(ops:Array Oper)(m:Nat):List Nat->Nat->Nat->Bool
 | [],n,k=>(List.range n).all fun j=>decide (m<=k+j) || !wild P ops (k+j)
 | c::cs,n,k=>decide (0<c)&&decide (c<=n)&&((List.range (c-1)).all fun j=>decide (m<=k+j) || !wild P ops (k+j))&&zbD P ops m cs (n-c) (k+c)
theorem E9 {Q1 Q2:Exit->Act->World->Prop}(hQ:CS Q1){i:Nat}{K:Act->World->Prop}{a:Act}{w:World}(h:wpOp P ops Q1 i K a w):wpOp P ops Q2 i K a w:=by
 have h1:wpOp P ops (fun _ _ _=>False) i K a w:=by
  unfold wpOp at*
  split
  ·rename_i ho;simpa [ho] using h
  ·rename_i o ho
   simp only[ho] at h
   split
   ·rename_i hw
    simp only[hw,if_true] at h
    rcases h with h|h
    ·refine .inl ?_
     unfold Oper.wp at*
     generalize (execOp a.eval o).run P w=r at*
     cases r with
     | ok n w' =>
       cases n<;>simp only[Oper.upon] at h ⊢ <;> try exact h
       exact Calls.mono h fun e w'' he=>by
        cases e with
        | returned u=>exact he
        | panicked c=>exact hQ _ _ _ (by simp) he
        | outgrown=>exact absurd he hQ.out
     | halt x w' => cases x<;>simp only[Oper.upon] at h ⊢;exact hQ _ _ _ (by simp) h
    ·exact absurd h.2 hQ.out
   ·rename_i hw
    simp only[hw] at h
    exact h
 exact Us (fun _ _ _ h=>h.elim) h1
theorem Gh {o:Oper}{l:List Oper}{a:Act}{w:World}{k:Nat}(hk:ops[k]? = some o)(h:wpList P ops Q (o::l) a w):wpOp P ops Q k (wpList P ops Q l) a w:=by
 unfold wpOp
 simp only[hk]
 exact h
theorem QF {S:World->Prop}{m:Nat} : ∀ (l:List Oper) (k:Nat) (a:Act) (w:World),(∀ j,j<l.length->l[j]? = ops[k+j]?)->((List.range l.length).all fun j=>decide (m<=k+j) || !wild P ops (k+j))=true->
 wpList P ops Q l a w->wpC P ops Q S m (List.range' k l.length) a w
 | [],k,a,w,_,_,h=>h
 | o :: l,k,a,w,hl,hw,h => by
   have h0:ops[k]? = some o:=by simpa using (hl 0 (by simp)).symm
   rw[List.length_cons,List.range'_succ]
   have hh:=Gh h0 h
   simp only[List.all_eq_true,List.mem_range,List.length_cons] at hw
   show wpOp P ops Q k (fun a' w' => (k<m->wild P ops k=true->S w')/\wpC P ops Q S m (List.range' (k+1) l.length) a' w') a w
   refine wpOp_mono (fun a' w' h1=>⟨fun hkm hwd=>?_,QF l (k+1) a' w' (fun j hj=>?_) ?_ h1⟩) hh
   ·have:=hw 0 (by omega)
    simp only[Nat.add_zero,hwd,Bool.not_true,Bool.or_false,decide_eq_true_eq] at this
    omega
   ·have:=hl (j+1) (by simp;omega)
    simpa [Nat.add_assoc,Nat.add_comm 1 j] using this
   ·simp only[List.all_eq_true,List.mem_range]
    intro j hj
    have:=hw (j+1) (by omega)
    rwa [show k+(j+1)=k+1+j from by omega] at this
theorem XC {S:World->Prop}{m:Nat}{K:Act->World->Prop}{L:List Nat}(hK:∀ a w,K a w->wpC P ops Q S m L a w):∀ (l:List Oper) (k:Nat) (a:Act) (w:World),(∀ j,j<l.length->l[j]? = ops[k+j]?)->0<l.length->((List.range (l.length-1)).all fun j=>decide (m<=k+j) || !wild P ops (k+j))=true->
 wpList P ops (Mid S K) l a w->wpC P ops Q S m (List.range' k l.length++L) a w
 | [],k,a,w,_,h0,_,h=>by cases h0
 | o :: l,k,a,w,hl,_,hw,h => by
   have h0:ops[k]? = some o:=by simpa using (hl 0 (by simp)).symm
   have hh:=E9 (Q2:=Q) Mid.Bb (Gh h0 h)
   rw[List.length_cons,List.range'_succ,List.cons_append]
   simp only[List.all_eq_true,List.mem_range,List.length_cons,Nat.add_sub_cancel] at hw
   show wpOp P ops Q k (fun a' w' => (k<m->wild P ops k=true->S w')/\wpC P ops Q S m (List.range' (k+1) l.length++L) a' w') a w
   refine wpOp_mono (fun a' w' h1=>?_) hh
   cases l with
   | nil=>exact⟨fun _ _=>h1.2.1,hK _ _ h1.2.2⟩
   | cons o2 l =>
     refine⟨fun hkm hwd=>?_,XC hK (o2::l) (k+1) a' w' (fun j hj=>?_) (by simp) ?_ h1⟩
     ·have:=hw 0 (by simp)
      simp only[Nat.add_zero,hwd,Bool.not_true,Bool.or_false,decide_eq_true_eq] at this
      omega
     ·have:=hl (j+1) (by simp at hj ⊢;omega)
      simpa [Nat.add_assoc,Nat.add_comm 1 j] using this
     ·simp only[List.all_eq_true,List.mem_range,List.length_cons,Nat.add_sub_cancel]
      intro j hj
      have:=hw (j+1) (by simp;omega)
      rwa [show k+(j+1)=k+1+j from by omega] at this
theorem Km {S:World->Prop}{m:Nat} : ∀ (cs:List Nat) (l:List Oper) (k:Nat) (a:Act) (w:World),(∀ j,j<l.length->l[j]? = ops[k+j]?)->zbD P ops m cs l.length k=true->
 Bp P ops Q S cs l a w->wpC P ops Q S m (List.range' k l.length) a w
 | [],l,k,a,w,hl,hc,h=>QF l k a w hl hc h
 | c :: cs,l,k,a,w,hl,hc,h => by
   simp only[zbD,Bool.and_eq_true,decide_eq_true_eq] at hc
   obtain⟨⟨⟨h1,h2⟩,h3⟩,h4⟩:=hc
   have hlen:(l.take c).length=c:=by simp;omega
   have hr:List.range' k l.length=List.range' k (l.take c).length++List.range' (k+c) (l.drop c).length:=by
    rw[hlen,List.length_drop,List.range'_append_1,show c+(l.length-c)=l.length from by omega]
   rw[hr]
   refine XC (fun a' w' hk=>Km cs (l.drop c) (k+c) a' w' (fun j hj=>?_) (by rw[List.length_drop];exact h4) hk) (l.take c) k a w (fun j hj=>?_) (by omega) (by rw[hlen];exact h3) h
   ·rw[List.getElem?_drop,hl (c+j) (by simp at hj;omega),Nat.add_assoc]
   ·rw[List.getElem?_take,if_pos (by omega),hl j (by simp at hj;omega)]
theorem QG {id:Nat}{l:List Oper}{Q:Exit->Act->World->Prop}{a:Act}{w:World}(B:Nat->Prop)(fl:List Nat)(m:Nat)(cs:List Nat)(hm:P.follows .mixedOrders=true)(hA:Lj P l.toArray fl m=true)(hC:zbD P l.toArray m cs l.length 0=true)
 (h:Bp P l.toArray (Ab P l.toArray B w.drew fl Q) (Same B w.drew) cs l a w.drew):(Code.region id l.toArray true).wp P Q a w:=by
 refine Code.wp_mono (Q:=Ab P l.toArray B w.drew fl Q) (fun e a' w' he=>by obtain⟨rfl,_,_,h⟩:=he;exact h) (wp_region_any hm ?_)
 have hlt:∀ x∈List.range l.toArray.size,x<l.toArray.size:=fun x hx=>List.mem_range.1 hx
 refine OU hA l.toArray.size (List.range l.toArray.size) _ a _ (by simp) (by simp) ?_ List.pairwise_lt_range (fun x=>by
  constructor
  ·intro hx
   have:=List.mem_range.1 hx
   exact⟨this,by simp only[Array.getD_eq_getD_getElem?];simp at this ⊢;simp[this]⟩
  ·exact fun hx=>List.mem_range.2 hx.1) (fun _=>Same.refl _ _) ?_
 ·intro j o ho hl
  rw[getD_replicate_false] at hl
  cases hl
 ·refine upC hA _ _ _ hlt List.pairwise_lt_range (fun _=>Same.refl _ _) ?_
  rw[List.range_eq_range',show l.toArray.size=l.length from by simp]
  exact Km cs l 0 a _ (by simp) hC h
end
end Lex
section
open Go
theorem Lex.zl{P:Program}{id:Nat}{l:List Oper}{Q:Exit->Act->World->Prop}{a:Act}{w:World}(h:wpList P l.toArray (Lex.Ends P l.toArray Q) l a w.drew)(hm:P.follows .mixedOrders=true:=by kernel_rfl)(hA:Lex.Q7 P l.toArray=true:=by kernel_rfl):(Code.region id l.toArray true).wp P Q a w:=Lex.Tk hm hA h
theorem Lex.ze{P:Program}{ops:Array Oper}{Q:Exit->Act->World->Prop}{a:Act}{w:World}(h:Q .normal a w)(hg:Lex.Gc P ops a=true:=by kernel_rfl):Lex.Ends P ops Q .normal a w:=Lex.Ends.intro hg h
theorem Lex.zk{P:Program}{ops:Array Oper}{Q:Exit->Act->World->Prop}{B:Nat->Prop}{w0:World}{fl:List Nat}{a:Act}{w:World}(hi:Lex.allIn B w0 ops a fl)(h:Q .normal a w)(hg:Lex.Gc P ops a=true:=by kernel_rfl):Lex.Ab P ops B w0 fl Q .normal a w:=Lex.Ab.intro hg hi h
theorem Lex.zn{P:Program}{id:Nat}{l:List Oper}{Q:Exit->Act->World->Prop}{a:Act}{w:World}(B:Nat->Prop)(fl:List Nat)(m:Nat)(cs:List Nat)(h:Lex.Bp P l.toArray (Lex.Ab P l.toArray B w.drew fl Q) (Lex.Same B w.drew) cs l a w.drew)(hm:P.follows .mixedOrders=true:=by kernel_rfl)(hA:Lex.Lj P l.toArray fl m=true:=by kernel_rfl)(hC:Lex.zbD P l.toArray m cs l.length 0=true:=by kernel_rfl):(Code.region id l.toArray true).wp P Q a w:=Lex.QG B fl m cs hm hA hC h
end
end
section
open Go Go.RowKit
theorem Gv:(Tryz.prog.info? 276).map (·.size)=some 64:=by kernel_rfl
theorem XD:(Tryz.prog.info? 276).map (·.zero)=some (some (.agg (Sha.row (List.replicate 64 0)))):=by kernel_rfl
theorem fE (w:World):
 Calls Tryz.prog 274 #[] w fun e w' => e=.returned (.agg (Sha.row Sha.K))/\Below w.heap.size w w':=by
 go_enter Tryz.func274,Tryz.ntmps274
 go_upto_region 1 with (fail)
 refine wp_region_lit ?_
 refine Ju (.agg (Sha.row Sha.K)) rfl (by kernel_rfl) ?_
 refine wpList_store_row rfl _ _ _ rfl w.heap.size _ _ (Sha.row Sha.K) (by rfl) (by rfl) (At.new _ _ _) (by rfl) Gv (Sha.row_one _) ?_
 rw[Me]
 generalize hcs:Sha.row Sha.K=cs
 have HC:=zh hcs;clear hcs
 go_wp2
 refine bodyPost_ret (results_cell_row (by rfl) _ _ w.heap.size _ cs _ _ (by rfl) (At.new _ _ _) Tryz.underlying276 rfl (by rw[<- HC.out];exact Gv)) rfl ?_
 exact⟨by rw[HC.out],zb⟩
theorem fG (s:ByteArray)(w:World)(hs:s.size=64):
 Calls Tryz.prog 273 #[.string s] w fun e w' => e=.returned (.agg (Sha.row (Sha.sched s 64)))/\Below w.heap.size w w':=by
 go_enter Tryz.func273,Tryz.ntmps273
 go_upto_region 4 with (fail)
 go_loopw [7] (fun i wr=>∃ k:Nat,k<=64/\i=.int .i64 k/\At wr (w.heap.size+1) 276 (Sha.row (Sha.lay (Sha.sched s k)))/\At wr w.heap.size 276 (Sha.row (Sha.lay []))/\Below w.heap.size w wr)
  (fun i _=>64-(intOf i).toNat)
 case atStart=>
  refine⟨0,by omega,rfl,heap_alloc2_new w _ _,heap_alloc2_old w _ _,zb.alloc (by simp) _⟩
 case round=>
  obtain⟨k,hk,rfl,h1,h2,hb⟩:=hrel
  have H1:=zh h1;clear h1
  have H2:=zh h2;clear h2
  by_cases hlt:k<16
  ·have d64:decide ((k:Int)<64)=true:=by simp;omega
   have d16:decide ((k:Int)<16)=true:=by simp;omega
   go_wp2
   go_loopw [12] (fun i wr2=>∃ m:Nat,m<=4/\i=.int .i64 m/\At wr2 (w.heap.size+1) 276 (Sha.row (Sha.lay (Sha.sched s k++[Sha.acc s k m])))/\At wr2 w.heap.size 276 (Sha.row (Sha.lay []))/\Below w.heap.size w wr2)
    (fun i _=>4-(intOf i).toNat)
   case atStart=>
    exact⟨0,by omega,rfl,by rw[Sha.acc,Sha.jI _ (by rw[Sha.AY];omega)];exact H1.out,H2.out,hb⟩
   case round=>
    obtain⟨m,hm,rfl,h1,h2,hb2⟩:=hrel
    by_cases zbg:m<4
    ·have hcl : wr.cell? ⟨w.heap.size + 1,k,none⟩ = some (.int .u32 (Sha.acc s k m)) :=by
      rw[h1.cell]
      have:=Sha.rO (Sha.sched s k) (Sha.acc s k m) (by rw[Sha.AY];omega)
      rw[Sha.AY] at this
      exact this
     have hfr:wr.frozen? ⟨w.heap.size+1,k,none⟩=false:=h1.free k
     have hb0:(4*k+m:Int)<s.size:=by omega
     have ab:=Sha.jK s k m
     have H1':=zh h1;clear h1
     have H2':=zh h2;clear h2
     go_wp2
     refine Lex.zl ?_
     go_wp2
     refine Lex.ze ?_
     go_wp2
     have hacc:=Sha.jJ s k m (by omega)
     have h1:=((H1'.out.set k (.int .u32 (Sha.acc s k (m+1)))))
     rw[Sha.Qe] at h1
     have hss:=Sha.Vp (Sha.sched s k) (Sha.acc s k m) (Sha.acc s k (m+1)) (by rw[Sha.AY];omega)
     rw[Sha.AY] at hss
     rw[hss,hacc] at h1
     have HA:=zh hacc;clear hacc hss
     go_roundw
     case rel=>exact⟨m+1,by omega,by go_num,by rw[HA.out];exact h1,(H2'.out.far (p:=⟨w.heap.size+1,k,none⟩) (by simp) _).drew,(hb2.setCell (p:=⟨w.heap.size+1,k,none⟩) (by simp) _).drew⟩
     case measure=>simp[intOf];omega
    ·obtain rfl:m=4:=by omega
     have H1':=zh h1;clear h1
     have H2':=zh h2;clear h2
     go_wp2
     go_roundw
     case rel=>
      refine⟨k+1,by omega,by go_num,?_,H2'.out,hb2⟩
      have:=H1'.out
      rw[Sha.sched,Sha.step,Sha.AY,if_pos hlt]
      exact this
     case measure=>simp[intOf];omega
  ·by_cases hlt2:k<64
   ·have d64:decide ((k:Int)<64)=true:=by simp;omega
    have d16:decide ((k:Int)<16)=false:=by simp;omega
    have h1:=H1.out
    have cell:∀ j,j<k->wr.cell? ⟨w.heap.size+1,j,none⟩=some (.int .u32 ((Sha.sched s k).getD j 0)):=fun j hj=>by
     rw[h1.cell];exact Sha.nW _ j (by rw[Sha.AY];exact hj)
    have c2:=cell (k-2) (by omega)
    have c7:=cell (k-7) (by omega)
    have c15:=cell (k-15) (by omega)
    have c16:=cell (k-16) (by omega)
    have b2:=Sha.Dz s k (k-2)
    have b7:=Sha.Dz s k (k-7)
    have b15:=Sha.Dz s k (k-15)
    have b16:=Sha.Dz s k (k-16)
    have hfr:wr.frozen? ⟨w.heap.size+1,k,none⟩=false:=h1.free k
    have ck:∃ u,wr.cell? ⟨w.heap.size+1,k,none⟩=some u:=by
     have hlen:=Sha.nU (Sha.sched s k) (by rw[Sha.AY];omega)
     rw[h1.cell,Sha.FZ,List.getElem?_eq_getElem (by omega)];exact⟨_,rfl⟩
    obtain⟨uk,ck⟩:=ck
    have hnx:Sha.nxt (Sha.sched s k)=(Sha.ss ((Sha.sched s k).getD (k-2) 0) 15 13 10+(Sha.sched s k).getD (k-7) 0+Sha.ss ((Sha.sched s k).getD (k-15) 0) 25 14 3+(Sha.sched s k).getD (k-16) 0)%4294967296:=by
     simp only[Sha.nxt,Sha.AY]
    clear cell h1
    generalize (Sha.sched s k).getD (k-2) 0=x2 at*
    generalize (Sha.sched s k).getD (k-7) 0=x7 at*
    generalize (Sha.sched s k).getD (k-15) 0=x15 at*
    generalize (Sha.sched s k).getD (k-16) 0=x16 at*
    have HNX:=zh hnx;clear hnx
    go_wp2
    refine Lex.zn (fun _=>True) [10,16,22] 24 [7,11] ?_
    simp only[Lex.Bp,zd]
    go_wp2_with fail
    refine(Xm x2 17 19 10 15 13 _ (by kernel_rfl) (by omega) (by omega) (by kernel_rfl) (by omega) (by omega) (by omega) (by omega) (by omega) (by omega) (by omega) (by omega) b2.1 b2.2).mono ?_
    rintro e w1 ⟨rfl,n1,rfl⟩
    go_wp2
    refine Lex.Mid.intro (fun b _ _=>rfl) ?_
    go_wp2_with fail
    refine(Xm x15 7 18 3 25 14 _ (by kernel_rfl) (by omega) (by omega) (by kernel_rfl) (by omega) (by omega) (by omega) (by omega) (by omega) (by omega) (by omega) (by omega) b15.1 b15.2).mono ?_
    rintro e w1 ⟨rfl,n2,rfl⟩
    go_wp2
    refine Lex.Mid.intro (fun b _ _=>rfl) ?_
    go_wp2
    refine Lex.zk ?_ ?_
    ·refine⟨⟨trivial,?_⟩,⟨trivial,?_⟩,⟨trivial,?_⟩,trivial⟩
     ·show(wr.cell? ⟨w.heap.size+1,k-7,none⟩).isSome=true
      rw[c7];rfl
     ·show(wr.cell? ⟨w.heap.size+1,k-15,none⟩).isSome=true
      rw[c15];rfl
     ·show(wr.cell? ⟨w.heap.size+1,k-16,none⟩).isSome=true
      rw[c16];rfl
    go_wp2
    go_roundw
    case rel=>
     have h1:=((H1.out.drewN (1+n1+n2)).set k (.int .u32 (Sha.nxt (Sha.sched s k))))
     have hls:=Sha.nV (Sha.sched s k) (Sha.nxt (Sha.sched s k)) (by rw[Sha.AY];omega)
     rw[Sha.AY] at hls
     rw[Sha.Qe,hls,HNX.out] at h1
     refine⟨k+1,by omega,by go_num,?_,(H2.out.drewN (1+n1+n2)).far (p:=⟨w.heap.size+1,k,none⟩) (by simp) _,(below_drewN hb _).setCell (p:=⟨w.heap.size+1,k,none⟩) (by simp) _⟩
     rw[Sha.sched,Sha.step,Sha.AY,if_neg hlt,HNX.out]
     exact h1
    case measure=>simp[intOf];omega
   ·obtain rfl:k=64:=by omega
    have hz:Sha.lay (Sha.sched s 64)=Sha.sched s 64:=by simp[Sha.lay,Sha.AY]
    rw[hz] at H1
    have hsz:(Sha.row (Sha.sched s 64)).size=64:=by rw[Sha.BS,Sha.AY]
    have hsz0:(Sha.row (Sha.lay [])).size=64:=by rw[Sha.BS];rfl
    have hone:=Sha.row_one (Sha.sched s 64)
    have hb':=hb.size
    generalize hcs:Sha.row (Sha.sched s 64)=cs at*
    have HC:=zh hcs;clear hcs
    generalize Sha.row (Sha.lay [])=z at*
    have HZ:=zh hz;clear hz
    go_upto_region 14 with (fail)
    refine wp_region_lit ?_
    refine wpList_load_row rfl _ _ rfl (w.heap.size+1) (by rfl) _ cs _ _ H1.out Tryz.underlying276 rfl (by rw[hsz];exact Gv) ?_
    refine wpList_store_row rfl _ _ _ rfl w.heap.size _ z cs (by rfl) (by rfl) H2.out (by rw[hsz,hsz0]) (by rw[hsz];exact Gv) hone ?_
    go_wp2
    refine bodyPost_ret (v:=.agg cs) ?_ rfl ?_
    ·refine results_cell_row (p:=2) (by rfl) _ _ w.heap.size _ cs _ _ ?_ (H2.out.setRow cs) Tryz.underlying276 rfl (by rw[hsz];exact Gv)
     rfl
    ·exact⟨by rw[HC.out],hb.setRow (Nat.le_refl _) _⟩
def hash (v:List Int)(r:ByteArray)(t:Int):Array Value:=Sha.row v++#[.string r,.int .u64 t]
theorem QI (x0 x1 x2 x3 x4 x5 x6 x7:Int)(r:ByteArray)(t:Int):hash [x0,x1,x2,x3,x4,x5,x6,x7] r t=#[.int .u32 x0,.int .u32 x1,.int .u32 x2,.int .u32 x3,.int .u32 x4,.int .u32 x5,.int .u32 x6,.int .u32 x7,.string r,.int .u64 t]:=by
 simp[hash,Sha.row]
theorem jW (v:List Int)(r:ByteArray)(t:Int)(k:Nat)(h:k<v.length):(hash v r t)[k]? = some (.int .u32 (v.getD k 0)):=by
 unfold hash
 rw[Array.getElem?_append_left (by rw[Sha.BS];exact h),Sha.FZ,List.getElem?_eq_getElem h,List.getD_eq_getElem?_getD,List.getElem?_eq_getElem h]
 rfl
theorem jX (v:List Int)(r:ByteArray)(t:Int)(k:Nat)(u:Int)(h:k<v.length):(hash v r t).setIfInBounds k (.int .u32 u)=hash (v.set k u) r t:=by
 unfold hash
 rw[Array.setIfInBounds_append_left (by rw[Sha.BS];exact h),Sha.Qe]
theorem At.setW {w:World}{b:Nat}{t:TypeId}{l:List Int}(h:At w b t (Sha.row l))(i:Nat)(u:Int):At (w.setCell ⟨b,i,none⟩ (.int .u32 u)) b t (Sha.row (l.set i u)):=by
 rw[<- Sha.Qe];exact h.set i _
theorem nZ (b:Nat)(v:List Int)(r:ByteArray)(t:Int)(s:ByteArray)(w:World)(hs:s.size=64)(hv:Sha.Word v)(hh:At w b 269 (hash v r t)):
 Calls Tryz.prog 265 #[.pointer (some ⟨b,0,none⟩),.string s] w fun e w' => e=.returned (.tuple #[])/\At w' b 269 (hash (Sha.block v s) r t)/\Fr (fun k=>k=b) w w':=by
 have hv0:=hv
 obtain⟨x0,x1,x2,x3,x4,x5,x6,x7,rfl,b0,b1,b2,b3,b4,b5,b6,b7⟩:=hv.lit
 have hlt:=hh.lt
 go_enter Tryz.func265,Tryz.ntmps265
 go_wp2_with fail
 refine(fG s _ hs).mono ?_
 rintro e w1 ⟨rfl,hb1⟩
 go_wp2_with fail
 refine(fE _).mono ?_
 rintro e w2 ⟨rfl,hb2⟩
 dsimp only
 refine ‹∀ (a:Act) (w:World),wpList _ _ _ _ a w->_› _ _ ?_
 have hsz1:=hb1.size
 have hsz2:=hb2.size
 have h2:At w2 b 269 (hash [x0,x1,x2,x3,x4,x5,x6,x7] r t):=(hh.below hb1 hlt).below hb2 (by omega)
 refine Ey rfl 276 rfl (Sha.row (List.replicate 64 0)) XD ?_
 refine Ey rfl 276 rfl (Sha.row (List.replicate 64 0)) XD ?_
 generalize hZ:Sha.row (List.replicate 64 0)=Z
 have hZs:Z.size=64:=by rw[<- hZ];rfl
 clear hZ
 have e5:At ((w2.alloc (.cells Z 276)).alloc (.cells Z 276)) w2.heap.size 276 Z:=heap_alloc2_old w2 _ _
 have e6:At ((w2.alloc (.cells Z 276)).alloc (.cells Z 276)) (w2.heap.size+1) 276 Z:=heap_alloc2_new w2 _ _
 have eb:=(h2.alloc (.cells Z 276)).alloc (.cells Z 276)
 have bb:Below w2.heap.size w2 ((w2.alloc (.cells Z 276)).alloc (.cells Z 276)):=zb.alloc (by simp) _
 obtain⟨w3,hw3⟩:∃ x,x=(w2.alloc (.cells Z 276)).alloc (.cells Z 276):=⟨_,rfl⟩
 rw[<- hw3] at e5 e6 eb bb ⊢
 refine wpList_store_row rfl _ _ _ rfl w2.heap.size _ Z (Sha.row (Sha.sched s 64)) (by rfl) (by rfl) e5 (by rw[hZs,Sha.BS,Sha.AY]) (by rw[Sha.BS,Sha.AY];exact Gv) (Sha.row_one _) ?_
 refine wpList_store_row rfl _ _ _ rfl (w2.heap.size+1) _ Z (Sha.row Sha.K) (by show Value.pointer (some ⟨(w2.alloc (.cells Z 276)).heap.size,0,none⟩)=_;rw[World.size_alloc]) (by rfl) (e6.Gq (by omega) _) (by rw[hZs,Sha.BS,Sha.jH]) (by rw[Sha.BS,Sha.jH];exact Gv) (Sha.row_one _) ?_
 have f5:At ((w3.setRow w2.heap.size (Sha.row (Sha.sched s 64))).setRow (w2.heap.size+1) (Sha.row Sha.K)) w2.heap.size 276 (Sha.row (Sha.sched s 64)):=(e5.setRow _).Gq (by omega) _
 have f6:At ((w3.setRow w2.heap.size (Sha.row (Sha.sched s 64))).setRow (w2.heap.size+1) (Sha.row Sha.K)) (w2.heap.size+1) 276 (Sha.row Sha.K):=(e6.Gq (by omega) _).setRow _
 have fb:=(eb.Gq (g:=w2.heap.size) (by omega) (Sha.row (Sha.sched s 64))).Gq (g:=w2.heap.size+1) (by omega) (Sha.row Sha.K)
 have ff:Below w.heap.size w ((w3.setRow w2.heap.size (Sha.row (Sha.sched s 64))).setRow (w2.heap.size+1) (Sha.row Sha.K)):=
  (((hb1.trans (hb2.mono (by omega))).trans (bb.mono (by omega))).setRow (by omega) _).setRow (by omega) _
 have hsz:((w3.setRow w2.heap.size (Sha.row (Sha.sched s 64))).setRow (w2.heap.size+1) (Sha.row Sha.K)).heap.size=w2.heap.size+2:=by
  rw[size_setRow,size_setRow,hw3];simp
 generalize (w3.setRow w2.heap.size (Sha.row (Sha.sched s 64))).setRow (w2.heap.size+1) (Sha.row Sha.K)=w4 at*
 obtain⟨n,hn⟩:∃ n,n=w2.heap.size:=⟨_,rfl⟩
 have hwn:(w2.alloc (.cells Z 276)).heap.size=n+1:=by rw[World.size_alloc,hn]
 rw[hwn,<- hn]
 rw[<- hn] at f5 f6 hsz
 rw[QI] at fb
 have c0:=fb.cell 0;have c1:=fb.cell 1;have c2:=fb.cell 2;have c3:=fb.cell 3;have c4:=fb.cell 4;have c5:=fb.cell 5;have c6:=fb.cell 6;have c7:=fb.cell 7
 simp only[zg] at c0 c1 c2 c3 c4 c5 c6 c7
 have hbn:b<n:=by omega
 have F5:=zh f5;have F6:=zh f6;have FB:=zh fb;have HSZ:=zh hsz
 have hsz' : n+2<=w4.heap.size:=by omega
 clear f5 f6 fb hsz hw3 hwn bb eb e5 e6 h2 hh hZs hn
 go_wp2
 go_loopw [26] (fun i wr=>∃ k:Nat,k<=64/\i=.int .i64 k/\At wr w4.heap.size 267 (Sha.row (Sha.rounds (Sha.sched s 64) [x0,x1,x2,x3,x4,x5,x6,x7] k))/\Below w4.heap.size w4 wr)
  (fun i _=>64-(intOf i).toNat)
 case atStart=>
  refine⟨0,by omega,rfl,?_,zb⟩
  simp only[Sha.rounds,Sha.row,List.map_cons,List.map_nil]
  exact At.new _ _ _
 case round=>
  obtain⟨k,hk,rfl,hw,hbr⟩:=hrel
  have hwd:=hv.rounds (Sha.sched s 64) k
  have hlr:=hw.lt
  by_cases jY:k<64
  ·have hstep:Sha.rounds (Sha.sched s 64) [x0,x1,x2,x3,x4,x5,x6,x7] (k+1)=Sha.rnd (Sha.rounds (Sha.sched s 64) [x0,x1,x2,x3,x4,x5,x6,x7] k) (Sha.K.getD k 0) ((Sha.sched s 64).getD k 0):=rfl
   have HST:=zh hstep;clear hstep
   generalize Sha.rounds (Sha.sched s 64) [x0,x1,x2,x3,x4,x5,x6,x7] k=v at*
   obtain⟨y0,y1,y2,y3,y4,y5,y6,y7,rfl,d0,d1,d2,d3,d4,d5,d6,d7⟩:=hwd.lit
   have k5:=(F5.out.below hbr (by omega)).cell k
   have k6:=(F6.out.below hbr (by omega)).cell k
   rw[Sha.Xk s k jY] at k5
   rw[Sha.qG k jY] at k6
   generalize (Sha.sched s 64).getD k 0=W at*
   generalize Sha.K.getD k 0=KK at*
   have HW:=zh hw
   simp only[Sha.row,List.map_cons,List.map_nil] at hw
   have v0:=hw.cell 0;have v1:=hw.cell 1;have v2:=hw.cell 2;have v3:=hw.cell 3;have v4:=hw.cell 4;have v5:=hw.cell 5;have v6:=hw.cell 6;have v7:=hw.cell 7
   simp only[zg] at v0 v1 v2 v3 v4 v5 v6 v7
   have fz:∀ i,wr.frozen? ⟨w4.heap.size,i,none⟩=false:=fun i=>hw.free i
   have z0:=fz 0;have z1:=fz 1;have z2:=fz 2;have z3:=fz 3;have z4:=fz 4;have z5:=fz 5;have z6:=fz 6;have z7:=fz 7
   clear hw fz
   have zR:=zh hbr;clear hbr hwd
   have dk:decide ((k:Int)<64)=true:=by simp;omega
   go_wp2
   refine Lex.zl ?_
   go_wp2
   refine Lex.ze ?_
   go_wp2
   refine Lex.zn (fun _=>True) [1,17,21] 22 [5] ?_
   simp only[Lex.Bp,zd]
   go_wp2_with fail
   refine(Xl y4 6 11 25 26 21 7 _ (by kernel_rfl) (by omega) (by omega) (by kernel_rfl) (by omega) (by omega) (by kernel_rfl) (by omega) (by omega) (by omega) (by omega) (by omega) (by omega) (by omega) (by omega) d4.1 d4.2).mono ?_
   rintro e w5 ⟨rfl,rfl⟩
   go_wp2
   refine Lex.Mid.intro (fun b _ _=>rfl) ?_
   go_wp2
   refine Lex.zk ?_ ?_
   ·refine⟨⟨trivial,?_⟩,⟨trivial,?_⟩,⟨trivial,?_⟩,trivial⟩
    ·show(wr.cell? ⟨w4.heap.size,7,none⟩).isSome=true
     rw[v7];rfl
    ·show(wr.cell? ⟨n+1,k,none⟩).isSome=true
     rw[k6];rfl
    ·show(wr.cell? ⟨n,k,none⟩).isSome=true
     rw[k5];rfl
   go_wp2_with fail
   refine(Xl y0 2 13 22 30 19 10 _ (by kernel_rfl) (by omega) (by omega) (by kernel_rfl) (by omega) (by omega) (by kernel_rfl) (by omega) (by omega) (by omega) (by omega) (by omega) (by omega) (by omega) (by omega) d0.1 d0.2).mono ?_
   rintro e w5 ⟨rfl,rfl⟩
   go_wp2
   go_roundw
   case rel=>
    refine⟨k+1,by omega,by go_num,?_,?_⟩
    ·rw[HST.out,Sha.nX]
     exact(((((((((At.setW HW.out 0 _).setW 1 _).setW 2 _).setW 3 _).setW 4 _).setW 5 _).setW 6 _).setW 7 _).drew).drew
    ·exact(Below.drew (Below.drew ((((((((zR.out.setCell (p:=⟨w4.heap.size,0,none⟩) (Nat.le_refl _) _).setCell (p:=⟨w4.heap.size,1,none⟩) (Nat.le_refl _) _).setCell (p:=⟨w4.heap.size,2,none⟩) (Nat.le_refl _) _).setCell (p:=⟨w4.heap.size,3,none⟩) (Nat.le_refl _) _).setCell (p:=⟨w4.heap.size,4,none⟩) (Nat.le_refl _) _).setCell (p:=⟨w4.heap.size,5,none⟩) (Nat.le_refl _) _).setCell (p:=⟨w4.heap.size,6,none⟩) (Nat.le_refl _) _).setCell (p:=⟨w4.heap.size,7,none⟩) (Nat.le_refl _) _)))
   case measure=>simp[intOf];omega
  ·have hk' : k=64:=by omega
   have HK:=zh hk';clear hk'
   have dk:decide ((k:Int)<64)=false:=by simp;omega
   have hwz:=hwd
   obtain⟨z0,z1,z2,z3,z4,z5,z6,z7,hz,d0,d1,d2,d3,d4,d5,d6,d7⟩:=hwd.lit
   rw[hz] at hw hwz
   simp only[Sha.row,List.map_cons,List.map_nil] at hw
   have v0:=hw.cell 0;have v1:=hw.cell 1;have v2:=hw.cell 2;have v3:=hw.cell 3;have v4:=hw.cell 4;have v5:=hw.cell 5;have v6:=hw.cell 6;have v7:=hw.cell 7
   simp only[zg] at v0 v1 v2 v3 v4 v5 v6 v7
   have hff:=ff.size
   have fb:=FB.out.below hbr (by omega)
   have ffr:=ff.trans (hbr.mono (by omega))
   clear hw hwd c0 c1 c2 c3 c4 c5 c6 c7 hbr F5 F6 FB
   have HZ:=zh hz;clear hz
   rw[<- QI] at fb
   have FB:=zh fb;clear fb
   have FF:=zh ffr;clear ffr ff
   go_wp2_with fail
   have hl:([z0,z1,z2,z3,z4,z5,z6,z7]:List Int).length=8:=rfl
   have hlx:([x0,x1,x2,x3,x4,x5,x6,x7]:List Int).length=8:=rfl
   have hzz:(#[.int .u32 z0,.int .u32 z1,.int .u32 z2,.int .u32 z3,.int .u32 z4,.int .u32 z5,.int .u32 z6,.int .u32 z7]:Array Value)=Sha.row [z0,z1,z2,z3,z4,z5,z6,z7]:=rfl
   rw[hzz]
   generalize [z0,z1,z2,z3,z4,z5,z6,z7]=zs at*
   obtain⟨xs,hxs⟩:∃ xs,xs=[x0,x1,x2,x3,x4,x5,x6,x7]:=⟨_,rfl⟩
   rw[<- hxs] at hv hv0 FB hlx HZ
   have HXS:=zh hxs;clear hxs
   clear hzz
   go_loopw [95] (fun i wr2=>∃ k:Nat,k<=8/\i=.int .i64 k/\At wr2 b 269 (hash (Sha.part xs zs k) r t)/\Fr (fun k=>k=b) w wr2)
    (fun i _=>8-(intOf i).toNat)
   case atStart=>
    exact⟨0,by omega,rfl,by rw[Sha.fu];exact FB.out,Fr.of_below FF.out⟩
   case round=>
    obtain⟨k,hk,rfl,hw,hbr⟩:=hrel
    by_cases hk8:k<8
    ·have dk8:decide ((k:Int)<8)=true:=by simp;omega
     have hpl:=Sha.Jr xs zs hlx hl k hk
     have gk:=hw.cell k
     rw[jW _ _ _ _ (by omega),Sha.jL xs zs hlx hl k hk8] at gk
     have fz:wr.frozen? ⟨b,k,none⟩=false:=hw.free k
     have rk:(Sha.row zs)[k]? = some (.int .u32 (zs.getD k 0)):=by
      rw[Sha.FZ,List.getElem?_eq_getElem (by omega),List.getD_eq_getElem?_getD,List.getElem?_eq_getElem (by omega)]
      rfl
     have HW:=zh hw;clear hw
     have HB:=zh hbr;clear hbr
     have HPL:=zh hpl;clear hpl
     have hlz:=hl
     go_wp2_with fail
     rw[Gp 267 230 8 (Sha.row zs) .i64 k _ _ rfl hk8 rk Tryz.sizeOf230 Tryz.isAgg230]
     go_wp2
     refine Lex.zl ?_
     go_wp2
     refine Lex.ze ?_
     have hA:∀ x:Int,x=(xs.getD k 0+zs.getD k 0)%4294967296->At (wr.setCell ⟨b,k,none⟩ (.int .u32 x)) b 269 (hash (Sha.part xs zs (k+1)) r t):=by
      intro x hx
      rw[<- Sha.fA xs zs hlx hl k hk8,<- hx,<- jX _ _ _ _ _ (by rw[HPL.out];exact hk8)]
      exact HW.out.set k _
     have HA:=zh hA;clear hA
     go_wp2
     go_roundw
     case rel=>
      refine⟨k+1,by omega,by go_num,(HA.out _ ?_).drew,(HB.out.setCell (p:=⟨b,k,none⟩) (Or.inl rfl) _).drew⟩
      simp[List.getD_eq_getElem?_getD,hl,hlx,hk8]
     case measure=>simp[intOf];omega
    ·obtain rfl:k=8:=by omega
     have HW:=zh hw;clear hw
     have HB:=zh hbr;clear hbr
     go_wp2
     go_end0
     refine⟨rfl,?_,HB.out⟩
     have h:=HW.out
     rw[Sha.jM xs zs hlx] at h
     have hz':=HZ.out
     rw[HK.out] at hz'
     rw[<- HXS.out,Sha.block,hz']
     exact h
end
end Go.Proofs.YtjlmglgmcekmhaaGreatDoor
namespace Go.Proofs
open Go.Shelf
def Tryz.lays169_ren:Go.Shelf.Ren:=⟨fun|169=>119|n=>n,fun|70=>140|9=>9|0=>0|72=>142|37=>66|127=>190|3=>3|5=>5|n=>n,fun|n=>n⟩
theorem Tryz.lays169:Go.Proofs.Lays.n169 Tryz.prog Tryz.lays169_ren :={
 mixed:=by kernel_rfl
 f169:=Tryz.func119.trans (congrArg some (by kernel_rfl))
 t0:=Tryz.underlying0
 a0:=Tryz.isAgg0
 z0:=Tryz.sizeOf0
 v0:=Tryz.zeroValue0
 t3:=Tryz.underlying3
 a3:=Tryz.isAgg3
 z3:=Tryz.sizeOf3
 v3:=Tryz.zeroValue3
 t9:=Tryz.underlying9
 a9:=Tryz.isAgg9
 z9:=Tryz.sizeOf9
 v9:=Tryz.zeroValue9
 t37:=Tryz.underlying66
 a37:=Tryz.isAgg66
 z37:=Tryz.sizeOf66
 v37:=Tryz.zeroValue66
 t70:=Tryz.underlying140
 a70:=Tryz.isAgg140
 z70:=Tryz.sizeOf140
 v70:=Tryz.zeroValue140
 t72:=Tryz.underlying142
 a72:=Tryz.isAgg142
 z72:=Tryz.sizeOf142
 v72:=Tryz.zeroValue142
 t127:=Tryz.underlying190
 a127:=Tryz.isAgg190
 z127:=Tryz.sizeOf190
 v127:=Tryz.zeroValue190 }
theorem Tryz.Builder_Extra_169:Builder.Extra Tryz.prog Tryz.lays169_ren :={
 sizeBuilder:=by kernel_rfl
 liesBuilder:=by kernel_rfl
 t5:=Tryz.underlying5
 a5:=Tryz.isAgg5
 z5:=Tryz.sizeOf5
 v5:=Tryz.zeroValue5
 infoByte:=by kernel_rfl
 cellsByte:=by kernel_rfl
 sizeByte:=by kernel_rfl
 neB5:=by decide }
def Tryz.lays156_ren:Go.Shelf.Ren:=⟨fun|156=>249|165=>188|166=>118|169=>119|240=>167|241=>225|276=>200|277=>251|n=>n,fun|31=>68|9=>9|3=>3|4=>4|0=>0|20=>20|72=>142|76=>145|70=>140|37=>66|75=>144|127=>190|164=>218|5=>5|80=>104|n=>n,fun|n=>n⟩
theorem Tryz.lays156:Go.Proofs.Lays.n156 Tryz.prog Tryz.lays156_ren :={
 mixed:=by kernel_rfl
 f156:=Tryz.func249.trans (congrArg some (by kernel_rfl))
 f165:=Tryz.func188.trans (congrArg some (by kernel_rfl))
 f166:=Tryz.func118.trans (congrArg some (by kernel_rfl))
 f169:=Tryz.func119.trans (congrArg some (by kernel_rfl))
 f240:=Tryz.func167.trans (congrArg some (by kernel_rfl))
 f241:=Tryz.func225.trans (congrArg some (by kernel_rfl))
 f276:=Tryz.func200.trans (congrArg some (by kernel_rfl))
 f277:=Tryz.func251.trans (congrArg some (by kernel_rfl))
 t0:=Tryz.underlying0
 a0:=Tryz.isAgg0
 z0:=Tryz.sizeOf0
 v0:=Tryz.zeroValue0
 t3:=Tryz.underlying3
 a3:=Tryz.isAgg3
 z3:=Tryz.sizeOf3
 v3:=Tryz.zeroValue3
 t4:=Tryz.underlying4
 a4:=Tryz.isAgg4
 z4:=Tryz.sizeOf4
 v4:=Tryz.zeroValue4
 t9:=Tryz.underlying9
 a9:=Tryz.isAgg9
 z9:=Tryz.sizeOf9
 v9:=Tryz.zeroValue9
 t20:=Tryz.underlying20
 a20:=Tryz.isAgg20
 z20:=Tryz.sizeOf20
 v20:=Tryz.zeroValue20
 t31:=Tryz.underlying68
 a31:=Tryz.isAgg68
 z31:=Tryz.sizeOf68
 v31:=Tryz.zeroValue68
 t37:=Tryz.underlying66
 a37:=Tryz.isAgg66
 z37:=Tryz.sizeOf66
 v37:=Tryz.zeroValue66
 t70:=Tryz.underlying140
 a70:=Tryz.isAgg140
 z70:=Tryz.sizeOf140
 v70:=Tryz.zeroValue140
 t72:=Tryz.underlying142
 a72:=Tryz.isAgg142
 z72:=Tryz.sizeOf142
 v72:=Tryz.zeroValue142
 t75:=Tryz.underlying144
 a75:=Tryz.isAgg144
 z75:=Tryz.sizeOf144
 v75:=Tryz.zeroValue144
 t76:=Tryz.underlying145
 a76:=Tryz.isAgg145
 z76:=Tryz.sizeOf145
 v76:=Tryz.zeroValue145
 t127:=Tryz.underlying190
 a127:=Tryz.isAgg190
 z127:=Tryz.sizeOf190
 v127:=Tryz.zeroValue190
 t164:=Tryz.underlying218
 a164:=Tryz.isAgg218
 z164:=Tryz.sizeOf218
 v164:=Tryz.zeroValue218 }
theorem Tryz.Builder_Extra_156:Builder.Extra Tryz.prog Tryz.lays156_ren :={
 sizeBuilder:=by kernel_rfl
 liesBuilder:=by kernel_rfl
 t5:=Tryz.underlying5
 a5:=Tryz.isAgg5
 z5:=Tryz.sizeOf5
 v5:=Tryz.zeroValue5
 infoByte:=by kernel_rfl
 cellsByte:=by kernel_rfl
 sizeByte:=by kernel_rfl
 neB5:=by decide }
open Go.RowKit in
theorem Tryz.strings_Join (bk o c:Nat)(xs:List ByteArray)(sep:ByteArray)(w:World)(hcells:∀ (j:Nat) x,xs[j]? = some x->w.cell? ⟨bk,o+j,none⟩=some (.string x))(hbk:bk<w.heap.size)(hN:xs.length<=140737488355328)(hcap:xs.length<=c)(hlen:(Lib.join (xs.map (·.data.toList)) sep.data.toList).length<=140737488355328):
 Calls Tryz.prog 249 #[.slice (some ⟨bk,o,none⟩) xs.length c,.string sep] w fun e w' => e=.returned (.string ⟨(Lib.join (xs.map (·.data.toList)) sep.data.toList).toArray⟩)/\Below w.heap.size w w':=Any.strings_Join Tryz.lays156 Tryz.Builder_Extra_156 bk o c xs sep w hcells hbk hN hcap hlen
def Tryz.lays125_ren:Go.Shelf.Ren:=⟨fun|125=>178|128=>213|129=>214|n=>n,fun|46=>196|3=>3|51=>230|53=>154|4=>4|5=>5|9=>9|n=>n,fun|n=>n⟩
theorem Tryz.lays125:Go.Proofs.Lays.n125 Tryz.prog Tryz.lays125_ren :={
 mixed:=by kernel_rfl
 f125:=Tryz.func178.trans (congrArg some (by kernel_rfl))
 f128:=Tryz.func213.trans (congrArg some (by kernel_rfl))
 f129:=Tryz.func214.trans (congrArg some (by kernel_rfl))
 t3:=Tryz.underlying3
 a3:=Tryz.isAgg3
 z3:=Tryz.sizeOf3
 v3:=Tryz.zeroValue3
 t4:=Tryz.underlying4
 a4:=Tryz.isAgg4
 z4:=Tryz.sizeOf4
 v4:=Tryz.zeroValue4
 t5:=Tryz.underlying5
 a5:=Tryz.isAgg5
 z5:=Tryz.sizeOf5
 v5:=Tryz.zeroValue5
 t9:=Tryz.underlying9
 a9:=Tryz.isAgg9
 z9:=Tryz.sizeOf9
 v9:=Tryz.zeroValue9
 t46:=Tryz.underlying196
 a46:=Tryz.isAgg196
 z46:=Tryz.sizeOf196
 v46:=Tryz.zeroValue196
 t51:=Tryz.underlying230
 a51:=Tryz.isAgg230
 z51:=Tryz.sizeOf230
 v51:=Tryz.zeroValue230
 t53:=Tryz.underlying154
 a53:=Tryz.isAgg154
 z53:=Tryz.sizeOf154
 v53:=Tryz.zeroValue154 }
theorem Tryz.bits_Len (x:Int)(w:World)(h0:0<=x)(h1:x<=18446744073709551615):
 Calls Tryz.prog 178 #[.int .u64 x] w fun e w' => e=.returned (.int .i64 (Lib.bitLen x.toNat))/\w' = w:=Any.bits_Len Tryz.lays125 x w h0 h1
open Go.RowKit in
theorem Tryz.Builder_String_any_f (B b:Nat)(l:List UInt8)(w:World)(h:Lib.IsBuilderF 142 5 B b (Lib.byteCells l) w)(hBw:B<=w.heap.size):
 Calls Tryz.prog 119 #[.pointer (some ⟨b,0,none⟩)] w fun e w' => e=.returned (.string ⟨l.toArray⟩)/\(Lib.IsBuilderF 142 5 B b (Lib.byteCells l) w' /\ Below B w w'):=Any.Builder_String_any_f Tryz.lays169 Tryz.Builder_Extra_169 B b l w h hBw
open Go.RowKit in
theorem Tryz.Builder_String_any_k (B b:Nat)(l:List UInt8)(w:World)(h:Lib.IsBuilderF 142 5 B b (Lib.byteCells l) w)(hBw:B<=w.heap.size):
 Calls Tryz.prog 119 #[.pointer (some ⟨b,0,none⟩)] w fun e w' => e=.returned (.string ⟨l.toArray⟩)/\(Lib.IsBuilderF 142 5 B b (Lib.byteCells l) w' /\ Below B w w' /\ Lib.OthersKept 5 (some b) w w'):=Any.Builder_String_any_k Tryz.lays169 Tryz.Builder_Extra_169 B b l w h hBw
def Tryz.laysM316_ren:Go.Shelf.Ren:=⟨fun|316=>275|n=>n,fun|9=>9|3=>3|4=>4|37=>66|0=>0|127=>190|5=>5|n=>n,fun|n=>n⟩
theorem Tryz.laysM316:Go.Proofs.LaysM.n316 Tryz.prog Tryz.laysM316_ren :={
 mixed:=by kernel_rfl
 f316:=Tryz.func275.trans (congrArg some (by kernel_rfl))
 t0:=Tryz.underlying0
 a0:=Tryz.isAgg0
 z0:=Tryz.sizeOf0
 v0:=Tryz.zeroValue0
 t3:=Tryz.underlying3
 a3:=Tryz.isAgg3
 z3:=Tryz.sizeOf3
 v3:=Tryz.zeroValue3
 t4:=Tryz.underlying4
 a4:=Tryz.isAgg4
 z4:=Tryz.sizeOf4
 v4:=Tryz.zeroValue4
 t9:=Tryz.underlying9
 a9:=Tryz.isAgg9
 z9:=Tryz.sizeOf9
 v9:=Tryz.zeroValue9
 t37:=Tryz.underlying66
 a37:=Tryz.isAgg66
 z37:=Tryz.sizeOf66
 v37:=Tryz.zeroValue66
 t127:=Tryz.underlying190
 a127:=Tryz.isAgg190
 z127:=Tryz.sizeOf190
 v127:=Tryz.zeroValue190
 t5:=Tryz.underlying5
 a5:=Tryz.isAgg5
 z5:=Tryz.sizeOf5
 v5:=Tryz.zeroValue5
 i0:=by kernel_rfl
 i3:=by kernel_rfl
 i4:=by kernel_rfl
 i5:=by kernel_rfl
 i9:=by kernel_rfl
 i37:=by kernel_rfl
 i127:=by kernel_rfl }
open Go.RowKit in
theorem Tryz.stringslite_Clone (s:ByteArray)(w:World)(hlim:s.size<=281474976710656):
 Calls Tryz.prog 275 #[.string s] w fun e w' => e=.returned (.string s)/\Below w.heap.size w w':=Any.stringslite_Clone Tryz.laysM316 s w hlim
def Tryz.lays99_ren:Go.Shelf.Ren:=⟨fun|99=>32|206=>93|n=>n,fun|9=>9|4=>4|3=>3|n=>n,fun|n=>n⟩
theorem Tryz.lays99:Go.Proofs.Lays.n99 Tryz.prog Tryz.lays99_ren :={
 mixed:=by kernel_rfl
 f99:=Tryz.func32.trans (congrArg some (by kernel_rfl))
 f206:=Tryz.func93.trans (congrArg some (by kernel_rfl))
 t3:=Tryz.underlying3
 a3:=Tryz.isAgg3
 z3:=Tryz.sizeOf3
 v3:=Tryz.zeroValue3
 t4:=Tryz.underlying4
 a4:=Tryz.isAgg4
 z4:=Tryz.sizeOf4
 v4:=Tryz.zeroValue4
 t9:=Tryz.underlying9
 a9:=Tryz.isAgg9
 z9:=Tryz.sizeOf9
 v9:=Tryz.zeroValue9 }
open Go.RowKit Go.Lib in
theorem Tryz.strings_HasPrefix (s p:ByteArray)(w:World):
 Calls Tryz.prog 32 #[.string s,.string p] w fun e w' => e=.returned (.bool (Lib.hasPrefix s.data.toList p.data.toList))/\w' = w:=Any.strings_HasPrefix Tryz.lays99 s p w
def Tryz.lays146_ren:Go.Shelf.Ren:=⟨fun|146=>122|221=>169|268=>201|138=>202|143=>203|195=>231|197=>232|218=>233|219=>234|260=>257|217=>258|225=>259|224=>260|267=>261|266=>269|314=>270|n=>n,fun|9=>9|31=>68|3=>3|4=>4|0=>0|105=>244|21=>21|5=>5|46=>196|119=>270|139=>273|138=>272|146=>236|51=>230|n=>n,fun|1=>0|3=>1|4=>2|n=>n⟩
theorem Tryz.lays146:Go.Proofs.Lays.n146 Tryz.prog Tryz.lays146_ren :={
 mixed:=by kernel_rfl
 f138:=Tryz.func202.trans (congrArg some (by kernel_rfl))
 f143:=Tryz.func203.trans (congrArg some (by kernel_rfl))
 f146:=Tryz.func122.trans (congrArg some (by kernel_rfl))
 f195:=Tryz.func231.trans (congrArg some (by kernel_rfl))
 f197:=Tryz.func232.trans (congrArg some (by kernel_rfl))
 f217:=Tryz.func258.trans (congrArg some (by kernel_rfl))
 f218:=Tryz.func233.trans (congrArg some (by kernel_rfl))
 f219:=Tryz.func234.trans (congrArg some (by kernel_rfl))
 f221:=Tryz.func169.trans (congrArg some (by kernel_rfl))
 f224:=Tryz.func260.trans (congrArg some (by kernel_rfl))
 f225:=Tryz.func259.trans (congrArg some (by kernel_rfl))
 f260:=Tryz.func257.trans (congrArg some (by kernel_rfl))
 f266:=Tryz.func269.trans (congrArg some (by kernel_rfl))
 f267:=Tryz.func261.trans (congrArg some (by kernel_rfl))
 f268:=Tryz.func201.trans (congrArg some (by kernel_rfl))
 f314:=Tryz.func270.trans (congrArg some (by kernel_rfl))
 t0:=Tryz.underlying0
 a0:=Tryz.isAgg0
 z0:=Tryz.sizeOf0
 v0:=Tryz.zeroValue0
 t3:=Tryz.underlying3
 a3:=Tryz.isAgg3
 z3:=Tryz.sizeOf3
 v3:=Tryz.zeroValue3
 t4:=Tryz.underlying4
 a4:=Tryz.isAgg4
 z4:=Tryz.sizeOf4
 v4:=Tryz.zeroValue4
 t5:=Tryz.underlying5
 a5:=Tryz.isAgg5
 z5:=Tryz.sizeOf5
 v5:=Tryz.zeroValue5
 t9:=Tryz.underlying9
 a9:=Tryz.isAgg9
 z9:=Tryz.sizeOf9
 v9:=Tryz.zeroValue9
 t21:=Tryz.underlying21
 a21:=Tryz.isAgg21
 z21:=Tryz.sizeOf21
 v21:=Tryz.zeroValue21
 t31:=Tryz.underlying68
 a31:=Tryz.isAgg68
 z31:=Tryz.sizeOf68
 v31:=Tryz.zeroValue68
 t46:=Tryz.underlying196
 a46:=Tryz.isAgg196
 z46:=Tryz.sizeOf196
 v46:=Tryz.zeroValue196
 t51:=Tryz.underlying230
 a51:=Tryz.isAgg230
 z51:=Tryz.sizeOf230
 v51:=Tryz.zeroValue230
 t105:=Tryz.underlying244
 a105:=Tryz.isAgg244
 z105:=Tryz.sizeOf244
 v105:=Tryz.zeroValue244
 t119:=Tryz.underlying270
 a119:=Tryz.isAgg270
 z119:=Tryz.sizeOf270
 t138:=Tryz.underlying272
 a138:=Tryz.isAgg272
 z138:=Tryz.sizeOf272
 v138:=Tryz.zeroValue272
 t139:=Tryz.underlying273
 a139:=Tryz.isAgg273
 z139:=Tryz.sizeOf273
 v139:=Tryz.zeroValue273
 t146:=Tryz.underlying236
 a146:=Tryz.isAgg236
 z146:=Tryz.sizeOf236
 v146:=Tryz.zeroValue236
 g1:=by kernel_rfl
 g3:=by kernel_rfl
 g4:=by kernel_rfl }
open Go.RowKit Go.Lib in
theorem Tryz.strings_Split (s sep:ByteArray)(m:Int)(w:World)(hs:s.size<4294967281)(hm:w.cell? ⟨0,0,none⟩=some (.int .i64 m))(h1:1<=sep.size):
 Calls Tryz.prog 122 #[.string s,.string sep] w fun e w' =>
  e=.returned (.slice (some ⟨w.heap.size,0,none⟩) (Lib.countB s sep+1) (Lib.countB s sep+1))/\w' = w.alloc (.cells ((Lib.splitB sep 0 (Lib.countB s sep) s).map Value.string).toArray 9):=Any.strings_Split Tryz.lays146 (by kernel_rfl) s sep m w hs hm h1
def Tryz.lays152_ren:Go.Shelf.Ren:=⟨fun|152=>242|137=>263|119=>264|224=>260|225=>259|217=>258|266=>269|n=>n,fun|9=>9|21=>21|3=>3|4=>4|5=>5|0=>0|46=>196|n=>n,fun|n=>n⟩
theorem Tryz.lays152:Go.Proofs.Lays.n152 Tryz.prog Tryz.lays152_ren :={
 mixed:=by kernel_rfl
 f119:=Tryz.func264.trans (congrArg some (by kernel_rfl))
 f137:=Tryz.func263.trans (congrArg some (by kernel_rfl))
 f152:=Tryz.func242.trans (congrArg some (by kernel_rfl))
 f217:=Tryz.func258.trans (congrArg some (by kernel_rfl))
 f224:=Tryz.func260.trans (congrArg some (by kernel_rfl))
 f225:=Tryz.func259.trans (congrArg some (by kernel_rfl))
 f266:=Tryz.func269.trans (congrArg some (by kernel_rfl))
 t0:=Tryz.underlying0
 a0:=Tryz.isAgg0
 z0:=Tryz.sizeOf0
 v0:=Tryz.zeroValue0
 t3:=Tryz.underlying3
 a3:=Tryz.isAgg3
 z3:=Tryz.sizeOf3
 v3:=Tryz.zeroValue3
 t4:=Tryz.underlying4
 a4:=Tryz.isAgg4
 z4:=Tryz.sizeOf4
 v4:=Tryz.zeroValue4
 t5:=Tryz.underlying5
 a5:=Tryz.isAgg5
 z5:=Tryz.sizeOf5
 v5:=Tryz.zeroValue5
 t9:=Tryz.underlying9
 a9:=Tryz.isAgg9
 z9:=Tryz.sizeOf9
 v9:=Tryz.zeroValue9
 t21:=Tryz.underlying21
 a21:=Tryz.isAgg21
 z21:=Tryz.sizeOf21
 v21:=Tryz.zeroValue21
 t46:=Tryz.underlying196
 a46:=Tryz.isAgg196
 z46:=Tryz.sizeOf196
 v46:=Tryz.zeroValue196 }
open Go.RowKit Go.Lib in
theorem Tryz.strings_IndexRune_ascii (s:ByteArray)(r:Int)(w:World)(h0:0<=r)(h1:r<128):
 Calls Tryz.prog 242 #[.string s,.int .i32 r] w fun e w' => e=.returned (.int .i64 (Lib.indexByte s.data.toList r.toNat.toUInt8))/\w' = w:=Any.strings_IndexRune_ascii Tryz.lays152 s r w h0 h1
def Tryz.lays105_ren:Go.Shelf.Ren:=⟨fun|105=>151|212=>187|99=>32|165=>188|166=>118|170=>189|169=>119|263=>223|264=>224|206=>93|240=>167|241=>225|276=>200|277=>251|n=>n,fun|9=>9|3=>3|4=>4|20=>20|0=>0|46=>196|109=>211|5=>5|72=>142|76=>145|51=>230|146=>236|53=>154|148=>238|70=>140|37=>66|75=>144|127=>190|164=>218|80=>104|n=>n,fun|n=>n⟩
theorem Tryz.lays105:Go.Proofs.Lays.n105 Tryz.prog Tryz.lays105_ren :={
 mixed:=by kernel_rfl
 f99:=Tryz.func32.trans (congrArg some (by kernel_rfl))
 f105:=Tryz.func151.trans (congrArg some (by kernel_rfl))
 f165:=Tryz.func188.trans (congrArg some (by kernel_rfl))
 f166:=Tryz.func118.trans (congrArg some (by kernel_rfl))
 f169:=Tryz.func119.trans (congrArg some (by kernel_rfl))
 f170:=Tryz.func189.trans (congrArg some (by kernel_rfl))
 f206:=Tryz.func93.trans (congrArg some (by kernel_rfl))
 f212:=Tryz.func187.trans (congrArg some (by kernel_rfl))
 f240:=Tryz.func167.trans (congrArg some (by kernel_rfl))
 f241:=Tryz.func225.trans (congrArg some (by kernel_rfl))
 f263:=Tryz.func223.trans (congrArg some (by kernel_rfl))
 f264:=Tryz.func224.trans (congrArg some (by kernel_rfl))
 f276:=Tryz.func200.trans (congrArg some (by kernel_rfl))
 f277:=Tryz.func251.trans (congrArg some (by kernel_rfl))
 t0:=Tryz.underlying0
 a0:=Tryz.isAgg0
 z0:=Tryz.sizeOf0
 v0:=Tryz.zeroValue0
 t3:=Tryz.underlying3
 a3:=Tryz.isAgg3
 z3:=Tryz.sizeOf3
 v3:=Tryz.zeroValue3
 t4:=Tryz.underlying4
 a4:=Tryz.isAgg4
 z4:=Tryz.sizeOf4
 v4:=Tryz.zeroValue4
 t5:=Tryz.underlying5
 a5:=Tryz.isAgg5
 z5:=Tryz.sizeOf5
 v5:=Tryz.zeroValue5
 t9:=Tryz.underlying9
 a9:=Tryz.isAgg9
 z9:=Tryz.sizeOf9
 v9:=Tryz.zeroValue9
 t20:=Tryz.underlying20
 a20:=Tryz.isAgg20
 z20:=Tryz.sizeOf20
 v20:=Tryz.zeroValue20
 t37:=Tryz.underlying66
 a37:=Tryz.isAgg66
 z37:=Tryz.sizeOf66
 v37:=Tryz.zeroValue66
 t46:=Tryz.underlying196
 a46:=Tryz.isAgg196
 z46:=Tryz.sizeOf196
 v46:=Tryz.zeroValue196
 t51:=Tryz.underlying230
 a51:=Tryz.isAgg230
 z51:=Tryz.sizeOf230
 v51:=Tryz.zeroValue230
 t53:=Tryz.underlying154
 a53:=Tryz.isAgg154
 z53:=Tryz.sizeOf154
 v53:=Tryz.zeroValue154
 t70:=Tryz.underlying140
 a70:=Tryz.isAgg140
 z70:=Tryz.sizeOf140
 v70:=Tryz.zeroValue140
 t72:=Tryz.underlying142
 a72:=Tryz.isAgg142
 z72:=Tryz.sizeOf142
 v72:=Tryz.zeroValue142
 t75:=Tryz.underlying144
 a75:=Tryz.isAgg144
 z75:=Tryz.sizeOf144
 v75:=Tryz.zeroValue144
 t76:=Tryz.underlying145
 a76:=Tryz.isAgg145
 z76:=Tryz.sizeOf145
 v76:=Tryz.zeroValue145
 t109:=Tryz.underlying211
 a109:=Tryz.isAgg211
 z109:=Tryz.sizeOf211
 v109:=Tryz.zeroValue211
 t127:=Tryz.underlying190
 a127:=Tryz.isAgg190
 z127:=Tryz.sizeOf190
 v127:=Tryz.zeroValue190
 t146:=Tryz.underlying236
 a146:=Tryz.isAgg236
 z146:=Tryz.sizeOf236
 v146:=Tryz.zeroValue236
 t148:=Tryz.underlying238
 a148:=Tryz.isAgg238
 z148:=Tryz.sizeOf238
 v148:=Tryz.zeroValue238
 t164:=Tryz.underlying218
 a164:=Tryz.isAgg218
 z164:=Tryz.sizeOf218
 v164:=Tryz.zeroValue218 }
theorem Tryz.Builder_Extra_105:Builder.Extra Tryz.prog Tryz.lays105_ren :={
 sizeBuilder:=by kernel_rfl
 liesBuilder:=by kernel_rfl
 t5:=Tryz.underlying5
 a5:=Tryz.isAgg5
 z5:=Tryz.sizeOf5
 v5:=Tryz.zeroValue5
 infoByte:=by kernel_rfl
 cellsByte:=by kernel_rfl
 sizeByte:=by kernel_rfl
 neB5:=by decide }
open Go.RowKit Go.Lib in
theorem Tryz.strings_Repeat_main (s:ByteArray)(c:Nat)(w:World)(hc2:2<=c)(hc:c<=9223372036854775807)(hlen:s.size*c<=140737488355328)(h0:0<s.size):
 Calls Tryz.prog 151 #[.string s,.int .i64 c] w fun e w' => e=.returned (.string ⟨(Lib.repeatL s.data.toList c).toArray⟩)/\Below w.heap.size w w':=Any.strings_Repeat_main Tryz.lays105 Tryz.Builder_Extra_105 s c w hc2 hc hlen h0
open Go.RowKit Go.Lib in
theorem Tryz.strings_Repeat (s:ByteArray)(c:Nat)(w:World)(hc:c<=9223372036854775807)(hlen:s.size*c<=140737488355328):
 Calls Tryz.prog 151 #[.string s,.int .i64 c] w fun e w' => e=.returned (.string ⟨(Lib.repeatL s.data.toList c).toArray⟩)/\Below w.heap.size w w':=Any.strings_Repeat Tryz.lays105 Tryz.Builder_Extra_105 s c w hc hlen
def Tryz.lays110_ren:Go.Shelf.Ren:=⟨fun|110=>121|109=>168|n=>n,fun|31=>68|9=>9|4=>4|3=>3|0=>0|n=>n,fun|n=>n⟩
theorem Tryz.lays110:Go.Proofs.Lays.n110 Tryz.prog Tryz.lays110_ren :={
 mixed:=by kernel_rfl
 f109:=Tryz.func168.trans (congrArg some (by kernel_rfl))
 f110:=Tryz.func121.trans (congrArg some (by kernel_rfl))
 t0:=Tryz.underlying0
 a0:=Tryz.isAgg0
 z0:=Tryz.sizeOf0
 v0:=Tryz.zeroValue0
 t3:=Tryz.underlying3
 a3:=Tryz.isAgg3
 z3:=Tryz.sizeOf3
 v3:=Tryz.zeroValue3
 t4:=Tryz.underlying4
 a4:=Tryz.isAgg4
 z4:=Tryz.sizeOf4
 v4:=Tryz.zeroValue4
 t9:=Tryz.underlying9
 a9:=Tryz.isAgg9
 z9:=Tryz.sizeOf9
 v9:=Tryz.zeroValue9
 t31:=Tryz.underlying68
 a31:=Tryz.isAgg68
 z31:=Tryz.sizeOf68
 v31:=Tryz.zeroValue68 }
open Go.Lib in
theorem Tryz.slices_Contains_string (b off n c:Nat)(zs:List ByteArray)(x:ByteArray)(w:World)(hz:n<=zs.length)(hbig:n<=9223372036854775807)(hc:∀ j,j<zs.length->w.cell? ⟨b,off+j,none⟩=some (.string (zs.getD j ByteArray.empty))):
 Calls Tryz.prog 121 #[.slice (some ⟨b,off,none⟩) n c,.string x] w fun e w' => e=.returned (.bool (Lib.containsS (zs.take n) x))/\w' = w:=Any.slices_Contains_string Tryz.lays110 b off n c zs x w hz hbig hc
open Go.Lib in
theorem Tryz.slices_Contains_string_empty (a:Option Addr)(c:Nat)(x:ByteArray)(w:World):
 Calls Tryz.prog 121 #[.slice a 0 c,.string x] w fun e w' => e=.returned (.bool false)/\w' = w:=Any.slices_Contains_string_empty Tryz.lays110 a c x w
def Tryz.laysSlH8_f125_ren:Go.Shelf.Ren:=⟨fun|8=>125|6=>170|n=>n,fun|22=>68|23=>9|25=>54|4=>4|3=>3|0=>0|n=>n,fun|n=>n⟩
theorem Tryz.laysSlH8_f125:Go.Proofs.SlLaysH.n8 Tryz.prog Tryz.laysSlH8_f125_ren :={
 mixed:=by kernel_rfl
 f6:=⟨Tryz.f170.name,by decide,Tryz.func170.trans (congrArg some (by kernel_rfl))⟩
 f8:=⟨Tryz.f125.name,by decide,Tryz.func125.trans (congrArg some (by kernel_rfl))⟩
 t0:=Tryz.underlying0
 a0:=Tryz.isAgg0
 z0:=Tryz.sizeOf0
 v0:=Tryz.zeroValue0
 t3:=Tryz.underlying3
 a3:=Tryz.isAgg3
 z3:=Tryz.sizeOf3
 v3:=Tryz.zeroValue3
 t4:=Tryz.underlying4
 a4:=Tryz.isAgg4
 z4:=Tryz.sizeOf4
 v4:=Tryz.zeroValue4
 t22:=Tryz.underlying68
 a22:=Tryz.isAgg68
 z22:=Tryz.sizeOf68
 v22:=Tryz.zeroValue68
 a23:=Tryz.isAgg9
 z23:=Tryz.sizeOf9
 t25:=Tryz.underlying54
 a25:=Tryz.isAgg54
 z25:=Tryz.sizeOf54
 v25:=Tryz.zeroValue54 }
open Go.RowKit Go.Lib in
theorem Tryz.slices_ContainsFunc {α : Type}[Inhabited α](enc : α -> Value)(p : α -> Bool)(g:Nat)(lb:Array Value)(eg:∀ args w,(callFunc g args).run Tryz.prog w=.ok (.enter g args) w)(b off n c:Nat)(zs:List α)(w:World)(hp:PredAt Tryz.prog g lb enc p w)(hz:n<=zs.length)(hbig:n<=9223372036854775807)(hc:∀ j,j<zs.length->w.cell? ⟨b,off+j,none⟩=some (enc zs[j]!)):
 Calls Tryz.prog 125 #[.slice (some ⟨b,off,none⟩) n c,.func (.func g) #[] lb] w fun e w' => e=.returned (.bool ((zs.take n).any p))/\∃ q,w' = w.drewN q:=AnyE.slices_ContainsFunc Tryz.laysSlH8_f125 enc p g lb eg b off n c zs w hp hz hbig hc
open Go.RowKit Go.Lib in
theorem Tryz.slices_ContainsFunc_empty {α : Type}[Inhabited α](a:Option Addr)(c:Nat)(fv:Value)(w:World):
 Calls Tryz.prog 125 #[.slice a 0 c,fv] w fun e w' => e=.returned (.bool false)/\w' = w:=AnyE.slices_ContainsFunc_empty Tryz.laysSlH8_f125 a c fv w
end Go.Proofs
namespace Go.Proofs.YtjlmglgmcekmhaaGreatDoor
section
open Go Go.RowKit
def be8 (n:Nat):ByteArray:=⟨((List.range 8).map fun j=>(n/2^(56-8*j)%256).toUInt8).toArray⟩
def NI (n k:Nat):Array Value:=((List.range 8).map fun j=>Value.int .u8 (if j<k then ((n/2^(56-8*j)%256:Nat):Int) else 0)).toArray
theorem ZF (n k:Nat)(h:k<8):(NI n k).setIfInBounds k (.int .u8 ((n/2^(56-8*k)%256:Nat):Int))=NI n (k+1):=by
 match k,h with
 | 0,_=>rfl
 | 1,_=>rfl
 | 2,_=>rfl
 | 3,_=>rfl
 | 4,_=>rfl
 | 5,_=>rfl
 | 6,_=>rfl
 | 7,_=>rfl
theorem Gw (n:Nat):(be8 n).size=8:=by simp[be8,ByteArray.size]
theorem ZG (n i:Nat)(h:i<(be8 n).size):(NI n 8)[i]? = some (.int .u8 ((be8 n)[i].toNat:Int)):=by
 have h8:i<8:=by rw[Gw] at h;exact h
 have e:(be8 n)[i]=(n/2^(56-8*i)%256).toUInt8:=by
  show(be8 n).data[i]'_=_
  simp[be8]
 have e2:(n/2^(56-8*i)%256).toUInt8.toNat=n/2^(56-8*i)%256:=by
  show(UInt8.ofNat _).toNat=_
  rw[UInt8.toNat_ofNat']
  omega
 have e3:(NI n 8)[i]? = some (.int .u8 ((n/2^(56-8*i)%256:Nat):Int)):=by simp[NI,h8]
 rw[e3,<- e2]
 exact congrArg (fun x:UInt8=>some (Value.int .u8 (x.toNat:Int))) e.symm
theorem ZH (n:Nat)(w:World)(hn:n<18446744073709551616):
 Calls Tryz.prog 268 #[.int .u64 n] w fun e w' => e=.returned (.string (be8 n))/\Below w.heap.size w w':=by
 go_enter Tryz.func268,Tryz.ntmps268
 go_wp2
 go_loopw [5] (fun i wr=>∃ k:Nat,k<=8/\i=.int .i64 k/\At wr w.heap.size 279 (NI n k)/\Below w.heap.size w wr)
  (fun i _=>8-(intOf i).toNat)
 case atStart=>exact⟨0,by omega,rfl,At.new _ _ _,zb⟩
 case round=>
  obtain⟨k,hk,rfl,hw,hb⟩:=hrel
  by_cases h8:k<8
  ·have dk:decide ((k:Int)<8)=true:=by simp;omega
   have fz:wr.frozen? ⟨w.heap.size,k,none⟩=false:=hw.free k
   have ce:wr.cell? ⟨w.heap.size,k,none⟩=some (.int .u8 0):=by
    rw[hw.cell]
    match k,h8 with
    | 0,_=>rfl
    | 1,_=>rfl
    | 2,_=>rfl
    | 3,_=>rfl
    | 4,_=>rfl
    | 5,_=>rfl
    | 6,_=>rfl
    | 7,_=>rfl
   have HW:=zh hw;clear hw
   have HB:=zh hb;clear hb
   go_wp2_with fail
   refine⟨⟨k+1,by omega,by go_num,?_,HB.out.setCell (p:=⟨w.heap.size,k,none⟩) (Nat.le_refl _) _⟩,by simp[intOf];omega⟩
   have h:=HW.out.set k (.int .u8 ((n/2^(56-8*k)%256:Nat):Int))
   rw[ZF n k h8] at h
   have e:((n/2^(56-8*k)%256:Nat):Int)=(n:Int)/2^(56-8*k)%256:=by
    rw[Int.natCast_emod,Int.natCast_ediv,Int.natCast_pow];rfl
   rw[e] at h
   exact h
  ·obtain rfl:k=8:=by omega
   have hB:Lib.Bytes wr w.heap.size 0 (be8 n):=by
    intro i hi
    rw[Nat.zero_add,hw.cell]
    exact ZG n i hi
   have hc:=Lib.run_convert_whole (P:=Tryz.prog) wr 66 5 9 rfl rfl rfl _ _ _ hB 8
   rw[Gw] at hc
   have HB:=zh hb;clear hb hw
   have HC:=zh hc;clear hc
   go_wp2_with fail
   rw[HC.out]
   go_wp2
   go_ret
   exact⟨rfl,HB.out⟩
theorem og (w:World):
 Calls Tryz.prog 243 #[] w fun e w' => e=.returned (.pointer (some ⟨w.heap.size,0,none⟩))/\w' = w.alloc (.cells (hash [1779033703,3144134277,1013904242,2773480762,1359893119,2600822924,528734635,1541459225] ⟨#[]⟩ 0) 269):=by
 go_enter Tryz.func243,Tryz.ntmps243
 go_wp2
 go_ret
 exact⟨rfl,rfl⟩
def Held (w:World)(b:Nat)(m:ByteArray):Prop:=At w b 269 (hash (Sha.state m) (Sha.rest m) ((m.size:Int)%18446744073709551616))
theorem dw (v:List Int)(r:ByteArray)(t:Int)(h:v.length=8):(hash v r t)[8]? = some (.string r):=by
 unfold hash
 rw[Array.getElem?_append_right (by rw[Sha.BS];omega),Sha.BS,h]
 rfl
theorem XG (v:List Int)(r:ByteArray)(t:Int)(h:v.length=8):(hash v r t)[9]? = some (.int .u64 t):=by
 unfold hash
 rw[Array.getElem?_append_right (by rw[Sha.BS];omega),Sha.BS,h]
 rfl
theorem fH (v:List Int)(r r' : ByteArray)(t:Int)(h:v.length=8):(hash v r t).setIfInBounds 8 (.string r')=hash v r' t:=by
 unfold hash
 rw[Array.setIfInBounds_append_right (by rw[Sha.BS];omega),Sha.BS,h]
 rfl
theorem fI (v:List Int)(r:ByteArray)(t t' : Int)(h:v.length=8):(hash v r t).setIfInBounds 9 (.int .u64 t')=hash v r t':=by
 unfold hash
 rw[Array.setIfInBounds_append_right (by rw[Sha.BS];omega),Sha.BS,h]
 rfl
theorem fJ (s:ByteArray)(w:World)(h:s.size<=281474976710656):
 Calls Tryz.prog 266 #[.string s] w fun e w' => e=.returned (.string s)/\Below w.heap.size w w':=by
 go_enter Tryz.func266,Tryz.ntmps266
 go_wp2_with fail
 refine(Tryz.stringslite_Clone s _ h).mono ?_
 rintro e w' ⟨rfl,hb⟩
 go_wp2
 go_ret
 exact⟨rfl,hb⟩
theorem Ut (b:Nat)(m s:ByteArray)(w:World)(hs:s.size<=9223372036854775000)(hh:Held w b m):
 Calls Tryz.prog 244 #[.pointer (some ⟨b,0,none⟩),.string s] w fun e w' => e=.returned (.tuple #[])/\Held w' b (m++s)/\Fr (fun k=>k=b) w w':=by
 have hlt:=hh.lt
 have hl:=(Sha.Ew m).1
 have hc8:=hh.cell 8;have hc9:=hh.cell 9
 rw[dw _ _ _ hl] at hc8
 rw[XG _ _ _ hl] at hc9
 have f8:w.frozen? ⟨b,8,none⟩=false:=hh.free 8
 have f9:w.frozen? ⟨b,9,none⟩=false:=hh.free 9
 have hsz:¬ 9223372036854775807<(Sha.rest m).size+s.size:=by rw[Sha.Kk];omega
 have HH:=zh hh;clear hh
 go_enter Tryz.func244,Tryz.ntmps244
 go_wp2_with fail
 have hmore:=Sha.Zx m s
 have hrest:=Sha.fB m s
 rw[<- Sha.Ag] at hsz
 have hw0:At (w.setCell ⟨b,9,none⟩ (.int .u64 (IntKind.u64.wrap ((m.size:Int)%18446744073709551616+s.size)))) b 269 (hash (Sha.state m) (Sha.rest m) (((m++s).size:Int)%18446744073709551616)):=by
  have h:=At.set HH.out 9 (.int .u64 (IntKind.u64.wrap ((m.size:Int)%18446744073709551616+s.size)))
  rw[fI _ _ _ _ hl,IntKind.wrap_u64] at h
  rw[Sha.Ag,IntKind.wrap_u64]
  have e:((m.size+s.size:Nat):Int)%18446744073709551616=((m.size:Int)%18446744073709551616+s.size)%18446744073709551616:=by omega
  rw[e]
  exact h
 have uR:Fr (fun k=>k=b) w (w.setCell ⟨b,9,none⟩ (.int .u64 (IntKind.u64.wrap ((m.size:Int)%18446744073709551616+s.size))))   :=(Fr.refl (fun k=>k=b) w).setCell (p:=⟨b,9,none⟩) (Or.inl rfl) _
 generalize Sha.rest m++s=S at*
 generalize hT:((m++s).size:Int)%18446744073709551616=T at*
 have HT:=zh hT;clear hT
 have HW0:=zh hw0;have HF0:=zh uR;clear hw0 uR hc8 hc9 f8 f9
 have HM:=zh hmore;have HR:=zh hrest;clear hmore hrest
 go_loopw [1] (fun v wr=>∃ j:Nat,64*j<=S.size/\v=.string (S.extract (64*j) S.size)/\At wr b 269 (hash (Sha.run (Sha.state m) S j) (Sha.rest m) T)/\Fr (fun k=>k=b) w wr)
  (fun v _=>match v with|.string x=>x.size|_=>0)
 case atStart=>
  refine⟨0,by omega,?_,HW0.out,HF0.out⟩
  have:S.extract 0 S.size=S:=by apply Sha.BG;rw[Sha.Cj,List.drop_zero];exact List.take_of_length_le (by rw[Sha.Bo];omega)
  rw[Nat.mul_zero,this]
 case round=>
  obtain⟨j,hj,rfl,hw,hf⟩:=hrel
  have hxs:(S.extract (64*j) S.size).size=S.size-64*j:=by
   rw[ByteArray.size_extract];omega
  by_cases hge:64<=S.size-64*j
  ·have dge:decide (64<=((S.extract (64*j) S.size).size:Int))=true:=by rw[hxs];simp;omega
   have HX:=zh hxs
   have HW:=zh hw;clear hw
   have HF:=zh hf;clear hf
   have h1:(S.extract (64*j) S.size).extract 0 64=S.extract (64*j) (64*j+64):=by
    apply Sha.BG
    rw[Sha.Cj,Sha.Cj,Sha.Cj,List.drop_zero,List.take_take]
    congr 1
    omega
   have h2:(S.extract (64*j) S.size).extract 64 (S.size-64*j)=S.extract (64*(j+1)) S.size:=by
    apply Sha.BG
    rw[Sha.Cj,Sha.Cj,Sha.Cj,List.drop_take,List.drop_drop,List.take_take,show 64*j+64=64*(j+1) by omega]
    congr 1
    omega
   have H1:=zh h1;have H2:=zh h2;clear h1 h2
   have h64:(S.extract (64*j) (64*j+64)).size=64:=by rw[ByteArray.size_extract];omega
   have H64:=zh h64;clear h64
   go_wp2_with fail
   rw[H1.out]
   refine(nZ b _ _ _ _ wr H64.out ((Sha.Ew m).run S j) HW.out).mono ?_
   rintro e w1 ⟨rfl,hw,hf⟩
   have HW:=zh hw;clear hw
   have HF':=zh hf;clear hf
   go_wp2_with fail
   refine⟨⟨j+1,by omega,by rw[H2.out],HW.out,HF.out.trans HF'.out (fun k hk=>Or.inl hk)⟩,?_⟩
   show((S.extract (64*j) S.size).extract 64 (S.size-64*j)).size<(S.extract (64*j) S.size).size
   rw[H2.out,HX.out,ByteArray.size_extract]
   omega
  ·have hj' : j=S.size/64:=by omega
   have dge:decide (64<=((S.extract (64*j) S.size).size:Int))=false:=by rw[hxs];simp;omega
   have hx:S.extract (64*j) S.size=Sha.rest (m++s):=by rw[hj'];exact HR.out
   have hr:Sha.run (Sha.state m) S j=Sha.state (m++s):=by rw[hj'];exact HM.out
   rw[hr] at hw
   rw[hx] at hxs dge ⊢
   have hl':=(Sha.Ew (m++s)).1
   have f8:wr.frozen? ⟨b,8,none⟩=false:=hw.free 8
   have c8:=hw.cell 8
   rw[dw _ _ _ hl'] at c8
   have hlw:=hw.lt
   have HW:=zh hw;clear hw
   have HF:=zh hf;clear hf hj' hx hr
   go_wp2_with fail
   refine(fJ _ _ (by omega)).mono ?_
   rintro e w1 ⟨rfl,hb⟩
   have hw1:=HW.out.below hb hlw
   have f8' : w1.frozen? ⟨b,8,none⟩=false:=hw1.free 8
   have c8':=hw1.cell 8
   rw[dw _ _ _ hl'] at c8'
   have HW1:=zh hw1
   have HB:=zh hb;clear hb hw1
   go_wp2
   go_end0
   refine⟨rfl,?_,(HF.out.trans (Fr.of_below HB.out) (F:=fun k=>k=b) (G:=fun k=>k=b) (fun k hk=>Or.inl hk)).setCell (p:=⟨b,8,none⟩) (Or.inl rfl) _⟩
   have h:=HW1.out.set 8 (.string (Sha.rest (m++s)))
   rw[fH _ _ _ _ hl'] at h
   unfold Held
   rw[HT.out]
   exact h
end
end Go.Proofs.YtjlmglgmcekmhaaGreatDoor
