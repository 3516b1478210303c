/- Small laws on memory that all walks of this seat use: a block known whole, whole arrays stored and loaded, frames by sets of blocks. -/
import Derived.WalkKit
import Derived.WalkSpells
import Derived.WalkLawsBesides
import Derived.Deep.Draws
import Derived.Deep.AppendLies
import Derived.Maps.AppendAt
import Derived.Lib.Hide
import Derived.Maps.OwnSet
import Derived.Lib.Bytes
import Derived.Laws.BytesArg
import Derived.Test.YtdiiafgoccakkaaGreatDoorProg
import Derived.Lib.SlBytesRow
import Derived.Shelf.Strings.Builder1
import Derived.Shelf.Strings.Builder2
import Derived.Shelf.Strings.Trim
import Derived.Shelf.Small.Utf8
import Derived.Shelf.Small.Bits
import Derived.Shelf.Small.Strs
import Derived.Shelf.Small.Wraps
import Derived.Shelf.Strings.BuilderF
import Derived.Shelf.Strings.BuilderK
import Derived.Shelf.Strings.Builder2Cap
import Derived.Shelf.Strconv.Itoa0
import Derived.Shelf.LaysM
import Derived.Shelf.Strconv.Clone
import Derived.Shelf.Strings.Search1
import Derived.Shelf.Strings.Prefix
import Derived.Shelf.Unicode.Decode
import Derived.Shelf.Strings.Runes
import Derived.Shelf.Strings.AsciiSet
import Derived.Shelf.Bits.Mul64
import Derived.Shelf.Strings.Repeat
import Derived.Shelf.Unicode.DecodeSlow
import Derived.Shelf.Unicode.DecodeAny
import Derived.Shelf.Strings.BuilderCap
import Derived.Shelf.Slices.Equal
import Derived.Ground.Names2Prog
import Derived.Shelf.Slices.Clone
import Derived.Shelf.Slices.Empties2
import Derived.Ground.SlgnProg
import Derived.Shelf.SlicesE.Clone
import Derived.Ground.SlgfProg
import Derived.Shelf.SlicesE.IndexFunc
import Derived.Shelf.SlicesQ.IndexFunc
import Derived.KernelRfl
import Derived.NoCompiler
import Derived.StillTail
import Derived.Test.YtdiiafgoccakkaaGreatDoorChecked
import Derived.BigQuiet
import Derived.Deep.QuietTactic
import Derived.Laws.ResultCell
import Derived.Deep.MidRow
import Derived.Deep.RegionHeld3
import Derived.Deep.DrawnRows
import Derived.Deep.Cut
import Derived.StillTailTactics
import Derived.Deep.RegionLaw
set_option linter.unusedVariables false
set_option linter.unusedSimpArgs false
set_option maxRecDepth 100000
set_option maxHeartbeats 2000000
namespace Go.Proofs.YtdiiafgoccakkaaGreatDoor
theorem zh{p:Prop}(h:p):Go.RowKit.Hid p:=h
theorem zo{w:Go.World}{p:Go.Addr}{k:Nat}{v:Go.Value}(h:k≠p.block):(w.setCell p v).heap[k]?=w.heap[k]?:=Go.heap_setCell_other w p k v h
theorem zi{α:Type}{a:Option α}{v:α}(h:a=some v):a.isSome=true:=by rw[h];rfl
theorem zt{p:Prop}[Decidable p](h:p:=by omega):decide p=true:=decide_eq_true h
theorem zf{p:Prop}[Decidable p](h:¬p:=by omega):decide p=false:=decide_eq_false h
theorem zg:(∀ (l:List Go.Value)(i:Nat),(List.toArray l)[i]?=l[i]?)/\(∀ (a:Go.Value)(l:List Go.Value),(a::l)[0]?=some a)/\(∀ (a:Go.Value)(l:List Go.Value)(i:Nat),(a::l)[i+1]?=l[i]?):=⟨fun _ _=>List.getElem?_toArray,fun _ _=>rfl,fun _ _ _=>rfl⟩
theorem zd{α:Type}:(∀ (a:α)(l:List α)(i:Nat),(a::l).take (i+1)=a::l.take i)/\(∀ l:List α,l.take 0=[])/\(∀ (a:α)(l:List α)(i:Nat),(a::l).drop (i+1)=l.drop i)/\(∀ l:List α,l.drop 0=l):=⟨fun _ _ _=>rfl,fun _=>rfl,fun _ _ _=>rfl,fun _=>rfl⟩
theorem zb{w:Go.World}{o:Go.Obj}:Go.RowKit.Below w.heap.size w (w.alloc o):=(Go.RowKit.Below.refl _ _).alloc (Nat.le_refl _) _
section
open Go Go.RowKit
theorem Sb {P:Program}{ops:Array Oper}{Q:Exit->Act->World->Prop}{a:Act}{w w' : World}{rest:List Oper}{o:Oper}{v:Value}(hg:o.guard=none)
 (hr:(execOp a.eval o).run P w=.ok (.value v) w') (h:wpList P ops Q rest (a.put o.dst v) w'):wpList P ops Q (o::rest) a w:=
 wpList_plain hg fun K hK=>by
  unfold Oper.wp
  rw[hr]
  exact hK _ _ h
theorem Kg {P:Program}{ops:Array Oper}{Q:Exit->Act->World->Prop}{a:Act}{w:World}{rest:List Oper}{o:Oper}(v:Value)(hg:o.guard=none)
 (hr:(execOp a.eval o).run P w=.ok (.value v) w) (h:wpList P ops Q rest (a.put o.dst v) w):wpList P ops Q (o::rest) a w:=Sb hg hr h
theorem GL {P:Program}(t e:TypeId)(n:Nat)(cs:Array Value)(k:IntKind)(i:Nat)(v:Value)(w:World)(h:P.underlying t=some (.array n e))(hi:i<n)(hv:cs[i]? = some v)(hs:∀ w,(sizeOf e).run P w=.ok 1 w)(ha:∀ w,(isAgg e).run P w=.ok false w):
 (Instr.index t (.agg cs) (.int k i)).run P w=.ok v w:=by
 simp[Instr.index,run_underlying h,asIntOf,hi,hv,hs,ha,go_sem]
def At (w:World)(b:Nat)(t:TypeId)(cs:Array Value):Prop:=w.heap[b]? = some (.cells cs t (0,0))
section
variable {w w' : World} {b:Nat} {t:TypeId} {cs:Array Value}
theorem At.lt (h:At w b t cs):b<w.heap.size:=lt_of_block h
theorem At.cell (h:At w b t cs)(i:Nat):w.cell? ⟨b,i,none⟩=cs[i]? :=cell_of_row w b i cs t (0,0) h
theorem At.free (h:At w b t cs)(i:Nat):w.frozen? ⟨b,i,none⟩=false:=frozen_of_row w b i cs t h
theorem At.new (w:World)(t:TypeId)(cs:Array Value):At (w.alloc (.cells cs t)) w.heap.size t cs:=heap_alloc_new w _
theorem At.alloc (h:At w b t cs)(o:Obj):At (w.alloc o) b t cs:=(Below.heap_alloc w o b h.lt).trans h
theorem At.drewN (h:At w b t cs)(n:Nat):At (w.drewN n) b t cs:=h
theorem At.drew (h:At w b t cs):At w.drew b t cs:=h
theorem At.set (h:At w b t cs)(i:Nat)(u:Value):At (w.setCell ⟨b,i,none⟩ u) b t (cs.setIfInBounds i u):=heap_setCell_same w b i cs t u h
theorem At.far (h:At w b t cs){p:Addr}(hp:b≠p.block)(u:Value):At (w.setCell p u) b t cs:=(heap_setCell_other w p b u hp).trans h
theorem At.keep (h:At w b t cs)(hk:w'.heap[b]? = w.heap[b]?):At w' b t cs:=hk.trans h
theorem At.below {B:Nat}(h:At w b t cs)(hb:Below B w w')(hlt:b<B):At w' b t cs:=(hb.block b hlt).trans h
theorem At.grown {row:Option Nat}(h:At w b t cs)(hg:w.grownBy w' row)(hr:some b≠row):At w' b t cs:=(hg.block b h.lt hr).trans h
end
theorem NC (w:World)(z cs:Array Value)(t:TypeId):(w.alloc (.cells z t)).setRow w.heap.size cs=w.alloc (.cells cs t):=by
 cases w with
 | mk heap tape drawn os output =>
   simp only[World.setRow,World.alloc]
   congr 1
   apply Array.ext
   ·simp
   ·intro k h1 h2
    simp only[Array.size_modify,Array.size_push] at h1 h2
    by_cases hk:k=heap.size
    ·subst hk;simp[Array.getElem_modify]
    ·have:k<heap.size:=by omega
     simp[Array.getElem_modify,Array.getElem_push,this,hk,Ne.symm hk]
theorem Vs {P:Program}(w:World)(b:Nat)(t ty:TypeId)(cur cs:Array Value)(hg:At w b t cur)(hs:cur.size=cs.size)(hi:(P.info? ty).map (·.size)=some cs.size)(h1:∀ v∈cs.toList,v.oneCell' = true):
 (Instr.storeAt ty (.pointer (some ⟨b,0,none⟩)) (.agg cs)).run P w=.ok () (w.setRow b cs):=by
 have h:=run_storeCells_at P b 0 t cs.toList 0 cur w hg (by simp[hs]) h1
 have hd:cur.toList.drop cs.size=[]:=by rw[List.drop_eq_nil_iff];simp[hs]
 simp only[Nat.zero_add,List.take_zero,List.nil_append,Array.length_toList,hd,List.append_nil,Array.toArray_toList] at h
 cases hq:P.info? ty with
 | none=>simp[hq] at hi
 | some i =>
   have hsz:cs.size=i.size:=by simp[hq] at hi;omega
   simp[Instr.storeAt,Instr.sureAddr,storeVar,sizeOf,typeInfo,hq,Value.cells,hsz,h]
theorem Fh {P:Program}{ops:Array Oper}{rest:List Oper}{op:Oper}{a:Act}{w:World}{Q:Exit->Act->World->Prop}(hgd:op.guard=none)(e:TypeId)(ho:op.op=.alloc e)(z:Array Value)
 (hz:(P.info? e).map (·.zero)=some (some (.agg z))) (h:wpList P ops Q rest (a.put op.dst (.pointer (some ⟨w.heap.size,0,none⟩))) (w.alloc (.cells z e))):wpList P ops Q (op::rest) a w:=
 Sb (w':=w.alloc (.cells z e)) (v:=.pointer (some ⟨w.heap.size,0,none⟩)) hgd (by
  cases hq:P.info? e with
  | none=>simp[hq] at hz
  | some i =>
    rw[hq] at hz
    have hz' : i.zero=some (.agg z):=by simpa using hz
    unfold execOp
    simp[ho,Instr.alloc,zeroValue,typeInfo,hq,hz',newVar,newRow,newObj,Value.cells];rfl) h
theorem wpList_store_row {P:Program}{ops:Array Oper}{rest:List Oper}{op:Oper}{a:Act}{w:World}{Q:Exit->Act->World->Prop}(hgd:op.guard=none)(ty:TypeId)(x y:Operand)(ho:op.op=.store ty x y)
 (b:Nat) (t:TypeId) (cur cs:Array Value) (hx:a.eval x=.pointer (some ⟨b,0,none⟩)) (hy:a.eval y=.agg cs)
 (hg:At w b t cur) (hs:cur.size=cs.size) (hi:(P.info? ty).map (·.size)=some cs.size) (h1:∀ v∈cs.toList,v.oneCell' = true)
 (h:wpList P ops Q rest (a.put op.dst undef) (w.setRow b cs)):wpList P ops Q (op::rest) a w:=
 wpList_plain hgd fun _ hK=>by
  unfold Oper.wp execOp
  simp only[ho,hx,hy,Sem.run_bind,Sem.run_pure,Result.andThen_ok,Vs w b t ty cur cs hg hs hi h1]
  exact hK _ _ h
theorem At.setRow {w:World}{b:Nat}{t:TypeId}{cs:Array Value}(h:At w b t cs)(cs' : Array Value):At (w.setRow b cs') b t cs':=by
 unfold At at h ⊢
 simp[World.setRow,Array.getElem?_modify,h]
theorem At.GN {w:World}{b g:Nat}{t:TypeId}{cs:Array Value}(h:At w b t cs)(hne:b≠g)(cs' : Array Value):At (w.setRow g cs') b t cs:=by
 unfold At at h ⊢
 simp[World.setRow,Array.getElem?_modify,h,Ne.symm hne]
theorem _root_.Go.RowKit.Below.setRow {B g:Nat}{a w:World}(h:Below B a w)(hg:B<=g)(cs:Array Value):Below B a (w.setRow g cs):=
 h.trans ⟨rfl,rfl,rfl,by simp,fun k hk=>by simp only[World.setRow,Array.getElem?_modify];rw[if_neg (by omega)]⟩
structure Fr (F:Nat->Prop) (w w' : World):Prop where
 os:w'.os=w.os
 tape:w'.tape=w.tape
 output:w'.output=w.output
 size:w.heap.size<=w'.heap.size
 keep:∀ k,k<w.heap.size->¬ F k->w'.heap[k]? = w.heap[k]?
section
variable {F G:Nat->Prop} {a w w' : World}
theorem Fr.refl (F:Nat->Prop)(w:World):Fr F w w:=⟨rfl,rfl,rfl,Nat.le_refl _,fun _ _ _=>rfl⟩
theorem Fr.trans (h:Fr F a w)(k:Fr G w w')(hG:∀ k,G k->F k\/a.heap.size<=k):Fr F a w' :=
 ⟨k.os.trans h.os,k.tape.trans h.tape,k.output.trans h.output,Nat.le_trans h.size k.size,fun i hi hn =>
   (k.keep i (Nat.lt_of_lt_of_le hi h.size) (fun hg=>by rcases hG i hg with h1|h1;exact hn h1;omega)).trans (h.keep i hi hn)⟩
theorem Fr.mono (h:Fr F a w)(hF:∀ k,F k->G k):Fr G a w:=⟨h.os,h.tape,h.output,h.size,fun k hk hn=>h.keep k hk (fun hf=>hn (hF k hf))⟩
theorem Fr.of_below (h:Below a.heap.size a w):Fr F a w:=⟨h.os,h.tape,h.output,h.size,fun k hk _=>h.block k hk⟩
theorem Fr.below {B:Nat}(h:Fr F a w)(hB:B<=a.heap.size)(hF:∀ k,F k->B<=k):Below B a w:=
 ⟨h.os,h.tape,h.output,h.size,fun k hk=>h.keep k (by omega) (fun hf=>by have:=hF k hf;omega)⟩
theorem Fr.drew (h:Fr F a w):Fr F a w.drew:=⟨h.os,h.tape,h.output,h.size,h.keep⟩
theorem Fr.alloc (h:Fr F a w)(o:Obj):Fr F a (w.alloc o):=
 ⟨h.os,h.tape,h.output,by simp;have:=h.size;omega,fun k hk hn=>(Below.heap_alloc w o k (Nat.lt_of_lt_of_le hk h.size)).trans (h.keep k hk hn)⟩
theorem Fr.setCell (h:Fr F a w){p:Addr}(hp:F p.block\/a.heap.size<=p.block)(u:Value):Fr F a (w.setCell p u):=
 ⟨h.os,h.tape,h.output,by simpa [World.setCell] using h.size,fun k hk hn => (heap_setCell_other w p k u (by
   rintro rfl
   rcases hp with hp|hp
   ·exact hn hp
   ·omega)).trans (h.keep k hk hn)⟩
theorem Fr.grown (h:Fr F a w){row:Option Nat}(hg:w.grownBy w' row)(hr:∀ k,row=some k->F k\/a.heap.size<=k):Fr F a w' :=
 ⟨hg.os.trans h.os,hg.tape.trans h.tape,hg.output.trans h.output,Nat.le_trans h.size hg.size,fun k hk hn =>
   (hg.block k (Nat.lt_of_lt_of_le hk h.size) (fun e=>by rcases hr k e.symm with h1|h1;exact hn h1;omega)).trans (h.keep k hk hn)⟩
theorem Fr.at (h:Fr F a w){b:Nat}{t:TypeId}{cs:Array Value}(hat:At a b t cs)(hn:¬ F b):At w b t cs:=(h.keep b hat.lt hn).trans hat
end
end
section
open Go Go.RowKit Go.Maps
theorem below_drewN {B:Nat}{a w:World}(h:Below B a w)(n:Nat):Below B a (w.drewN n):=⟨h.os,h.tape,h.output,h.size,h.block⟩
theorem At.ne {w:World}{b b' : Nat}{t t' : TypeId}{cs cs' : Array Value}(h:At w b t cs)(h' : At w b' t' cs')(ht:t≠t'):b≠b':=by
 rintro rfl
 unfold At at h h'
 rw[h] at h'
 simp only[Option.some.injEq,Obj.cells.injEq] at h'
 exact ht h'.2.1
theorem Ao {w:World}{base g n size:Nat}{e:TypeId}{v:Value}{xs:List Value}(h:w.ownsRow base e size v n xs)(hg:v.ownBlock=some g):∃ cur,At w g e cur:=by
 obtain⟨_,⟨rfl,_⟩|⟨g',cap,cur,rfl,_,hc,_⟩⟩:=h
 ·cases hg
 ·cases hg;exact⟨cur,hc⟩
theorem Ar {w w' : World}{base n size:Nat}{e:TypeId}{v:Value}{xs:List Value}(h:w.ownsRow base e size v n xs)(hk:∀ k,v.ownBlock=some k->w'.heap[k]? = w.heap[k]?):w'.ownsRow base e size v n xs:=by
 obtain⟨hl,hn|⟨g,cap,cur,rfl,hb,hc,hr⟩⟩:=h
 ·exact⟨hl,.inl hn⟩
 ·exact⟨hl,.inr ⟨g,cap,cur,rfl,hb,by rw[hk g rfl];exact hc,hr⟩⟩
theorem BM {w:World}{base n size:Nat}{e:TypeId}{v:Value}{xs:List Value}(h:w.ownsRow base e size v n xs)(hn:0<n):∃ g cap,v=.slice (some ⟨g,0,none⟩) n cap/\∀ i x,xs[i]? = some x->w.cell? ⟨g,i,none⟩=some x:=by
 obtain⟨hl,⟨_,h0⟩|⟨g,cap,cur,rfl,_,hc,_,_,hcs,ht⟩⟩:=h
 ·omega
 ·refine⟨g,cap,rfl,fun i x hx=>?_⟩
  rw[At.cell hc i,<- Array.getElem?_toList]
  rw[<- ht,List.getElem?_take] at hx
  split at hx
  ·exact hx
  ·cases hx
theorem Sc {w:World}{base g n:Nat}{e:TypeId}{xs:List Value}(h:w.ownsRow base e 1 (.slice (some ⟨g,0,none⟩) n n) n xs):At w g e xs.toArray:=by
 obtain⟨hl,⟨h0,_⟩|⟨g',cap,cur,hv,_,hc,_,_,hcs,ht⟩⟩:=h
 ·cases h0
 ·simp only[Value.slice.injEq,Option.some.injEq,Addr.mk.injEq] at hv
  obtain⟨⟨rfl,_⟩,_,rfl⟩:=hv
  have:cur=xs.toArray:=by
   rw[<- ht,List.take_of_length_le (by rw[Array.length_toList];omega)]
  rw[<- this]
  exact hc
theorem Ah {w:World}{base n size:Nat}{e:TypeId}{v:Value}{xs:List Value}(h:w.ownsRow base e size v n xs):∃ a m c,v=.slice a m c:=by
 obtain⟨_,⟨rfl,_⟩|⟨g,cap,cur,rfl,_⟩⟩:=h
 ·exact⟨_,_,_,rfl⟩
 ·exact⟨_,_,_,rfl⟩
theorem Az {w:World}{base n size:Nat}{e:TypeId}{v:Value}{xs:List Value}(h:w.ownsRow base e size v n xs):∀ k,v.ownBlock=some k->base<=k:=by
 intro k hk
 obtain⟨_,⟨rfl,_⟩|⟨g,cap,cur,rfl,hg,_⟩⟩:=h
 ·cases hk
 ·have : g = k :=by
   have hk' : some g=some k:=hk
   simpa using hk'
  omega
theorem jZ {w:World}{base g n' cap n size:Nat}{e:TypeId}{xs:List Value}(h:w.ownsRow base e size (.slice (some ⟨g,0,none⟩) n' cap) n xs):base<=g/\g<w.heap.size:=by
 obtain⟨_,⟨h0,_⟩|⟨g',cap',cur,hgv,hle,hc,_⟩⟩:=h
 ·cases h0
 ·cases hgv
  exact⟨hle,lt_of_block hc⟩
theorem Kh {P:Program}{k:TypeId}{R:Value->Option (DataW Unit × List MemPlace)}{w w' : World}{b n:Nat}{D:DataW Unit}(h:w.ownsMap P k R b n D)(hk:w'.heap[b]? = w.heap[b]?):w'.ownsMap P k R b n D:=by
 obtain⟨es,clock,hb,F,hs,hD⟩:=h
 exact⟨es,clock,by rw[hk];exact hb,F,hs,hD⟩
theorem At.MF {P:Program}{k:TypeId}{R:Value->Option (DataW Unit × List MemPlace)}{w:World}{b g n:Nat}{D:DataW Unit}{t:TypeId}{cs:Array Value}(h:At w b t cs)(hm:w.ownsMap P k R g n D):b≠g:=by
 rintro rfl
 obtain⟨es,clock,hb,_⟩:=hm
 unfold At at h
 rw[h] at hb
 cases hb
theorem At.own_ne {w:World}{b base n size:Nat}{t e:TypeId}{cs:Array Value}{v:Value}{xs:List Value}(h:At w b t cs)(ho:w.ownsRow base e size v n xs)(ht:t≠e):v.ownBlock≠some b:=by
 intro hb
 obtain⟨cur,hc⟩:=Ao ho hb
 exact h.ne hc ht rfl
theorem kg {w:World}{b i:Nat}{v:Value}(h:w.cell? ⟨b,i,none⟩=some v):b<w.heap.size:=by
 by_cases hb:b<w.heap.size
 ·exact hb
 ·have e:w.heap[b]? = none:=Array.getElem?_eq_none (by omega)
  simp[World.cell?,e] at h
theorem Pj {w w' : World}{a:Addr}(h:w'.heap[a.block]? = w.heap[a.block]?):w'.cell? a=w.cell? a:=by unfold World.cell?;rw[h]
theorem lX (w:World):w.drew.heap=w.heap:=rfl
theorem block_lt {w:World}{a:Addr}{v:Value}(h:w.cell? a=some v):a.block<w.heap.size:=by
 apply Classical.byContradiction
 intro hn
 have:w.heap[a.block]? = none:=Array.getElem?_eq_none (by omega)
 unfold World.cell? at h
 rw[this] at h
 cases h
theorem At.new1 (w:World)(o:Obj)(t:TypeId)(cs:Array Value):At ((w.alloc o).alloc (.cells cs t)) (w.heap.size+1) t cs:=by
 have:=At.new (w.alloc o) t cs
 rw[World.size_alloc] at this
 exact this
theorem IJ (w:World)(x:Value)(t:TypeId):(w.alloc (.cells #[x] t)).cell? ⟨w.heap.size,0,none⟩=some x:=(At.new w t #[x]).cell 0
theorem Pk {fn:Func}{p u:Tmp}{ty:TypeId}(h:fn.results=#[.tmp u,.cell p ty])(tmps:Array Value)(P:Program)(w:World):
 (results fn tmps).run P w =
   ((asAddr (tmps.getD p undef)).run P w).andThen fun a w₁ => ((loadVar ty a).run P w₁).andThen fun v w₂ => .ok (.tuple #[tmps.getD u undef,v]) w₂ :=by
 simp only[results,h]
 simp[Sem.run_bind,Result.andThen]
theorem Cw {base:Nat}{e:TypeId}{size n:Nat}{xs:List Value}{v:Value}{a w1 w w' : World}(h:Below base a w)(hB:base<=w.heap.size)(hv:w1.ownsRow base e size v n xs)(hg:w.grownBy w' v.ownBlock):Below base a w':=by
 refine h.grown hg hB fun k hk=>?_
 obtain⟨_,⟨rfl,_⟩|⟨g,cap,cur,rfl,hb,_⟩⟩:=hv
 ·cases hk
 ·cases hk;exact hb
theorem JR {P:Program}{w:World}(base:Nat)(t ty e:TypeId)(i:TypeInfo)(size:Nat)(ht:P.underlying t=some (.slice e))(hi:P.info? e=some i)(v:Value)(n c:Nat)(xs:List Value)(hown:w.ownsRow base e size v n xs):
 (Builtin.append_ #[t,t] ty #[v,.slice none 0 c]).run P w=.ok v w:=by
 rcases hown.2 with ⟨rfl,rfl⟩|⟨g,cap,cur,rfl,_,_,hnc,_⟩
 ·simp[Builtin.append_,run_underlying ht,sizeOf,typeInfo,hi,Builtin.lenOf,Builtin.firstCells]
 ·simp[Builtin.append_,run_underlying ht,sizeOf,typeInfo,hi,Builtin.lenOf,Builtin.firstCells,hnc,storeCells]
theorem Dl {P:Program}(w:World)(src e dst:TypeId)(hs:P.underlying src=some (.slice e))(he:P.underlying e=some (.int .u8))(hd:P.underlying dst=some .string){base n:Nat}{v:Value}(xs:List Int)
 (h:w.ownsRow base e 1 v n (xs.map (Value.int .u8))):(convert src dst v).run P w=.ok (.string (strOfNums xs)) w:=by
 obtain⟨hl,⟨rfl,hn⟩|⟨g,cap,cur,rfl,hb,hg,hc,hm,hcs,ht⟩⟩:=h
 ·have : xs = [] :=by
   rw[List.length_map,hn] at hl
   exact List.eq_nil_of_length_eq_zero (by omega)
  subst this
  exact run_convert_bytes_nil w src e hs he 0 0 dst hd
 ·have hl' : xs.length=n:=by rw[List.length_map] at hl;omega
  refine run_convert_bytes_arg w src e hs he g 0 n cap xs hl' (fun i hi=>?_) dst hd
  rw[Nat.zero_add,At.cell hg i]
  have h1:cur.toList[i]? = ((xs.map (Value.int .u8)))[i]? :=by
   rw[<- ht,List.getElem?_take_of_lt (by omega)]
  rw[<- Array.getElem?_toList,h1,List.getElem?_map,List.getD_eq_getElem?_getD,List.getElem?_eq_getElem (by omega)]
  rfl
theorem At.c1{w:World}{k:Nat}{t:TypeId}{a:Value}{l:List Value}(h:At w k t (List.toArray (a::l))):w.cell? ⟨k,0,none⟩=some a:=(h.cell 0).trans (by simp)
theorem At.c2{w:World}{k:Nat}{t:TypeId}{a b:Value}{l:List Value}(h:At w k t (List.toArray (a::b::l))):w.cell? ⟨k,0,none⟩=some a/\w.cell? ⟨k,1,none⟩=some b:=⟨(h.cell 0).trans (by simp),(h.cell 1).trans (by simp)⟩
theorem At.c3{w:World}{k:Nat}{t:TypeId}{a b c:Value}{l:List Value}(h:At w k t (List.toArray (a::b::c::l))):w.cell? ⟨k,0,none⟩=some a/\w.cell? ⟨k,1,none⟩=some b/\w.cell? ⟨k,2,none⟩=some c:=⟨(h.cell 0).trans (by simp),(h.cell 1).trans (by simp),(h.cell 2).trans (by simp)⟩
theorem At.c4{w:World}{k:Nat}{t:TypeId}{a b c d:Value}{l:List Value}(h:At w k t (List.toArray (a::b::c::d::l))):w.cell? ⟨k,0,none⟩=some a/\w.cell? ⟨k,1,none⟩=some b/\w.cell? ⟨k,2,none⟩=some c/\w.cell? ⟨k,3,none⟩=some d:=⟨(h.cell 0).trans (by simp),(h.cell 1).trans (by simp),(h.cell 2).trans (by simp),(h.cell 3).trans (by simp)⟩
theorem At.c6{w:World}{k:Nat}{t:TypeId}{a b c d e f:Value}{l:List Value}(h:At w k t (List.toArray (a::b::c::d::e::f::l))):w.cell? ⟨k,0,none⟩=some a/\w.cell? ⟨k,1,none⟩=some b/\w.cell? ⟨k,2,none⟩=some c/\w.cell? ⟨k,3,none⟩=some d/\w.cell? ⟨k,4,none⟩=some e/\w.cell? ⟨k,5,none⟩=some f:=⟨(h.cell 0).trans (by simp),(h.cell 1).trans (by simp),(h.cell 2).trans (by simp),(h.cell 3).trans (by simp),(h.cell 4).trans (by simp),(h.cell 5).trans (by simp)⟩
theorem Dz:(Tryz.prog.info? 9).map (fun i=>(i.zero,i.size,i.bytes))=some (some (.string ⟨#[]⟩),1,16):=by kernel_rfl
def Am (w:World)(v:Value)(xs:List ByteArray):Prop:=
 ∃ a c,v=.slice a xs.length c/\(xs.length=0\/∃ b o,a=some ⟨b,o,none⟩/\∀ j,j<xs.length->w.cell? ⟨b,o+j,none⟩=some (.string (xs.getD j ⟨#[]⟩)))
theorem Am.own {w:World}{base:Nat}{v:Value}{xs:List ByteArray}(h:w.ownsRow base 9 1 v xs.length (xs.map Value.string)):Am w v xs:=by
 by_cases h0:0<xs.length
 ·obtain⟨g,cap,rfl,hc⟩:=BM h h0
  refine⟨_,_,rfl,.inr ⟨g,0,rfl,fun j hj=>?_⟩⟩
  rw[Nat.zero_add]
  refine hc j _ ?_
  simp[List.getD_eq_getElem?_getD,hj]
 ·obtain⟨_,⟨rfl,hn⟩|⟨g,cap,cur,rfl,_⟩⟩:=h
  ·exact⟨none,0,by rw[hn],.inl hn⟩
  ·exact⟨_,_,rfl,.inl (by omega)⟩
theorem Am.drewN {w:World}{v:Value}{xs:List ByteArray}(h:Am w v xs)(q:Nat):Am (w.drewN q) v xs:=h
theorem Am.below {w w' : World}{v:Value}{xs:List ByteArray}(h:Am w v xs)(hb:Below w.heap.size w w'):Am w' v xs:=by
 obtain⟨a,c,rfl,h0|⟨b,o,rfl,hc⟩⟩:=h
 ·exact⟨_,_,rfl,.inl h0⟩
 ·refine⟨_,_,rfl,.inr ⟨b,o,rfl,fun j hj=>?_⟩⟩
  have:=hc j hj
  rw[hb.cell (p:=⟨b,o+j,none⟩) (block_lt this)]
  exact this
theorem Am.len {w:World}{v:Value}{xs:List ByteArray}(h:Am w v xs):∃ a c,v=.slice a xs.length c:=⟨h.choose,h.choose_spec.choose,h.choose_spec.choose_spec.1⟩
theorem Am.cellAt {w:World}{b o n c k:Nat}{xs:List ByteArray}(h:Am w (.slice (some ⟨b,o,none⟩) n c) xs)(hk:k<xs.length):w.cell? ⟨b,o+k,none⟩=some (.string (xs.getD k ⟨#[]⟩)):=by
 obtain⟨a',c',he',h0|⟨b',o',e',hc'⟩⟩:=h
 ·omega
 ·cases he'
  cases e'
  exact hc' k hk
theorem Am.addrOf {w:World}{a:Option Addr}{n c k:Nat}{xs:List ByteArray}(h:Am w (.slice a n c) xs)(hk:k<xs.length):∃ b o,a=some ⟨b,o,none⟩:=by
 obtain⟨a',c',he',h0|⟨b',o',e',hc'⟩⟩:=h
 ·omega
 ·cases he'
  exact⟨b',o',e'⟩
theorem Am.keep {w w' : World}{v:Value}{xs:List ByteArray}(h:Am w v xs)(hk:∀ k,v.ownBlock=some k->k<w.heap.size->w'.heap[k]? = w.heap[k]?):Am w' v xs:=by
 obtain⟨a,c,rfl,h0|⟨b,o,rfl,hc⟩⟩:=h
 ·exact⟨_,_,rfl,.inl h0⟩
 ·refine⟨_,_,rfl,.inr ⟨b,o,rfl,fun j hj=>?_⟩⟩
  have h1:=hc j hj
  rw[Pj (hk b rfl (block_lt h1))]
  exact h1
theorem Am.blk {w:World}{v:Value}{xs:List ByteArray}(h:Am w v xs)(h0:0<xs.length):∀ k,v.ownBlock=some k->k<w.heap.size:=by
 intro k hk
 obtain⟨a,c,rfl,h1|⟨b,o,rfl,hc⟩⟩:=h
 ·omega
 ·cases hk
  exact block_lt (hc 0 h0)
theorem Am.empty {w:World}{v:Value}{xs:List ByteArray}(h:Am w v xs)(h0:xs.length=0)(w' : World):Am w' v xs:=by
 obtain⟨a,c,rfl,_⟩:=h
 exact⟨_,_,rfl,.inl h0⟩
theorem oF (w:World)(b:Nat)(x:UInt8)(h:w.cell? ⟨b,0,none⟩=some (.int .u8 (x.toNat:Int))):(convert 116 9 (.slice (some ⟨b,0,none⟩) 1 1)).run Tryz.prog w=.ok (.string ⟨#[x]⟩) w:=by
 have hB:Lib.Bytes w b 0 ⟨#[x]⟩:=by
  intro i hi
  have:i=0:=by
   have h1:(⟨#[x]⟩:ByteArray).size=1:=rfl
   omega
  subst this
  exact h
 exact Lib.run_convert_whole (P:=Tryz.prog) w 116 5 9 rfl rfl rfl _ _ _ hB 1
theorem Lm:(Tryz.prog.info? 5).map (fun i=>(i.zero,i.size,i.bytes))=some (some (.int .u8 0),1,1):=by kernel_rfl
end
end Go.Proofs.YtdiiafgoccakkaaGreatDoor
namespace Go.Proofs
open Go.Shelf
def Tryz.lays169_ren:Go.Shelf.Ren:=⟨fun|169=>52|n=>n,fun|70=>115|9=>9|0=>0|72=>118|37=>116|127=>174|3=>3|5=>5|n=>n,fun|n=>n⟩
theorem Tryz.lays169:Go.Proofs.Lays.n169 Tryz.prog Tryz.lays169_ren :={
 mixed:=by kernel_rfl
 f169:=Tryz.func52.trans (congrArg some (by kernel_rfl))
 t0:=Tryz.underlying0
 a0:=Tryz.isAgg0
 z0:=Tryz.sizeOf0
 v0:=Tryz.zeroValue0
 t3:=Tryz.underlying3
 a3:=Tryz.isAgg3
 z3:=Tryz.sizeOf3
 v3:=Tryz.zeroValue3
 t9:=Tryz.underlying9
 a9:=Tryz.isAgg9
 z9:=Tryz.sizeOf9
 v9:=Tryz.zeroValue9
 t37:=Tryz.underlying116
 a37:=Tryz.isAgg116
 z37:=Tryz.sizeOf116
 v37:=Tryz.zeroValue116
 t70:=Tryz.underlying115
 a70:=Tryz.isAgg115
 z70:=Tryz.sizeOf115
 v70:=Tryz.zeroValue115
 t72:=Tryz.underlying118
 a72:=Tryz.isAgg118
 z72:=Tryz.sizeOf118
 v72:=Tryz.zeroValue118
 t127:=Tryz.underlying174
 a127:=Tryz.isAgg174
 z127:=Tryz.sizeOf174
 v127:=Tryz.zeroValue174 }
theorem Tryz.Builder_Extra_169:Builder.Extra Tryz.prog Tryz.lays169_ren :={
 sizeBuilder:=by kernel_rfl
 liesBuilder:=by kernel_rfl
 t5:=Tryz.underlying5
 a5:=Tryz.isAgg5
 z5:=Tryz.sizeOf5
 v5:=Tryz.zeroValue5
 infoByte:=by kernel_rfl
 cellsByte:=by kernel_rfl
 sizeByte:=by kernel_rfl
 neB5:=by decide }
def Tryz.lays160_ren:Go.Shelf.Ren:=⟨fun|160=>98|232=>150|231=>149|227=>151|234=>153|233=>152|236=>155|235=>154|228=>194|271=>197|151=>196|197=>195|120=>221|152=>220|260=>219|137=>229|119=>230|224=>231|225=>232|217=>234|266=>235|n=>n,fun|9=>9|4=>4|3=>3|5=>5|117=>216|116=>215|0=>0|124=>219|21=>21|105=>257|46=>195|119=>287|139=>290|138=>289|n=>n,fun|3=>1|4=>2|n=>n⟩
theorem Tryz.lays160:Go.Proofs.Lays.n160 Tryz.prog Tryz.lays160_ren :={
 mixed:=by kernel_rfl
 f119:=Tryz.func230.trans (congrArg some (by kernel_rfl))
 f120:=Tryz.func221.trans (congrArg some (by kernel_rfl))
 f137:=Tryz.func229.trans (congrArg some (by kernel_rfl))
 f151:=Tryz.func196.trans (congrArg some (by kernel_rfl))
 f152:=Tryz.func220.trans (congrArg some (by kernel_rfl))
 f160:=Tryz.func98.trans (congrArg some (by kernel_rfl))
 f197:=Tryz.func195.trans (congrArg some (by kernel_rfl))
 f217:=Tryz.func234.trans (congrArg some (by kernel_rfl))
 f224:=Tryz.func231.trans (congrArg some (by kernel_rfl))
 f225:=Tryz.func232.trans (congrArg some (by kernel_rfl))
 f227:=Tryz.func151.trans (congrArg some (by kernel_rfl))
 f228:=Tryz.func194.trans (congrArg some (by kernel_rfl))
 f231:=Tryz.func149.trans (congrArg some (by kernel_rfl))
 f232:=Tryz.func150.trans (congrArg some (by kernel_rfl))
 f233:=Tryz.func152.trans (congrArg some (by kernel_rfl))
 f234:=Tryz.func153.trans (congrArg some (by kernel_rfl))
 f235:=Tryz.func154.trans (congrArg some (by kernel_rfl))
 f236:=Tryz.func155.trans (congrArg some (by kernel_rfl))
 f260:=Tryz.func219.trans (congrArg some (by kernel_rfl))
 f266:=Tryz.func235.trans (congrArg some (by kernel_rfl))
 f271:=Tryz.func197.trans (congrArg some (by kernel_rfl))
 t0:=Tryz.underlying0
 a0:=Tryz.isAgg0
 z0:=Tryz.sizeOf0
 v0:=Tryz.zeroValue0
 t3:=Tryz.underlying3
 a3:=Tryz.isAgg3
 z3:=Tryz.sizeOf3
 v3:=Tryz.zeroValue3
 t4:=Tryz.underlying4
 a4:=Tryz.isAgg4
 z4:=Tryz.sizeOf4
 v4:=Tryz.zeroValue4
 t5:=Tryz.underlying5
 a5:=Tryz.isAgg5
 z5:=Tryz.sizeOf5
 v5:=Tryz.zeroValue5
 t9:=Tryz.underlying9
 a9:=Tryz.isAgg9
 z9:=Tryz.sizeOf9
 v9:=Tryz.zeroValue9
 t21:=Tryz.underlying21
 a21:=Tryz.isAgg21
 z21:=Tryz.sizeOf21
 v21:=Tryz.zeroValue21
 t46:=Tryz.underlying195
 a46:=Tryz.isAgg195
 z46:=Tryz.sizeOf195
 v46:=Tryz.zeroValue195
 t105:=Tryz.underlying257
 a105:=Tryz.isAgg257
 z105:=Tryz.sizeOf257
 v105:=Tryz.zeroValue257
 t116:=Tryz.underlying215
 a116:=Tryz.isAgg215
 z116:=Tryz.sizeOf215
 t117:=Tryz.underlying216
 a117:=Tryz.isAgg216
 z117:=Tryz.sizeOf216
 v117:=Tryz.zeroValue216
 t119:=Tryz.underlying287
 a119:=Tryz.isAgg287
 z119:=Tryz.sizeOf287
 t124:=Tryz.underlying219
 a124:=Tryz.isAgg219
 z124:=Tryz.sizeOf219
 v124:=Tryz.zeroValue219
 t138:=Tryz.underlying289
 a138:=Tryz.isAgg289
 z138:=Tryz.sizeOf289
 v138:=Tryz.zeroValue289
 t139:=Tryz.underlying290
 a139:=Tryz.isAgg290
 z139:=Tryz.sizeOf290
 v139:=Tryz.zeroValue290
 g3:=by kernel_rfl
 g4:=by kernel_rfl }
open Go.RowKit in
theorem Tryz.strings_Trim_one (s:ByteArray)(c:UInt8)(hc:c.toNat<128)(w:World)(hs:s.size<=9223372036854775807):
 Calls Tryz.prog 98 #[.string s,.string ⟨#[c]⟩] w fun e w' => e=.returned (.string ⟨(Lib.trimB s.data.toList c).toArray⟩)/\(w' = w\/w' = w.drew):=Any.strings_Trim_one Tryz.lays160 s c hc w hs
def Tryz.lays122_ren:Go.Shelf.Ren:=⟨fun|122=>47|215=>101|n=>n,fun|3=>3|4=>4|n=>n,fun|n=>n⟩
theorem Tryz.lays122:Go.Proofs.Lays.n122 Tryz.prog Tryz.lays122_ren :={
 mixed:=by kernel_rfl
 f122:=Tryz.func47.trans (congrArg some (by kernel_rfl))
 f215:=Tryz.func101.trans (congrArg some (by kernel_rfl))
 t3:=Tryz.underlying3
 a3:=Tryz.isAgg3
 z3:=Tryz.sizeOf3
 v3:=Tryz.zeroValue3
 t4:=Tryz.underlying4
 a4:=Tryz.isAgg4
 z4:=Tryz.sizeOf4
 v4:=Tryz.zeroValue4 }
open Go.RowKit in
theorem Tryz.cmp_Compare_int (x y:Int)(w:World):
 Calls Tryz.prog 47 #[.int .i64 x,.int .i64 y] w fun e w' => e=.returned (.int .i64 (Lib.compareInt x y))/\w' = w:=Any.cmp_Compare_int Tryz.lays122 x y w
open Go.RowKit in
theorem Tryz.Builder_String_any_f (B b:Nat)(l:List UInt8)(w:World)(h:Lib.IsBuilderF 118 5 B b (Lib.byteCells l) w)(hBw:B<=w.heap.size):
 Calls Tryz.prog 52 #[.pointer (some ⟨b,0,none⟩)] w fun e w' => e=.returned (.string ⟨l.toArray⟩)/\(Lib.IsBuilderF 118 5 B b (Lib.byteCells l) w' /\ Below B w w'):=Any.Builder_String_any_f Tryz.lays169 Tryz.Builder_Extra_169 B b l w h hBw
def Tryz.laysM316_ren:Go.Shelf.Ren:=⟨fun|316=>205|n=>n,fun|9=>9|3=>3|4=>4|37=>116|0=>0|127=>174|5=>5|n=>n,fun|n=>n⟩
theorem Tryz.laysM316:Go.Proofs.LaysM.n316 Tryz.prog Tryz.laysM316_ren :={
 mixed:=by kernel_rfl
 f316:=Tryz.func205.trans (congrArg some (by kernel_rfl))
 t0:=Tryz.underlying0
 a0:=Tryz.isAgg0
 z0:=Tryz.sizeOf0
 v0:=Tryz.zeroValue0
 t3:=Tryz.underlying3
 a3:=Tryz.isAgg3
 z3:=Tryz.sizeOf3
 v3:=Tryz.zeroValue3
 t4:=Tryz.underlying4
 a4:=Tryz.isAgg4
 z4:=Tryz.sizeOf4
 v4:=Tryz.zeroValue4
 t9:=Tryz.underlying9
 a9:=Tryz.isAgg9
 z9:=Tryz.sizeOf9
 v9:=Tryz.zeroValue9
 t37:=Tryz.underlying116
 a37:=Tryz.isAgg116
 z37:=Tryz.sizeOf116
 v37:=Tryz.zeroValue116
 t127:=Tryz.underlying174
 a127:=Tryz.isAgg174
 z127:=Tryz.sizeOf174
 v127:=Tryz.zeroValue174
 t5:=Tryz.underlying5
 a5:=Tryz.isAgg5
 z5:=Tryz.sizeOf5
 v5:=Tryz.zeroValue5
 i0:=by kernel_rfl
 i3:=by kernel_rfl
 i4:=by kernel_rfl
 i5:=by kernel_rfl
 i9:=by kernel_rfl
 i37:=by kernel_rfl
 i127:=by kernel_rfl }
open Go.RowKit in
theorem Tryz.stringslite_Clone (s:ByteArray)(w:World)(hlim:s.size<=281474976710656):
 Calls Tryz.prog 205 #[.string s] w fun e w' => e=.returned (.string s)/\Below w.heap.size w w':=Any.stringslite_Clone Tryz.laysM316 s w hlim
def Tryz.lays105_ren:Go.Shelf.Ren:=⟨fun|105=>65|212=>124|99=>125|165=>126|166=>51|170=>127|169=>52|263=>174|264=>175|206=>176|240=>102|241=>177|276=>156|277=>207|n=>n,fun|9=>9|3=>3|4=>4|20=>20|0=>0|46=>195|109=>196|5=>5|72=>118|76=>124|51=>204|146=>244|53=>230|148=>246|70=>115|37=>116|75=>123|127=>174|164=>220|80=>126|n=>n,fun|n=>n⟩
theorem Tryz.lays105:Go.Proofs.Lays.n105 Tryz.prog Tryz.lays105_ren :={
 mixed:=by kernel_rfl
 f99:=Tryz.func125.trans (congrArg some (by kernel_rfl))
 f105:=Tryz.func65.trans (congrArg some (by kernel_rfl))
 f165:=Tryz.func126.trans (congrArg some (by kernel_rfl))
 f166:=Tryz.func51.trans (congrArg some (by kernel_rfl))
 f169:=Tryz.func52.trans (congrArg some (by kernel_rfl))
 f170:=Tryz.func127.trans (congrArg some (by kernel_rfl))
 f206:=Tryz.func176.trans (congrArg some (by kernel_rfl))
 f212:=Tryz.func124.trans (congrArg some (by kernel_rfl))
 f240:=Tryz.func102.trans (congrArg some (by kernel_rfl))
 f241:=Tryz.func177.trans (congrArg some (by kernel_rfl))
 f263:=Tryz.func174.trans (congrArg some (by kernel_rfl))
 f264:=Tryz.func175.trans (congrArg some (by kernel_rfl))
 f276:=Tryz.func156.trans (congrArg some (by kernel_rfl))
 f277:=Tryz.func207.trans (congrArg some (by kernel_rfl))
 t0:=Tryz.underlying0
 a0:=Tryz.isAgg0
 z0:=Tryz.sizeOf0
 v0:=Tryz.zeroValue0
 t3:=Tryz.underlying3
 a3:=Tryz.isAgg3
 z3:=Tryz.sizeOf3
 v3:=Tryz.zeroValue3
 t4:=Tryz.underlying4
 a4:=Tryz.isAgg4
 z4:=Tryz.sizeOf4
 v4:=Tryz.zeroValue4
 t5:=Tryz.underlying5
 a5:=Tryz.isAgg5
 z5:=Tryz.sizeOf5
 v5:=Tryz.zeroValue5
 t9:=Tryz.underlying9
 a9:=Tryz.isAgg9
 z9:=Tryz.sizeOf9
 v9:=Tryz.zeroValue9
 t20:=Tryz.underlying20
 a20:=Tryz.isAgg20
 z20:=Tryz.sizeOf20
 v20:=Tryz.zeroValue20
 t37:=Tryz.underlying116
 a37:=Tryz.isAgg116
 z37:=Tryz.sizeOf116
 v37:=Tryz.zeroValue116
 t46:=Tryz.underlying195
 a46:=Tryz.isAgg195
 z46:=Tryz.sizeOf195
 v46:=Tryz.zeroValue195
 t51:=Tryz.underlying204
 a51:=Tryz.isAgg204
 z51:=Tryz.sizeOf204
 v51:=Tryz.zeroValue204
 t53:=Tryz.underlying230
 a53:=Tryz.isAgg230
 z53:=Tryz.sizeOf230
 v53:=Tryz.zeroValue230
 t70:=Tryz.underlying115
 a70:=Tryz.isAgg115
 z70:=Tryz.sizeOf115
 v70:=Tryz.zeroValue115
 t72:=Tryz.underlying118
 a72:=Tryz.isAgg118
 z72:=Tryz.sizeOf118
 v72:=Tryz.zeroValue118
 t75:=Tryz.underlying123
 a75:=Tryz.isAgg123
 z75:=Tryz.sizeOf123
 v75:=Tryz.zeroValue123
 t76:=Tryz.underlying124
 a76:=Tryz.isAgg124
 z76:=Tryz.sizeOf124
 v76:=Tryz.zeroValue124
 t109:=Tryz.underlying196
 a109:=Tryz.isAgg196
 z109:=Tryz.sizeOf196
 v109:=Tryz.zeroValue196
 t127:=Tryz.underlying174
 a127:=Tryz.isAgg174
 z127:=Tryz.sizeOf174
 v127:=Tryz.zeroValue174
 t146:=Tryz.underlying244
 a146:=Tryz.isAgg244
 z146:=Tryz.sizeOf244
 v146:=Tryz.zeroValue244
 t148:=Tryz.underlying246
 a148:=Tryz.isAgg246
 z148:=Tryz.sizeOf246
 v148:=Tryz.zeroValue246
 t164:=Tryz.underlying220
 a164:=Tryz.isAgg220
 z164:=Tryz.sizeOf220
 v164:=Tryz.zeroValue220 }
theorem Tryz.Builder_Extra_105:Builder.Extra Tryz.prog Tryz.lays105_ren :={
 sizeBuilder:=by kernel_rfl
 liesBuilder:=by kernel_rfl
 t5:=Tryz.underlying5
 a5:=Tryz.isAgg5
 z5:=Tryz.sizeOf5
 v5:=Tryz.zeroValue5
 infoByte:=by kernel_rfl
 cellsByte:=by kernel_rfl
 sizeByte:=by kernel_rfl
 neB5:=by decide }
open Go.RowKit Go.Lib in
theorem Tryz.strings_Repeat (s:ByteArray)(c:Nat)(w:World)(hc:c<=9223372036854775807)(hlen:s.size*c<=140737488355328):
 Calls Tryz.prog 65 #[.string s,.int .i64 c] w fun e w' => e=.returned (.string ⟨(Lib.repeatL s.data.toList c).toArray⟩)/\Below w.heap.size w w':=Any.strings_Repeat Tryz.lays105 Tryz.Builder_Extra_105 s c w hc hlen
def Tryz.lays193_ren:Go.Shelf.Ren:=⟨fun|193=>21|n=>n,fun|31=>23|9=>9|4=>4|3=>3|0=>0|n=>n,fun|n=>n⟩
theorem Tryz.lays193:Go.Proofs.Lays.n193 Tryz.prog Tryz.lays193_ren :={
 mixed:=by kernel_rfl
 f193:=Tryz.func21.trans (congrArg some (by kernel_rfl))
 t0:=Tryz.underlying0
 a0:=Tryz.isAgg0
 z0:=Tryz.sizeOf0
 v0:=Tryz.zeroValue0
 t3:=Tryz.underlying3
 a3:=Tryz.isAgg3
 z3:=Tryz.sizeOf3
 v3:=Tryz.zeroValue3
 t4:=Tryz.underlying4
 a4:=Tryz.isAgg4
 z4:=Tryz.sizeOf4
 v4:=Tryz.zeroValue4
 t9:=Tryz.underlying9
 a9:=Tryz.isAgg9
 z9:=Tryz.sizeOf9
 v9:=Tryz.zeroValue9
 t31:=Tryz.underlying23
 a31:=Tryz.isAgg23
 z31:=Tryz.sizeOf23
 v31:=Tryz.zeroValue23 }
open Go.RowKit Go.Lib in
theorem Tryz.slices_Equal_string (b1 o1 n c b2 o2 m d:Nat)(xs ys:List ByteArray)(w:World)(hx:n<=xs.length)(hy:m<=ys.length)(hbig:n<=9223372036854775807)(hbig2:m<=9223372036854775807)(hc1:∀ j,j<xs.length->w.cell? ⟨b1,o1+j,none⟩=some (.string (xs.getD j ByteArray.empty)))(hc2:∀ j,j<ys.length->w.cell? ⟨b2,o2+j,none⟩=some (.string (ys.getD j ByteArray.empty))):
 Calls Tryz.prog 21 #[.slice (some ⟨b1,o1,none⟩) n c,.slice (some ⟨b2,o2,none⟩) m d] w fun e w' => e=.returned (.bool (decide (xs.take n=ys.take m)))/\∃ q,w' = w.drewN q:=Any.slices_Equal_string Tryz.lays193 b1 o1 n c b2 o2 m d xs ys w hx hy hbig hbig2 hc1 hc2
open Go.RowKit Go.Lib in
theorem Tryz.slices_Equal_string_empty (a1 a2:Option Addr)(c m d:Nat)(w:World)(hbig2:m<=9223372036854775807):
 Calls Tryz.prog 21 #[.slice a1 0 c,.slice a2 m d] w fun e w' => e=.returned (.bool (decide (m=0)))/\w' = w:=Any.slices_Equal_string_empty Tryz.lays193 a1 a2 c m d w hbig2
def Tryz.laysNm216_ren:Go.Shelf.Ren:=⟨fun|16=>75|n=>n,fun|24=>23|9=>9|4=>4|n=>n,fun|n=>n⟩
theorem Tryz.laysNm216:Go.Proofs.Lays2.n16 Tryz.prog Tryz.laysNm216_ren :={
 mixed:=by kernel_rfl
 f16:=Tryz.func75.trans (congrArg some (by kernel_rfl))
 t4:=Tryz.underlying4
 a4:=Tryz.isAgg4
 z4:=Tryz.sizeOf4
 v4:=Tryz.zeroValue4
 t9:=Tryz.underlying9
 a9:=Tryz.isAgg9
 z9:=Tryz.sizeOf9
 v9:=Tryz.zeroValue9
 t24:=Tryz.underlying23
 a24:=Tryz.isAgg23
 z24:=Tryz.sizeOf23
 v24:=Tryz.zeroValue23
 i9:=by kernel_rfl }
open Go.RowKit Go.Lib in
theorem Tryz.slices_Clone_string (b off n c:Nat)(zs:List ByteArray)(w:World)(hz:n<=zs.length)(hbig:n*16<=140737488355328)(hc:∀ j,j<zs.length->w.cell? ⟨b,off+j,none⟩=some (.string (zs.getD j ByteArray.empty))):
 Calls Tryz.prog 75 #[.slice (some ⟨b,off,none⟩) n c] w fun e w' => ∃ v',e=.returned v' /\ w'.ownsRow w.heap.size 9 1 v' n ((zs.take n).map (Value.string))/\v' ≠ .slice none 0 0/\Below w.heap.size w w':=Any.slices_Clone_string Tryz.laysNm216 b off n c zs w hz hbig hc
open Go.RowKit Go.Lib in
theorem Tryz.slices_Clone_string_nil (n c:Nat)(w:World):
 Calls Tryz.prog 75 #[.slice none n c] w fun e w' => e=.returned (.slice none 0 0)/\w' = w:=Any.slices_Clone_string_nil Tryz.laysNm216 n c w
open Go.RowKit Go.Lib in
theorem Tryz.slices_Clone_string_zero (a:Addr)(c:Nat)(w:World):
 Calls Tryz.prog 75 #[.slice (some a) 0 c] w fun e w' => ∃ v',e=.returned v' /\ w'.ownsRow w.heap.size 9 1 v' 0 []/\v' ≠ .slice none 0 0/\Below w.heap.size w w':=Any.slices_Clone_string_zero Tryz.laysNm216 a c w
open Go.RowKit Go.Lib in
theorem Tryz.slices_Equal_string_lens (a1 a2:Option Addr)(n c m d:Nat)(w:World)(hnm:n≠m):
 Calls Tryz.prog 21 #[.slice a1 n c,.slice a2 m d] w fun e w' => e=.returned (.bool false)/\w' = w:=Any.slices_Equal_string_lens Tryz.lays193 a1 a2 n c m d w hnm
end Go.Proofs
namespace Go.Proofs.YtdiiafgoccakkaaGreatDoor
section
open Go Go.RowKit Go.Maps
theorem eP (v1 v2:Value)(xs ys:List ByteArray)(w:World)(h1:Am w v1 xs)(h2:Am w v2 ys)(b1:xs.length<=1000000)(b2:ys.length<=1000000):
 Calls Tryz.prog 21 #[v1,v2] w fun e w' => e=.returned (.bool (decide (xs=ys)))/\∃ q,w' = w.drewN q:=by
 obtain⟨a1,c1,rfl,h1⟩:=h1
 obtain⟨a2,c2,rfl,h2⟩:=h2
 by_cases hl:xs.length=ys.length
 ·rcases h1 with h1|⟨p1,o1,rfl,h1⟩
  ·have hx:xs=[]:=List.eq_nil_of_length_eq_zero h1
   have hy:ys=[]:=List.eq_nil_of_length_eq_zero (by omega)
   subst hx;subst hy
   refine(Tryz.slices_Equal_string_empty a1 a2 c1 0 c2 w (by omega)).mono ?_
   rintro e w' ⟨rfl,rfl⟩
   exact⟨rfl,0,rfl⟩
  ·rcases h2 with h2|⟨p2,o2,rfl,h2⟩
   ·have hx:xs=[]:=List.eq_nil_of_length_eq_zero (by omega)
    have hy:ys=[]:=List.eq_nil_of_length_eq_zero h2
    subst hx;subst hy
    refine(Tryz.slices_Equal_string_empty _ a2 c1 0 c2 w (by omega)).mono ?_
    rintro e w' ⟨rfl,rfl⟩
    exact⟨rfl,0,rfl⟩
   ·refine(Tryz.slices_Equal_string p1 o1 xs.length c1 p2 o2 ys.length c2 xs ys w (Nat.le_refl _) (Nat.le_refl _) (by omega) (by omega) h1 h2).mono ?_
    rintro e w' ⟨rfl,q,rfl⟩
    rw[List.take_length,List.take_length]
    exact⟨rfl,q,rfl⟩
 ·refine(Tryz.slices_Equal_string_lens a1 a2 xs.length c1 ys.length c2 w hl).mono ?_
  rintro e w' ⟨rfl,rfl⟩
  have:decide (xs=ys)=false:=by
   simp only[decide_eq_false_iff_not]
   intro e
   exact hl (by rw[e])
  rw[this]
  exact⟨rfl,0,rfl⟩
end
section
open Go
namespace Lex
/-! ### 1. What a computation may do,by its text -/
def Dead {α : Type}(P:Program):Sem α -> Prop
 | .program k=>Dead P (k P)
 | .mark _ k=>Dead P k
 | .halt _=>True
 | .choose _ k=>∀ n,Dead P (k n)
 | _=>False
def Calm {α : Type}(P:Program):Sem α -> Prop
 | .pure _=>True
 | .program k=>Calm P (k P)
 | .mark _ k=>Calm P k
 | .halt _=>True
 | .choose _ k=>∀ n,Dead P (k n)
 | _=>False
def Jj {α : Type}(P:Program):Sem α -> Prop
 | .pure _=>True
 | .program k=>Jj P (k P)
 | .mark _ k=>Jj P k
 | .halt _=>True
 | .choose _ k=>∀ n,Dead P (k n)
 | .load _ _ k=>∀ v,Jj P (k v)
 | .getObj _ k=>∀ o,Jj P (k o)
 | _=>False
def Makes {α : Type}(P:Program):Sem α -> Prop
 | .pure _=>True
 | .program k=>Makes P (k P)
 | .mark _ k=>Makes P k
 | .halt _=>True
 | .choose _ k=>∀ n,Dead P (k n)
 | .load _ _ k=>∀ v,Makes P (k v)
 | .getObj _ k=>∀ o,Makes P (k o)
 | .new _ k=>∀ n,Makes P (k n)
 | _=>False
theorem Dead.bind {α β : Type}{P:Program}{s:Sem α}(h:Dead P s)(f : α -> Sem β):Dead P (s.bind f):=by
 induction s with
 | pure a=>exact h.elim
 | program k ih=>exact ih P h
 | mark m k ih=>exact ih h
 | halt h0=>trivial
 | load m a k ih=>exact h.elim
 | getObj r k ih=>exact h.elim
 | new o k ih=>exact h.elim
 | store m a v k ih=>exact h.elim
 | shape r k ih=>exact h.elim
 | freeze a n k ih=>exact h.elim
 | frozen a k ih=>exact h.elim
 | setObj r o k ih=>exact h.elim
 | choose q k ih=>exact fun n=>ih n (h n)
 | sys c k ih=>exact h.elim
theorem Dead.run {P:Program}{α : Type}{s:Sem α}{w w' : World}{a : α}(h:Dead P s)(hr:s.run P w=.ok a w'):False:=by
 induction s generalizing w w' with
 | pure x=>exact h.elim
 | program k ih=>exact ih P h hr
 | mark m k ih=>exact ih h hr
 | halt h0=>simp[Sem.run] at hr
 | load m ad k ih=>exact h.elim
 | getObj r k ih=>exact h.elim
 | new o k ih=>exact h.elim
 | store m ad v k ih=>exact h.elim
 | shape r k ih=>exact h.elim
 | freeze ad n k ih=>exact h.elim
 | frozen ad k ih=>exact h.elim
 | setObj r o k ih=>exact h.elim
 | choose q k ih => 
   simp only[Sem.run] at hr
   split at hr
   ·exact ih _ (h _) hr
   ·exact ih _ (h _) hr
 | sys c k ih=>exact h.elim
theorem Calm.bind {α β : Type}{P:Program}{s:Sem α}{f : α -> Sem β}(h:Calm P s)(hf:∀ a,Calm P (f a)):Calm P (s.bind f):=by
 induction s with
 | pure a=>exact hf _
 | program k ih=>exact ih P h
 | mark m k ih=>exact ih h
 | halt h0=>trivial
 | load m a k ih=>exact h.elim
 | getObj r k ih=>exact h.elim
 | new o k ih=>exact h.elim
 | store m a v k ih=>exact h.elim
 | shape r k ih=>exact h.elim
 | freeze a n k ih=>exact h.elim
 | frozen a k ih=>exact h.elim
 | setObj r o k ih=>exact h.elim
 | choose q k ih=>exact fun n=>(h n).bind f
 | sys c k ih=>exact h.elim
theorem Jj.bind {α β : Type}{P:Program}{s:Sem α}{f : α -> Sem β}(h:Jj P s)(hf:∀ a,Jj P (f a)):Jj P (s.bind f):=by
 induction s with
 | pure a=>exact hf _
 | program k ih=>exact ih P h
 | mark m k ih=>exact ih h
 | halt h0=>trivial
 | load m a k ih=>exact fun v=>ih v (h v)
 | getObj r k ih=>exact fun v=>ih v (h v)
 | new o k ih=>exact h.elim
 | store m a v k ih=>exact h.elim
 | shape r k ih=>exact h.elim
 | freeze a n k ih=>exact h.elim
 | frozen a k ih=>exact h.elim
 | setObj r o k ih=>exact h.elim
 | choose q k ih=>exact fun n=>(h n).bind f
 | sys c k ih=>exact h.elim
theorem Makes.bind {α β : Type}{P:Program}{s:Sem α}{f : α -> Sem β}(h:Makes P s)(hf:∀ a,Makes P (f a)):Makes P (s.bind f):=by
 induction s with
 | pure a=>exact hf _
 | program k ih=>exact ih P h
 | mark m k ih=>exact ih h
 | halt h0=>trivial
 | load m a k ih=>exact fun v=>ih v (h v)
 | getObj r k ih=>exact fun v=>ih v (h v)
 | new o k ih=>exact fun v=>ih v (h v)
 | store m a v k ih=>exact h.elim
 | shape r k ih=>exact h.elim
 | freeze a n k ih=>exact h.elim
 | frozen a k ih=>exact h.elim
 | setObj r o k ih=>exact h.elim
 | choose q k ih=>exact fun n=>(h n).bind f
 | sys c k ih=>exact h.elim
theorem Calm.eT {α : Type}{P:Program}{s:Sem α}(h:Calm P s):Jj P s:=by
 induction s with
 | pure a=>trivial
 | program k ih=>exact ih P h
 | mark m k ih=>exact ih h
 | halt h0=>trivial
 | load m a k ih=>exact h.elim
 | getObj r k ih=>exact h.elim
 | new o k ih=>exact h.elim
 | store m a v k ih=>exact h.elim
 | shape r k ih=>exact h.elim
 | freeze a n k ih=>exact h.elim
 | frozen a k ih=>exact h.elim
 | setObj r o k ih=>exact h.elim
 | choose q k ih=>exact h
 | sys c k ih=>exact h.elim
theorem Jj.makes {α : Type}{P:Program}{s:Sem α}(h:Jj P s):Makes P s:=by
 induction s with
 | pure a=>trivial
 | program k ih=>exact ih P h
 | mark m k ih=>exact ih h
 | halt h0=>trivial
 | load m a k ih=>exact fun v=>ih v (h v)
 | getObj r k ih=>exact fun v=>ih v (h v)
 | new o k ih=>exact h.elim
 | store m a v k ih=>exact h.elim
 | shape r k ih=>exact h.elim
 | freeze a n k ih=>exact h.elim
 | frozen a k ih=>exact h.elim
 | setObj r o k ih=>exact h.elim
 | choose q k ih=>exact h
 | sys c k ih=>exact h.elim
def More (w w' : World):Prop:=∀ (i:Nat) (o:Obj),w.heap[i]? = some o->w'.heap[i]? = some o
theorem More.refl (w:World):More w w:=fun _ _ h=>h
theorem More.trans {a b c:World}(h:More a b)(k:More b c):More a c:=fun i o e=>k i o (h i o e)
theorem More.push (w:World)(o:Obj):More w { w with heap:=w.heap.push o } :=fun i x h=>by
 show(w.heap.push o)[i]? = some x
 have hlt:i<w.heap.size:=(Array.getElem?_eq_some_iff.1 h).1
 rw[Array.getElem?_push,if_neg (by omega)]
 exact h
theorem eU {w w2:World}(hm:More w w2){a:Addr}{v:Value}(h:w.cell? a=some v):w2.cell? a=some v:=by
 unfold World.cell? at*
 cases hb:w.heap[a.block]? with
 | none=>simp[hb] at h
 | some o=>rw[hm _ _ hb];rw[hb] at h;exact h
theorem Xu {P:Program}{w w2:World}(hm:More w w2){a:Addr}{b:Bool}{r:Value × List Addr}(h:w.farLoad P a b=.ok r):w2.farLoad P a b=.ok r:=by
 unfold World.farLoad at*
 cases hb:w.heap[a.block]? with
 | none=>simp[hb] at h
 | some o =>
   rw[hm _ _ hb]
   rw[hb] at h
   cases o with
   | view at_ u =>
     simp only at h ⊢
     have hv:∀ x,w.viewLoad P at_ u a b=.ok x->w2.viewLoad P at_ u a b=.ok x:=by
      intro x hx
      unfold World.viewLoad at*
      have hs:∀ y,w.seen P at_ u a b=.ok y->w2.seen P at_ u a b=.ok y:=by
       intro y hy
       unfold World.seen at*
       cases hb2:w.heap[at_.block]? with
       | some o2=>rw[hm _ _ hb2];rw[hb2] at hy;exact hy
       | none =>
         exfalso
         rw[hb2] at hy
         revert hy
         simp only[bind,Except.bind,throw,throwThe,MonadExceptOf.throw,pure,Except.pure]
         repeat' split
         all_goals (intro hy;simp at hy)
      cases hse:w.seen P at_ u a b with
      | error e=>rw[hse] at hx;simp[bind,Except.bind] at hx
      | ok y=>rw[hs y hse];rw[hse] at hx;exact hx
     cases hvl:w.viewLoad P at_ u a b with
     | error e=>rw[hvl] at h;simp at h
     | ok x=>rw[hv x hvl];rw[hvl] at h;exact h
   | _=>simp at h
theorem Calm.run {P:Program}{α : Type}{s:Sem α}{w w' : World}{a : α}(h:Calm P s)(hr:s.run P w=.ok a w'):w' = w/\∀ w2,s.run P w2=.ok a w2:=by
 induction s generalizing w w' with
 | pure x => 
   simp only[Sem.run,Result.ok.injEq] at hr
   obtain⟨rfl,rfl⟩:=hr
   exact⟨rfl,fun _=>rfl⟩
 | program k ih=>exact ih P h hr
 | mark m k ih=>exact ih h hr
 | halt h0=>simp[Sem.run] at hr
 | load m ad k ih=>exact h.elim
 | getObj r k ih=>exact h.elim
 | new o k ih=>exact h.elim
 | store m ad v k ih=>exact h.elim
 | shape r k ih=>exact h.elim
 | freeze ad n k ih=>exact h.elim
 | frozen ad k ih=>exact h.elim
 | setObj r o k ih=>exact h.elim
 | choose q k ih =>
   simp only[Sem.run] at hr
   split at hr
   ·exact((h _).run hr).elim
   ·exact((h _).run hr).elim
 | sys c k ih=>exact h.elim
theorem Jj.run {P:Program}{α : Type}{s:Sem α}{w w' : World}{a : α}(h:Jj P s)(hr:s.run P w=.ok a w'):w' = w/\∀ w2,More w w2->s.run P w2=.ok a w2:=by
 induction s generalizing w w' with
 | pure x => 
   simp only[Sem.run,Result.ok.injEq] at hr
   obtain⟨rfl,rfl⟩:=hr
   exact⟨rfl,fun _ _=>rfl⟩
 | program k ih=>exact ih P h hr
 | mark m k ih=>exact ih h hr
 | halt h0=>simp[Sem.run] at hr
 | load m ad k ih => 
   simp only[Sem.run] at hr
   cases hc:w.cell? ad with
   | some v =>
     rw[hc] at hr
     obtain⟨h1,h2⟩:=ih v (h v) hr
     exact⟨h1,fun w2 hm=>by simp only[Sem.run,eU hm hc];exact h2 w2 hm⟩
   | none =>
     rw[hc] at hr
     cases hf:w.farLoad P ad (m==.atomic) with
     | error e=>rw[hf] at hr;simp at hr
     | ok x =>
       rw[hf] at hr
       obtain⟨h1,h2⟩:=ih x.1 (h x.1) hr
       refine⟨h1,fun w2 hm=>?_⟩
       have hn:w2.cell? ad=none:=by
        unfold World.cell? at hc ⊢
        unfold World.farLoad at hf
        cases hb:w.heap[ad.block]? with
        | none=>rw[hb] at hf;simp at hf
        | some o=>rw[hm _ _ hb];rw[hb] at hc;exact hc
       simp only[Sem.run,hn,Xu hm hf]
       exact h2 w2 hm
 | getObj r k ih => 
   simp only[Sem.run] at hr
   cases hb:w.heap[r]? with
   | none=>rw[hb] at hr;simp at hr
   | some o =>
     rw[hb] at hr
     have hx:∃ o',o' = o:=⟨_,rfl⟩
     cases o with
     | cells c e f=>simp at hr
     | _ =>
       simp only at hr
       obtain⟨h1,h2⟩:=ih _ (h _) hr
       exact⟨h1,fun w2 hm=>by simp only[Sem.run,hm _ _ hb];exact h2 w2 hm⟩
 | new o k ih=>exact h.elim
 | store m ad v k ih=>exact h.elim
 | shape r k ih=>exact h.elim
 | freeze ad n k ih=>exact h.elim
 | frozen ad k ih=>exact h.elim
 | setObj r o k ih=>exact h.elim
 | choose q k ih =>
   simp only[Sem.run] at hr
   split at hr
   ·exact((h _).run hr).elim
   ·exact((h _).run hr).elim
 | sys c k ih=>exact h.elim
theorem Makes.run {P:Program}{α : Type}{s:Sem α}{w w' : World}{a : α}(h:Makes P s)(hr:s.run P w=.ok a w'):More w w':=by
 induction s generalizing w w' with
 | pure x => 
   simp only[Sem.run,Result.ok.injEq] at hr
   obtain⟨rfl,rfl⟩:=hr
   exact More.refl _
 | program k ih=>exact ih P h hr
 | mark m k ih=>exact ih h hr
 | halt h0=>simp[Sem.run] at hr
 | load m ad k ih => 
   simp only[Sem.run] at hr
   split at hr
   ·exact ih _ (h _) hr
   ·split at hr
    ·exact ih _ (h _) hr
    ·simp at hr
 | getObj r k ih => 
   simp only[Sem.run] at hr
   split at hr
   ·simp at hr
   ·exact ih _ (h _) hr
   ·simp at hr
 | new o k ih => 
   simp only[Sem.run] at hr
   exact(More.push w o).trans (ih _ (h _) hr)
 | store m ad v k ih=>exact h.elim
 | shape r k ih=>exact h.elim
 | freeze ad n k ih=>exact h.elim
 | frozen ad k ih=>exact h.elim
 | setObj r o k ih=>exact h.elim
 | choose q k ih =>
   simp only[Sem.run] at hr
   split at hr
   ·exact((h _).run hr).elim
   ·exact((h _).run hr).elim
 | sys c k ih=>exact h.elim
/-! ### 2. The operations -/
section
variable {P:Program} {α β : Type}
theorem Ae {s:Sem α}{f : α -> Sem β}(h:Calm P s)(hf:∀ a,Calm P (f a)):Calm P (s >>= f):=h.bind hf
theorem IK {s:Sem α}{f : α -> Sem β}(h:Jj P s)(hf:∀ a,Jj P (f a)):Jj P (s >>= f):=h.bind hf
theorem Fj {s:Sem α}{f : α -> Sem β}(h:Makes P s)(hf:∀ a,Makes P (f a)):Makes P (s >>= f):=h.bind hf
theorem Wn (a : α):Calm P (pure a:Sem α):=trivial
theorem Jk {s:Sem α}(h:Dead P s):Calm P s:=by
 induction s with
 | program k ih=>exact ih P h
 | mark m k ih=>exact ih h
 | halt h0=>trivial
 | choose q k ih=>exact h
 | _=>exact h.elim
theorem Jl (m:String):Calm P (stuck m:Sem α):=trivial
theorem eX (u:Unsupported):Calm P (unsupported u:Sem α):=trivial
theorem Mj (t:TypeId):Calm P (typeInfo t):=by
 show Calm P (match P.info? t with|some i=>pure i|none=>stuck _)
 split<;>trivial
theorem AL (t:TypeId):Calm P (underlying t):=by
 show Calm P (match P.underlying t with|some i=>pure i|none=>stuck _)
 split<;>trivial
theorem BN (t:TypeId):Calm P (sizeOf t):=Ae (Mj t) fun _=>trivial
theorem GR (t:TypeId):Calm P (zeroValue t):=Ae (Mj t) fun i=>by
 show Calm P (match i.zero with|some v=>pure v|none=>unsupported _)
 split<;>trivial
theorem MH (t:TypeId):Calm P (isAgg t):=Ae (AL t) fun d=>by
 show Calm P (match d with|.struct _|.array _ _=>pure true|_=>pure false)
 split<;>trivial
theorem IL (t:TypeId)(cs:Array Value)(off:Nat):Calm P (part t cs off):=by
 unfold part
 refine Ae (MH t) fun b=>?_
 split
 ·exact Ae (BN t) fun _=>trivial
 ·split<;>trivial
theorem Jm (v:Value):Calm P (asIntOf v):=by unfold asIntOf;split<;>trivial
theorem FK (v:Value):Calm P (Instr.sureAddr v):=by unfold Instr.sureAddr;split<;>trivial
theorem Sd (m:String):Dead P (runtimePanic (.error m):Sem α):=trivial
theorem Pm (k:IntKind)(x y:Int)(c:BoundsCode):Dead P (boundsPanic k x y c:Sem α):=by
 unfold boundsPanic
 split
 ·exact fun n=>trivial
 ·trivial
theorem DU (k:IntKind)(x y:Int)(c:BoundsCode):Calm P (boundsPanic k x y c:Sem α):=Jk (Pm k x y c)
theorem Zf (v:Value):Calm P (asAddr v):=by unfold asAddr;split<;>trivial
theorem Rn (x:Value)(y:Nat)(c:BoundsCode):Calm P (Instr.sliceBound x y c):=by
 unfold Instr.sliceBound
 refine Ae (Jm x) fun p=>?_
 obtain⟨k,i⟩:=p
 dsimp only
 split
 ·trivial
 ·exact DU _ _ _ _
theorem DV (b:Bool)(n c:Nat)(lo hi mx:Option Value):Calm P (Instr.sliceBounds b n c lo hi mx):=by
 unfold Instr.sliceBounds
 dsimp only
 repeat' first
  | exact Rn _ _ _
  | exact Wn _
  | exact Jl _
  | refine Ae ?_ (fun _=>?_)
  | split
theorem eY (t:TypeId)(x:Value)(lo hi mx:Option Value):Calm P (Instr.slice t x lo hi mx):=by
 unfold Instr.slice
 refine Ae (AL t) fun d=>?_
 split
 ·split
  ·exact trivial
  ·exact Ae (DV _ _ _ _ _ _) fun _=>trivial
 ·exact Ae (DV _ _ _ _ _ _) fun _=>Ae (BN _) fun _=>trivial
 ·refine Ae (Zf _) fun a=>Ae (AL _) fun d=>?_
  split
  ·exact Ae (DV _ _ _ _ _ _) fun _=>Ae (BN _) fun _=>trivial
  ·trivial
 ·trivial
theorem Xv (t:TypeId)(x:Value)(lo hi mx:Option Value):Calm P (Instr.sliceAt t x lo hi mx):=by
 unfold Instr.sliceAt
 refine Ae (AL t) fun d=>?_
 split
 ·exact Ae (FK _) fun a=>Ae (DV _ _ _ _ _ _) fun _=>Ae (BN _) fun _=>trivial
 ·exact eY _ _ _ _ _
theorem eZ (t:TypeId)(x i:Value):Calm P (Instr.index t x i):=by
 unfold Instr.index
 refine Ae (Jm i) fun p=>?_
 obtain⟨k,j⟩:=p
 refine Ae (AL t) fun d=>?_
 split
 ·split
  ·exact Ae (BN _) fun _=>IL _ _ _
  ·exact DU _ _ _ _
 ·split
  ·trivial
  ·exact DU _ _ _ _
 ·trivial
theorem Xw (t:TypeId)(x i:Value):Calm P (Instr.indexAt t x i):=by
 unfold Instr.indexAt
 refine Ae (Jm i) fun p=>?_
 obtain⟨k,j⟩:=p
 refine Ae (AL t) fun d=>?_
 dsimp only
 repeat' first
  | exact DU _ _ _ _
  | exact FK _
  | exact AL _
  | exact BN _
  | exact Wn _
  | exact Jl _
  | exact eX _
  | refine Ae ?_ (fun _=>?_)
  | split
theorem AZ {t:TypeId}{f:TypeDesc->Sem β}(h:∀ d,P.underlying t=some d->Calm P (f d)):Calm P (underlying t >>= f):=by
 show Calm P (Sem.bind (match P.underlying t with|some d=>pure d|none=>stuck _) f)
 cases hu:P.underlying t with
 | none=>trivial
 | some d=>exact h d hu
theorem Xx (t:TypeId)(x:Value)(f:Nat)(hs:∀ fs fl i,P.underlying t=some (.struct fs)->fs[f]? = some fl->P.info? fl.type=some i->i.size≠0):Calm P (Instr.fieldAt t x f):=by
 unfold Instr.fieldAt
 refine AZ fun d hd=>?_
 split
 ·rename_i fs
  split
  ·rename_i fl hf
   refine Ae (FK _) fun a=>Ae ?_ fun _=>trivial
   unfold fieldPlace sizeOf
   show Calm P (Sem.bind (Sem.bind (match P.info? fl.type with|some i=>pure i|none=>stuck _) (fun i=>pure i.size)) _)
   cases hi:P.info? fl.type with
   | none=>trivial
   | some i =>
     show Calm P (if i.size=0 then _ else _)
     rw[if_neg (hs fs fl i hd hf hi)]
     trivial
  ·trivial
 ·trivial
theorem Ro (t:TypeId)(parts:Array (Nat × Value)):Calm P (Instr.build t parts):=by
 unfold Instr.build
 refine Ae (GR t) fun z=>Ae (AL t) fun d=>?_
 split
 ·refine Ae ?_ fun pl=>?_
  ·rename_i fs
   have hm:∀ l:List Field,Calm P (l.mapM (m:=Sem) fun f=>do pure (f.offset,<- sizeOf f.type)):=by
    intro l
    rw[<- List.mapM'_eq_mapM]
    induction l with
    | nil=>trivial
    | cons x l ih=>exact Ae (Ae (BN _) fun _=>trivial) fun _=>Ae ih fun _=>trivial
   rw[Array.mapM_eq_mapM_toList]
   exact Ae (hm _) fun _=>trivial
  ·split<;>trivial
 ·refine Ae (BN _) fun n=>?_
  split<;>trivial
 ·trivial
theorem Xy (v:Value)(i:Nat):Calm P (Instr.extract v i):=by
 unfold Instr.extract
 repeat' first
  | trivial
  | split
theorem MI (t:TypeId)(x:Value):Calm P (Instr.makeInterface t x):=by
 unfold Instr.makeInterface
 refine Ae (AL t) fun d=>?_
 split<;>trivial
theorem fq (op:UnOp)(x:Value):Calm P (Op.unary op x):=by
 unfold Op.unary
 split<;>first|trivial|(unfold Op.intArith;trivial)|(unfold Op.intBits;trivial)
theorem fu (op:BinOp)(k yk:IntKind)(x y:Int):Calm P (Op.shift op k x yk y):=by
 unfold Op.shift
 split
 ·exact Jk (Sd _)
 ·dsimp only;split<;>trivial
theorem Zg (op:BinOp)(k:IntKind)(x y:Int):Calm P (Op.intDiv op k x y):=by
 unfold Op.intDiv
 split
 ·exact Jk (Sd _)
 ·split<;>trivial
theorem Vt (op:BinOp)(k:IntKind)(x y:Int):Calm P (Op.intArith op k x y):=by unfold Op.intArith;split<;>trivial
theorem Xz (op:BinOp)(k:IntKind)(x y:Int):Calm P (Op.intBits op k x y):=by unfold Op.intBits;dsimp only;split<;>trivial
theorem Zh (op:BinOp)(x y:Int):Calm P (Op.intCmp op x y):=by unfold Op.intCmp;split<;>trivial
theorem Vu (op:BinOp)(x y:ByteArray):Calm P (Op.stringOp op x y):=by
 unfold Op.stringOp
 dsimp only
 repeat' first
  | trivial
  | split
theorem Zi (op:BinOp)(t:TypeId)(k k' : IntKind)(a b:Int):Calm P (binOp op t (.int k a) (.int k' b)):=by
 cases op<;>simp only[binOp]<;>(try split)<;>first|exact Jl _|exact fu _ _ _ _ _|exact Zg _ _ _ _|exact Vt _ _ _ _|exact Xz _ _ _ _|exact Zh _ _ _
theorem Zj (op:BinOp)(t:TypeId)(a b:ByteArray):Calm P (binOp op t (.string a) (.string b)):=by
 cases op<;>simp only[binOp]<;>exact Vu _ _ _
theorem X0 (op:BinOp)(t:TypeId)(a b:Bool)(hu:P.underlying t=some .bool):Calm P (binOp op t (.bool a) (.bool b)):=by
 have h:∀ d,Calm P (Op.equalIn (d+1) t (.bool a) (.bool b)):=fun d=>by
  unfold Op.equalIn
  refine AZ fun x hx=>?_
  rw[hu] at hx
  injection hx with hx
  subst hx
  trivial
 cases op<;>simp only[binOp]<;>first|exact Jl _|exact Ae (h 9999) fun _=>trivial|trivial
theorem Gm (op:BinOp)(t:TypeId)(x y:Operand)(a b:Value)(h:(match a with|.agg _=>false|.nilIface=>false|_=>true)=true):Calm P (eqGuard op t x y a b):=by
 cases a<;>first|(cases h;done)|(cases op<;>trivial)
theorem Zk (op:BinOp)(hop:op=.eql\/op=.neq)(t e:TypeId)(a b:Option Addr)(hn:a=none\/b=none)(hu:P.underlying t=some (.pointer e)):Calm P (binOp op t (.pointer a) (.pointer b)):=by
 have h:∀ d,Calm P (Op.equalIn (d+1) t (.pointer a) (.pointer b)):=fun d=>by
  unfold Op.equalIn
  refine AZ fun x hx=>?_
  rw[hu] at hx
  injection hx with hx
  subst hx
  rcases hn with rfl|rfl
  ·trivial
  ·cases a<;>trivial
 rcases hop with rfl|rfl
 ·cases a<;>cases b<;>exact Ae (h 9999) fun _=>trivial
 ·cases a<;>cases b<;>exact Ae (h 9999) fun _=>trivial
theorem MJ {β : Type}(f : α -> β -> Sem (ForInStep β)):∀ (l:List α) (b : β),(∀ a∈l,∀ b,Calm P (f a b))->Calm P (forIn l b f)
 | [],b,_=>trivial
 | a :: l,b,h => by
   rw[List.forIn_cons]
   refine Ae (h a List.mem_cons_self b) fun r=>?_
   cases r with
   | done b' => trivial
   | yield b' => exact MJ f l b' fun a ha=>h a (List.mem_cons_of_mem _ ha)
def Po (P:Program)(t:TypeId):Bool:=match P.underlying t with|some (.struct fs)=>fs.all fun f=>(match P.underlying f.type with|some .string=>true|_=>false)|_=>false
theorem Zl {t:TypeId}(ht:P.underlying t=some .string)(d:Nat)(x y:Value):Calm P (Op.equalIn (d+1) t x y):=by
 unfold Op.equalIn
 refine AZ fun u hu=>?_
 rw[ht] at hu
 injection hu with hu
 subst hu
 split<;>first|trivial|contradiction
theorem Pp {t:TypeId}(ht:P.underlying t=some .string)(d:Nat)(x y:Value):Calm P (Op.eqGuardIn (d+1) t x y):=by
 unfold Op.eqGuardIn
 refine AZ fun u hu=>?_
 rw[ht] at hu
 injection hu with hu
 subst hu
 split<;>first|trivial|contradiction
theorem kr {t:TypeId}(h:Po P t=true):∃ fs,P.underlying t=some (.struct fs)/\∀ f∈fs.toList,P.underlying f.type=some .string:=by
 unfold Po at h
 split at h
 ·rename_i fs hu
  refine⟨fs,hu,fun f hf=>?_⟩
  have h:=Array.all_eq_true'.1 h f (by simpa using hf)
  split at h
  ·assumption
  ·cases h
 ·cases h
theorem Zm {t:TypeId}(h:Po P t=true)(xs ys:Array Value)(d:Nat):Calm P (Op.equalIn (d+2) t (.agg xs) (.agg ys)):=by
 obtain⟨fs,ht,hf⟩:=kr h
 unfold Op.equalIn
 refine AZ fun x hx=>?_
 rw[ht] at hx
 injection hx with hx
 subst hx
 dsimp only
 have hl : Calm P (forIn (m :=Sem) fs (none,()) fun (f : Field) (_ : Option Bool × Unit) =>
            if f.name ≠ "_" then do
             let a <- part f.type xs f.offset
             let b <- part f.type ys f.offset
             let c <- Op.equalIn (d+1) f.type a b
             if (!c)=true then pure (ForInStep.done (some false,()))
              else pure (ForInStep.yield (none,()))
            else pure (ForInStep.yield (none,()))):=by
  rw[<- Array.forIn_toList]
  refine MJ _ _ _ fun f hfm b=>?_
  split
  ·exact Ae (IL _ _ _) fun _=>Ae (IL _ _ _) fun _=>Ae (Zl (hf f hfm) _ _ _) fun _=>by split<;>trivial
  ·trivial
 refine Ae (s:=program) trivial fun p=>?_
 split
 ·trivial
 ·exact Ae hl fun r=>by split<;>trivial
theorem Sg {t:TypeId}(h:Po P t=true)(op:BinOp)(hop:op=.eql\/op=.neq)(x y:Operand)(xs ys:Array Value):Calm P (eqGuard op t x y (.agg xs) (.agg ys)):=by
 obtain⟨fs,ht,hf⟩:=kr h
 have hl:Calm P (Op.eqGuardIn (9998+2) t (.agg xs) (.agg ys)):=by
  unfold Op.eqGuardIn
  refine AZ fun x hx=>?_
  rw[ht] at hx
  injection hx with hx
  subst hx
  dsimp only
  rw[<- Array.forIn_toList]
  refine Ae (MJ _ _ _ fun f hfm b=>?_) fun r=>by split<;>trivial
  split
  ·exact Ae (IL _ _ _) fun _=>Ae (IL _ _ _) fun _=>Ae (Pp (hf f hfm) _ _ _) fun _=>by split<;>trivial
  ·trivial
 have hg : Calm P (do if !(← program).eqGuardType (← program).depth t then return
                      if ← Op.eqGuardIn Op.maxDepth t (.agg xs) (.agg ys) then unsupported (.noEntry "binop/eql: two nil values of an interface type with methods, in a part of a struct or an array")) := by
  refine Ae (s:=program) trivial fun p=>Ae (s:=program) trivial fun p=>?_
  split
  ·trivial
  ·exact Ae hl fun r=>by split<;>trivial
 rcases hop with rfl|rfl
 ·exact hg
 ·exact hg
theorem XD {t:TypeId}(h:Po P t=true)(op:BinOp)(hop:op=.eql\/op=.neq)(xs ys:Array Value):Calm P (binOp op t (.agg xs) (.agg ys)):=by
 have hc:=Zm h xs ys 9998
 rcases hop with rfl|rfl
 ·exact Ae hc fun _=>trivial
 ·exact Ae hc fun _=>trivial
theorem Vv (t ty:TypeId)(a:Option Addr)(n c:Nat):Calm P (Builtin.len_ #[t] ty #[.slice a n c]):=by
 refine Ae (s:=underlying t) (AL t) fun d=>?_
 cases d<;>first|trivial|exact Ae (AL _) fun d=>(by cases d<;>trivial)
theorem Zn (t ty:TypeId)(s:ByteArray):Calm P (Builtin.len_ #[t] ty #[.string s]):=by
 refine Ae (s:=underlying t) (AL t) fun d=>?_
 cases d<;>first|trivial|exact Ae (AL _) fun d=>(by cases d<;>trivial)
theorem Ki (a:Addr):∀ (n i:Nat) (acc:Array Value),Jj P (loadCellsFrom a i n acc)
 | 0,_,_=>trivial
 | n+1,i,acc=>IK (s:=load (a.add i)) (fun _=>trivial) fun v=>Ki a n (i+1) (acc.push v)
theorem Zo (t:TypeId)(x:Value):Jj P (Instr.loadAt t x):=by
 unfold Instr.loadAt
 refine IK (FK _).eT fun a=>?_
 unfold loadVar
 refine IK (MH _).eT fun b=>?_
 split
 ·exact IK (BN _).eT fun n=>IK (Ki _ _ _ _) fun _=>trivial
 ·exact fun _=>trivial
theorem Jo (t:TypeId)(cs:Array Value):Makes P (newRow t cs):=fun _=>trivial
theorem Qs (t:TypeId):Makes P (Instr.alloc t true (.tuple #[])):=by
 unfold Instr.alloc
 exact Fj (GR _).eT.makes fun z=>Fj (Jo _ _) fun _=>trivial
theorem Wo (t:TypeId)(x:Value):Makes P (Instr.box t x):=Fj (Jo _ _) fun _=>trivial
theorem IQ (t:TypeId)(n:Nat)(parts:Array (Nat × Value)):Makes P (Instr.buildSlice t n parts):=by
 unfold Instr.buildSlice
 refine Fj (AL _).eT.makes fun d=>?_
 split
 ·refine Fj (BN _).eT.makes fun k=>?_
  dsimp only
  repeat' first
   | trivial
   | exact(GR _).eT.makes
   | exact Jo _ _
   | refine Fj ?_ (fun _=>?_)
   | split
 ·trivial
def isInt (P:Program)(t:TypeId):Bool:=match P.underlying t with|some (.int _)=>true|_=>false
def isBool (P:Program)(t:TypeId):Bool:=match P.underlying t with|some .bool=>true|_=>false
def kC (P:Program)(t:TypeId):Bool:=match P.underlying t with|some (.pointer _)=>true|_=>false
def sized (P:Program)(s:TypeId)(f:Nat):Bool:=
 match P.underlying s with
 | some (.struct fs)=>(match fs[f]? with|some fl=>(match P.info? fl.type with|some i=>i.size != 0|none=>true)|none=>true)
 | _=>true
def isLen (c:Call):Bool:=(match c.callee with|.builtin .len=>true|_=>false)&&c.args.size==1&&c.argTypes.size==1
def kind (P:Program)(o:Oper):Nat:=
 match o.op with
 | .move _|.assign _|.pick _ _ _|.build _ _|.makeFunc _ _ _|.extract _ _|.index _ _ _|.indexAddr _ _ _|.makeInterface _ _|.unOp _ _ _|.slice _ _ _ _ _|.binOp _ _ _ _ _|.nilCheck _=>0
 | .fieldAddr s _ f=>if sized P s f then 0 else 3
 | .convert s d _=>if isInt P s&&isInt P d then 0 else 3
 | .call c=>if isLen c then 0 else 3
 | .load _ _=>1
 | .alloc _|.box _ _|.buildSlice _ _ _=>2
 | _=>3
def good (P:Program)(o:Oper)(ρ : Operand->Value):Bool:=
 match o.op with
 | .binOp op t x y _ =>
   (match ρ x,ρ y with
    | .int _ _,.int _ _=>true
    | .string _,.string _=>true
    | .bool _,.bool _=>isBool P t
    | .pointer none,.pointer _=>kC P t&&(op==.eql || op==.neq)
    | .pointer _,.pointer none=>kC P t&&(op==.eql || op==.neq)
    | .agg _,.agg _=>Po P t&&(op==.eql || op==.neq)
    | _,_=>false)
 | .nilCheck x=>(match ρ x with|.pointer (some _)=>true|_=>false)
 | .convert _ _ x=>(match ρ x with|.int _ _=>true|_=>false)
 | .call c => !isLen c || (match (c.args[0]?).map ρ with|some (.slice _ _ _)=>true|some (.string _)=>true|_=>false)
 | _=>true
def Quiet (P:Program)(s:Sem Next):Prop:=∀ n w w',s.run P w=.ok n w' -> (∃ v,n=.value v)/\w' = w/\∀ w2,s.run P w2=.ok n w2
def Reads (P:Program)(s:Sem Next):Prop:=∀ n w w',s.run P w=.ok n w' -> (∃ v,n=.value v)/\w' = w/\∀ w2,More w w2->s.run P w2=.ok n w2
def Pq (P:Program)(s:Sem Next):Prop:=∀ n w w',s.run P w=.ok n w' -> (∃ v,n=.value v)/\More w w'
theorem NG {s:Sem Value}{w w' : World}{n:Next}(h:(s >>= fun x=>pure (.value x):Sem Next).run P w=.ok n w'):∃ v,n=.value v/\s.run P w=.ok v w':=by
 rw[Sem.run_bind] at h
 cases hs:s.run P w with
 | halt x y=>rw[hs] at h;simp[Result.andThen] at h
 | ok v y =>
   rw[hs] at h
   simp only[Result.andThen,Sem.run_pure,Result.ok.injEq] at h
   obtain⟨rfl,rfl⟩:=h
   exact⟨v,rfl,rfl⟩
theorem Cx {s:Sem Value}(h:Calm P s):Quiet P (s >>= fun x=>pure (.value x)):=by
 intro n w w' hr
 obtain⟨v,rfl,hv⟩:=NG hr
 obtain⟨h1,h2⟩:=h.run hv
 refine⟨⟨v,rfl⟩,h1,fun w2=>?_⟩
 rw[Sem.run_bind,h2 w2]
 rfl
theorem lY {s:Sem Value}(h:Jj P s):Reads P (s >>= fun x=>pure (.value x)):=by
 intro n w w' hr
 obtain⟨v,rfl,hv⟩:=NG hr
 obtain⟨h1,h2⟩:=h.run hv
 refine⟨⟨v,rfl⟩,h1,fun w2 hm=>?_⟩
 rw[Sem.run_bind,h2 w2 hm]
 rfl
theorem Si {s:Sem Value}(h:Makes P s):Pq P (s >>= fun x=>pure (.value x)):=by
 intro n w w' hr
 obtain⟨v,rfl,hv⟩:=NG hr
 exact⟨⟨v,rfl⟩,h.run hv⟩
theorem GV (v:Value):Quiet P (pure (.value v):Sem Next):=Cx (s:=pure v) trivial
theorem quiet_of {o:Oper}{ρ : Operand->Value}(hk:kind P o=0)(hg:good P o ρ = true):Quiet P (execOp ρ o):=by
 obtain⟨dst,op,type,pos,after,guard⟩:=o
 cases op<;>simp only[kind] at hk<;>try (exact absurd hk (by decide))
 case move x=>exact GV _
 case assign x=>exact GV _
 case pick c a b=>
  show Quiet P (asBool (ρ c) >>= fun b' => pure (.value (if b' then ρ a else ρ b)))
  cases ρ c with
  | bool b' => exact GV _
  | _=>intro n w w' hr;cases hr
 case build t ps=>exact Cx (Ro _ _)
 case nilCheck x=>
  simp only[good] at hg
  cases hx : ρ x with
  | pointer a =>
    cases a with
    | none=>rw[hx] at hg;cases hg
    | some a =>
      show Quiet P (match ρ x with|.pointer none|.nilIface|.nilFunc=>_|.func (.method name) first captured=>_|x=>_)
      rw[hx]
      exact GV _
  | _=>rw[hx] at hg;cases hg
 case binOp bop t x y u=>
  refine Cx (Ae ?_ fun _=>?_)
  ·simp only[good] at hg
   cases hx : ρ x with
   | int k a=>exact Gm _ _ _ _ _ _ rfl
   | string a=>exact Gm _ _ _ _ _ _ rfl
   | bool a=>exact Gm _ _ _ _ _ _ rfl
   | pointer a=>exact Gm _ _ _ _ _ _ rfl
   | agg a => cases hy : ρ y with
     | agg b =>
       rw[hx,hy] at hg
       simp at hg
       exact Sg hg.1 _ hg.2 _ _ _ _
     | _=>rw[hx,hy] at hg;cases hg
   | _=>rw[hx] at hg;cases hg
  ·simp only[good] at hg
   cases hx : ρ x with
   | int k a => cases hy : ρ y with
     | int k' b=>exact Zi _ _ _ _ _ _
     | _=>rw[hx,hy] at hg;cases hg
   | string a => cases hy : ρ y with
     | string b=>exact Zj _ _ _ _
     | _=>rw[hx,hy] at hg;cases hg
   | bool a => cases hy : ρ y with
     | bool b =>
       rw[hx,hy] at hg
       refine X0 _ _ _ _ ?_
       simp only[isBool] at hg
       split at hg
       ·assumption
       ·cases hg
     | _=>rw[hx,hy] at hg;cases hg
   | pointer a => cases hy : ρ y with
     | pointer b =>
       rw[hx,hy] at hg
       have hh:(a=none\/b=none)/\kC P t=true/\(bop=.eql\/bop=.neq):=by
        cases a<;>cases b<;>simp at hg<;>exact⟨by simp,hg⟩
       obtain⟨h1,h2,h3⟩:=hh
       simp only[kC] at h2
       split at h2
       ·exact Zk _ h3 _ _ _ _ h1 (by assumption)
       ·cases h2
     | _=>rw[hx,hy] at hg;cases a<;>cases hg
   | agg a => cases hy : ρ y with
     | agg b =>
       rw[hx,hy] at hg
       simp at hg
       exact XD hg.1 _ hg.2 _ _
     | _=>rw[hx,hy] at hg;cases hg
   | _=>rw[hx] at hg;cases hg
 case unOp _ _ x=>exact Cx (fq _ _)
 case convert s d x=>
  split at hk
  ·rename_i hsd
   simp only[Bool.and_eq_true,isInt] at hsd
   obtain⟨h1,h2⟩:=hsd
   split at h1
   ·rename_i k1 hs
    split at h2
    ·rename_i k2 hd
     simp only[good] at hg
     cases hx : ρ x with
     | int k a =>
       refine Cx ?_
       show Calm P (convert s d (ρ x))
       rw[hx]
       unfold convert
       refine AZ fun d1 e1=>AZ fun d2 e2=>?_
       rw[hs] at e1
       rw[hd] at e2
       injection e1 with e1
       injection e2 with e2
       subst e1 e2
       trivial
     | _=>rw[hx] at hg;cases hg
    ·cases h2
   ·cases h1
  ·cases hk
 case makeInterface t x=>exact Cx (MI _ _)
 case makeFunc f a b=>exact GV _
 case slice t x lo hi mx=>exact Cx (Xv _ _ _ _ _)
 case fieldAddr s x f=>
  split at hk
  ·rename_i hsz
   refine Cx (Xx _ _ _ fun fs fl i h1 h2 h3=>?_)
   simp only[sized,h1,h2,h3] at hsz
   simpa using hsz
  ·cases hk
 case indexAddr t x i=>exact Cx (Xw _ _ _)
 case index t x i=>exact Cx (eZ _ _ _)
 case extract x i=>exact Cx (Xy _ _)
 case call c=>
  split at hk
  ·rename_i hl
   obtain⟨callee,args,tys⟩:=c
   simp only[good,hl,Bool.not_true,Bool.false_or] at hg
   simp only[isLen,Bool.and_eq_true,beq_iff_eq] at hl
   obtain⟨⟨h1,h2⟩,h3⟩:=hl
   split at h1
   ·rename_i h1'
    obtain⟨la⟩:=args
    obtain⟨lt⟩:=tys
    match la,lt,h2,h3 with
    | [x],[t],_,_ =>
      simp only[List.getElem?_toArray,List.getElem?_cons_zero,Option.map_some] at hg
      change Quiet P (execOp ρ { dst:=dst,op:=.call { callee:=.builtin .len,args:=#[x],argTypes:=#[t] },type:=type,pos:=pos,after:=after,guard:=guard })
      rw[BigFrame.execOp_builtin,BigFrame.builtin_len,show(#[x]:Array Operand).map ρ = #[ρ x] from by simp]
      refine Cx (s:=Builtin.len_ #[t] type #[ρ x]) ?_
      cases hx : ρ x with
      | slice a n c=>exact Vv _ _ _ _ _
      | string s=>exact Zn _ _ _
      | _=>rw[hx] at hg;cases hg
   ·cases h1
  ·cases hk
theorem FY {o:Oper}{ρ : Operand->Value}(hk:kind P o=1):Reads P (execOp ρ o):=by
 obtain⟨dst,op,type,pos,after,guard⟩:=o
 cases op<;>simp only[kind] at hk<;>try (exact absurd hk (by decide))
 case load t x=>exact lY (Zo _ _)
 all_goals (split at hk<;>cases hk)
theorem Ij {o:Oper}{ρ : Operand->Value}(hk:kind P o=2):Pq P (execOp ρ o):=by
 obtain⟨dst,op,type,pos,after,guard⟩:=o
 cases op<;>simp only[kind] at hk<;>try (exact absurd hk (by decide))
 case alloc t=>exact Si (Qs _)
 case box t x=>exact Si (Wo _ _)
 case buildSlice t n ps=>exact Si (IQ _ _ _)
 all_goals (split at hk<;>cases hk)
theorem Reads.news {s:Sem Next}(h:Reads P s):Pq P s:=fun n w w' hr=>by
 obtain⟨h1,rfl,_⟩:=h n w w' hr
 exact⟨h1,More.refl _⟩
end
/-! ### 3. Two operations that stand side by side are swapped -/
section
variable {P:Program} {ops:Array Oper} {Q:Exit->Act->World->Prop}
def Df (Q:Exit->Act->World->Prop):Prop:=∀ e a w,e≠.normal->¬ Q e a w
def Rch (a:Act)(d:Option Tmp)(a' : Act):Prop:=∃ v ds,a' = ({ a with defers:=ds } : Act).put d v
theorem Df.out (hQ:Df Q):¬ LetsOut Q:=fun h=>by
 obtain⟨a,w,h⟩:=h
 exact hQ _ _ _ (by simp) h
theorem Zp (a:Act)(ds:List Deferred):({ a with defers:=ds } : Act).eval=a.eval:=by
 funext x;cases x<;>rfl
theorem Rch.exec {a a' : Act}{d:Option Tmp}(h:Rch a d a'){o:Oper}(hs:∀ cs b,o.op≠.select cs b)(hd:∀ t,d=some t->t ∉ o.looksAt ops):
 execOp a'.eval o=execOp a.eval o/\Region.wanted o (yielded ops a'.tmps)=Region.wanted o (yielded ops a.tmps):=by
 obtain⟨v,ds,rfl⟩:=h
 refine⟨?_,?_⟩
 ·rw[execOp_put o hs _ d v hd,Zp]
 ·rw[wanted_put o _ d v hd]
theorem Rch.I6 (a:Act)(d:Option Tmp)(v:Value):Rch a d (a.put d v):=⟨v,a.defers,by cases a;rfl⟩
theorem Sj {i:Nat}{o:Oper}(hi:ops[i]? = some o){K:Act->World->Prop}{a:Act}{w:World}(h:wpOp P ops Q i K a w):
 wpOp P ops Q i (fun a' w' => Rch a o.dst a' /\ K a' w') a w:=by
 unfold wpOp at*
 simp only[hi] at*
 split
 ·rename_i hw
  simp only[hw,if_true] at h
  rcases h with h|h
  case inr=>exact .inr h
  refine .inl ?_
  unfold Oper.wp at*
  generalize (execOp a.eval o).run P w=r at*
  cases r with
  | ok n w' =>
    cases n<;>simp only[Oper.upon] at h ⊢
    case value u=>exact⟨.I6 _ _ _,h⟩
    case skip=>exact⟨.I6 _ _ _,h⟩
    case defer d=>exact⟨⟨undef,_,rfl⟩,h⟩
    case enter f args=>
     refine Calls.mono h fun e w'' he=>?_
     cases e with
     | returned u=>exact⟨.I6 _ _ _,he⟩
     | panicked c=>exact he
     | outgrown=>exact he
    case row row args=>exact Rows.mono h fun u w'' he=>⟨.I6 _ _ _,he⟩
  | halt x w' => cases x<;>simp only[Oper.upon] at h ⊢ <;> exact h
 ·rename_i hw
  simp only[hw] at h
  exact⟨.I6 _ _ _,h⟩
theorem Gn (hQ:Df Q){i:Nat}{o:Oper}(hi:ops[i]? = some o){K:Act->World->Prop}{a:Act}{w:World}(h:wpOp P ops Q i K a w):
 ∃ a' w',Rch a o.dst a' /\ K a' w':=by
 replace h:=Sj hi h
 unfold wpOp at h
 simp only[hi] at h
 split at h
 ·rcases h with h|h
  case inr=>exact absurd h.2 hQ.out
  unfold Oper.wp at h
  generalize (execOp a.eval o).run P w=r at*
  cases r with
  | ok n w' =>
    cases n<;>simp only[Oper.upon] at h
    case value u=>exact⟨_,_,h⟩
    case skip=>exact⟨_,_,h⟩
    case defer d=>exact⟨_,_,h⟩
    case enter f args=>
     obtain⟨e,w'',fr,he,_⟩:=h []
     cases e with
     | returned u=>exact⟨_,_,he⟩
     | panicked c=>exact absurd he (hQ _ _ _ (by simp))
     | outgrown=>exact absurd he hQ.out
    case row row args=>
     obtain⟨v,w'',he,_⟩:=h default []
     exact⟨_,_,he⟩
  | halt x w' =>
    cases x<;>simp only[Oper.upon] at h
    exact absurd h (hQ _ _ _ (by simp))
 ·exact⟨_,_,h⟩
theorem Lp (hQ:Df Q){k:Nat}{o:Oper}(hk:ops[k]? = some o)(hs:∀ cs b,o.op≠.select cs b){d:Option Tmp}{v:Value}(h1:∀ t,d=some t->t ∉ o.looksAt ops)(h2:∀ t,d=some t->o.dst≠some t)
 {K K1:Act->World->Prop} {a:Act} {w:World} (h:wpOp P ops Q k K1 a w) (hK:∀ a' w',Rch a o.dst a' -> K1 a' w' -> K (a'.put d v) w'):wpOp P ops Q k K (a.put d v) w:=by
 replace h:=Sj hk h
 unfold wpOp at*
 simp only[hk] at*
 rw[wanted_put o a d v h1]
 split
 ·rename_i hw
  simp only[hw,if_true] at h
  rcases h with h|h
  case inr=>exact absurd h.2 hQ.out
  refine .inl ?_
  unfold Oper.wp at*
  rw[execOp_put o hs a d v h1]
  generalize (execOp a.eval o).run P w=r at*
  cases r with
  | ok n w' =>
    cases n<;>simp only[Oper.upon] at h ⊢
    case value u=>rw[Act.put_comm a v u h2];exact hK _ _ h.1 h.2
    case skip=>rw[Act.put_comm a v undef h2];exact hK _ _ h.1 h.2
    case defer dd=>rw[Act.put_defers,Act.put_comm _ v undef h2];exact hK _ _ h.1 h.2
    case enter f args=>
     refine Calls.mono h fun e w'' he=>?_
     cases e with
     | returned u=>dsimp only at he ⊢;rw[Act.put_comm a v u h2];exact hK _ _ he.1 he.2
     | panicked c=>exact absurd he (hQ _ _ _ (by simp))
     | outgrown=>exact he
    case row row args=>exact Rows.mono h fun u w'' he=>by rw[Act.put_comm a v u h2];exact hK _ _ he.1 he.2
  | halt x w' =>
    cases x<;>simp only[Oper.upon] at h ⊢
    exact absurd h (hQ _ _ _ (by simp))
 ·rename_i hw
  simp only[hw] at h
  rw[Act.put_comm a v undef h2];exact hK _ _ h.1 h.2
theorem Sk (hQ:Df Q){k:Nat}{o:Oper}(hk:ops[k]? = some o)(hs:∀ cs b,o.op≠.select cs b){d:Option Tmp}{v:Value}(h1:∀ t,d=some t->t ∉ o.looksAt ops)(h2:∀ t,d=some t->o.dst≠some t)
 {K K1:Act->World->Prop} {a:Act} {w:World} (h:wpOp P ops Q k K1 (a.put d v) w) (hK:∀ a' w',Rch a o.dst a' -> K1 (a'.put d v) w' -> K a' w'):wpOp P ops Q k K a w:=by
 unfold wpOp at*
 simp only[hk] at*
 rw[wanted_put o a d v h1] at h
 split
 ·rename_i hw
  simp only[hw,if_true] at h
  rcases h with h|h
  case inr=>exact absurd h.2 hQ.out
  refine .inl ?_
  unfold Oper.wp at*
  rw[execOp_put o hs a d v h1] at h
  generalize (execOp a.eval o).run P w=r at*
  cases r with
  | ok n w' =>
    cases n<;>simp only[Oper.upon] at h ⊢
    case value u=>rw[Act.put_comm a v u h2] at h;exact hK _ _ (.I6 _ _ _) h
    case skip=>rw[Act.put_comm a v undef h2] at h;exact hK _ _ (.I6 _ _ _) h
    case defer dd=>rw[Act.put_defers,Act.put_comm _ v undef h2] at h;exact hK _ _ ⟨_,_,rfl⟩ h
    case enter f args=>
     refine Calls.mono h fun e w'' he=>?_
     cases e with
     | returned u=>dsimp only at he ⊢;rw[Act.put_comm a v u h2] at he;exact hK _ _ (.I6 _ _ _) he
     | panicked c=>exact absurd he (hQ _ _ _ (by simp))
     | outgrown=>exact he
    case row row args=>exact Rows.mono h fun u w'' he=>by rw[Act.put_comm a v u h2] at he;exact hK _ _ (.I6 _ _ _) he
  | halt x w' =>
    cases x<;>simp only[Oper.upon] at h ⊢
    exact absurd h (hQ _ _ _ (by simp))
 ·rename_i hw
  simp only[hw] at h
  rw[Act.put_comm a v undef h2] at h;exact hK _ _ (.I6 _ _ _) h
def Yl (P:Program)(ops:Array Oper)(o:Oper)(a:Act)(w:World)(v:Value)(w' : World):Prop:=
 (Region.wanted o (yielded ops a.tmps)=true/\(execOp a.eval o).run P w=.ok (.value v) w')\/(Region.wanted o (yielded ops a.tmps)=false/\v=undef/\w' = w)
theorem Yl.mk {i:Nat}{o:Oper}(hi:ops[i]? = some o){a:Act}{w w' : World}{v:Value}(hy:Yl P ops o a w v w'){K:Act->World->Prop}(h:K (a.put o.dst v) w'):wpOp P ops Q i K a w:=by
 unfold wpOp
 simp only[hi]
 rcases hy with ⟨hw,hr⟩|⟨hw,rfl,rfl⟩
 ·rw[if_pos hw]
  refine .inl ?_
  unfold Oper.wp
  rw[hr]
  exact h
 ·rw[if_neg (by simp[hw])]
  exact h
theorem ED (hQ:Df Q){i:Nat}{o:Oper}(hi:ops[i]? = some o){a:Act}{w:World}(hn:Region.wanted o (yielded ops a.tmps)=true->Pq P (execOp a.eval o)){K:Act->World->Prop}
 (h:wpOp P ops Q i K a w):∃ v w',Yl P ops o a w v w' /\ K (a.put o.dst v) w':=by
 unfold wpOp at h
 simp only[hi] at h
 split at h
 ·rename_i hw
  rcases h with h|h
  case inr=>exact absurd h.2 hQ.out
  unfold Oper.wp at h
  cases hr:(execOp a.eval o).run P w with
  | ok n w' =>
    obtain⟨⟨v,rfl⟩,_⟩:=hn hw n w w' hr
    rw[hr] at h
    exact⟨v,w',.inl ⟨hw,hr⟩,h⟩
  | halt x w' =>
    rw[hr] at h
    cases x<;>simp only[Oper.upon] at h
    exact absurd h (hQ _ _ _ (by simp))
 ·rename_i hw
  exact⟨undef,w,.inr ⟨by simpa using hw,rfl,rfl⟩,h⟩
theorem Yl.same {o:Oper}{a a' : Act}{w w' : World}{v:Value}(h:Yl P ops o a w v w')(he:execOp a'.eval o=execOp a.eval o/\Region.wanted o (yielded ops a'.tmps)=Region.wanted o (yielded ops a.tmps)):Yl P ops o a' w v w':=by
 unfold Yl at*
 rw[he.1,he.2]
 exact h
theorem Yl.quiet {o:Oper}{a:Act}{w w' : World}{v:Value}(h:Yl P ops o a w v w')(hq:Region.wanted o (yielded ops a.tmps)=true->Quiet P (execOp a.eval o)):w' = w/\∀ w2,Yl P ops o a w2 v w2:=by
 rcases h with ⟨hw,hr⟩|⟨hw,rfl,rfl⟩
 ·obtain⟨_,h1,h2⟩:=hq hw _ _ _ hr
  exact⟨h1,fun w2=>.inl ⟨hw,h2 w2⟩⟩
 ·exact⟨rfl,fun _=>.inr ⟨hw,rfl,rfl⟩⟩
theorem Yl.reads {o:Oper}{a:Act}{w w' : World}{v:Value}(h:Yl P ops o a w v w')(hq:Region.wanted o (yielded ops a.tmps)=true->Reads P (execOp a.eval o)):w' = w/\∀ w2,More w w2->Yl P ops o a w2 v w2:=by
 rcases h with ⟨hw,hr⟩|⟨hw,rfl,rfl⟩
 ·obtain⟨_,h1,h2⟩:=hq hw _ _ _ hr
  exact⟨h1,fun w2 hm=>.inl ⟨hw,h2 w2 hm⟩⟩
 ·exact⟨rfl,fun _ _=>.inr ⟨hw,rfl,rfl⟩⟩
theorem Yl.more {o:Oper}{a:Act}{w w' : World}{v:Value}(h:Yl P ops o a w v w')(hq:Region.wanted o (yielded ops a.tmps)=true->Pq P (execOp a.eval o)):More w w':=by
 rcases h with ⟨hw,hr⟩|⟨hw,rfl,rfl⟩
 ·exact(hq hw _ _ _ hr).2
 ·exact More.refl _
theorem Yl.det {o:Oper}{a:Act}{w w1 w2:World}{v1 v2:Value}(h:Yl P ops o a w v1 w1)(h' : Yl P ops o a w v2 w2):v1=v2/\w1=w2:=by
 rcases h with ⟨hw,hr⟩|⟨hw,rfl,rfl⟩<;>rcases h' with ⟨hw',hr'⟩|⟨hw',rfl,rfl⟩
 ·rw[hr] at hr';injection hr' with h1 h2;injection h1 with h1;exact⟨h1,h2⟩
 ·rw[hw] at hw';cases hw'
 ·rw[hw] at hw';cases hw'
 ·exact⟨rfl,rfl⟩
theorem Quiet.news {s:Sem Next}(h:Quiet P s):Pq P s:=fun n w w' hr=>by
 obtain⟨h1,rfl,_⟩:=h n w w' hr
 exact⟨h1,More.refl _⟩
theorem swap (hQ:Df Q){k j:Nat}{ok oj:Oper}(hk:ops[k]? = some ok)(hj:ops[j]? = some oj)(hap:ok.apart ops oj=true)
 (hsk:∀ cs b,ok.op≠.select cs b) (hsj:∀ cs b,oj.op≠.select cs b) {K:Act->World->Prop} {a:Act} {w:World}
 (hc : (Region.wanted oj (yielded ops a.tmps) = true → Quiet P (execOp a.eval oj)) ∨ (Region.wanted ok (yielded ops a.tmps) = true → Quiet P (execOp a.eval ok)) ∨
   ((Region.wanted ok (yielded ops a.tmps)=true->Reads P (execOp a.eval ok))/\(Region.wanted oj (yielded ops a.tmps)=true->Pq P (execOp a.eval oj))))
 (h:wpOp P ops Q k (fun a' w' => wpOp P ops Q j K a' w') a w):wpOp P ops Q j (fun a' w' => wpOp P ops Q k K a' w') a w:=by
 obtain⟨h1,h2,h3⟩:=Oper.apart_spec hap
 have h2' : ∀ t,oj.dst=some t->ok.dst≠some t:=fun t ht hk' => h2 t hk' ht
 rcases hc with hc|hc|⟨hc1,hc2⟩
 ·obtain⟨a1,w1,hR,h'⟩:=Gn hQ hk h
  have he:=hR.exec (o:=oj) (ops:=ops) hsj h1
  obtain⟨v,w2,hy,_⟩:=ED hQ hj (by rw[he.1,he.2];exact fun hw=>(hc hw).news) h'
  have hy0:Yl P ops oj a w1 v w2:=hy.same ⟨he.1.symm,he.2.symm⟩
  obtain⟨_,hall⟩:=hy0.quiet hc
  refine Yl.mk hj (hall w) ?_
  refine Lp hQ hk hsk h3 h2' h fun a' w' hR' hj' => ?_
  have he':=hR'.exec (o:=oj) (ops:=ops) hsj h1
  obtain⟨v2,w3,hy2,hK⟩:=ED hQ hj (by rw[he'.1,he'.2];exact fun hw=>(hc hw).news) hj'
  obtain⟨rfl,rfl⟩:=(hy2.same ⟨he'.1.symm,he'.2.symm⟩).det (hall w')
  exact hK
 ·obtain⟨v,w1,hy,h'⟩:=ED hQ hk (fun hw=>(hc hw).news) h
  obtain⟨rfl,hall⟩:=hy.quiet hc
  refine Sk hQ hj hsj h1 h2 h' fun a' w' hR hK=>?_
  exact Yl.mk hk ((hall w').same (hR.exec (o:=ok) (ops:=ops) hsk h3)) hK
 ·obtain⟨v,w1,hy,h'⟩:=ED hQ hk (fun hw=>(hc1 hw).news) h
  obtain⟨rfl,hall⟩:=hy.reads hc1
  have he:execOp (a.put ok.dst v).eval oj=execOp a.eval oj/\Region.wanted oj (yielded ops (a.put ok.dst v).tmps)=Region.wanted oj (yielded ops a.tmps):=(Rch.I6 a ok.dst v).exec (ops:=ops) hsj h1
  obtain⟨u,w2,hy2,hK⟩:=ED hQ hj (by rw[he.1,he.2];exact hc2) h'
  have oG : Yl P ops oj a w1 u w2:=hy2.same ⟨he.1.symm,he.2.symm⟩
  refine Yl.mk hj oG (Yl.mk hk ((hall w2 (oG.more hc2)).same ((Rch.I6 a oj.dst u).exec (ops:=ops) hsk h3)) ?_)
  rw[<- Act.put_comm a v u h2]
  exact hK
/-! ### 4. Any order comes to what the order of the text comes to -/
def needs (o:Oper):Bool:=match o.op with|.binOp _ _ _ _ _|.nilCheck _|.convert _ _ _|.call _=>true|_=>false
theorem Pt {o:Oper}(h:needs o=false)(ρ : Operand->Value):good P o ρ = true:=by
 obtain⟨dst,op,type,pos,after,guard⟩:=o
 cases op<;>first|rfl|cases h
theorem MK (o:Oper){ρ ρ' : Operand->Value}(h:∀ x∈o.op.operands,ρ x = ρ' x):good P o ρ = good P o ρ' :=by
 obtain⟨dst,op,type,pos,after,guard⟩:=o
 cases op<;>try rfl
 case nilCheck x=>simp only[good,h x (by simp[Op.operands])]
 case binOp b t x y u=>simp only[good,h x (by simp[Op.operands]),h y (by simp[Op.operands])]
 case convert s d x=>simp only[good,h x (by simp[Op.operands])]
 case call c=>
  simp only[good]
  cases hx:c.args[0]? with
  | none=>rfl
  | some x =>
    have hm:x∈c.args:=Array.mem_of_getElem? hx
    simp only[Option.map_some,h x (by simp[Op.operands,Call.operands,hm])]
def Gp (P:Program)(ops:Array Oper)(a:Act):Bool:=ops.all fun o=>kind P o != 0 || !Region.wanted o (yielded ops a.tmps) || good P o a.eval
def Ends (P:Program)(ops:Array Oper)(Q:Exit->Act->World->Prop):Exit->Act->World->Prop:=fun e a w=>e=.normal/\Gp P ops a=true/\Q .normal a w
theorem Ends.Bu (P:Program)(ops:Array Oper)(Q:Exit->Act->World->Prop):Df (Ends P ops Q):=fun _ _ _ he h=>he h.1
theorem Ends.intro {a:Act}{w:World}(hg:Gp P ops a=true)(h:Q .normal a w):Ends P ops Q .normal a w:=⟨rfl,hg,h⟩
theorem fin:∀ (l:List Nat) (a:Act) (w:World),(∀ i∈l,i<ops.size)->wpOps P ops (Ends P ops Q) l a w->
 ∃ a' w',Ends P ops Q .normal a' w' /\ ∀ t,(∀ i∈l,∀ o,ops[i]? = some o->o.dst≠some t)->a'.tmps[t]? = a.tmps[t]?
 | [],a,w,_,h=>⟨a,w,h,fun _ _=>rfl⟩
 | i :: l,a,w,hl,h => by
   obtain⟨o,hi⟩:∃ o,ops[i]? = some o:=⟨_,Array.getElem?_eq_getElem (hl i (by simp))⟩
   rw[wpOps_cons] at h
   obtain⟨a1,w1,⟨v,ds,rfl⟩,h1⟩:=Gn (Ends.Bu P ops Q) hi h
   obtain⟨a2,w2,he,ht⟩:=fin l _ _ (fun j hj=>hl j (by simp[hj])) h1
   refine⟨a2,w2,he,fun t hn=>?_⟩
   rw[ht t fun j hj o ho=>hn j (by simp[hj]) o ho]
   have:=hn i (by simp) _ hi
   cases hd:o.dst with
   | none=>rfl
   | some d =>
     have hne:d≠t:=fun e=>this (by rw[hd,e])
     simp[Act.put,Array.getElem?_setIfInBounds_ne hne]
theorem IU {a a' : Act}{x:Operand}(h:∀ t,x=.tmp t->a'.tmps[t]? = a.tmps[t]?):a'.eval x=a.eval x:=by
 cases x with
 | tmp t=>simp only[Act.eval,Array.getD_eq_getD_getElem?,h t rfl]
 | _=>rfl
theorem Gy {l:List Nat}{a:Act}{w:World}(hl:∀ i∈l,i<ops.size)(h:wpOps P ops (Ends P ops Q) l a w){k:Nat}{o:Oper}(hk:ops[k]? = some o)(hkd:kind P o=0)
 (hf:needs o=true->∀ i∈l,∀ o',ops[i]? = some o' -> ∀ t,o'.dst=some t->t ∉ o.looksAt ops):Region.wanted o (yielded ops a.tmps)=true->Quiet P (execOp a.eval o):=by
 intro hw
 refine quiet_of hkd ?_
 cases hn:needs o with
 | false=>exact Pt hn _
 | true =>
   obtain⟨a',w',⟨_,hg,_⟩,ht⟩:=fin l a w hl h
   have hg1:=Array.all_eq_true_iff_forall_mem.1 hg o (Array.mem_of_getElem? hk)
   have hsame:∀ t,t∈o.looksAt ops->a'.tmps[t]? = a.tmps[t]? :=fun t hm=>ht t fun i hi o' ho' e=>hf hn i hi o' ho' t e hm
   have hev:∀ x∈o.op.operands,a'.eval x=a.eval x:=fun x hx=>IU fun t e=>hsame t (by
    subst e
    exact List.mem_append_left _ (List.mem_filterMap.2 ⟨.tmp t,by simpa using hx,rfl⟩))
   have hwn:Region.wanted o (yielded ops a'.tmps)=Region.wanted o (yielded ops a.tmps):=by
    unfold Region.wanted
    cases hgd:o.guard with
    | none=>rfl
    | some gw =>
      obtain⟨g,want⟩:=gw
      have:yielded ops a'.tmps g=yielded ops a.tmps g:=by
       unfold yielded
       cases hd:(ops[g]?).bind (·.dst) with
       | none=>rfl
       | some t =>
         have:=hsame t (by simp[Oper.looksAt,hgd,hd])
         simp[this]
      simp only[this]
   rw[hkd,hwn,hw] at hg1
   simp at hg1
   rw[<- MK o hev]
   exact hg1
def MN (P:Program)(ops:Array Oper)(a b:Nat):Bool:=
 match ops[a]?,ops[b]? with
 | some oa,some ob=>oa.apart ops ob&&(kind P ob==0 || kind P oa==0 || (kind P oa==1&&(kind P ob==1 || kind P ob==2)))
 | _,_=>false
def waits (ops:Array Oper):Nat->Nat->Nat->Bool
 | 0,_,_=>false
 | f + 1,b,a => match ops[b]? with
   | some ob=>ob.after.any fun e=>Region.binds .any e&&(e.on==a || waits ops f e.on a)
   | none=>false
def strict (n:Nat)(f:Nat->Bool):Bool:=match n with
 | 0=>f 0
 | k+1=>f (k+1)
theorem lZ (n:Nat)(f:Nat->Bool):strict n f=f n:=by cases n<;>rfl
def rowOf (W acc:Nat)(o:Oper):Nat:=o.after.toList.foldl (fun m e=>if Region.binds .any e then m ||| (1 <<< e.on) ||| ((acc >>> (e.on*W))%2^W) else m) 0
def MW (ops:Array Oper)(pair:Nat->Nat->Bool)(W:Nat):Nat->Nat->Nat->Bool
 | 0,_,_=>true
 | n + 1,b,acc => match ops[b]? with
   | none=>true
   | some ob => (ob.after.all fun e => !Region.binds .any e || decide (e.on < b)) &&
     strict (rowOf W acc ob) fun r=>((List.range b).all fun a=>r.testBit a || pair a b)&&strict (acc ||| (r <<< (b*W))) fun acc' => MW ops pair W n (b+1) acc'
theorem Sl {ops:Array Oper} : ∀ (f b a:Nat),waits ops f b a=true->waits ops (f+1) b a=true
 | 0,_,_,h=>by cases h
 | f + 1,b,a,h => by
   unfold waits at h ⊢
   split at h
   ·rename_i ob hb
    rw[Array.any_eq_true'] at h ⊢
    obtain⟨e,he,h⟩:=h
    refine⟨e,he,?_⟩
    simp only[Bool.and_eq_true,Bool.or_eq_true] at h ⊢
    exact⟨h.1,h.2.imp id (Sl f _ _)⟩
   ·cases h
theorem IW {ops:Array Oper}{f g b a:Nat}(hfg:f<=g)(h:waits ops f b a=true):waits ops g b a=true:=by
 induction hfg with
 | refl=>exact h
 | step _ ih=>exact Sl _ _ _ ih
theorem fA {W acc:Nat}{o:Oper}{t:Nat}(h:(rowOf W acc o).testBit t=true):∃ e∈o.after,Region.binds .any e=true/\(e.on=t\/t<W/\acc.testBit (e.on*W+t)=true):=by
 have key:∀ (l:List _) (m:Nat),(l.foldl (fun m e=>if Region.binds .any e then m ||| (1 <<< e.on) ||| ((acc >>> (e.on*W))%2^W) else m) m).testBit t=true->m.testBit t=true\/∃ e∈l,Region.binds .any e=true/\(e.on=t\/t<W/\acc.testBit (e.on*W+t)=true):=by
  intro l
  induction l with
  | nil=>exact fun m h=>.inl h
  | cons e l ih =>
    intro m h
    rcases ih _ h with h|⟨e',he',h'⟩
    ·simp only at h
     split at h
     ·rename_i hb
      simp only[Nat.testBit_or,Bool.or_eq_true] at h
      rcases h with (h|h)|h
      ·exact .inl h
      ·refine .inr ⟨e,List.mem_cons_self,hb,.inl ?_⟩
       rw[Nat.testBit_shiftLeft] at h
       simp only[Bool.and_eq_true,decide_eq_true_eq] at h
       have h2:=h.2
       rw[Nat.testBit_one_eq_true_iff_self_eq_zero] at h2
       omega
      ·refine .inr ⟨e,List.mem_cons_self,hb,.inr ?_⟩
       rw[Nat.testBit_mod_two_pow] at h
       simp only[Bool.and_eq_true,decide_eq_true_eq,Nat.testBit_shiftRight] at h
       exact h
     ·exact .inl h
    ·exact .inr ⟨e',List.mem_cons_of_mem _ he',h'⟩
 rcases key _ _ h with h|⟨e,he,h⟩
 ·simp at h
 ·exact⟨e,Array.mem_toList_iff.1 he,h⟩
theorem Qt {ops:Array Oper}{pair:Nat->Nat->Bool}{W:Nat}(hW:W=ops.size):∀ (n b acc:Nat),MW ops pair W n b acc=true->(∀ i,acc.testBit i=true->∃ j a,j<b/\a<W/\i=j*W+a/\waits ops (j+1) j a=true)->
 ∀ b',b<=b' -> b' < b+n->∀ ob,ops[b']? = some ob->(∀ e∈ob.after,Region.binds .any e=true->e.on<b')/\∀ a,a<b' -> waits ops (b' + 1) b' a=true\/pair a b' = true
 | 0,b,acc,_,_,b',h1,h2,_,_=>by omega
 | n + 1,b,acc,h,hacc,b',h1,h2,ob,hob => by
   have hbW:b<W:=by rw[hW];exact Nat.lt_of_le_of_lt h1 (Array.getElem?_eq_some_iff.1 hob).1
   unfold MW at h
   rw[Array.getElem?_eq_getElem (by rw[<- hW];exact hbW)] at h
   simp only[lZ,Bool.and_eq_true,List.all_eq_true,List.mem_range] at h
   obtain⟨hdn,hrow,hrest⟩:=h
   have wQ:∀ e∈(ops[b]'(by rw[<- hW];exact hbW)).after,Region.binds .any e=true->e.on<b:=fun e he hbi=>by
    have:=Array.all_eq_true_iff_forall_mem.1 hdn e he
    simpa [hbi] using this
   have hbit:∀ t,(rowOf W acc (ops[b]'(by rw[<- hW];exact hbW))).testBit t=true->t<W/\waits ops (b+1) b t=true:=by
    intro t ht
    obtain⟨e,he,hbi,hcase⟩:=fA ht
    have hlt:=wQ e he hbi
    have hw:∀ x,(e.on==x || waits ops b e.on x)=true->waits ops (b+1) b x=true:=fun x hx=>by
     unfold waits
     rw[Array.getElem?_eq_getElem (by rw[<- hW];exact hbW)]
     simp only
     rw[Array.any_eq_true']
     exact⟨e,he,by rw[hbi,hx];rfl⟩
    rcases hcase with rfl|⟨htW,hta⟩
    ·exact⟨by omega,hw _ (by simp)⟩
    ·obtain⟨j,a,hj,haW,heq,hwt⟩:=hacc _ hta
     have hja:j=e.on/\a=t:=by
      have h3:(e.on*W+t)/W=e.on:=by rw[Nat.add_comm,Nat.add_mul_div_right _ _ (by omega),Nat.div_eq_of_lt htW,Nat.zero_add]
      have h4:(j*W+a)/W=j:=by rw[Nat.add_comm,Nat.add_mul_div_right _ _ (by omega),Nat.div_eq_of_lt haW,Nat.zero_add]
      have h5:j=e.on:=by rw[<- h3,<- h4,heq]
      subst h5
      exact⟨rfl,by omega⟩
     obtain⟨rfl,rfl⟩:=hja
     refine⟨htW,hw _ ?_⟩
     rw[IW (by omega) hwt]
     simp
   by_cases hbb:b' = b
   ·subst hbb
    rw[Array.getElem?_eq_getElem (by rw[<- hW];exact hbW)] at hob
    cases hob
    refine⟨wQ,fun a ha=>?_⟩
    have:=hrow a ha
    simp only[Bool.or_eq_true] at this
    exact this.imp (fun h=>(hbit a h).2) id
   ·refine Qt hW n (b+1) _ hrest ?_ b' (by omega) (by omega) ob hob
    intro i hi
    rw[Nat.testBit_or,Bool.or_eq_true] at hi
    rcases hi with hi|hi
    ·obtain⟨j,a,hj,r⟩:=hacc i hi
     exact⟨j,a,by omega,r⟩
    ·rw[Nat.testBit_shiftLeft] at hi
     simp only[Bool.and_eq_true,decide_eq_true_eq] at hi
     obtain⟨h3,h4⟩:=hbit _ hi.2
     exact⟨b,i-b*W,by omega,h3,by omega,h4⟩
theorem DW {ops:Array Oper}{pair:Nat->Nat->Bool}(h:MW ops pair ops.size ops.size 0 0=true){b:Nat}{ob:Oper}(hb:ops[b]? = some ob):
 (∀ e∈ob.after,Region.binds .any e=true->e.on<b)/\∀ a,a<b->waits ops ops.size b a=true\/pair a b=true:=by
 have hbl:=(Array.getElem?_eq_some_iff.1 hb).1
 obtain⟨h1,h2⟩:=Qt rfl _ _ _ h (fun i hi=>by simp at hi) b (Nat.zero_le _) (by omega) ob hb
 exact⟨h1,fun a ha=>(h2 a ha).imp (IW (by omega)) id⟩
theorem Fp {o:Oper}{ρ : Operand->Value}(h:kind P o=1\/kind P o=2):Pq P (execOp ρ o):=by
 rcases h with h|h
 ·exact(FY h).news
 ·exact Ij h
def Closed (ops:Array Oper)(listed:Array Bool):Prop:=∀ j o,ops[j]? = some o->listed.getD j false=true->∀ e∈o.after,Region.binds .any e=true->listed.getD e.on false=true
theorem Gq {listed:Array Bool}(hc:Closed ops listed):∀ (f:Nat) (b a:Nat) (ob:Oper),ops[b]? = some ob->(∀ e∈ob.after,Region.binds .any e=true->listed.getD e.on false=true)->waits ops f b a=true->listed.getD a false=true
 | 0,_,_,_,_,_,h=>by cases h
 | f + 1,b,a,ob,hb,hall,h => by
   simp only[waits,hb] at h
   obtain⟨e,he,hx⟩:=Array.any_eq_true'.1 h
   simp only[Bool.and_eq_true,Bool.or_eq_true,beq_iff_eq] at hx
   obtain⟨hbi,hx⟩:=hx
   have hl:=hall e he hbi
   rcases hx with rfl|hx
   ·exact hl
   ·cases f with
    | zero=>cases hx
    | succ f =>
      cases ho:ops[e.on]? with
      | none=>simp[waits,ho] at hx
      | some oe=>exact Gq hc (f+1) e.on a oe ho (hc e.on oe ho hl) hx
/-! ### 5. Loads beside calls: the blocks of B,which stood when the region began,are kept by each operation in front of the tail -/
def Same (B:Nat->Prop)(w0 w:World):Prop:=∀ b,B b->b<w0.heap.size->w.heap[b]? = w0.heap[b]?
theorem Same.refl (B:Nat->Prop)(w:World):Same B w w:=fun _ _ _=>rfl
theorem Same.more {B:Nat->Prop}{w0 w w' : World}(h:Same B w0 w)(hm:More w w'):Same B w0 w':=fun b hB hb=>by
 have e:=h b hB hb
 have hx:w0.heap[b]? = some w0.heap[b]:=Array.getElem?_eq_getElem hb
 rw[hx] at e ⊢
 exact hm b _ e
def inB (B:Nat->Prop)(w0:World)(o:Oper)(ρ : Operand->Value):Prop:=
 match o.op with
 | .load _ x=>(match ρ x with|.pointer (some ad)=>B ad.block/\(w0.cell? ad).isSome=true|_=>False)
 | _=>True
def Local {α : Type}(P:Program)(b:Nat):Sem α -> Prop
 | .pure _=>True
 | .program k=>Local P b (k P)
 | .mark _ k=>Local P b k
 | .halt _=>True
 | .choose _ k=>∀ n,Dead P (k n)
 | .load _ a k=>a.block=b/\∀ v,Local P b (k v)
 | _=>False
theorem Local.bind {α β : Type}{P:Program}{b:Nat}{s:Sem α}{f : α -> Sem β}(h:Local P b s)(hf:∀ a,Local P b (f a)):Local P b (s.bind f):=by
 induction s with
 | pure a=>exact hf _
 | program k ih=>exact ih P h
 | mark m k ih=>exact ih h
 | halt h0=>trivial
 | load m a k ih=>exact⟨h.1,fun v=>ih v (h.2 v)⟩
 | getObj r k ih=>exact h.elim
 | new o k ih=>exact h.elim
 | store m a v k ih=>exact h.elim
 | shape r k ih=>exact h.elim
 | freeze a n k ih=>exact h.elim
 | frozen a k ih=>exact h.elim
 | setObj r o k ih=>exact h.elim
 | choose q k ih=>exact fun n=>(h n).bind f
 | sys c k ih=>exact h.elim
theorem Calm.oH {α : Type}{P:Program}{b:Nat}{s:Sem α}(h:Calm P s):Local P b s:=by
 induction s with
 | pure a=>trivial
 | program k ih=>exact ih P h
 | mark m k ih=>exact ih h
 | halt h0=>trivial
 | load m a k ih=>exact h.elim
 | getObj r k ih=>exact h.elim
 | new o k ih=>exact h.elim
 | store m a v k ih=>exact h.elim
 | shape r k ih=>exact h.elim
 | freeze a n k ih=>exact h.elim
 | frozen a k ih=>exact h.elim
 | setObj r o k ih=>exact h.elim
 | choose q k ih=>exact h
 | sys c k ih=>exact h.elim
theorem Local.run {α : Type}{P:Program}{b:Nat}{s:Sem α}{w w2 w' : World}{a : α}{c:Array Value}{tc:TypeId}{f:Nat × Nat}(h:Local P b s)(hb:w.heap[b]? = some (.cells c tc f))(hb2:w2.heap[b]? = some (.cells c tc f))(hr:s.run P w=.ok a w'):w' = w/\s.run P w2=.ok a w2:=by
 induction s generalizing w w2 w' with
 | pure x => 
   simp only[Sem.run,Result.ok.injEq] at hr
   obtain⟨rfl,rfl⟩:=hr
   exact⟨rfl,rfl⟩
 | program k ih=>exact ih P h hb hb2 hr
 | mark m k ih=>exact ih h hb hb2 hr
 | halt h0=>simp[Sem.run] at hr
 | load m ad k ih => 
   obtain⟨rfl,hk⟩:=h
   have hc:w2.cell? ad=w.cell? ad:=by unfold World.cell?;rw[hb,hb2]
   have hfr : ∀ bb, w.farLoad P ad bb = .error (w.noCell ad "load: no such cell") := fun bb => by unfold World.farLoad; rw [hb]
   simp only[Sem.run] at hr ⊢
   rw[hc]
   cases hv:w.cell? ad with
   | some v =>
     rw[hv] at hr
     exact ih v (hk v) hb hb2 hr
   | none =>
     rw[hv,hfr] at hr
     cases hr
 | getObj r k ih=>exact h.elim
 | new o k ih=>exact h.elim
 | store m ad v k ih=>exact h.elim
 | shape r k ih=>exact h.elim
 | freeze ad n k ih=>exact h.elim
 | frozen ad k ih=>exact h.elim
 | setObj r o k ih=>exact h.elim
 | choose q k ih => 
   simp only[Sem.run] at hr
   split at hr
   ·exact((h _).run hr).elim
   ·exact((h _).run hr).elim
 | sys c k ih=>exact h.elim
theorem Jp {α β : Type}{b:Nat}{s:Sem α}{f : α -> Sem β}(h:Local P b s)(hf:∀ a,Local P b (f a)):Local P b (s >>= f):=h.bind hf
theorem add_block (ad:Addr)(i:Nat):(ad.add i).block=ad.block:=by unfold Addr.add;split<;>rfl
theorem JU (a:Addr):∀ (n i:Nat) (acc:Array Value),Local P a.block (loadCellsFrom a i n acc)
 | 0,_,_=>trivial
 | n+1,i,acc=>Jp (s:=load (a.add i)) ⟨add_block a i,fun _=>trivial⟩ fun v=>JU a n (i+1) (acc.push v)
theorem NH (t:TypeId)(ad:Addr):Local P ad.block (Instr.loadAt t (.pointer (some ad))):=by
 show Local P ad.block (loadVar t ad)
 unfold loadVar
 refine Jp (MH _).oH fun b=>?_
 split
 ·exact Jp (BN _).oH fun n=>Jp (JU _ _ _ _) fun _=>trivial
 ·exact⟨rfl,fun _=>trivial⟩
def XG (P:Program)(S:World->Prop)(s:Sem Next):Prop:=∀ n w w',S w->s.run P w=.ok n w' -> (∃ v,n=.value v)/\w' = w/\∀ w2,S w2->s.run P w2=.ok n w2
theorem kD {B:Nat->Prop}{w0:World}{o:Oper}{ρ : Operand->Value}(hk:kind P o=1)(hb:inB B w0 o ρ):XG P (Same B w0) (execOp ρ o):=by
 obtain⟨dst,op,type,pos,after,guard⟩:=o
 cases op<;>simp only[kind] at hk<;>try (exact absurd hk (by decide))
 case load t x=>
  simp only[inB] at hb
  split at hb
  ·rename_i ad hx
   obtain⟨hB,hc⟩:=hb
   have hblk:∃ c tc f,w0.heap[ad.block]? = some (.cells c tc f):=by
    unfold World.cell? at hc
    split at hc
    ·exact⟨_,_,_,by assumption⟩
    ·cases hc
   obtain⟨c,tc,f,hw0⟩:=hblk
   have hlt:ad.block<w0.heap.size:=(Array.getElem?_eq_some_iff.1 hw0).1
   intro n w w' hS hr
   have hr' : (Instr.loadAt t (ρ x) >>= fun v=>pure (.value v):Sem Next).run P w=.ok n w':=hr
   rw[hx] at hr'
   obtain⟨v,rfl,hv⟩:=NG hr'
   have h1:=(hS ad.block hB hlt).trans hw0
   obtain⟨rfl,_⟩:=(NH t ad).run h1 h1 hv
   refine⟨⟨v,rfl⟩,rfl,fun w2 hS2=>?_⟩
   have h2:=((NH t ad).run h1 ((hS2 ad.block hB hlt).trans hw0) hv).2
   show(Instr.loadAt t (ρ x) >>= fun v=>pure (.value v):Sem Next).run P w2=_
   rw[hx,Sem.run_bind,h2]
   rfl
  ·exact hb.elim
 all_goals (split at hk<;>cases hk)
theorem Yl.NI {S:World->Prop}{o:Oper}{a:Act}{w w' : World}{v:Value}(hS:S w)(h:Yl P ops o a w v w')(hq:Region.wanted o (yielded ops a.tmps)=true->XG P S (execOp a.eval o)):w' = w/\∀ w2,S w2->Yl P ops o a w2 v w2:=by
 rcases h with ⟨hw,hr⟩|⟨hw,rfl,rfl⟩
 ·obtain⟨_,h1,h2⟩:=hq hw _ _ _ hS hr
  exact⟨h1,fun w2 hm=>.inl ⟨hw,h2 w2 hm⟩⟩
 ·exact⟨rfl,fun _ _=>.inr ⟨hw,rfl,rfl⟩⟩
theorem Quiet.NI {S:World->Prop}{s:Sem Next}(h:Quiet P s):XG P S s:=fun n w w' _ hr=>by
 obtain⟨h1,h2,h3⟩:=h n w w' hr
 exact⟨h1,h2,fun w2 _=>h3 w2⟩
theorem wT (hQ:Df Q){S:World->Prop}{k j:Nat}{ok oj:Oper}(hk:ops[k]? = some ok)(hj:ops[j]? = some oj)(hap:ok.apart ops oj=true)
 (hsk:∀ cs b,ok.op≠.select cs b) (hsj:∀ cs b,oj.op≠.select cs b) {K:Act->World->Prop} {a:Act} {w:World} (hS:S w)
 (hc : ((Region.wanted oj (yielded ops a.tmps) = true → XG P S (execOp a.eval oj)) ∧ (Region.wanted oj (yielded ops a.tmps) = true → Pq P (execOp a.eval oj))) ∨
   ((Region.wanted ok (yielded ops a.tmps)=true->XG P S (execOp a.eval ok))/\(Region.wanted ok (yielded ops a.tmps)=true->Pq P (execOp a.eval ok)))\/
   ((Region.wanted ok (yielded ops a.tmps)=true->Reads P (execOp a.eval ok))/\(Region.wanted oj (yielded ops a.tmps)=true->Pq P (execOp a.eval oj))))
 (h:wpOp P ops Q k (fun a' w' => S w' /\ wpOp P ops Q j (fun a'' w'' => S w'' /\ K a'' w'') a' w') a w):
 wpOp P ops Q j (fun a' w' => S w' /\ wpOp P ops Q k (fun a'' w'' => S w'' /\ K a'' w'') a' w') a w:=by
 obtain⟨h1,h2,h3⟩:=Oper.apart_spec hap
 have h2' : ∀ t,oj.dst=some t->ok.dst≠some t:=fun t ht hk' => h2 t hk' ht
 rcases hc with ⟨hc,hn⟩|⟨hc,hn⟩|⟨hc1,hc2⟩
 ·obtain⟨a1,w1,hR,hS1,h'⟩:=Gn hQ hk h
  have he:=hR.exec (o:=oj) (ops:=ops) hsj h1
  obtain⟨v,w2,hy,_⟩:=ED hQ hj (by rw[he.1,he.2];exact hn) h'
  have hy0:Yl P ops oj a w1 v w2:=hy.same ⟨he.1.symm,he.2.symm⟩
  obtain⟨_,hall⟩:=hy0.NI hS1 hc
  refine Yl.mk hj (hall w hS) ⟨hS,?_⟩
  refine Lp hQ hk hsk h3 h2' h fun a' w' hR' hj' => ?_
  obtain⟨hS',hj'⟩:=hj'
  have he':=hR'.exec (o:=oj) (ops:=ops) hsj h1
  obtain⟨v2,w3,hy2,hK⟩:=ED hQ hj (by rw[he'.1,he'.2];exact hn) hj'
  obtain⟨rfl,rfl⟩:=(hy2.same ⟨he'.1.symm,he'.2.symm⟩).det (hall w' hS')
  exact hK
 ·obtain⟨v,w1,hy,hS1,h'⟩:=ED hQ hk hn h
  obtain⟨rfl,hall⟩:=hy.NI hS hc
  refine Sk hQ hj hsj h1 h2 h' fun a' w' hR hK=>?_
  exact⟨hK.1,Yl.mk hk ((hall w' hK.1).same (hR.exec (o:=ok) (ops:=ops) hsk h3)) hK⟩
 ·obtain⟨v,w1,hy,hS1,h'⟩:=ED hQ hk (fun hw=>(hc1 hw).news) h
  obtain⟨rfl,hall⟩:=hy.reads hc1
  have he:execOp (a.put ok.dst v).eval oj=execOp a.eval oj/\Region.wanted oj (yielded ops (a.put ok.dst v).tmps)=Region.wanted oj (yielded ops a.tmps):=(Rch.I6 a ok.dst v).exec (ops:=ops) hsj h1
  obtain⟨u,w2,hy2,hS2,hK⟩:=ED hQ hj (by rw[he.1,he.2];exact hc2) h'
  have oG : Yl P ops oj a w1 u w2:=hy2.same ⟨he.1.symm,he.2.symm⟩
  refine Yl.mk hj oG ⟨hS2,Yl.mk hk ((hall w2 (oG.more hc2)).same ((Rch.I6 a oj.dst u).exec (ops:=ops) hsk h3)) ⟨hS2,?_⟩⟩
  rw[<- Act.put_comm a v u h2]
  exact hK
def wpS (P:Program)(ops:Array Oper)(Q:Exit->Act->World->Prop)(S:World->Prop)(m:Nat):List Nat->Act->World->Prop
 | []=>fun a w=>Q .normal a w
 | i::l=>fun a w=>wpOp P ops Q i (fun a' w' => (i<m->S w')/\wpS P ops Q S m l a' w') a w
theorem Ry {S:World->Prop}{m:Nat} : ∀ (l:List Nat) (a:Act) (w:World),wpS P ops Q S m l a w->wpOps P ops Q l a w
 | [],_,_,h=>h
 | i :: l,a,w,h => by
   have h1:wpOp P ops Q i (fun a' w' => (i<m->S w')/\wpS P ops Q S m l a' w') a w:=h
   rw[wpOps_cons]
   exact wpOp_mono (fun a' w' hh=>Ry l a' w' hh.2) h1
def Lr (P:Program)(ops:Array Oper)(fl:List Nat)(a b:Nat):Bool:=
 match ops[a]?,ops[b]? with
 | some oa,some ob=>oa.apart ops ob&&(kind P ob==0 || kind P oa==0 || (kind P oa==1&&(kind P ob==1 || kind P ob==2)) || (kind P oa==1&&fl.contains a) || (kind P ob==1&&fl.contains b))
 | _,_=>false
def Jq (P:Program)(ops:Array Oper)(fl:List Nat)(m:Nat):Bool:=
 Region.noSelect ops&&
 MW ops (fun a b=>decide (b<m)&&Lr P ops fl a b) ops.size ops.size 0 0&&
 ((List.range ops.size).all fun k => match ops[k]? with
   | some o => !needs o || (List.range ops.size).all fun i=>decide (i<k) || (match ops[i]? with|some o' => (match o'.dst with|some t => !(o.looksAt ops).contains t|none=>true)|none=>true)
   | none=>true)&&
 (fl.all fun k => match ops[k]? with
   | some o=>(List.range ops.size).all fun i=>decide (i<k) || (match ops[i]? with|some o' => (match o'.dst with|some t => !(o.looksAt ops).contains t|none=>true)|none=>true)
   | none=>true)
theorem Kj {fl:List Nat}{m:Nat}(h:Jq P ops fl m=true):
 (∀ (j:Nat) (o:Oper) (cs:Array SelectCase) (b:Bool),ops[j]? = some o->o.op≠.select cs b)/\
 (∀ (b:Nat) (ob:Oper),ops[b]? = some ob->∀ e∈ob.after,Region.binds .any e=true->e.on<b)/\
 (∀ b a,b<ops.size->a<b->waits ops ops.size b a=true\/(b<m/\Lr P ops fl a b=true))/\
 (∀ (k:Nat) (o:Oper),ops[k]? = some o->needs o=true\/k∈fl->∀ i,k<=i->∀ (o' : Oper),ops[i]? = some o' -> ∀ t,o'.dst=some t->t ∉ o.looksAt ops):=by
 simp only[Jq,Bool.and_eq_true,List.all_eq_true,List.mem_range] at h
 obtain⟨⟨⟨h1,h2⟩,h3⟩,h4⟩:=h
 refine⟨fun j o cs b hj=>Region.noSelect_spec h1 j o cs b hj,fun b ob hb e he hbi=>?_,fun b a hb ha=>?_,fun k o hk hn i hki o' hi t ht=>?_⟩
 ·exact(DW h2 hb).1 e he hbi
 ·have:=(DW h2 (Array.getElem?_eq_getElem hb)).2 a ha
  simpa using this
 ·have hkl:k<ops.size:=(Array.getElem?_eq_some_iff.1 hk).1
  have hil:i<ops.size:=(Array.getElem?_eq_some_iff.1 hi).1
  have key:((List.range ops.size).all fun i=>decide (i<k) || (match ops[i]? with|some o' => (match o'.dst with|some t => !(o.looksAt ops).contains t|none=>true)|none=>true))=true:=by
   rcases hn with hn|hn
   ·have:=h3 k hkl
    rw[hk] at this
    simpa [hn] using this
   ·have:=h4 k hn
    rw[hk] at this
    exact this
  simp only[List.all_eq_true,List.mem_range] at key
  have:=key i hil
  rw[hi] at this
  simp only[ht,Bool.or_eq_true,decide_eq_true_eq] at this
  rcases this with this|this
  ·omega
  ·simpa using this
def allIn (B:Nat->Prop)(w0:World)(ops:Array Oper)(a:Act):List Nat->Prop
 | []=>True
 | i :: is => (match ops[i]? with
     | some o=>(match Region.wanted o (yielded ops a.tmps) with|true=>inB B w0 o a.eval|false=>True)
     | none=>True)/\allIn B w0 ops a is
theorem Sm {B:Nat->Prop}{w0:World}{a:Act} : ∀ {fl:List Nat},allIn B w0 ops a fl->∀ k∈fl,∀ o,ops[k]? = some o->Region.wanted o (yielded ops a.tmps)=true->inB B w0 o a.eval
 | [],_,_,hk,_,_,_=>by cases hk
 | i :: is,h,k,hk,o,ho,hw => by
   rcases List.mem_cons.1 hk with rfl|hk
   ·have:=h.1
    rw[ho] at this
    simp only[hw] at this
    exact this
   ·exact Sm h.2 k hk o ho hw
def Ag (P:Program)(ops:Array Oper)(B:Nat->Prop)(w0:World)(fl:List Nat)(Q:Exit->Act->World->Prop):Exit->Act->World->Prop:=fun e a w=>e=.normal/\Gp P ops a=true/\allIn B w0 ops a fl/\Q .normal a w
theorem Ag.Bu {B:Nat->Prop}{w0:World}{fl:List Nat} : Df (Ag P ops B w0 fl Q):=fun _ _ _ he h=>he h.1
theorem Ag.intro {B:Nat->Prop}{w0:World}{fl:List Nat}{a:Act}{w:World}(hg:Gp P ops a=true)(hi:allIn B w0 ops a fl)(h:Q .normal a w):Ag P ops B w0 fl Q .normal a w:=⟨rfl,hg,hi,h⟩
theorem Dt {B:Nat->Prop}{w0:World}{fl:List Nat}{e:Exit}{a:Act}{w:World}(h:Ag P ops B w0 fl Q e a w):Ends P ops (fun _ a w=>allIn B w0 ops a fl/\Q .normal a w) e a w:=⟨h.1,h.2.1,h.2.2⟩
theorem Wp {Q1 Q2:Exit->Act->World->Prop}(hQ:∀ e a w,Q1 e a w->Q2 e a w){i:Nat}{K:Act->World->Prop}{a:Act}{w:World}(h:wpOp P ops Q1 i K a w):wpOp P ops Q2 i K a w:=by
 unfold wpOp at*
 split
 ·rename_i ho;simpa [ho] using h
 ·rename_i o ho
  simp only[ho] at h
  split
  ·rename_i hw
   simp only[hw,if_true] at h
   rcases h with h|⟨h1,a0,w0,h2⟩
   ·refine .inl ?_
    unfold Oper.wp at*
    generalize (execOp a.eval o).run P w=r at*
    cases r with
    | ok n w' =>
      cases n<;>simp only[Oper.upon] at h ⊢ <;> try exact h
      exact Calls.mono h fun e w'' he=>by
       cases e with
       | returned u=>exact he
       | panicked c=>exact hQ _ _ _ he
       | outgrown=>obtain⟨a0,w0,h0⟩:=he;exact⟨a0,w0,hQ _ _ _ h0⟩
    | halt x w' => cases x<;>simp only[Oper.upon] at h ⊢;exact hQ _ _ _ h
   ·exact .inr ⟨h1,a0,w0,hQ _ _ _ h2⟩
  ·rename_i hw
   simp only[hw] at h
   exact h
theorem Dh {Q1 Q2:Exit->Act->World->Prop}(hQ:∀ e a w,Q1 e a w->Q2 e a w):∀ (l:List Nat) (a:Act) (w:World),wpOps P ops Q1 l a w->wpOps P ops Q2 l a w
 | [],_,_,h=>hQ _ _ _ h
 | i :: l,a,w,h => by
   rw[wpOps_cons] at h ⊢
   exact Wp hQ (wpOp_mono (fun a' w' hh=>Dh hQ l a' w' hh) h)
theorem NJ {B:Nat->Prop}{w0:World}{fl:List Nat}{l:List Nat}{a:Act}{w:World}(hl:∀ i∈l,i<ops.size)(h:wpOps P ops (Ag P ops B w0 fl Q) l a w){k:Nat}{o:Oper}(hk:ops[k]? = some o)(hkd:kind P o=1)(hm:k∈fl)
 (hf:∀ i∈l,∀ o',ops[i]? = some o' -> ∀ t,o'.dst=some t->t ∉ o.looksAt ops):Region.wanted o (yielded ops a.tmps)=true->XG P (Same B w0) (execOp a.eval o):=by
 intro hw
 obtain⟨a',w',⟨_,_,hin,_⟩,ht⟩:=fin (Q:=fun _ a w=>allIn B w0 ops a fl/\Q .normal a w) l a w hl (Dh (fun e a w he=>Dt he) l a w h)
 have hsame:∀ t,t∈o.looksAt ops->a'.tmps[t]? = a.tmps[t]? :=fun t hm=>ht t fun i hi o' ho' e=>hf i hi o' ho' t e hm
 have hev:∀ x∈o.op.operands,a'.eval x=a.eval x:=fun x hx=>IU fun t e=>hsame t (by
  subst e
  exact List.mem_append_left _ (List.mem_filterMap.2 ⟨.tmp t,by simpa using hx,rfl⟩))
 have hwn:Region.wanted o (yielded ops a'.tmps)=Region.wanted o (yielded ops a.tmps):=by
  unfold Region.wanted
  cases hgd:o.guard with
  | none=>rfl
  | some gw =>
    obtain⟨g,want⟩:=gw
    have:yielded ops a'.tmps g=yielded ops a.tmps g:=by
     unfold yielded
     cases hd:(ops[g]?).bind (·.dst) with
     | none=>rfl
     | some t =>
       have:=hsame t (by simp[Oper.looksAt,hgd,hd])
       simp[this]
    simp only[this]
 have h1:=Sm hin k hm o hk (by rw[hwn];exact hw)
 refine kD hkd ?_
 obtain⟨dst,op,type,pos,after,guard⟩:=o
 cases op<;>simp only[inB] at h1 ⊢
 case load t x=>rw[<- hev x (by simp[Op.operands])];exact h1
theorem oI {B:Nat->Prop}{w0:World}{fl:List Nat}{m:Nat}(hA:Jq P ops fl m=true){i:Nat}(him:i<m){rest:List Nat} : ∀ (ks:List Nat) (a:Act) (w:World),Same B w0 w->(∀ x∈ks++i::rest,x<ops.size)->(ks++i::rest).Pairwise (· < ·)->
 (∀ k∈ks,Lr P ops fl k i=true)->wpS P ops (Ag P ops B w0 fl Q) (Same B w0) m (ks++i::rest) a w->wpS P ops (Ag P ops B w0 fl Q) (Same B w0) m (i::(ks++rest)) a w
 | [],_,_,_,_,_,_,h=>h
 | k :: ks,a,w,hS,hl,hs,hp,h => by
   obtain⟨hsel,_,_,hkeep⟩:=Kj hA
   have hs':=List.pairwise_cons.1 hs
   have h0:=Ry _ _ _ h
   have hki:k<i:=hs'.1 i (by simp)
   have h:wpOp P ops (Ag P ops B w0 fl Q) k (fun a' w' => (k<m->Same B w0 w')/\wpS P ops (Ag P ops B w0 fl Q) (Same B w0) m (ks++i::rest) a' w') a w:=h
   have h1:wpOp P ops (Ag P ops B w0 fl Q) k (fun a' w' => Same B w0 w' /\ wpS P ops (Ag P ops B w0 fl Q) (Same B w0) m (i::(ks++rest)) a' w') a w:=
    wpOp_mono (fun a' w' hh=>⟨hh.1 (by omega),oI hA him ks a' w' (hh.1 (by omega)) (fun x hx=>hl x (by simp at hx ⊢;right;exact hx)) hs'.2 (fun x hx=>hp x (by simp[hx])) hh.2⟩) h
   have hkl:k<ops.size:=hl k (by simp)
   have hil:i<ops.size:=hl i (by simp)
   obtain⟨ok,hk⟩:∃ o,ops[k]? = some o:=⟨_,Array.getElem?_eq_getElem hkl⟩
   obtain⟨oi,hi⟩:∃ o,ops[i]? = some o:=⟨_,Array.getElem?_eq_getElem hil⟩
   have hpk:=hp k (by simp)
   simp only[Lr,hk,hi,Bool.and_eq_true,Bool.or_eq_true,beq_iff_eq,List.contains_iff_mem] at hpk
   obtain⟨hap,hc⟩:=hpk
   have h2:wpOp P ops (Ag P ops B w0 fl Q) k (fun a' w' => Same B w0 w' /\ wpOp P ops (Ag P ops B w0 fl Q) i (fun a'' w'' => Same B w0 w'' /\ wpS P ops (Ag P ops B w0 fl Q) (Same B w0) m (ks++rest) a'' w'') a' w') a w:=
    wpOp_mono (fun a' w' hh=>⟨hh.1,wpOp_mono (fun a'' w'' h3=>⟨h3.1 him,h3.2⟩) (show wpOp P ops _ i (fun a'' w'' => (i<m->Same B w0 w'')/\wpS P ops _ (Same B w0) m (ks++rest) a'' w'') a' w' from hh.2)⟩) h1
   have Kk:∀ x∈k::ks++i::rest,∀ o',ops[x]? = some o' -> (needs oi=true\/i∈fl)->∀ t,o'.dst=some t->t ∉ oi.looksAt ops:=fun x hx o' ho' hn t ht=>by
    by_cases hxi:i<=x
    ·exact hkeep i oi hi hn x hxi o' ho' t ht
    ·have hxm : x ∈ k :: ks :=by
      rcases List.mem_append.1 hx with h|h
      ·exact h
      ·rcases List.mem_cons.1 h with h|h
       ·omega
       ·have:=(List.pairwise_append.1 hs).2.1
        have:=(List.pairwise_cons.1 this).1 x h
        omega
     have hpx:=hp x hxm
     simp only[Lr,ho',hi,Bool.and_eq_true] at hpx
     exact(Oper.apart_spec hpx.1).1 t ht
   have Kl:∀ x∈k::ks++i::rest,∀ o',ops[x]? = some o' -> (needs ok=true\/k∈fl)->∀ t,o'.dst=some t->t ∉ ok.looksAt ops:=fun x hx o' ho' hn t ht=>by
    refine hkeep k ok hk hn x ?_ o' ho' t ht
    rcases List.mem_cons.1 hx with h|h
    ·omega
    ·have:=hs'.1 x h;omega
   have h0g:wpOps P ops (Ends P ops (fun _ a w=>allIn B w0 ops a fl/\Q .normal a w)) (k::ks++i::rest) a w:=Dh (fun e a w he=>Dt he) _ _ _ h0
   have h3:=wT (S:=Same B w0) Ag.Bu hk hi hap (fun cs b=>hsel k ok cs b hk) (fun cs b=>hsel i oi cs b hi) hS ?_ h2
   ·show wpOp P ops _ i (fun a' w' => (i<m->Same B w0 w')/\wpS P ops _ (Same B w0) m (k::(ks++rest)) a' w') a w
    refine wpOp_mono (fun a' w' hh=>⟨fun _=>hh.1,?_⟩) h3
    show wpOp P ops _ k (fun a'' w'' => (k<m->Same B w0 w'')/\wpS P ops _ (Same B w0) m (ks++rest) a'' w'') a' w'
    exact wpOp_mono (fun a'' w'' h4=>⟨fun _=>h4.1,h4.2⟩) hh.2
   ·rcases hc with (((hc|hc)|⟨hc1,hc2⟩)|⟨hc,hm⟩)|⟨hc,hm⟩
    ·have hq:=Gy (l:=k::ks++i::rest) hl h0g hi hc fun hn x hx o' ho' t ht=>Kk x hx o' ho' (.inl hn) t ht
     exact .inl ⟨fun hw=>(hq hw).NI,fun hw=>(hq hw).news⟩
    ·have hq:=Gy (l:=k::ks++i::rest) hl h0g hk hc fun hn x hx o' ho' t ht=>Kl x hx o' ho' (.inl hn) t ht
     exact .inr (.inl ⟨fun hw=>(hq hw).NI,fun hw=>(hq hw).news⟩)
    ·exact .inr (.inr ⟨fun _=>FY hc1,fun _=>Fp hc2⟩)
    ·exact .inr (.inl ⟨NJ (l:=k::ks++i::rest) hl h0 hk hc hm fun x hx o' ho' t ht=>Kl x hx o' ho' (.inr hm) t ht,fun _=>Fp (.inl hc)⟩)
    ·exact .inl ⟨NJ (l:=k::ks++i::rest) hl h0 hi hc hm fun x hx o' ho' t ht=>Kk x hx o' ho' (.inr hm) t ht,fun _=>Fp (.inl hc)⟩
theorem Ik {B:Nat->Prop}{w0:World}{fl:List Nat}{m:Nat}(hA:Jq P ops fl m=true):∀ (fuel:Nat) (l:List Nat) (listed:Array Bool) (a:Act) (w:World),l.length=fuel->listed.size=ops.size->Closed ops listed->
 l.Pairwise (· < ·)->(∀ x,x∈l↔x<ops.size/\listed.getD x false=false)->((∃ x∈l,x<m)->Same B w0 w)->wpS P ops (Ag P ops B w0 fl Q) (Same B w0) m l a w->wpAny P .any ops (Ag P ops B w0 fl Q) fuel listed a w
 | 0,l,listed,a,w,hlen,hsz,hcl,hs,hm,_,h => by
   have hl0:l=[]:=List.eq_nil_of_length_eq_zero hlen
   subst hl0
   refine⟨?_,h⟩
   refine List.eq_nil_iff_forall_not_mem.2 fun j hj=>?_
   obtain⟨h0,o,ho,_⟩:=mem_ready.1 hj
   have hjl:j<ops.size:=(Array.getElem?_eq_some_iff.1 ho).1
   have:=(hm j).2 ⟨hjl,getD_both h0⟩
   cases this
 | fuel + 1,l,listed,a,w,hlen,hsz,hcl,hs,hm,hSl,h => by
   obtain⟨_,htop,Zq,_⟩:=Kj hA
   have both:∀ x,x<ops.size->listed.getD x false=false->listed.getD x true=false:=fun x hx hf=>getD_in (by omega) hf
   refine⟨fun hr=>?_,fun i hi=>?_⟩
   ·exfalso
    cases l with
    | nil=>cases hlen
    | cons k l =>
      have hm0:=(hm k).1 (by simp)
      obtain⟨o,ho⟩:∃ o,ops[k]? = some o:=⟨_,Array.getElem?_eq_getElem hm0.1⟩
      have:k∈Region.ready .any ops listed:=mem_ready.2 ⟨both k hm0.1 hm0.2,o,ho,fun e he hb=>by
       have hlt:=htop k o ho e he hb
       cases hx:listed.getD e.on false with
       | true=>rfl
       | false =>
         have hin:=(hm e.on).2 ⟨by omega,hx⟩
         rcases List.mem_cons.1 hin with h1|h1
         ·omega
         ·have:=(List.pairwise_cons.1 hs).1 _ h1
          omega⟩
      rw[hr] at this
      cases this
   ·obtain⟨hun,oi,hoi,hall⟩:=mem_ready.1 hi
    have hil:i<ops.size:=(Array.getElem?_eq_some_iff.1 hoi).1
    have hin:i∈l:=(hm i).2 ⟨hil,getD_both hun⟩
    obtain⟨ks,rest,rfl⟩:=List.append_of_mem hin
    have hpw:=List.pairwise_append.1 hs
    have hks:∀ k∈ks,i<m/\Lr P ops fl k i=true:=fun k hk=>by
     have hki:k<i:=hpw.2.2 k hk i (by simp)
     rcases Zq i k hil hki with hw|hp
     ·have:=Gq hcl ops.size i k oi hoi hall hw
      have hk2:=((hm k).1 (by simp[hk])).2
      rw[hk2] at this
      cases this
     ·exact hp
    have hfr:wpS P ops (Ag P ops B w0 fl Q) (Same B w0) m (i::(ks++rest)) a w:=by
     cases ks with
     | nil=>exact h
     | cons k ks =>
       have him:=(hks k (by simp)).1
       exact oI hA him (k::ks) a w (hSl ⟨i,hin,him⟩) (fun x hx=>((hm x).1 hx).1) hs (fun x hx=>(hks x hx).2) h
    have hfr:wpOp P ops (Ag P ops B w0 fl Q) i (fun a' w' => (i<m->Same B w0 w')/\wpS P ops (Ag P ops B w0 fl Q) (Same B w0) m (ks++rest) a' w') a w:=hfr
    refine wpOp_mono (fun a' w' hh=>?_) hfr
    refine Ik hA fuel (ks++rest) _ a' w' (by simp at hlen ⊢;omega) (by simp[hsz]) ?_ ?_ ?_ ?_ hh.2
    ·intro j o ho hl e he hb
     by_cases hij:i=j
     ·subst hij
      have:o=oi:=Option.some.inj (ho.symm.trans hoi)
      subst this
      exact getD_set_true (hall e he hb)
     ·refine getD_set_true (hcl j o ho ?_ e he hb)
      rw[getD_set_ne false (by exact hij)] at hl
      exact hl
    ·exact List.pairwise_append.2 ⟨hpw.1,(List.pairwise_cons.1 hpw.2.1).2,fun x hx y hy=>hpw.2.2 x hx y (by simp[hy])⟩
    ·intro x
     have hx:=hm x
     have hne:x∈ks++rest->i≠x:=by
      intro hxm e
      subst e
      rcases List.mem_append.1 hxm with h1|h1
      ·have:=hpw.2.2 i h1 i (by simp)
       omega
      ·have:=(List.pairwise_cons.1 hpw.2.1).1 i h1
       omega
     constructor
     ·intro hxm
      have h1:=hx.1 (by simp at hxm ⊢;rcases hxm with h|h<;>simp[h])
      exact⟨h1.1,by rw[getD_set_ne false (hne hxm)];exact h1.2⟩
     ·rintro⟨h1,h2⟩
      by_cases hix:i=x
      ·subst hix
       simp[hsz,h1] at h2
      ·rw[getD_set_ne false hix] at h2
       have:=hx.2 ⟨h1,h2⟩
       simp at this ⊢
       rcases this with h|h|h
       ·exact .inl h
       ·exact absurd h.symm hix
       ·exact .inr h
    ·rintro⟨x,hx,hxm⟩
     refine hh.1 ?_
     rcases List.mem_append.1 hx with h1|h1
     ·exact(hks x h1).1
     ·have:=(List.pairwise_cons.1 hpw.2.1).1 x h1
      omega
theorem kE {S:World->Prop}(hS:∀ w,S w){m:Nat} : ∀ (l:List Nat) (a:Act) (w:World),wpOps P ops Q l a w->wpS P ops Q S m l a w
 | [],_,_,h=>h
 | i :: l,a,w,h => by
   rw[wpOps_cons] at h
   show wpOp P ops Q i (fun a' w' => (i<m->S w')/\wpS P ops Q S m l a' w') a w
   exact wpOp_mono (fun a' w' hh=>⟨fun _=>hS w',kE hS l a' w' hh⟩) h
def Zr (P:Program)(ops:Array Oper):Bool:=Jq P ops [] ops.size
theorem Na {l:List Oper}{a:Act}{w:World}(hA:Zr P l.toArray=true)(h:wpList P l.toArray (Ends P l.toArray Q) l a w):
 wpAny P .any l.toArray (Ag P l.toArray (fun _=>False) w [] Q) l.toArray.size (Array.replicate l.toArray.size false) a w:=by
 refine Ik hA l.toArray.size (List.range l.toArray.size) _ a _ (by simp) (by simp) ?_ List.pairwise_lt_range (fun x=>by
  constructor
  ·intro hx
   have:=List.mem_range.1 hx
   exact⟨this,by simp only[Array.getD_eq_getD_getElem?];simp at this ⊢;simp[this]⟩
  ·exact fun hx=>List.mem_range.2 hx.1) (fun _=>Same.refl _ _) ?_
 ·intro j o ho hl
  rw[getD_replicate_false] at hl
  cases hl
 ·refine kE (fun _ _ hb=>hb.elim) _ _ _ (Dh (Q1:=Ends P l.toArray Q) (fun e a w he=>⟨he.1,he.2.1,trivial,he.2.2⟩) _ _ _ ?_)
  rw[List.range_eq_range',show l.toArray.size=l.length from by simp,wpOps_eq_wpList l 0 (by simp)]
  exact h
theorem Vw {id:Nat}{l:List Oper}{Q:Exit->Act->World->Prop}{a:Act}{w:World}(hm:P.follows .mixedOrders=true)(hA:Zr P l.toArray=true)
 (h:wpList P l.toArray (Ends P l.toArray Q) l a w.drew):(Code.region id l.toArray true).wp P Q a w:=
 Code.wp_mono (fun e a' w' he=>by obtain⟨rfl,_,_,h⟩:=he;exact h) (wp_region_any hm (Na hA h))
def wild (P:Program)(ops:Array Oper)(i:Nat):Bool:=match ops[i]? with|some o=>kind P o != 0&&kind P o != 1&&kind P o != 2|none=>false
def wpC (P:Program)(ops:Array Oper)(Q:Exit->Act->World->Prop)(S:World->Prop)(m:Nat):List Nat->Act->World->Prop
 | []=>fun a w=>Q .normal a w
 | i::l=>fun a w=>wpOp P ops Q i (fun a' w' => (i<m->wild P ops i=true->S w')/\wpC P ops Q S m l a' w') a w
theorem XH {S:World->Prop}{m:Nat} : ∀ (l:List Nat) (a:Act) (w:World),wpC P ops Q S m l a w->wpOps P ops Q l a w
 | [],_,_,h=>h
 | i :: l,a,w,h => by
   have h1:wpOp P ops Q i (fun a' w' => (i<m->wild P ops i=true->S w')/\wpC P ops Q S m l a' w') a w:=h
   rw[wpOps_cons]
   exact wpOp_mono (fun a' w' hh=>XH l a' w' hh.2) h1
theorem upC {B:Nat->Prop}{w0:World}{fl:List Nat}{m:Nat}(hA:Jq P ops fl m=true):∀ (l:List Nat) (a:Act) (w:World),(∀ x∈l,x<ops.size)->l.Pairwise (· < ·)->((∃ x∈l,x<m)->Same B w0 w)->
 wpC P ops (Ag P ops B w0 fl Q) (Same B w0) m l a w->wpS P ops (Ag P ops B w0 fl Q) (Same B w0) m l a w
 | [],_,_,_,_,_,h=>h
 | i :: l,a,w,hl,hs,hS,h => by
   obtain⟨_,_,_,hkeep⟩:=Kj hA
   have h0:=XH _ _ _ h
   have hs':=List.pairwise_cons.1 hs
   obtain⟨o,hi⟩:∃ o,ops[i]? = some o:=⟨_,Array.getElem?_eq_getElem (hl i (by simp))⟩
   have h:wpOp P ops (Ag P ops B w0 fl Q) i (fun a' w' => (i<m->wild P ops i=true->Same B w0 w')/\wpC P ops (Ag P ops B w0 fl Q) (Same B w0) m l a' w') a w:=h
   show wpOp P ops (Ag P ops B w0 fl Q) i (fun a' w' => (i<m->Same B w0 w')/\wpS P ops (Ag P ops B w0 fl Q) (Same B w0) m l a' w') a w
   have fB:∀ a' w',(i<m->Same B w0 w')->wpC P ops (Ag P ops B w0 fl Q) (Same B w0) m l a' w' -> wpS P ops (Ag P ops B w0 fl Q) (Same B w0) m l a' w':=fun a' w' hS' hh=>
    upC hA l a' w' (fun x hx=>hl x (by simp[hx])) hs'.2 (fun⟨x,hx,hxm⟩=>hS' (by have:=hs'.1 x hx;omega)) hh
   by_cases him:i<m
   ·have hSw:=hS ⟨i,by simp,him⟩
    by_cases hwd:wild P ops i=true
    ·exact wpOp_mono (fun a' w' hh=>⟨fun hm=>hh.1 hm hwd,fB a' w' (fun hm=>hh.1 hm hwd) hh.2⟩) h
    ·have hn : Region.wanted o (yielded ops a.tmps) = true → Pq P (execOp a.eval o) :=by
      simp only[wild,hi,Bool.and_eq_true,bne_iff_ne,ne_eq,not_and,Classical.not_not] at hwd
      intro hw
      by_cases h0k:kind P o=0
      ·have h0g:wpOps P ops (Ends P ops (fun _ a w=>allIn B w0 ops a fl/\Q .normal a w)) (i::l) a w:=Dh (fun e a w he=>Dt he) _ _ _ h0
       exact(Gy hl h0g hi h0k (fun hn x hx o' ho' t ht=>hkeep i o hi (.inl hn) x (by
        rcases List.mem_cons.1 hx with h|h
        ·omega
        ·have:=hs'.1 x h;omega) o' ho' t ht) hw).news
      ·by_cases h1k:kind P o=1
       ·exact(FY h1k).news
       ·exact Ij (hwd ⟨h0k,h1k⟩)
     obtain⟨v,w',hy,hc,hh⟩:=ED Ag.Bu hi hn h
     have oJ : Same B w0 w':=hSw.more (hy.more hn)
     exact Yl.mk hi hy ⟨fun _=>oJ,fB _ _ (fun _=>oJ) hh⟩
   ·exact wpOp_mono (fun a' w' hh=>⟨fun hm=>absurd hm him,fB a' w' (fun hm=>absurd hm him) hh.2⟩) h
def Mid (S:World->Prop)(K:Act->World->Prop):Exit->Act->World->Prop:=fun e a w=>e=.normal/\S w/\K a w
theorem Mid.intro {S:World->Prop}{K:Act->World->Prop}{a:Act}{w:World}(hS:S w)(h:K a w):Mid S K .normal a w:=⟨rfl,hS,h⟩
theorem Mid.Bu {S:World->Prop}{K:Act->World->Prop} : Df (Mid S K):=fun _ _ _ he h=>he h.1
def Bh (P:Program)(ops:Array Oper)(Q:Exit->Act->World->Prop)(S:World->Prop):List Nat->List Oper->Act->World->Prop
 | [],l=>wpList P ops Q l
 | c::cs,l=>wpList P ops (Mid S (Bh P ops Q S cs (l.drop c))) (l.take c)
def Sn (P:Program)(ops:Array Oper)(m:Nat):List Nat->Nat->Nat->Bool
 | [],n,k=>(List.range n).all fun j=>decide (m<=k+j) || !wild P ops (k+j)
 | c::cs,n,k=>decide (0<c)&&decide (c<=n)&&((List.range (c-1)).all fun j=>decide (m<=k+j) || !wild P ops (k+j))&&Sn P ops m cs (n-c) (k+c)
theorem Fq {Q1 Q2:Exit->Act->World->Prop}(hQ:Df Q1){i:Nat}{K:Act->World->Prop}{a:Act}{w:World}(h:wpOp P ops Q1 i K a w):wpOp P ops Q2 i K a w:=by
 have h1:wpOp P ops (fun _ _ _=>False) i K a w:=by
  unfold wpOp at*
  split
  ·rename_i ho;simpa [ho] using h
  ·rename_i o ho
   simp only[ho] at h
   split
   ·rename_i hw
    simp only[hw,if_true] at h
    rcases h with h|h
    ·refine .inl ?_
     unfold Oper.wp at*
     generalize (execOp a.eval o).run P w=r at*
     cases r with
     | ok n w' =>
       cases n<;>simp only[Oper.upon] at h ⊢ <;> try exact h
       exact Calls.mono h fun e w'' he=>by
        cases e with
        | returned u=>exact he
        | panicked c=>exact hQ _ _ _ (by simp) he
        | outgrown=>exact absurd he hQ.out
     | halt x w' => cases x<;>simp only[Oper.upon] at h ⊢;exact hQ _ _ _ (by simp) h
    ·exact absurd h.2 hQ.out
   ·rename_i hw
    simp only[hw] at h
    exact h
 exact Wp (fun _ _ _ h=>h.elim) h1
theorem Gz {o:Oper}{l:List Oper}{a:Act}{w:World}{k:Nat}(hk:ops[k]? = some o)(h:wpList P ops Q (o::l) a w):wpOp P ops Q k (wpList P ops Q l) a w:=by
 unfold wpOp
 simp only[hk]
 exact h
theorem Sq {S:World->Prop}{m:Nat} : ∀ (l:List Oper) (k:Nat) (a:Act) (w:World),(∀ j,j<l.length->l[j]? = ops[k+j]?)->((List.range l.length).all fun j=>decide (m<=k+j) || !wild P ops (k+j))=true->
 wpList P ops Q l a w->wpC P ops Q S m (List.range' k l.length) a w
 | [],k,a,w,_,_,h=>h
 | o :: l,k,a,w,hl,hw,h => by
   have h0:ops[k]? = some o:=by simpa using (hl 0 (by simp)).symm
   rw[List.length_cons,List.range'_succ]
   have hh:=Gz h0 h
   simp only[List.all_eq_true,List.mem_range,List.length_cons] at hw
   show wpOp P ops Q k (fun a' w' => (k<m->wild P ops k=true->S w')/\wpC P ops Q S m (List.range' (k+1) l.length) a' w') a w
   refine wpOp_mono (fun a' w' h1=>⟨fun hkm hwd=>?_,Sq l (k+1) a' w' (fun j hj=>?_) ?_ h1⟩) hh
   ·have:=hw 0 (by omega)
    simp only[Nat.add_zero,hwd,Bool.not_true,Bool.or_false,decide_eq_true_eq] at this
    omega
   ·have:=hl (j+1) (by simp;omega)
    simpa [Nat.add_assoc,Nat.add_comm 1 j] using this
   ·simp only[List.all_eq_true,List.mem_range]
    intro j hj
    have:=hw (j+1) (by omega)
    rwa [show k+(j+1)=k+1+j from by omega] at this
theorem Zt {S:World->Prop}{m:Nat}{K:Act->World->Prop}{L:List Nat}(hK:∀ a w,K a w->wpC P ops Q S m L a w):∀ (l:List Oper) (k:Nat) (a:Act) (w:World),(∀ j,j<l.length->l[j]? = ops[k+j]?)->0<l.length->((List.range (l.length-1)).all fun j=>decide (m<=k+j) || !wild P ops (k+j))=true->
 wpList P ops (Mid S K) l a w->wpC P ops Q S m (List.range' k l.length++L) a w
 | [],k,a,w,_,h0,_,h=>by cases h0
 | o :: l,k,a,w,hl,_,hw,h => by
   have h0:ops[k]? = some o:=by simpa using (hl 0 (by simp)).symm
   have hh:=Fq (Q2:=Q) Mid.Bu (Gz h0 h)
   rw[List.length_cons,List.range'_succ,List.cons_append]
   simp only[List.all_eq_true,List.mem_range,List.length_cons,Nat.add_sub_cancel] at hw
   show wpOp P ops Q k (fun a' w' => (k<m->wild P ops k=true->S w')/\wpC P ops Q S m (List.range' (k+1) l.length++L) a' w') a w
   refine wpOp_mono (fun a' w' h1=>?_) hh
   cases l with
   | nil=>exact⟨fun _ _=>h1.2.1,hK _ _ h1.2.2⟩
   | cons o2 l =>
     refine⟨fun hkm hwd=>?_,Zt hK (o2::l) (k+1) a' w' (fun j hj=>?_) (by simp) ?_ h1⟩
     ·have:=hw 0 (by simp)
      simp only[Nat.add_zero,hwd,Bool.not_true,Bool.or_false,decide_eq_true_eq] at this
      omega
     ·have:=hl (j+1) (by simp at hj ⊢;omega)
      simpa [Nat.add_assoc,Nat.add_comm 1 j] using this
     ·simp only[List.all_eq_true,List.mem_range,List.length_cons,Nat.add_sub_cancel]
      intro j hj
      have:=hw (j+1) (by simp;omega)
      rwa [show k+(j+1)=k+1+j from by omega] at this
theorem Ls {S:World->Prop}{m:Nat} : ∀ (cs:List Nat) (l:List Oper) (k:Nat) (a:Act) (w:World),(∀ j,j<l.length->l[j]? = ops[k+j]?)->Sn P ops m cs l.length k=true->
 Bh P ops Q S cs l a w->wpC P ops Q S m (List.range' k l.length) a w
 | [],l,k,a,w,hl,hc,h=>Sq l k a w hl hc h
 | c :: cs,l,k,a,w,hl,hc,h => by
   simp only[Sn,Bool.and_eq_true,decide_eq_true_eq] at hc
   obtain⟨⟨⟨h1,h2⟩,h3⟩,h4⟩:=hc
   have hlen:(l.take c).length=c:=by simp;omega
   have hr:List.range' k l.length=List.range' k (l.take c).length++List.range' (k+c) (l.drop c).length:=by
    rw[hlen,List.length_drop,List.range'_append_1,show c+(l.length-c)=l.length from by omega]
   rw[hr]
   refine Zt (fun a' w' hk=>Ls cs (l.drop c) (k+c) a' w' (fun j hj=>?_) (by rw[List.length_drop];exact h4) hk) (l.take c) k a w (fun j hj=>?_) (by omega) (by rw[hlen];exact h3) h
   ·rw[List.getElem?_drop,hl (c+j) (by simp at hj;omega),Nat.add_assoc]
   ·rw[List.getElem?_take,if_pos (by omega),hl j (by simp at hj;omega)]
theorem Sr {id:Nat}{l:List Oper}{Q:Exit->Act->World->Prop}{a:Act}{w:World}(B:Nat->Prop)(fl:List Nat)(m:Nat)(cs:List Nat)(hm:P.follows .mixedOrders=true)(hA:Jq P l.toArray fl m=true)(hC:Sn P l.toArray m cs l.length 0=true)
 (h:Bh P l.toArray (Ag P l.toArray B w.drew fl Q) (Same B w.drew) cs l a w.drew):(Code.region id l.toArray true).wp P Q a w:=by
 refine Code.wp_mono (Q:=Ag P l.toArray B w.drew fl Q) (fun e a' w' he=>by obtain⟨rfl,_,_,h⟩:=he;exact h) (wp_region_any hm ?_)
 have hlt:∀ x∈List.range l.toArray.size,x<l.toArray.size:=fun x hx=>List.mem_range.1 hx
 refine Ik hA l.toArray.size (List.range l.toArray.size) _ a _ (by simp) (by simp) ?_ List.pairwise_lt_range (fun x=>by
  constructor
  ·intro hx
   have:=List.mem_range.1 hx
   exact⟨this,by simp only[Array.getD_eq_getD_getElem?];simp at this ⊢;simp[this]⟩
  ·exact fun hx=>List.mem_range.2 hx.1) (fun _=>Same.refl _ _) ?_
 ·intro j o ho hl
  rw[getD_replicate_false] at hl
  cases hl
 ·refine upC hA _ _ _ hlt List.pairwise_lt_range (fun _=>Same.refl _ _) ?_
  rw[List.range_eq_range',show l.toArray.size=l.length from by simp]
  exact Ls cs l 0 a _ (by simp) hC h
end
end Lex
section
open Go
theorem Lex.zl{P:Program}{id:Nat}{l:List Oper}{Q:Exit->Act->World->Prop}{a:Act}{w:World}(h:wpList P l.toArray (Lex.Ends P l.toArray Q) l a w.drew)(hm:P.follows .mixedOrders=true:=by kernel_rfl)(hA:Lex.Zr P l.toArray=true:=by kernel_rfl):(Code.region id l.toArray true).wp P Q a w:=Lex.Vw hm hA h
theorem Lex.ze{P:Program}{ops:Array Oper}{Q:Exit->Act->World->Prop}{a:Act}{w:World}(h:Q .normal a w)(hg:Lex.Gp P ops a=true:=by kernel_rfl):Lex.Ends P ops Q .normal a w:=Lex.Ends.intro hg h
theorem Lex.zk{P:Program}{ops:Array Oper}{Q:Exit->Act->World->Prop}{B:Nat->Prop}{w0:World}{fl:List Nat}{a:Act}{w:World}(hi:Lex.allIn B w0 ops a fl)(h:Q .normal a w)(hg:Lex.Gp P ops a=true:=by kernel_rfl):Lex.Ag P ops B w0 fl Q .normal a w:=Lex.Ag.intro hg hi h
theorem Lex.zn{P:Program}{id:Nat}{l:List Oper}{Q:Exit->Act->World->Prop}{a:Act}{w:World}(B:Nat->Prop)(fl:List Nat)(m:Nat)(cs:List Nat)(h:Lex.Bh P l.toArray (Lex.Ag P l.toArray B w.drew fl Q) (Lex.Same B w.drew) cs l a w.drew)(hm:P.follows .mixedOrders=true:=by kernel_rfl)(hA:Lex.Jq P l.toArray fl m=true:=by kernel_rfl)(hC:Lex.Sn P l.toArray m cs l.length 0=true:=by kernel_rfl):(Code.region id l.toArray true).wp P Q a w:=Lex.Sr B fl m cs hm hA hC h
end
end
section
open Go Go.RowKit Go.Maps
structure POp where
 page:Int
 data:ByteArray
 sync:Bool
structure Ac where
 Aa:List ByteArray
 pending:List (Nat × ByteArray)
 recording:Bool
 recorded:List POp
structure Au where
 a:Nat
 bd:Nat
 mp:Nat
 pv:Value
 rv:Value
def Au.foot (d:Au)(k:Nat):Prop:=k=d.a\/k=d.bd\/k=d.mp\/d.pv.ownBlock=some k\/d.rv.ownBlock=some k
def lastIdx (l:List (Nat × ByteArray))(p:Nat):Option Nat:=
 match l with
 | []=>none
 | x :: l => match lastIdx l p with
   | some i=>some (i+1)
   | none=>if x.1=p then some 0 else none
def NK (D:DataW Unit)(l:List (Nat × ByteArray)):Prop:=
 IsMap D/\∀ p:Nat,(match lastIdx l p with
  | some i=>has D (.int .i64 p)=true/\∀ z,D.atKey (.int .i64 p) z=.lit (.int .i64 i)
  | none=>has D (.int .i64 p)=false)
def Jr (l:List ByteArray):Array Value:=(l.map Value.string).toArray
def Km (l:List (Nat × ByteArray)):List Value:=l.flatMap fun x=>[.int .i64 (x.1:Int),.string x.2]
def Pv (l:List POp):List Value:=l.flatMap fun x=>[.int .i64 x.page,.string x.data,.bool x.sync]
structure Ak (w:World) (d:Au) (c:Ac):Prop where
 self:At w d.a 99 #[.slice (some ⟨d.bd,0,none⟩) c.Aa.length c.Aa.length,d.pv,.map (some d.mp),.bool c.recording,d.rv]
 rows:At w d.bd 9 (Jr c.Aa)
 pend:w.ownsRow 0 101 2 d.pv c.pending.length (Km c.pending)
 NM:w.ownsRow 0 104 3 d.rv c.recorded.length (Pv c.recorded)
 latest:∃ D n,w.ownsMap Tryz.prog 3 (plainElem Tryz.prog 3) d.mp n D/\n<=c.pending.length/\NK D c.pending
 pos:0<c.Aa.length
 most:c.Aa.length<=4096
 inside:∀ x∈c.pending,x.1<c.Aa.length
theorem Ak.lt {w:World}{d:Au}{c:Ac}(h:Ak w d c):∀ k,d.foot k->k<w.heap.size:=by
 intro k hk
 rcases hk with rfl|rfl|rfl|hk|hk
 ·exact h.self.lt
 ·exact h.rows.lt
 ·obtain⟨D,n,hm,_⟩:=h.latest;exact hm.lt
 ·obtain⟨cur,hc⟩:=Ao h.pend hk;exact hc.lt
 ·obtain⟨cur,hc⟩:=Ao h.NM hk;exact hc.lt
theorem Ak.keep {w w' : World}{d:Au}{c:Ac}(h:Ak w d c)(hk:∀ k,d.foot k->w'.heap[k]? = w.heap[k]?):Ak w' d c:=by
 obtain⟨D,n,hm,hr⟩:=h.latest
 exact⟨h.self.keep (hk _ (Or.inl rfl)),h.rows.keep (hk _ (Or.inr (Or.inl rfl))),Ar h.pend (fun k hb=>hk k (by unfold Au.foot;simp[hb])),
  Ar h.NM (fun k hb=>hk k (by unfold Au.foot;simp[hb])),⟨D,n,Kh hm (hk _ (Or.inr (Or.inr (Or.inl rfl)))),hr⟩,h.pos,h.most,h.inside⟩
theorem Ak.below {B:Nat}{w w' : World}{d:Au}{c:Ac}(h:Ak w d c)(hb:Below B w w')(hB:w.heap.size<=B):Ak w' d c:=
 h.keep fun k hk=>hb.block k (Nat.lt_of_lt_of_le (h.lt k hk) hB)
theorem Ak.fr {F:Nat->Prop}{w w' : World}{d:Au}{c:Ac}(h:Ak w d c)(hf:Fr F w w')(hF:∀ k,F k->¬ d.foot k):Ak w' d c:=
 h.keep fun k hk=>hf.keep k (h.lt k hk) (fun h' => hF k h' hk)
def Nb:ByteArray:=⟨#[33]⟩
theorem Wq:Nb.toList=[33]:=by rw[ByteArray.toList_eq];rfl
def Ac.read (c:Ac)(p:Int):ByteArray × Int:=
 if 0<=p/\p<c.Aa.length then
  match lastIdx c.pending p.toNat with
  | some i=>((c.pending.getD i (0,⟨#[]⟩)).2,0)
  | none=>if (c.Aa.getD p.toNat ⟨#[]⟩).toList==Nb.toList then (⟨#[]⟩,21) else (c.Aa.getD p.toNat ⟨#[]⟩,0)
 else (⟨#[]⟩,2)
theorem GX (d:Au)(c:Ac)(w:World)(h:Ak w d c):
 Calls Tryz.prog 43 #[.pointer (some ⟨d.a,0,none⟩)] w fun e w' => e=.returned (.int .i64 c.Aa.length)/\w' = w:=by
 have h0:=h.self.c1
 clear h
 go_enter Tryz.func43,Tryz.ntmps43
 go_wp2
 go_ret
 exact⟨rfl,rfl⟩
theorem Kn (d:Au)(c:Ac)(p:Int)(w:World)(h:Ak w d c):
 Calls Tryz.prog 41 #[.pointer (some ⟨d.a,0,none⟩),.int .i64 p] w fun e w' => e=.returned (.bool (decide (0<=p/\p<(c.Aa.length:Int))))/\w' = w:=by
 have h0:=h.self.c1
 clear h
 go_enter Tryz.func41,Tryz.ntmps41
 go_wp2_with fail
 all_goals (try go_ret)
 ·have h0p:0<=p:=by assumption
  refine⟨?_,rfl⟩
  show Ending.returned (.bool (decide (p<(c.Aa.length:Int))))=_
  simp[h0p]
 ·have h0p:¬ 0<=p:=by omega
  refine⟨?_,rfl⟩
  show Ending.returned (.bool false)=_
  simp[h0p]
theorem law:Keyed Tryz.prog 3:=int_keyed Tryz.underlying3
theorem oL (w:World):(zeroValue 3).run Tryz.prog w=.ok (.int .i64 0) w:=by kernel_rfl
theorem uq {x:Int}(h : -9223372036854775808<=x/\x<9223372036854775808):(Lit.int .i64 x).wf=true:=WalkArith.wf_i64 (by omega)
theorem lastIdx_lt:∀ (l:List (Nat × ByteArray)) (p i:Nat),lastIdx l p=some i->i<l.length
 | [],_,_,h=>by cases h
 | x :: l,p,i,h => by
   unfold lastIdx at h
   cases hl:lastIdx l p with
   | some j =>
     rw[hl] at h
     have:=lastIdx_lt l p j hl
     simp at h
     simp
     omega
   | none =>
     rw[hl] at h
     simp at h
     simp
     omega
theorem Sv (l:List ByteArray)(i:Nat)(h:i<l.length):(Jr l)[i]? = some (.string (l.getD i ⟨#[]⟩)):=by
 simp[Jr,List.getD_eq_getElem?_getD,h]
theorem Nc (l:List (Nat × ByteArray))(i:Nat)(h:i<l.length):(Km l)[i*2]? = some (.int .i64 (l[i].1:Int))/\(Km l)[i*2+1]? = some (.string l[i].2):=by
 induction l generalizing i with
 | nil=>cases h
 | cons x l ih =>
   match i with
   | 0=>exact⟨rfl,rfl⟩
   | i + 1 =>
     have:=ih i (by simpa using h)
     rw[show(i+1)*2=i*2+2 by omega]
     exact this
theorem IY (d:Au)(c:Ac)(p:Int)(w:World)(hp:c.pending.length<=1000000)(h:Ak w d c):
 Calls Tryz.prog 49 #[.pointer (some ⟨d.a,0,none⟩),.int .i64 p] w fun e w' => e=.returned (.tuple #[.string (c.read p).1,.int .i64 (c.read p).2])/\w' = w:=by
 obtain⟨h0,h1,h2⟩:=h.self.c3
 obtain⟨D,n,hm,hn,hl⟩:=h.latest
 have HM:=zh hm;clear hm
 have HL:=zh hl;clear hl
 by_cases hin:0<=p/\p<c.Aa.length
 ·obtain⟨q,rfl⟩:∃ q:Nat,p=q:=⟨p.toNat,by omega⟩
  have oM:=h.most
  have hr:=h.rows.cell q
  rw[Sv _ _ (by omega)] at hr
  have dd:(decide (0<=(q:Int)/\(q:Int)<c.Aa.length))=true:=decide_eq_true hin
  have hlq:=HL.out.2 q
  have hpw:=h.pend
  have H:=zh h;clear h
  have hkey:=keyOf_int_mk (P:=Tryz.prog) (k:=3) (q:=.i64) Tryz.underlying3 (uq (x:=(q:Int)) (by omega))
  have hread:c.read q=match lastIdx c.pending q with
   | some i=>((c.pending.getD i (0,⟨#[]⟩)).2,0)
   | none=>if (c.Aa.getD q ⟨#[]⟩).toList==Nb.toList then (⟨#[]⟩,21) else (c.Aa.getD q ⟨#[]⟩,0):=by
   unfold Ac.read
   rw[if_pos hin]
   rfl
  cases hli:lastIdx c.pending q with
  | some i =>
    rw[hli] at hlq hread
    have hil:=lastIdx_lt _ _ _ hli
    clear hli
    obtain⟨hhas,zbE⟩:=hlq
    obtain⟨g,cap,hpv,hcell⟩:=BM hpw (by omega)
    have hc:=hcell _ _ (Nc _ _ hil).2
    rw[hpv] at h1
    have HR:=zh hread;clear hread
    clear hpw hcell hr
    go_enter Tryz.func49,Tryz.ntmps49
    go_wp2_with fail
    refine(Kn d c q w H.out).mono ?_
    rintro e w' ⟨rfl,rfl⟩
    rw[dd]
    go_wp2_with (at_lookup;go_must (refine wpList_lookup_own_ok_int _ rfl _ _ 96 rfl 3 3 .i64 law Tryz.underlying96 Tryz.underlying3 (oL _) d.mp n _ rfl HM.out _ _ rfl hkey ?_);intro v hat hwc;have hv:v=(i:Int):=(by have:=hat.symm.trans (zbE _);simpa using this);subst hv;rw[hhas])
    go_ret2
    refine⟨?_,rfl⟩
    rw[HR.out,List.getD_eq_getElem?_getD,List.getElem?_eq_getElem hil]
    rfl
  | none =>
    rw[hli] at hlq hread
    simp only at hlq hread
    obtain⟨s,hs⟩:∃ s,s=c.Aa.getD q ⟨#[]⟩:=⟨_,rfl⟩
    rw[<- hs] at hr hread
    clear hpw hs
    have HR:=zh hread;clear hread
    by_cases htn:(s.toList==[33])=true
    ·have ht:(s.toList==Nb.toList)=true:=by rw[Wq];exact htn
     have HT:=zh ht;clear ht
     go_enter Tryz.func49,Tryz.ntmps49
     go_wp2_with fail
     refine(Kn d c q w H.out).mono ?_
     rintro e w' ⟨rfl,rfl⟩
     rw[dd]
     go_wp2_with (at_lookup;go_must (refine wpList_lookup_own_ok_int _ rfl _ _ 96 rfl 3 3 .i64 law Tryz.underlying96 Tryz.underlying3 (oL _) d.mp n _ rfl HM.out _ _ rfl hkey ?_);intro v hat hwc;rw[hlq])
     go_ret2
     refine⟨?_,rfl⟩
     rw[HR.out,if_pos HT.out]
     rfl
    ·have htn:(s.toList==[33])=false:=by simpa using htn
     have ht:¬ (s.toList==Nb.toList)=true:=by
      rw[Wq,htn];simp
     have HT:=zh ht;clear ht
     go_enter Tryz.func49,Tryz.ntmps49
     go_wp2_with fail
     refine(Kn d c q w H.out).mono ?_
     rintro e w' ⟨rfl,rfl⟩
     rw[dd]
     go_wp2_with (at_lookup;go_must (refine wpList_lookup_own_ok_int _ rfl _ _ 96 rfl 3 3 .i64 law Tryz.underlying96 Tryz.underlying3 (oL _) d.mp n _ rfl HM.out _ _ rfl hkey ?_);intro v hat hwc;rw[hlq])
     go_ret2
     refine⟨?_,rfl⟩
     rw[HR.out,if_neg HT.out]
     rfl
 ·have hread : c.read p = (⟨#[]⟩,2) :=by
   unfold Ac.read
   rw[if_neg hin]
  have dd:(decide (0<=p/\p<(c.Aa.length:Int)))=false:=decide_eq_false hin
  have HR:=zh hread;clear hread
  have H:=zh h;clear h
  go_enter Tryz.func49,Tryz.ntmps49
  go_wp2_with fail
  refine(Kn d c p w H.out).mono ?_
  rintro e w' ⟨rfl,rfl⟩
  rw[dd]
  go_wp2
  go_ret2
  refine⟨?_,rfl⟩
  rw[HR.out]
  rfl
structure DStep (w w' : World) (d d' : Au) (c' : Ac):Prop where
 at_:Ak w' d' c'
 a:d'.a=d.a
 bd:d'.bd=d.bd
 mp:d'.mp=d.mp
 foot:∀ k,d'.foot k->d.foot k\/w.heap.size<=k
 fr:Fr d.foot w w'
theorem DStep.trans {w w1 w2:World}{d d1 d2:Au}{c1 c2:Ac}(h:DStep w w1 d d1 c1)(k:DStep w1 w2 d1 d2 c2):DStep w w2 d d2 c2:=by
 refine⟨k.at_,k.a.trans h.a,k.bd.trans h.bd,k.mp.trans h.mp,fun j hj=>?_,h.fr.trans k.fr h.foot⟩
 rcases k.foot j hj with h1|h1
 ·exact h.foot j h1
 ·exact .inr (Nat.le_trans h.fr.size h1)
theorem DStep.refl {w:World}{d:Au}{c:Ac}(h:Ak w d c):DStep w w d d c:=⟨h,rfl,rfl,rfl,fun _ hk=>.inl hk,Fr.refl _ _⟩
theorem Ak.uw {w:World}{d:Au}{c:Ac}(h:Ak w d c):d.a≠d.bd:=h.self.ne h.rows (by decide)
theorem Ak.Zu {w:World}{d:Au}{c:Ac}(h:Ak w d c):d.a≠d.mp:=by obtain⟨D,n,hm,_⟩:=h.latest;exact h.self.MF hm
theorem Ak.oN {w:World}{d:Au}{c:Ac}(h:Ak w d c):d.bd≠d.mp:=by obtain⟨D,n,hm,_⟩:=h.latest;exact h.rows.MF hm
theorem Ak.xQ {w:World}{d:Au}{c:Ac}(h:Ak w d c):d.pv.ownBlock≠some d.a:=h.self.own_ne h.pend (by decide)
theorem Ak.uy {w:World}{d:Au}{c:Ac}(h:Ak w d c):d.rv.ownBlock≠some d.a:=h.self.own_ne h.NM (by decide)
theorem Zv:(Tryz.prog.info? 104).map (fun i=>(i.zero,i.size,i.bytes))=some (some (.agg #[.int .i64 0,.string ⟨#[]⟩,.bool false]),3,32):=by kernel_rfl
theorem fC:(Tryz.prog.info? 101).map (fun i=>(i.zero,i.size,i.bytes))=some (some (.agg #[.int .i64 0,.string ⟨#[]⟩]),2,24):=by kernel_rfl
theorem Zw (l:List POp)(x:POp):Pv (l++[x])=Pv l++[.int .i64 x.page,.string x.data,.bool x.sync]:=by simp[Pv]
theorem Zx (l:List (Nat × ByteArray))(x:Nat × ByteArray):Km (l++[x])=Km l++[.int .i64 (x.1:Int),.string x.2]:=by simp[Km]
def Ac.note (c:Ac)(o:POp):Ac:=if c.recording then { c with recorded:=c.recorded++[o] } else c
theorem Ak.noted {w w1 w' : World}{d:Au}{c:Ac}{v' : Value}{o:POp}(h:Ak w d c)(hw1:Below w.heap.size w w1)(hg:w1.grownBy w' d.rv.ownBlock)
 (how:w'.ownsRow 0 104 3 v' (c.recorded++[o]).length (Pv (c.recorded++[o]))) (hb:v'.ownBlock=d.rv.ownBlock\/∃ g,v'.ownBlock=some g/\w.heap.size<=g):
 DStep w (w'.setCell ⟨d.a,4,none⟩ v') d { d with rv:=v' } { c with recorded:=c.recorded++[o] } :=by
 have h1:=h.below hw1 (Nat.le_refl _)
 have hs:=At.grown h1.self hg (by intro e;exact h1.uy e.symm)
 have hr:=At.grown h1.rows hg (by intro e;exact(h1.rows.own_ne h1.NM (by decide)) e.symm)
 obtain⟨D,n,hm,hn,hl⟩:=h1.latest
 have hm':=hm.kept hg (by intro e;obtain⟨cur,hc⟩:=Ao h1.NM e.symm;exact hc.MF hm rfl)
 have hp:=Ar (w':=w') h1.pend (fun k hk=>hg.block k (by obtain⟨cur,hc⟩:=Ao h1.pend hk;exact hc.lt) (by
  intro e
  obtain⟨cur,hc⟩:=Ao h1.pend hk
  obtain⟨cur',hc'⟩:=Ao h1.NM e.symm
  exact hc.ne hc' (by decide) rfl))
 have hs':=hs.set 4 v'
 have hav:v'.ownBlock≠some d.a:=hs.own_ne how (by decide)
 refine⟨⟨hs',hr.far (Ne.symm h.uw) _,?_,?_,⟨D,n,Kh hm' (zo (Ne.symm h.Zu)),hn,hl⟩,h.pos,h.most,h.inside⟩,rfl,rfl,rfl,?_,?_⟩
 ·exact ownsRow_setCell_other hp (by intro e;exact h1.xQ e) _
 ·exact ownsRow_setCell_other how (by intro e;exact hav e) _
 ·intro k hk
  rcases hk with rfl|rfl|rfl|hk|hk
  ·exact .inl (.inl rfl)
  ·exact .inl (.inr (.inl rfl))
  ·exact .inl (.inr (.inr (.inl rfl)))
  ·exact .inl (.inr (.inr (.inr (.inl hk))))
  ·rcases hb with hb|⟨g,hb,hgl⟩
   ·exact .inl (.inr (.inr (.inr (.inr (hb.symm.trans hk)))))
   ·have:g=k:=by rw[hb] at hk;simpa using hk
    exact .inr (by omega)
 ·exact((Fr.of_below hw1).trans (Fr.grown (Fr.refl (fun k=>d.rv.ownBlock=some k) w1) hg (fun k hk=>.inl hk)) (fun k hk=>.inl (.inr (.inr (.inr (.inr hk)))))).setCell (.inl (.inl rfl)) _
theorem Sw (d:Au)(c:Ac)(o:POp)(w:World)(hr:c.recorded.length<=1000000)(h:Ak w d c):
 Calls Tryz.prog 42 #[.pointer (some ⟨d.a,0,none⟩),.agg #[.int .i64 o.page,.string o.data,.bool o.sync]] w fun e w' => e=.returned (.tuple #[])/\∃ d',DStep w w' d d' (c.note o):=by
 have h3:=h.self.cell 3;have h4:=h.self.cell 4
 simp only[zg] at h3 h4
 have ha:=h.self.lt
 have H:=zh h;clear h
 cases hc:c.recording with
 | false =>
   have e:c.note o=c:=by unfold Ac.note;simp[hc]
   have HE:=zh e;clear e
   rw[hc] at h3
   clear hc
   go_enter Tryz.func42,Tryz.ntmps42
   go_wp2
   go_end0
   refine⟨rfl,d,?_⟩
   rw[HE.out]
   exact⟨H.out.below zb (Nat.le_refl _),rfl,rfl,rfl,fun _ hk=>.inl hk,(Fr.refl _ _).alloc _⟩
 | true =>
   rw[hc] at h3
   have e:c.note o = { c with recorded:=c.recorded++[o] } :=by unfold Ac.note;simp[hc]
   have HE:=zh e;clear e
   obtain⟨i0,hi,hz0,hz1,hz2⟩:=info_parts Zv
   have hne:=H.out.uy
   have wU:=H.out.NM
   have HRC:=zh wU;clear wU
   have HC:=zh hc;clear hc
   go_enter Tryz.func42,Tryz.ntmps42
   go_wp2
   refine Lex.zl ?_
   go_wp2_with (at_builtin;go_must (refine wpList_append_own_at _ rfl _ _ 97 rfl 0 104 i0 _ 3 32 Tryz.underlying97 hi hz0 hz1 hz2 rfl (by omega) d.rv c.recorded.length (Pv c.recorded) rfl ((HRC.out.alloc _).drew.alloc _) ⟨w.heap.size+1,0,none⟩ 1 1 [.int .i64 o.page,.string o.data,.bool o.sync] rfl rfl ?c1 ?c2 ?c3 ?c4 ?c5 ?_))
   case c1=>
    intro j u hj
    match j,hj with
    | 0,hj=>simp at hj;subst hj;simp[Addr.add]
    | 1,hj=>simp at hj;subst hj;simp[Addr.add]
    | 2,hj=>simp at hj;subst hj;simp[Addr.add]
   case c2=>intro u hu;simp at hu;rcases hu with rfl|rfl|rfl<;>rfl
   case c3=>unfold maxLen;omega
   case c4=>omega
   case c5=>omega
   intro v' w' how' hg _ hb'
   have hw1:Below w.heap.size w ((w.alloc (.cells #[.int .i64 o.page,.string o.data,.bool o.sync] 104)).alloc (.cells #[.int .i64 o.page,.string o.data,.bool o.sync] 104)).drew:=(((Below.refl w.heap.size w).alloc (Nat.le_refl _) _).alloc (by rw[World.size_alloc];omega) _).drew
   have hst:=H.out.noted (o:=o) hw1 hg (by rw[Zw,List.length_append];exact how') (hb'.imp id (fun h=>⟨w.heap.size+1+1,h,by omega⟩))
   obtain⟨g,cap,rfl,_⟩:=BM how' (by omega)
   have hf4:w'.frozen? ⟨d.a,4,none⟩=false:=(At.grown ((((H.out.self).alloc _).alloc _).drew) hg (by intro e;exact hne e.symm)).free 4
   have h4' : (w'.cell? ⟨d.a,4,none⟩)=some d.rv:=((At.grown ((((H.out.self).alloc _).alloc _).drew) hg (by intro e;exact hne e.symm)).cell 4)
   have HS:=zh hst;clear how' hg hb' hw1 hst
   go_wp2
   refine Lex.ze ?_
   go_wp2
   go_end0
   refine⟨rfl,{ d with rv:=.slice (some ⟨g,0,none⟩) (c.recorded.length+1) cap },?_⟩
   rw[HE.out]
   exact HS.out
theorem Js (s:ByteArray)(p q:Nat):∀ l:List (Nat × ByteArray),lastIdx (l++[(p,s)]) q=if p=q then some l.length else lastIdx l q
 | []=>by simp[lastIdx]
 | x :: l => by
   rw[List.cons_append,lastIdx,Js s p q l]
   by_cases hpq:p=q
   ·rw[if_pos hpq,if_pos hpq];simp
   ·rw[if_neg hpq,if_neg hpq];rfl
theorem fD {D:DataW Unit}{l:List (Nat × ByteArray)}(h:NK D l)(p:Nat)(s:ByteArray):NK (D.put (.int .i64 p) (.lit (.int .i64 (l.length:Int)))) (l++[(p,s)]):=by
 refine⟨h.1.put _ _,fun q=>?_⟩
 rw[Js]
 by_cases hpq:p=q
 ·subst hpq
  rw[if_pos rfl]
  exact⟨has_put_same h.1 (by trivial) _,fun z=>atKey_put_same h.1 (by trivial) _ z⟩
 ·rw[if_neg hpq]
  have hne:(Lit.int .i64 (q:Int))≠Lit.int .i64 (p:Int):=by
   intro e
   simp at e
   omega
  have h2:=h.2 q
  cases hq:lastIdx l q with
  | some i =>
    rw[hq] at h2
    exact⟨by rw[has_put_other hne];exact h2.1,fun z=>by rw[atKey_put_other hne];exact h2.2 z⟩
  | none =>
    rw[hq] at h2
    show has _ _=false
    rw[has_put_other hne]
    exact h2
theorem Ak.wrote {w w1 w2 w3:World}{d:Au}{c:Ac}{v' : Value}{p n:Nat}{s:ByteArray}{D:DataW Unit}(h:Ak w d c)(hg1:w.grownBy w1 (some d.mp))(hb:Below w1.heap.size w1 w2)(hg2:w2.grownBy w3 d.pv.ownBlock)
 (hm:w1.ownsMap Tryz.prog 3 (plainElem Tryz.prog 3) d.mp (n+1) (D.put (.int .i64 p) (.lit (.int .i64 (c.pending.length:Int))))) (hn:n<=c.pending.length) (hl:NK D c.pending) (hp:p<c.Aa.length)
 (how:w3.ownsRow 0 101 2 v' (c.pending++[(p,s)]).length (Km (c.pending++[(p,s)]))) (hv:v'.ownBlock=d.pv.ownBlock\/∃ g,v'.ownBlock=some g/\w.heap.size<=g):
 DStep w (w3.setCell ⟨d.a,1,none⟩ v') d { d with pv:=v' } { c with pending:=c.pending++[(p,s)] } :=by
 have hs1:=At.grown h.self hg1 (by intro e;exact h.Zu (by simpa using e))
 have hr1:=At.grown h.rows hg1 (by intro e;exact h.oN (by simpa using e))
 have hmp:∀ {t e size m v xs},t≠e->w.ownsRow 0 e size v m xs->v.ownBlock≠some d.mp:=by
  intro t e size m v xs _ ho he
  obtain⟨cur,hc⟩:=Ao ho he
  obtain⟨D0,n0,hm0,_⟩:=h.latest
  exact hc.MF hm0 rfl
 have hp1:=Ar (w':=w1) h.pend (fun k hk=>hg1.block k (by obtain⟨cur,hc⟩:=Ao h.pend hk;exact hc.lt) (by
  intro e
  exact hmp (t:=0) (e:=101) (by decide) h.pend (hk.trans e)))
 have hc1:=Ar (w':=w1) h.NM (fun k hk=>hg1.block k (by obtain⟨cur,hc⟩:=Ao h.NM hk;exact hc.lt) (by
  intro e
  exact hmp (t:=0) (e:=104) (by decide) h.NM (hk.trans e)))
 have hs2:=hs1.below hb hs1.lt
 have hr2:=hr1.below hb hr1.lt
 have hm2:=Kh hm (hb.block _ hm.lt)
 have hp2:=Ar (w':=w2) hp1 (fun k hk=>hb.block k (by obtain⟨cur,hc⟩:=Ao hp1 hk;exact hc.lt))
 have hc2:=Ar (w':=w2) hc1 (fun k hk=>hb.block k (by obtain⟨cur,hc⟩:=Ao hc1 hk;exact hc.lt))
 have hs3:=At.grown hs2 hg2 (by intro e;exact h.xQ e.symm)
 have hr3:=At.grown hr2 hg2 (by intro e;exact(hr2.own_ne hp2 (by decide)) e.symm)
 have hm3:=hm2.kept hg2 (by intro e;obtain⟨cur,hc⟩:=Ao hp2 e.symm;exact hc.MF hm2 rfl)
 have hc3:=Ar (w':=w3) hc2 (fun k hk=>hg2.block k (by obtain⟨cur,hc⟩:=Ao hc2 hk;exact hc.lt) (by
  intro e
  obtain⟨cur,hc⟩:=Ao hc2 hk
  obtain⟨cur',hc'⟩:=Ao hp2 e.symm
  exact hc.ne hc' (by decide) rfl))
 have hav:v'.ownBlock≠some d.a:=hs3.own_ne how (by decide)
 refine⟨⟨hs3.set 1 v',hr3.far (Ne.symm h.uw) _,ownsRow_setCell_other how (by intro e;exact hav e) _,ownsRow_setCell_other hc3 (by intro e;exact h.uy e) _,
  ⟨_,n+1,Kh hm3 (zo (Ne.symm h.Zu)),by rw[List.length_append];simp;omega,fD hl p s⟩,h.pos,h.most,?_⟩,rfl,rfl,rfl,?_,?_⟩
 ·intro x hx
  rcases List.mem_append.1 hx with hx|hx
  ·exact h.inside x hx
  ·simp at hx;subst hx;exact hp
 ·intro k hk
  rcases hk with rfl|rfl|rfl|hk|hk
  ·exact .inl (.inl rfl)
  ·exact .inl (.inr (.inl rfl))
  ·exact .inl (.inr (.inr (.inl rfl)))
  ·rcases hv with hb|⟨g,hb,hgl⟩
   ·exact .inl (.inr (.inr (.inr (.inl (hb.symm.trans hk)))))
   ·have:g=k:=by rw[hb] at hk;simpa using hk
    exact .inr (by omega)
  ·exact .inl (.inr (.inr (.inr (.inr hk))))
 ·have f1:Fr d.foot w w1:=Fr.grown (Fr.refl _ _) hg1 (fun k hk=>.inl (.inr (.inr (.inl (by simpa using hk.symm)))))
  have f2:Fr d.foot w w2:=f1.trans (Fr.of_below (F:=fun _=>False) hb) (fun _ hk=>hk.elim)
  have f3:Fr d.foot w w3:=f2.grown hg2 (fun k hk=>.inl (.inr (.inr (.inr (.inl hk)))))
  exact f3.setCell (.inl (.inl rfl)) _
def Ac.wrote (c:Ac)(p:Nat)(s:ByteArray):Ac :={ c with pending:=c.pending++[(p,s)] }
theorem GY (d:Au)(c:Ac)(p:Nat)(s:ByteArray)(w:World)(hin:p<c.Aa.length)(hs:s.size=512)(hpl:c.pending.length<=1000000)(hr:c.recorded.length<=1000000)(h:Ak w d c):
 Calls Tryz.prog 13 #[.pointer (some ⟨d.a,0,none⟩),.int .i64 p,.string s] w fun e w' => e=.returned (.int .i64 0)/\∃ d',DStep w w' d d' ((c.wrote p s).note ⟨p,s,false⟩):=by
 have h1:=h.self.cell 1;have h2:=h.self.cell 2
 simp only[zg] at h1 h2
 obtain⟨D,n,hm,hn,hl⟩:=h.latest
 have hpos:=h.most
 have HM:=zh hm;clear hm
 have HL:=zh hl;clear hl
 have hpv:∃ b len cap,d.pv=.slice b len cap/\len=c.pending.length:=by
  obtain⟨_,⟨h0,h1⟩|⟨g,cap,cur,h0,_⟩⟩:=h.pend
  ·exact⟨none,0,0,h0,h1.symm⟩
  ·exact⟨_,_,_,h0,rfl⟩
 obtain⟨pb,pl,pc,fE,rfl⟩:=hpv
 have dd:decide (0<=(p:Int)/\(p:Int)<c.Aa.length)=true:=decide_eq_true ⟨by omega,by omega⟩
 have H:=zh h;clear h
 have hkey:=keyOf_int_mk (P:=Tryz.prog) (k:=3) (q:=.i64) Tryz.underlying3 (uq (x:=(p:Int)) (by omega))
 obtain⟨i0,hi,hz0,hz1,hz2⟩:=info_parts fC
 rw[fE] at h1
 have HPV:=zh fE;clear fE
 go_enter Tryz.func13,Tryz.ntmps13
 go_wp2_with fail
 refine(Kn d c p w H.out).mono ?_
 rintro e w' ⟨rfl,rfl⟩
 rw[dd]
 go_wp2
 refine Lex.zl ?_
 go_wp2_with (at_mapUpdate;go_must (refine wpList_mapUpdate_own _ rfl _ _ _ 96 rfl 3 3 law Tryz.underlying96 _ d.mp n _ rfl HM.out.drew (by unfold maxLen;omega) _ _ _ rfl rfl hkey _ [] (plainElem_int Tryz.underlying3 (uq (by omega))) ?_);intro w1 hown1 hgrow1)
 have hg1:w'.grownBy w1 (some d.mp):=⟨hgrow1.os,hgrow1.tape,hgrow1.output,hgrow1.size,hgrow1.block⟩
 have hs1:=At.grown H.out.self hg1 (by intro e;exact H.out.Zu (by simpa using e))
 have h1:=hs1.cell 1
 simp only[List.getElem?_toArray,List.getElem?_cons_zero,List.getElem?_cons_succ,HPV.out] at h1
 have hp1:=Ar (w':=w1) H.out.pend (fun k hk=>hg1.block k (by obtain⟨cur,hc⟩:=Ao H.out.pend hk;exact hc.lt) (by
  intro e
  obtain⟨cur,hc⟩:=Ao H.out.pend hk
  exact hc.MF HM.out (by simpa using e)))
 have HG1:=zh hg1;have HO1:=zh hown1;have HP1:=zh hp1;have HS1:=zh hs1
 clear hg1 hown1 hgrow1 hp1 hs1
 refine Lex.ze ?_
 go_wp2_with (at_builtin;go_must (refine wpList_append_own_at _ rfl _ _ 95 rfl 0 101 i0 _ 2 24 Tryz.underlying95 hi hz0 hz1 hz2 rfl (by omega) _ c.pending.length (Km c.pending) rfl (HPV.out ▸ (HP1.out.alloc _)) ⟨w1.heap.size,0,none⟩ 1 1 [.int .i64 p,.string s] rfl rfl ?c1 ?c2 ?c3 ?c4 ?c5 ?_))
 case c1=>
  intro j u hj
  match j,hj with
  | 0,hj=>simp at hj;subst hj;simp[Addr.add]
  | 1,hj=>simp at hj;subst hj;simp[Addr.add]
 case c2=>intro u hu;simp at hu;rcases hu with rfl|rfl<;>rfl
 case c3=>unfold maxLen;omega
 case c4=>omega
 case c5=>omega
 intro v' w3 how' hg _ hb'
 have hb2:Below w1.heap.size w1 (w1.alloc (.cells #[.int .i64 p,.string s] 101)):=(Below.refl w1.heap.size w1).alloc (Nat.le_refl _) _
 have hvb:v'.ownBlock=d.pv.ownBlock\/∃ g,v'.ownBlock=some g/\w'.heap.size<=g:=by
  rw[HPV.out]
  exact hb'.imp id (fun h=>⟨w1.heap.size+1,h,by have:=HG1.out.size;omega⟩)
 have hst:=H.out.wrote (p:=p) (s:=s) HG1.out hb2 (HPV.out ▸ hg) HO1.out hn HL.out hin (by rw[Zx,List.length_append];exact how') hvb
 obtain⟨g,cap,rfl,_⟩:=BM how' (by omega)
 have hsa:=At.grown (HS1.out.alloc (.cells #[.int .i64 p,.string s] 101)) hg (by intro e;exact H.out.xQ (by rw[HPV.out];exact e.symm))
 have hf1:w3.frozen? ⟨d.a,1,none⟩=false:=hsa.free 1
 have hc1:=hsa.cell 1
 simp only[zg] at hc1
 have HS:=zh hst;clear how' hg hb' hst hsa hb2 hvb
 go_wp2_with fail
 have hrec:(c.wrote p s).recorded.length<=1000000:=hr
 refine(Sw _ (c.wrote p s) ⟨p,s,false⟩ _ hrec HS.out.at_).mono ?_
 rintro e w4 ⟨rfl,d',hd'⟩
 have HD:=zh (HS.out.trans hd');clear hd'
 go_wp2
 go_ret
 exact⟨rfl,d',HD.out⟩
end
section
open Go Go.RowKit Go.Maps Go.ChangeMaps
theorem Vx {P:Program}{t k e ty:TypeId}{r clock:Nat}{es:Array MapEntry}{w:World}(ht:P.underlying t=some (.map k e))(hb:w.heap[r]? = some (.map es clock)):
 (Builtin.clear_ #[t] ty #[.map (some r)]).run P w=.ok (.tuple #[]) (setBlock w r (.map #[] clock)):=by
 simp[Builtin.clear_,run_underlying ht,MapKept.run_getObj_map hb,MapKept.run_setObj_map _ hb,setBlock,Result.andThen]
theorem Ak.forgot {w:World}{d:Au}{c:Ac}{es:Array MapEntry}{clock:Nat}(h:Ak w d c)(hb:w.heap[d.mp]? = some (.map es clock)):
 DStep w (setBlock (w.setCell ⟨d.a,1,none⟩ (.slice none 0 0)) d.mp (.map #[] clock)) d { d with pv:=.slice none 0 0 } { c with pending:=[] } :=by
 have hb1:(w.setCell ⟨d.a,1,none⟩ (.slice none 0 0)).heap[d.mp]? = some (.map es clock):=by rw[zo (Ne.symm h.Zu)];exact hb
 have ho:∀ k,k≠d.mp->(setBlock (w.setCell ⟨d.a,1,none⟩ (.slice none 0 0)) d.mp (.map #[] clock)).heap[k]? = (w.setCell ⟨d.a,1,none⟩ (.slice none 0 0)).heap[k]? :=fun k hk=>heap_setBlock_other hb1 _ hk
 have ho2:∀ k,k≠d.mp->k≠d.a->(setBlock (w.setCell ⟨d.a,1,none⟩ (.slice none 0 0)) d.mp (.map #[] clock)).heap[k]? = w.heap[k]? :=fun k hk ha=>(ho k hk).trans (heap_setCell_other _ ⟨d.a,1,none⟩ k _ ha)
 have hsz:(setBlock (w.setCell ⟨d.a,1,none⟩ (.slice none 0 0)) d.mp (.map #[] clock)).heap.size=w.heap.size:=by simp[setBlock,World.setCell]
 refine⟨⟨(h.self.set 1 _).keep (ho _ h.Zu),h.rows.keep (ho2 _ h.oN (Ne.symm h.uw)),⟨rfl,.inl ⟨rfl,rfl⟩⟩,Ar h.NM (fun k hk=>ho2 k ?_ ?_),⟨.map [],0,⟨#[],clock,heap_setBlock_same hb1 _,⟨by simp,MapKept.stamped_empty clock,by simp⟩,Nat.le_refl _,rfl⟩,Nat.le_refl _,⟨⟨[],rfl⟩,fun p=>rfl⟩⟩,h.pos,h.most,fun x hx=>by cases hx⟩,rfl,rfl,rfl,?_,?_⟩
 ·rintro rfl
  obtain⟨cur,hc⟩:=Ao h.NM hk
  obtain⟨D0,n0,hm0,_⟩:=h.latest
  exact hc.MF hm0 rfl
 ·rintro rfl
  exact h.uy hk
 ·intro k hk
  rcases hk with rfl|rfl|rfl|hk|hk
  ·exact .inl (.inl rfl)
  ·exact .inl (.inr (.inl rfl))
  ·exact .inl (.inr (.inr (.inl rfl)))
  ·cases hk
  ·exact .inl (.inr (.inr (.inr (.inr hk))))
 ·exact⟨rfl,rfl,rfl,Nat.le_of_eq hsz.symm,fun k _ hk=>ho2 k (fun e=>hk (.inr (.inr (.inl e)))) (fun e=>hk (.inl e))⟩
theorem Sy (d:Au)(c:Ac)(w:World)(h:Ak w d c):
 Calls Tryz.prog 77 #[.pointer (some ⟨d.a,0,none⟩)] w fun e w' => e=.returned (.tuple #[])/\DStep w w' d { d with pv:=.slice none 0 0 } { c with pending:=[] } :=by
 have h1:=h.self.cell 1;have h2:=h.self.cell 2
 simp only[zg] at h1 h2
 obtain⟨D,n,⟨es,clock,hb,F,hs,hD⟩,hn,hl⟩:=h.latest
 have hcl:=fun ty=>Vx (P:=Tryz.prog) (ty:=ty) (w:=w.setCell ⟨d.a,1,none⟩ (.slice none 0 0)) Tryz.underlying96 (r:=d.mp) (clock:=clock) (es:=es) (by rw[zo (Ne.symm h.Zu)];exact hb)
 have hf1:w.frozen? ⟨d.a,1,none⟩=false:=h.self.free 1
 have hne:=h.Zu
 have hst:=h.forgot hb
 have HS:=zh hst;clear hst h hl F hD
 go_enter Tryz.func77,Tryz.ntmps77
 go_wp2
 go_end0
 exact⟨rfl,HS.out⟩
theorem fG (l:List ByteArray)(p:Nat)(s:ByteArray):(Jr l).setIfInBounds p (.string s)=Jr (l.set p s):=by
 simp[Jr,List.map_set]
theorem Ak.kF {w:World}{d:Au}{c:Ac}(h:Ak w d c)(p:Nat)(s:ByteArray):DStep w (w.setCell ⟨d.bd,p,none⟩ (.string s)) d d { c with Aa:=c.Aa.set p s } :=by
 have hr:=h.rows.set p (.string s)
 rw[fG] at hr
 obtain⟨D,n,hm,hn,hl⟩:=h.latest
 have hs:=h.self.far (p:=⟨d.bd,p,none⟩) h.uw (.string s)
 refine⟨⟨by rw[List.length_set];exact hs,hr,ownsRow_setCell_other h.pend (h.rows.own_ne h.pend (by decide)) _,ownsRow_setCell_other h.NM (h.rows.own_ne h.NM (by decide)) _,
  ⟨D,n,Kh hm (zo (Ne.symm h.oN)),hn,hl⟩,by rw[List.length_set];exact h.pos,by rw[List.length_set];exact h.most,fun x hx=>by rw[List.length_set];exact h.inside x hx⟩,rfl,rfl,rfl,fun _ hk=>.inl hk,(Fr.refl _ _).setCell (.inl (.inr (.inl rfl))) _⟩
theorem DStep.alloc {w w' : World}{d d' : Au}{c' : Ac}(h:DStep w w' d d' c')(o:Obj):DStep w (w'.alloc o) d d' c' :=
 ⟨h.at_.below ((Below.refl w'.heap.size w').alloc (Nat.le_refl _) o) (Nat.le_refl _),h.a,h.bd,h.mp,h.foot,h.fr.alloc o⟩
theorem DStep.drew {w w' : World}{d d' : Au}{c' : Ac}(h:DStep w w' d d' c'):DStep w w'.drew d d' c' :=
 ⟨h.at_.below (Below.refl w'.heap.size w').drew (Nat.le_refl _),h.a,h.bd,h.mp,h.foot,h.fr.drew⟩
def flush (dur:List ByteArray)(l:List (Nat × ByteArray)):List ByteArray:=l.foldl (fun d x=>d.set x.1 x.2) dur
theorem Sz (dur:List ByteArray)(l:List (Nat × ByteArray))(x:Nat × ByteArray):flush dur (l++[x])=(flush dur l).set x.1 x.2:=by simp[flush]
theorem Ws (l:List (Nat × ByteArray)):∀ dur:List ByteArray,(flush dur l).length=dur.length:=by
 induction l with
 | nil=>intro dur;rfl
 | cons x l ih=>intro dur;show(flush (dur.set x.1 x.2) l).length=_;rw[ih,List.length_set]
def Ac.synced (c:Ac):Ac :={ c with Aa:=flush c.Aa c.pending,pending:=[] }
theorem Lv (d:Au)(c:Ac)(w:World)(hpl:c.pending.length<=1000000)(hr:c.recorded.length<=1000000)(h:Ak w d c):
 Calls Tryz.prog 66 #[.pointer (some ⟨d.a,0,none⟩)] w fun e w' => e=.returned (.tuple #[])/\∃ d',DStep w w' d d' (c.synced.note ⟨0,⟨#[]⟩,true⟩):=by
 have h1:=h.self.cell 1
 simp only[zg] at h1
 have hpv:∃ b len cap,d.pv=.slice b len cap/\len=c.pending.length:=by
  obtain⟨_,⟨h0,h1⟩|⟨g,cap,cur,h0,_⟩⟩:=h.pend
  ·exact⟨none,0,0,h0,h1.symm⟩
  ·exact⟨_,_,_,h0,rfl⟩
 obtain⟨pb,pl,pc,fE,hpl'⟩:=hpv
 rw[fE,hpl'] at h1
 have HP:=zh fE;have HPL:=zh hpl';clear fE hpl'
 have H:=zh h;clear h
 go_enter Tryz.func66,Tryz.ntmps66
 go_wp2
 go_loopw [9] (fun i wr=>∃ k:Nat,k<=c.pending.length/\i=.int .i64 k/\DStep w wr d d { c with Aa:=flush c.Aa (c.pending.take k) })
  (fun i _=>c.pending.length-(intOf i).toNat)
 case atStart=>exact⟨0,by omega,rfl,DStep.refl H.out⟩
 case round=>
  obtain⟨k,hk,rfl,hst⟩:=hrel
  by_cases hlt:k<c.pending.length
  ·have dk:decide ((k:Int)<c.pending.length)=true:=by simp;omega
   have hpe:=hst.at_.pend
   obtain⟨g,cap,hv,hcell⟩:=BM hpe (by show 0<c.pending.length;omega)
   have hpb:pb=some ⟨g,0,none⟩:=by
    have:=HP.out.symm.trans hv
    simp only[Value.slice.injEq] at this
    exact this.1
   have k0:=hcell _ _ (Nc c.pending k hlt).1
   have k1:=hcell _ _ (Nc c.pending k hlt).2
   have q0:=hst.at_.self.c1
   have hin:=H.out.inside _ (List.getElem_mem hlt)
   have hfl:=Ws (c.pending.take k) c.Aa
   have ql:=hst.at_.rows.lt
   have qa:=hst.at_.self.lt
   have hcl:=hst.at_.rows.cell (c.pending[k]).1
   rw[Sv _ _ (by show _<(flush _ _).length;rw[hfl];exact hin)] at hcl
   have hfz:wr.frozen? ⟨d.bd,(c.pending[k]).1,none⟩=false:=hst.at_.rows.free _
   have htk:c.pending.take (k+1)=c.pending.take k++[c.pending[k]]:=List.take_succ_eq_append_getElem hlt
   obtain⟨p,hpe⟩:∃ p,p=(c.pending[k]).1:=⟨_,rfl⟩
   obtain⟨s,hse⟩:∃ s,s=(c.pending[k]).2:=⟨_,rfl⟩
   rw[<- hpe] at k0 hin hcl hfz
   rw[<- hse] at k1
   have hset:=hst.at_.kF p s
   have oM:=H.out.most
   have HE:=zh (And.intro hpe hse);clear hpe hse hcell hv
   have HTK:=zh htk;have HST:=zh hst;clear htk hst hset
   clear hpe
   subst hpb
   rw[hfl] at q0
   go_wp2
   refine Lex.zl ?_
   go_wp2
   refine Lex.ze ?_
   go_wp2_with fail
   have hnx2:=HST.out.trans (HST.out.at_.kF p s)
   have hfs:(flush c.Aa (c.pending.take k)).set p s=flush c.Aa (c.pending.take (k+1)):=by rw[HTK.out,Sz,HE.out.1,HE.out.2]
   have zbF:DStep w _ d d { c with Aa:=flush c.Aa (c.pending.take (k+1)) } :=hfs ▸ hnx2
   exact⟨⟨k+1,by omega,by go_num,(zbF.alloc _).drew⟩,by simp[intOf];omega⟩
  ·have hk' : k=c.pending.length:=by omega
   have dk:decide ((k:Int)<c.pending.length)=false:=by simp;omega
   have hsy:DStep w wr d d { c with Aa:=c.synced.Aa } :=by
    have e:flush c.Aa (c.pending.take k)=c.synced.Aa:=by rw[hk',List.take_length];rfl
    exact e ▸ hst
   have HSY:=zh hsy;clear hst hsy hk'
   go_wp2_with fail
   refine(Sy d _ wr HSY.out.at_).mono ?_
   rintro e w1 ⟨rfl,h1⟩
   have HS1:=zh (HSY.out.trans h1);clear h1
   go_wp2_with fail
   refine(Sw _ c.synced ⟨0,⟨#[]⟩,true⟩ w1 hr HS1.out.at_).mono ?_
   rintro e w2 ⟨rfl,d',h2⟩
   have HS2:=zh (HS1.out.trans h2);clear h2
   go_wp2
   go_end0
   exact⟨rfl,d',HS2.out⟩
def Ac.blank (n:Nat):Ac:=⟨List.replicate n ⟨#[]⟩,[],false,[]⟩
theorem oO (n:Nat)(w:World)(h1:1<=n)(h2:n<=4096):
 Calls Tryz.prog 39 #[.int .i64 n] w fun e w' => ∃ d:Au,e=.returned (.tuple #[.pointer (some ⟨d.a,0,none⟩),.int .i64 0])/\Ak w' d (.blank n)/\Below w.heap.size w w' /\ ∀ k,d.foot k->w.heap.size<=k:=by
 obtain⟨i0,hi,hz0,hz1,hz2⟩:=info_parts Dz
 have hmm :=@run_makeMap Tryz.prog
 go_enter Tryz.func39,Tryz.ntmps39
 go_wp2_with (at_make;go_must (refine wpList_make_full _ rfl _ _ 23 rfl w.heap.size 9 i0 (.string ⟨#[]⟩) 1 Tryz.underlying23 hi hz0 hz1 .i64 .i64 n n n rfl rfl rfl rfl (by rw[hz2];omega) (by unfold maxLen;omega) (Nat.le_refl _) ?_);intro w1 how hg)
 go_ret2
 have hat:=Sc how
 have hsz:=hg.size
 have hB:Below w.heap.size w w1:=(Below.refl _ _).grown hg (Nat.le_refl _) (fun k hk=>by cases hk)
 have hlt:=hat.lt
 refine⟨⟨w1.heap.size+1,w.heap.size,w1.heap.size,.slice none 0 0,.slice none 0 0⟩,rfl,?_,(hB.alloc hsz _).alloc (by rw[World.size_alloc];omega) _,?_⟩
 ·have hm:(w1.alloc (.map #[] 0)).ownsMap Tryz.prog 3 (plainElem (H:=Unit) Tryz.prog 3) w1.heap.size 0 (.map []):=World.ownsMap_made _ _ _ _
  have hbl:(List.replicate n (⟨#[]⟩:ByteArray)).length=n:=List.length_replicate
  refine⟨?_,?_,⟨rfl,.inl ⟨rfl,rfl⟩⟩,⟨rfl,.inl ⟨rfl,rfl⟩⟩,⟨.map [],0,hm.alloc _,Nat.le_refl _,⟨⟨[],rfl⟩,fun p=>rfl⟩⟩,?_,?_,fun x hx=>by cases hx⟩
  ·show At _ _ _ #[.slice _ (List.replicate n _).length (List.replicate n _).length,_,_,_,_]
   rw[hbl]
   have:=At.new (w1.alloc (.map #[] 0)) 99 #[.slice (some ⟨w.heap.size,0,none⟩) n n,.slice none 0 0,.map (some w1.heap.size),.bool false,.slice none 0 0]
   rw[World.size_alloc] at this
   exact this
  ·have e : Jr (List.replicate n ⟨#[]⟩) = (madeCells (Value.string ⟨#[]⟩).cells (n * 1)).toList.toArray :=by
    rw[Nat.mul_one]
    show _=(madeCells #[Value.string ⟨#[]⟩] n).toList.toArray
    rw[toList_madeCells_one,Jr,List.map_replicate]
   show At _ _ _ (Jr (List.replicate n ⟨#[]⟩))
   rw[e]
   exact(hat.alloc _).alloc _
  ·show 0<(List.replicate n _).length
   rw[hbl];omega
  ·show(List.replicate n _).length<=4096
   rw[hbl];exact h2
 ·intro k hk
  rcases hk with rfl|rfl|rfl|hk|hk
  ·show w.heap.size<=w1.heap.size+1;omega
  ·exact Nat.le_refl _
  ·exact hsz
  ·cases hk
  ·cases hk
end
section
open Go
namespace Sha
def rotl (x r:Int):Int:=bits BinOp.or IntKind.u32 (x*2^r.toNat%4294967296) (x/2^(32-r).toNat)
def x32 (x y:Int):Int:=bits BinOp.xor IntKind.u32 x y
def a32 (x y:Int):Int:=bits BinOp.and IntKind.u32 x y
def sg (x ra rb rc:Int):Int:=x32 (x32 (rotl x ra) (rotl x rb)) (rotl x rc)
def ss (x ra rb s:Int):Int:=x32 (x32 (rotl x ra) (rotl x rb)) (x/2^s.toNat)
def row (l:List Int):Array Value:=(l.map (Value.int .u32)).toArray
theorem BP (l:List Int):(row l).size=l.length:=by simp[row]
theorem Gs (l:List Int)(i:Nat):(row l)[i]? = (l[i]?).map (Value.int .u32):=by simp[row]
theorem Rz (l:List Int)(i:Nat)(v:Int):(row l).setIfInBounds i (.int .u32 v)=row (l.set i v):=by
 simp[row,List.map_set]
theorem row_one (l:List Int):∀ v∈(row l).toList,v.oneCell' = true:=by
 simp[row];intro a _;rfl
def K:List Int:=[1116352408,1899447441,3049323471,3921009573,961987163,1508970993,2453635748,2870763221,3624381080,310598401,607225278,1426881987,1925078388,2162078206,2614888103,3248222580,3835390401,4022224774,264347078,604807628,770255983,1249150122,1555081692,1996064986,2554220882,2821834349,2952996808,3210313671,3336571891,3584528711,113926993,338241895,666307205,773529912,1294757372,1396182291,1695183700,1986661051,2177026350,2456956037,2730485921,2820302411,3259730800,3345764771,3516065817,3600352804,4094571909,275423344,430227734,506948616,659060556,883997877,958139571,1322822218,1537002063,1747873779,1955562222,2024104815,2227730452,2361852424,2428436474,2756734187,3204031479,3329325298]
theorem oP:K.length=64:=by decide
def acc (s:ByteArray)(i:Nat):Nat->Int
 | 0=>0
 | k+1=>bits BinOp.or IntKind.u32 (acc s i k*256%4294967296) ((s.data.toList.getD (4*i+k) 0).toNat:Int)
def nxt (l:List Int):Int:=
 (ss (l.getD (l.length-2) 0) 15 13 10+l.getD (l.length-7) 0+ss (l.getD (l.length-15) 0) 25 14 3+l.getD (l.length-16) 0)%4294967296
def step (s:ByteArray)(l:List Int):List Int:=l++[if l.length<16 then acc s l.length 4 else nxt l]
def sched (s:ByteArray):Nat->List Int
 | 0=>[]
 | n+1=>step s (sched s n)
theorem Bc (s:ByteArray):∀ n,(sched s n).length=n
 | 0=>rfl
 | n+1=>by simp[sched,step,Bc s n]
def lay (l:List Int):List Int:=l++List.replicate (64-l.length) 0
theorem Jt (l:List Int)(h:l.length<=64):(lay l).length=64:=by simp[lay];omega
theorem uz (l:List Int)(v:Int)(h:l.length<64):(lay l).set l.length v=lay (l++[v]):=by
 unfold lay
 rw[List.set_append_right _ _ (Nat.le_refl _)]
 simp only[Nat.sub_self,List.length_append,List.length_singleton,List.append_assoc]
 congr 1
 obtain⟨m,hm⟩:∃ m,64-l.length=m+1:=⟨63-l.length,by omega⟩
 rw[hm,show 64-(l.length+1)=m by omega,List.replicate_succ]
 rfl
theorem XI (l:List Int)(u v:Int)(_h:l.length<64):(lay (l++[u])).set l.length v=lay (l++[v]):=by
 unfold lay
 simp[List.set_append]
theorem oQ (l:List Int)(h:l.length<64):lay (l++[0])=lay l:=by
 unfold lay
 simp only[List.length_append,List.length_singleton,List.append_assoc]
 congr 1
 obtain⟨m,hm⟩:∃ m,64-l.length=m+1:=⟨63-l.length,by omega⟩
 rw[hm,show 64-(l.length+1)=m by omega,List.replicate_succ]
 rfl
theorem xR (l:List Int)(v:Int)(h:l.length<64):(row (lay (l++[v])))[l.length]? = some (.int .u32 v):=by
 rw[Gs]
 simp[lay]
theorem oU (s:ByteArray)(i k:Nat)(h:4*i+k<s.size):acc s i (k+1)=bits BinOp.or IntKind.u32 (acc s i k*256%4294967296) ((s[4*i+k].toNat:Int)%4294967296):=by
 have e:s.data.toList.getD (4*i+k) 0=s[4*i+k]:=by
  have:4*i+k<s.data.toList.length:=by simpa using h
  rw[List.getD_eq_getElem?_getD,List.getElem?_eq_getElem this]
  rfl
 rw[acc,e]
 congr 1
 have:=s[4*i+k].toNat_lt
 omega
theorem oV (s:ByteArray)(i:Nat):∀ k,0<=acc s i k/\acc s i k<4294967296
 | 0=>by simp[acc]
 | k + 1 => by
   simp only[acc,bits]
   have:=(BitVec.ofInt 32 (acc s i k*256%4294967296) ||| BitVec.ofInt 32 ((s.data.toList.getD (4*i+k) 0).toNat:Int)).isLt
   show 0<=IntKind.u32.wrap _/\IntKind.u32.wrap _<_
   rw[IntKind.wrap_u32]
   omega
theorem Zy (s:ByteArray):∀ n,∀ x∈sched s n,0<=x/\x<4294967296
 | 0,x,h=>by cases h
 | n + 1,x,h => by
   rw[sched,step,List.mem_append,List.mem_singleton] at h
   rcases h with h|rfl
   ·exact Zy s n x h
   ·split
    ·exact oV _ _ _
    ·unfold nxt;omega
theorem DX (s:ByteArray)(n j:Nat):0<=(sched s n).getD j 0/\(sched s n).getD j 0<4294967296:=by
 rw[List.getD_eq_getElem?_getD]
 cases h:(sched s n)[j]? with
 | none=>simp
 | some x=>exact Zy s n x (List.mem_of_getElem? h)
theorem u7 (l:List Int)(j:Nat)(h:j<l.length):(row (lay l))[j]? = some (.int .u32 (l.getD j 0)):=by
 rw[Gs]
 unfold lay
 rw[List.getElem?_append_left h,List.getElem?_eq_getElem h,List.getD_eq_getElem?_getD,List.getElem?_eq_getElem h]
 rfl
theorem Zz (s:ByteArray)(k:Nat)(h:k<64):(row (sched s 64))[k]? = some (.int .u32 ((sched s 64).getD k 0)):=by
 have hl:k<(sched s 64).length:=by rw[Bc];exact h
 rw[Gs,List.getElem?_eq_getElem hl,List.getD_eq_getElem?_getD,List.getElem?_eq_getElem hl]
 rfl
theorem wW (k:Nat)(h:k<64):(row K)[k]? = some (.int .u32 (K.getD k 0)):=by
 have hl:k<K.length:=by rw[oP];exact h
 rw[Gs,List.getElem?_eq_getElem hl,List.getD_eq_getElem?_getD,List.getElem?_eq_getElem hl]
 rfl
def n32 (x:Int):Int:=x32 4294967295 x
def rnd (v:List Int)(k w:Int):List Int:=
 match v with
 | [a,b,c,d,e,f,g,h] =>
   let t1:=(h+sg e 26 21 7+x32 (a32 e f) (a32 (n32 e) g)+k+w)%4294967296
   let t2:=(sg a 30 19 10+x32 (x32 (a32 a b) (a32 a c)) (a32 b c))%4294967296
   [(t1+t2)%4294967296,a,b,c,(d+t1)%4294967296,e,f,g]
 | _=>v
theorem uD (y0 y1 y2 y3 y4 y5 y6 y7 k w:Int):row (rnd [y0,y1,y2,y3,y4,y5,y6,y7] k w)=
 row [(y7+sg y4 26 21 7+bits .xor .u32 (bits .and .u32 y4 y5) (bits .and .u32 (bits .xor .u32 IntKind.u32.max y4) y6)+k+w+
  (sg y0 30 19 10+bits .xor .u32 (bits .xor .u32 (bits .and .u32 y0 y1) (bits .and .u32 y0 y2)) (bits .and .u32 y1 y2)))%4294967296,y0,y1,y2,
  (y3+(y7+sg y4 26 21 7+bits .xor .u32 (bits .and .u32 y4 y5) (bits .and .u32 (bits .xor .u32 IntKind.u32.max y4) y6)+k+w))%4294967296,y4,y5,y6]:=by
 simp only[rnd,x32,a32,n32,show IntKind.u32.max=4294967295 from rfl]
 generalize bits BinOp.xor IntKind.u32 _ _=p
 generalize bits BinOp.xor IntKind.u32 _ _=q
 generalize sg y4 26 21 7=r
 generalize sg y0 30 19 10=s
 have e1:∀ a b:Int,(a%4294967296+b%4294967296)%4294967296=(a+b)%4294967296:=fun a b=>by omega
 have e2:∀ a b:Int,(a+b%4294967296)%4294967296=(a+b)%4294967296:=fun a b=>by omega
 rw[e1,e2]
def rounds (W:List Int)(v:List Int):Nat->List Int
 | 0=>v
 | n+1=>rnd (rounds W v n) (K.getD n 0) (W.getD n 0)
def Word (v:List Int):Prop:=v.length=8/\∀ x∈v,0<=x/\x<4294967296
theorem Word.lit {v:List Int}(h:Word v):∃ a b c d e f g i,v=[a,b,c,d,e,f,g,i]/\(0<=a/\a<4294967296)/\(0<=b/\b<4294967296)/\(0<=c/\c<4294967296)/\(0<=d/\d<4294967296)/\(0<=e/\e<4294967296)/\(0<=f/\f<4294967296)/\(0<=g/\g<4294967296)/\(0<=i/\i<4294967296):=by
 obtain⟨h1,h2⟩:=h
 match v,h1 with
 | [a,b,c,d,e,f,g,i],_=>exact⟨a,b,c,d,e,f,g,i,rfl,h2 _ (by simp),h2 _ (by simp),h2 _ (by simp),h2 _ (by simp),h2 _ (by simp),h2 _ (by simp),h2 _ (by simp),h2 _ (by simp)⟩
theorem Word.rnd {v:List Int}(h:Word v)(k w:Int):Word (rnd v k w):=by
 obtain⟨a,b,c,d,e,f,g,i,rfl,ha,hb,hc,hd,he,hf,hg,hi⟩:=h.lit
 refine⟨rfl,fun x hx=>?_⟩
 simp only[Sha.rnd,List.mem_cons,List.mem_nil_iff,or_false] at hx
 rcases hx with rfl|rfl|rfl|rfl|rfl|rfl|rfl|rfl<;>first|assumption|omega
theorem Word.rounds {v:List Int}(h:Word v)(W:List Int):∀ n,Word (rounds W v n)
 | 0=>h
 | n+1=>(Word.rounds h W n).rnd _ _
def block (v:List Int)(s:ByteArray):List Int:=List.zipWith (fun x y=>(x+y)%4294967296) v (rounds (sched s 64) v 64)
def part (v z:List Int)(k:Nat):List Int:=List.zipWith (fun x y=>(x+y)%4294967296) (v.take k) z++v.drop k
theorem Ko (v z:List Int)(h:v.length=8)(h' : z.length=8)(k:Nat)(hk:k<=8):(part v z k).length=8:=by
 simp[part];omega
theorem mg (v z:List Int):part v z 0=v:=by simp[part]
theorem oW (v z:List Int)(h:v.length=8)(h' : z.length=8)(k:Nat)(hk:k<8):(part v z k).getD k 0=v.getD k 0:=by
 have hl:(List.zipWith (fun x y=>(x+y)%4294967296) (v.take k) z).length=k:=by simp;omega
 simp only[part,List.getD_eq_getElem?_getD]
 rw[List.getElem?_append_right (by omega),hl]
 simp
theorem mh (v z:List Int)(h:v.length=8)(h' : z.length=8)(k:Nat)(hk:k<8):(part v z k).set k ((v.getD k 0+z.getD k 0)%4294967296)=part v z (k+1):=by
 match v,h,z,h' with
 | [a,b,c,d,e,f,g,i],_,[a',b',c',d',e',f',g',i'],_ =>
   match k,hk with
   | 0,_=>rfl
   | 1,_=>rfl
   | 2,_=>rfl
   | 3,_=>rfl
   | 4,_=>rfl
   | 5,_=>rfl
   | 6,_=>rfl
   | 7,_=>rfl
theorem oZ (v z:List Int)(h:v.length=8):part v z 8=List.zipWith (fun x y=>(x+y)%4294967296) v z:=by
 simp[part,List.take_of_length_le,List.drop_eq_nil_of_le,h]
theorem Word.block {v:List Int}(h:Word v)(s:ByteArray):Word (block v s):=by
 refine⟨?_,fun x hx=>?_⟩
 ·simp[Sha.block,h.1,(h.rounds (sched s 64) 64).1]
 ·obtain⟨i,hi,rfl⟩:=List.getElem_of_mem hx
  simp only[Sha.block,List.getElem_zipWith]
  omega
end Sha
end
section
open Go Go.RowKit
theorem Kq (x k r:Int)(w:World)(hk:bits BinOp.and IntKind.u64 (IntKind.u64.wrap k) 31=r)(h0:0<=r)(h1:r<=31)(_hx0:0<=x)(_hx:x<4294967296):
 Calls Tryz.prog 202 #[.int .u32 x,.int .i64 k] w fun e w' => e=.returned (.int .u32 (Sha.rotl x r))/\w=w':=by
 go_enter Tryz.func202,Tryz.ntmps202
 go_wp2
 go_ret
 exact⟨rfl,rfl⟩
theorem pq (x k:Int)(w:World)(h0:0<=k)(h1:k<=32)(_hx0:0<=x)(_hx:x<4294967296):
 Calls Tryz.prog 189 #[.int .u32 x,.int .i64 k] w fun e w' => e=.returned (.int .u32 (bits BinOp.or IntKind.u32 (x/2^k.toNat) (x*2^(32-k).toNat%4294967296)))/\∃ n,w' = w.drewN n:=by
 go_enter Tryz.func189,Tryz.ntmps189
 go_wp2
 go_quiet (fail)
 go_wp2
 go_ret
 exact⟨rfl,_,rfl⟩
theorem Z4 (x a b c ra rb rc:Int)(w:World)(ha:bits BinOp.and IntKind.u64 (IntKind.u64.wrap (-a)) 31=ra)(ha0:0<=ra)(ha1:ra<=31)
 (hb:bits BinOp.and IntKind.u64 (IntKind.u64.wrap (-b)) 31=rb) (hb0:0<=rb) (hb1:rb<=31)
 (hc:bits BinOp.and IntKind.u64 (IntKind.u64.wrap (-c)) 31=rc) (hc0:0<=rc) (hc1:rc<=31)
 (_a1:0<=a) (_a2:a<=32) (_b1:0<=b) (_b2:b<=32) (_c1:0<=c) (_c2:c<=32) (hx0:0<=x) (hx:x<4294967296):
  Calls Tryz.prog 201 #[.int .u32 x,.int .i64 a,.int .i64 b,.int .i64 c] w fun e w' => e=.returned (.int .u32 (Sha.sg x ra rb rc))/\w=w':=by
 have A:=zh ha;have B:=zh hb;have C:=zh hc
 clear ha hb hc
 go_enter Tryz.func201,Tryz.ntmps201
 go_wp2_with fail
 refine(Kq x _ ra _ A.out ha0 ha1 hx0 hx).mono ?_
 rintro e w' ⟨rfl,rfl⟩
 go_wp2_with fail
 refine(Kq x _ rb _ B.out hb0 hb1 hx0 hx).mono ?_
 rintro e w' ⟨rfl,rfl⟩
 go_wp2_with fail
 refine(Kq x _ rc _ C.out hc0 hc1 hx0 hx).mono ?_
 rintro e w' ⟨rfl,rfl⟩
 go_wp2
 go_ret
 exact⟨rfl,rfl⟩
theorem Z5 (x a b c ra rb:Int)(w:World)(ha:bits BinOp.and IntKind.u64 (IntKind.u64.wrap (-a)) 31=ra)(ha0:0<=ra)(ha1:ra<=31)
 (hb:bits BinOp.and IntKind.u64 (IntKind.u64.wrap (-b)) 31=rb) (hb0:0<=rb) (hb1:rb<=31)
 (_a1:0<=a) (_a2:a<=32) (_b1:0<=b) (_b2:b<=32) (c1:0<=c) (c2:c<=31) (hx0:0<=x) (hx:x<4294967296):
  Calls Tryz.prog 222 #[.int .u32 x,.int .i64 a,.int .i64 b,.int .i64 c] w fun e w' => e=.returned (.int .u32 (Sha.ss x ra rb c))/\∃ n,w' = w.drewN n:=by
 have A:=zh ha;have B:=zh hb
 clear ha hb
 go_enter Tryz.func222,Tryz.ntmps222
 go_wp2_with fail
 go_quiet ((go_at_call 202;first|(with_reducible exact Calls.quiet_of_same ((Kq x (-a) ra _ A.out ha0 ha1 hx0 hx).mono fun _ _ h=>⟨h.1,h.2.symm⟩))|(with_reducible exact Calls.quiet_of_same ((Kq x (-b) rb _ B.out hb0 hb1 hx0 hx).mono fun _ _ h=>⟨h.1,h.2.symm⟩))))
 go_wp2
 go_ret
 exact⟨rfl,_,rfl⟩
theorem GZ:(Tryz.prog.info? 263).map (·.size)=some 64:=by kernel_rfl
theorem Z7:(Tryz.prog.info? 263).map (·.zero)=some (some (.agg (Sha.row (List.replicate 64 0)))):=by kernel_rfl
theorem mq (w:World):
 Calls Tryz.prog 204 #[] w fun e w' => e=.returned (.agg (Sha.row Sha.K))/\Below w.heap.size w w':=by
 go_enter Tryz.func204,Tryz.ntmps204
 go_upto_region 1 with (fail)
 refine wp_region_lit ?_
 refine Kg (.agg (Sha.row Sha.K)) rfl (by kernel_rfl) ?_
 refine wpList_store_row rfl _ _ _ rfl w.heap.size _ _ (Sha.row Sha.K) (by rfl) (by rfl) (At.new _ _ _) (by rfl) GZ (Sha.row_one _) ?_
 rw[NC]
 generalize hcs:Sha.row Sha.K=cs
 have HC:=zh hcs;clear hcs
 go_wp2
 refine bodyPost_ret (results_cell_row (by rfl) _ _ w.heap.size _ cs _ _ (by rfl) (At.new _ _ _) Tryz.underlying263 rfl (by rw[<- HC.out];exact GZ)) rfl ?_
 exact⟨by rw[HC.out],zb⟩
theorem mD (s:ByteArray)(w:World)(hs:s.size=64):
 Calls Tryz.prog 203 #[.string s] w fun e w' => e=.returned (.agg (Sha.row (Sha.sched s 64)))/\Below w.heap.size w w':=by
 go_enter Tryz.func203,Tryz.ntmps203
 go_upto_region 4 with (fail)
 go_loopw [7] (fun i wr=>∃ k:Nat,k<=64/\i=.int .i64 k/\At wr (w.heap.size+1) 263 (Sha.row (Sha.lay (Sha.sched s k)))/\At wr w.heap.size 263 (Sha.row (Sha.lay []))/\Below w.heap.size w wr)
  (fun i _=>64-(intOf i).toNat)
 case atStart=>
  refine⟨0,by omega,rfl,heap_alloc2_new w _ _,heap_alloc2_old w _ _,zb.alloc (by simp) _⟩
 case round=>
  obtain⟨k,hk,rfl,h1,h2,hb⟩:=hrel
  have H1:=zh h1;clear h1
  have H2:=zh h2;clear h2
  by_cases hlt:k<16
  ·have d64:decide ((k:Int)<64)=true:=by simp;omega
   have d16:decide ((k:Int)<16)=true:=by simp;omega
   go_wp2
   go_loopw [12] (fun i wr2=>∃ m:Nat,m<=4/\i=.int .i64 m/\At wr2 (w.heap.size+1) 263 (Sha.row (Sha.lay (Sha.sched s k++[Sha.acc s k m])))/\At wr2 w.heap.size 263 (Sha.row (Sha.lay []))/\Below w.heap.size w wr2)
    (fun i _=>4-(intOf i).toNat)
   case atStart=>
    exact⟨0,by omega,rfl,by rw[Sha.acc,Sha.oQ _ (by rw[Sha.Bc];omega)];exact H1.out,H2.out,hb⟩
   case round=>
    obtain⟨m,hm,rfl,h1,h2,hb2⟩:=hrel
    by_cases zcT:m<4
    ·have hcl : wr.cell? ⟨w.heap.size + 1,k,none⟩ = some (.int .u32 (Sha.acc s k m)) :=by
      rw[h1.cell]
      have:=Sha.xR (Sha.sched s k) (Sha.acc s k m) (by rw[Sha.Bc];omega)
      rw[Sha.Bc] at this
      exact this
     have hfr:wr.frozen? ⟨w.heap.size+1,k,none⟩=false:=h1.free k
     have hb0:(4*k+m:Int)<s.size:=by omega
     have ab:=Sha.oV s k m
     have H1':=zh h1;clear h1
     have H2':=zh h2;clear h2
     go_wp2
     refine Lex.zl ?_
     go_wp2
     refine Lex.ze ?_
     go_wp2
     have hacc:=Sha.oU s k m (by omega)
     have h1:=((H1'.out.set k (.int .u32 (Sha.acc s k (m+1)))))
     rw[Sha.Rz] at h1
     have hss:=Sha.XI (Sha.sched s k) (Sha.acc s k m) (Sha.acc s k (m+1)) (by rw[Sha.Bc];omega)
     rw[Sha.Bc] at hss
     rw[hss,hacc] at h1
     have HA:=zh hacc;clear hacc hss
     go_roundw
     case rel=>exact⟨m+1,by omega,by go_num,by rw[HA.out];exact h1,(H2'.out.far (p:=⟨w.heap.size+1,k,none⟩) (by simp) _).drew,(hb2.setCell (p:=⟨w.heap.size+1,k,none⟩) (by simp) _).drew⟩
     case measure=>simp[intOf];omega
    ·obtain rfl:m=4:=by omega
     have H1':=zh h1;clear h1
     have H2':=zh h2;clear h2
     go_wp2
     go_roundw
     case rel=>
      refine⟨k+1,by omega,by go_num,?_,H2'.out,hb2⟩
      have:=H1'.out
      rw[Sha.sched,Sha.step,Sha.Bc,if_pos hlt]
      exact this
     case measure=>simp[intOf];omega
  ·by_cases hlt2:k<64
   ·have d64:decide ((k:Int)<64)=true:=by simp;omega
    have d16:decide ((k:Int)<16)=false:=by simp;omega
    have h1:=H1.out
    have cell:∀ j,j<k->wr.cell? ⟨w.heap.size+1,j,none⟩=some (.int .u32 ((Sha.sched s k).getD j 0)):=fun j hj=>by
     rw[h1.cell];exact Sha.u7 _ j (by rw[Sha.Bc];exact hj)
    have c2:=cell (k-2) (by omega)
    have c7:=cell (k-7) (by omega)
    have c15:=cell (k-15) (by omega)
    have c16:=cell (k-16) (by omega)
    have b2:=Sha.DX s k (k-2)
    have b7:=Sha.DX s k (k-7)
    have b15:=Sha.DX s k (k-15)
    have b16:=Sha.DX s k (k-16)
    have hfr:wr.frozen? ⟨w.heap.size+1,k,none⟩=false:=h1.free k
    have ck:∃ u,wr.cell? ⟨w.heap.size+1,k,none⟩=some u:=by
     have hlen:=Sha.Jt (Sha.sched s k) (by rw[Sha.Bc];omega)
     rw[h1.cell,Sha.Gs,List.getElem?_eq_getElem (by omega)];exact⟨_,rfl⟩
    obtain⟨uk,ck⟩:=ck
    have hnx:Sha.nxt (Sha.sched s k)=(Sha.ss ((Sha.sched s k).getD (k-2) 0) 15 13 10+(Sha.sched s k).getD (k-7) 0+Sha.ss ((Sha.sched s k).getD (k-15) 0) 25 14 3+(Sha.sched s k).getD (k-16) 0)%4294967296:=by
     simp only[Sha.nxt,Sha.Bc]
    clear cell h1
    generalize (Sha.sched s k).getD (k-2) 0=x2 at*
    generalize (Sha.sched s k).getD (k-7) 0=x7 at*
    generalize (Sha.sched s k).getD (k-15) 0=x15 at*
    generalize (Sha.sched s k).getD (k-16) 0=x16 at*
    have HNX:=zh hnx;clear hnx
    go_wp2
    refine Lex.zn (fun _=>True) [10,16,22] 24 [7,11] ?_
    simp only[Lex.Bh,zd]
    go_wp2_with fail
    refine(Z5 x2 17 19 10 15 13 _ (by kernel_rfl) (by omega) (by omega) (by kernel_rfl) (by omega) (by omega) (by omega) (by omega) (by omega) (by omega) (by omega) (by omega) b2.1 b2.2).mono ?_
    rintro e w1 ⟨rfl,n1,rfl⟩
    go_wp2
    refine Lex.Mid.intro (fun b _ _=>rfl) ?_
    go_wp2_with fail
    refine(Z5 x15 7 18 3 25 14 _ (by kernel_rfl) (by omega) (by omega) (by kernel_rfl) (by omega) (by omega) (by omega) (by omega) (by omega) (by omega) (by omega) (by omega) b15.1 b15.2).mono ?_
    rintro e w1 ⟨rfl,n2,rfl⟩
    go_wp2
    refine Lex.Mid.intro (fun b _ _=>rfl) ?_
    go_wp2
    refine Lex.zk ?_ ?_
    ·refine⟨⟨trivial,?_⟩,⟨trivial,?_⟩,⟨trivial,?_⟩,trivial⟩
     ·show(wr.cell? ⟨w.heap.size+1,k-7,none⟩).isSome=true
      rw[c7];rfl
     ·show(wr.cell? ⟨w.heap.size+1,k-15,none⟩).isSome=true
      rw[c15];rfl
     ·show(wr.cell? ⟨w.heap.size+1,k-16,none⟩).isSome=true
      rw[c16];rfl
    go_wp2
    go_roundw
    case rel=>
     have h1:=((H1.out.drewN (1+n1+n2)).set k (.int .u32 (Sha.nxt (Sha.sched s k))))
     have hls:=Sha.uz (Sha.sched s k) (Sha.nxt (Sha.sched s k)) (by rw[Sha.Bc];omega)
     rw[Sha.Bc] at hls
     rw[Sha.Rz,hls,HNX.out] at h1
     refine⟨k+1,by omega,by go_num,?_,(H2.out.drewN (1+n1+n2)).far (p:=⟨w.heap.size+1,k,none⟩) (by simp) _,(below_drewN hb _).setCell (p:=⟨w.heap.size+1,k,none⟩) (by simp) _⟩
     rw[Sha.sched,Sha.step,Sha.Bc,if_neg hlt,HNX.out]
     exact h1
    case measure=>simp[intOf];omega
   ·obtain rfl:k=64:=by omega
    have hz:Sha.lay (Sha.sched s 64)=Sha.sched s 64:=by simp[Sha.lay,Sha.Bc]
    rw[hz] at H1
    have hsz:(Sha.row (Sha.sched s 64)).size=64:=by rw[Sha.BP,Sha.Bc]
    have hsz0:(Sha.row (Sha.lay [])).size=64:=by rw[Sha.BP];rfl
    have hone:=Sha.row_one (Sha.sched s 64)
    have hb':=hb.size
    generalize hcs:Sha.row (Sha.sched s 64)=cs at*
    have HC:=zh hcs;clear hcs
    generalize Sha.row (Sha.lay [])=z at*
    have HZ:=zh hz;clear hz
    go_upto_region 14 with (fail)
    refine wp_region_lit ?_
    refine wpList_load_row rfl _ _ rfl (w.heap.size+1) (by rfl) _ cs _ _ H1.out Tryz.underlying263 rfl (by rw[hsz];exact GZ) ?_
    refine wpList_store_row rfl _ _ _ rfl w.heap.size _ z cs (by rfl) (by rfl) H2.out (by rw[hsz,hsz0]) (by rw[hsz];exact GZ) hone ?_
    go_wp2
    refine bodyPost_ret (v:=.agg cs) ?_ rfl ?_
    ·refine results_cell_row (p:=2) (by rfl) _ _ w.heap.size _ cs _ _ ?_ (H2.out.setRow cs) Tryz.underlying263 rfl (by rw[hsz];exact GZ)
     rfl
    ·exact⟨by rw[HC.out],hb.setRow (Nat.le_refl _) _⟩
end
end Go.Proofs.YtdiiafgoccakkaaGreatDoor
