/- The program's owners: Authority. -/
import Derived.WalkKit
import Derived.WalkSpells
import Derived.WalkLawsBesides
import Derived.Deep.Draws
import Derived.Deep.AppendLies
import Derived.Maps.AppendAt
import Derived.Lib.Hide
import Derived.Maps.OwnSet
import Derived.Lib.Bytes
import Derived.Laws.BytesArg
import Derived.Lib.Split
import Derived.Lib.SplitLaws
import Derived.Laws.EntriesVeiled
import Derived.Test.YtjlmglgmcekmhaaGreatDoorChecked
import Derived.BigQuiet
import Derived.Deep.QuietTactic
import Derived.Lib.SlBytesRow
import Derived.KernelRfl
import Derived.NoCompiler
import Derived.StillTail
import Derived.Laws.ResultCell
import Derived.Deep.MidRow
import Derived.Deep.RegionHeld3
import Derived.Deep.DrawnRows
import Derived.Deep.Cut
import Derived.StillTailTactics
import Derived.Deep.RegionLaw
import Derived.Shelf.Strings.Builder1
import Derived.Shelf.Strings.Builder2
import Derived.Shelf.Strings.OnBuilder
import Derived.Shelf.Small.Utf8
import Derived.Shelf.Small.Bits
import Derived.Shelf.Small.Strs
import Derived.Shelf.Strings.BuilderF
import Derived.Shelf.Strings.BuilderK
import Derived.Shelf.Utf8.RuneCount
import Derived.Shelf.Strings.Builder2Cap
import Derived.Shelf.Strconv.Itoa0
import Derived.Shelf.LaysM
import Derived.Shelf.Strconv.Clone
import Derived.Shelf.Strings.Search1
import Derived.Shelf.Strings.Search2
import Derived.Shelf.Strings.Search3
import Derived.Shelf.Strings.Count
import Derived.Shelf.Strings.Shaped
import Derived.Shelf.Strings.Prefix
import Derived.Shelf.Strings.Split
import Derived.Shelf.Strings.SplitShaped
import Derived.Shelf.Unicode.Decode
import Derived.Shelf.Strings.Runes
import Derived.Shelf.Strings.RuneCount
import Derived.Shelf.Strings.Explode
import Derived.Shelf.Bits.Mul64
import Derived.Shelf.Strings.Repeat
import Derived.Shelf.Unicode.DecodeSlow
import Derived.Shelf.Unicode.DecodeAny
import Derived.Shelf.Strings.BuilderCap
import Derived.Shelf.Slices.Turned
import Derived.Ground.SlgnProg
import Derived.Shelf.SlicesE.Index
import Derived.Shelf.SlicesE.Clone
import Derived.Ground.SlgfProg
import Derived.Shelf.SlicesE.IndexFunc
import Derived.Shelf.SlicesQ.IndexFunc
import Derived.Test.YtjlmglgmcekmhaaGreatDoorProg
import Derived.Maps.RangeWalk
import Derived.StringKeys
import Derived.Deep.DeepCutAuto
import Derived.Lib.EndianBits
import Derived.OwnWalk
import Derived.Laws.BitsLemmas
import Derived.Laws.AppendOwn
import Derived.Deep.AppendSrc
import Derived.Lib.ConvBytes
import Derived.Lib.Overlaps
import Derived.Laws.Externs
import Derived.Lib.AppendZeros
import Derived.Laws.IdiomCopy
import Derived.Laws.CopyRow
import Derived.Lib.OthersKept
import Derived.Deep.LoopGhost
import Derived.OrdersIn
import Derived.RangeFuncCalls
import Derived.TacticsIn
import Derived.RangeFuncNested
import Derived.RangeFuncBound
import Derived.RangeFuncLeaves
import Derived.OwnWalkIn
import Derived.TacticsInMore
import Derived.LoopNIn
import Derived.LoopIn
import Derived.Lib.Builder
import Derived.Lib.FrozenHead
import Derived.Lib.AppendStr
import Derived.Lib.SliceRun
import Derived.Maps.Keyed
import Derived.ProofKit
import Derived.OpenShut
import Derived.Deep.Strs
import Derived.Deep.SlicePairs
import Derived.ChangeMaps5
import Derived.ChangeSlices
import Derived.HandedShaped
import Derived.SliceStrings
import Derived.Stop.Joined
import Derived.Test.YtjlmglgmcekmhaaGreatDoorRows
import Derived.Test.YtjlmglgmcekmhaaGreatDoorCards
import Derived.Test.YtjlmglgmcekmhaaGreatDoorTie
import Derived.LaidMore
import Derived.Lay
import Derived.SevenTiedAt
import Derived.Test.YtjlmglgmcekmhaaGreatDoorShkB1
import Derived.Test.YtjlmglgmcekmhaaGreatDoorShkB2
import Derived.Test.YtjlmglgmcekmhaaGreatDoorShkB3
import Derived.Test.YtjlmglgmcekmhaaGreatDoorShkB4
import Derived.Test.YtjlmglgmcekmhaaGreatDoorShkB5
import Derived.Test.YtjlmglgmcekmhaaGreatDoorShkB6
import Derived.Test.YtjlmglgmcekmhaaGreatDoorShkB7
import Derived.Test.YtjlmglgmcekmhaaGreatDoorShkB8
import Derived.Test.YtjlmglgmcekmhaaGreatDoorShkB9
import Derived.Test.YtjlmglgmcekmhaaGreatDoorShkB10
import Derived.Test.YtjlmglgmcekmhaaGreatDoorShkB11
import Derived.Test.YtjlmglgmcekmhaaGreatDoorShkB12
import Derived.Test.YtjlmglgmcekmhaaGreatDoorShkB13
set_option linter.unusedVariables false
set_option linter.unusedSimpArgs false
set_option maxRecDepth 100000
set_option maxHeartbeats 4000000
namespace Go.Proofs.YtjlmglgmcekmhaaGreatDoor
section
open Go Go.RowKit Go.Maps
namespace Own
theorem zfk (s:ByteArray):∀ (l:List Space) (b:Option Space) (x:Space),CY s b l=some x->x∈l\/b=some x
 | [],b,x,h=>.inr h
 | y :: l,b,x,h => by
   rw[Ni] at h
   rcases zfk s l _ x h with h|h
   ·exact .inl (List.mem_cons_of_mem _ h)
   ·unfold Ua at h
    split at h
    ·cases h;exact .inl List.mem_cons_self
    ·exact .inr h
theorem zfh {o:Ar}{s:ByteArray}{x:Space}(h:authority o s=some x):x∈o.spaces:=by
 unfold authority at h
 split at h
 ·rcases zfk s _ _ x h with h|h
  ·exact h
  ·cases h
 ·cases h
end Own
namespace Own
end Own
namespace Own
end Own
def zfH (X:Nat->Prop)(w:World)(o:Own.Ar)(n th:Int)(R:Except Int (List Own.KeyUse))(e:Ending)(w' : World):Prop:=
 (match R with
   | .error c=>e=.returned (.tuple #[Own.nobody,.int .i64 c])
   | .ok K=>if n<th then e=.returned (.tuple #[Own.nobody,.int .i64 20]) else ∃ sv kv,e=.returned (.tuple #[.agg #[.int .i64 o.count,sv,kv],.int .i64 0])/\Au 3 Own.Fw (fun k=>¬ X k) w' sv o.spaces/\Au 2 Own.gL (fun k=>¬ X k) w' kv K)/\Below w.heap.size w w'
theorem zfi (X:Nat->Prop)(o:Own.Ar)(s:Own.Space)(msg:ByteArray)(l:List Own.Aj)(sv kv mv lv:Value)(w:World)(hX:∀ k,X k->k<w.heap.size)(hS:Au 3 Own.Fw (fun k=>¬ X k) w sv o.spaces)(hK:Own.DJ w kv o.keys)(hm:Own.Ag w mv s.members)(hA:Own.I4 w lv l)
 (hsrt:Own.Srt Own.KeyUse.pub o.keys) (hls:o.spaces.length<=3000000) (hlk:o.keys.length+l.length<=900000) (hlm:∀ s∈o.spaces,s.members.length<=3000000) (hml:s.members.length<=3000000) (Ku:msg.size<=9223372036854775000)
 (hal:∀ a∈l,a.name.size<=140737488355328/\a.sig.chains.length<=140737488355328/\a.sig.path.length<=140737488355328):
 Calls Tryz.prog 97 #[.agg #[.int .i64 o.count,sv,kv],.agg #[.string s.pre,mv,.int .i64 s.threshold],.string msg,lv] w (zfH X w o l.length s.threshold (Own.Bp s msg [] o.keys l)):=by
 refine(Ui o s msg l sv kv mv lv w (hS.mono (fun _ _ _=>trivial)) hK hm hA hsrt hls hlk hlm hml Ku hal).mono ?_
 rintro e w' ⟨h,hb⟩
 refine⟨?_,hb⟩
 cases hr:Own.Bp s msg [] o.keys l with
 | error c=>rw[hr] at h;exact h
 | ok K =>
   rw[hr] at h
   show if _ then _ else _
   have h:if (l.length:Int)<s.threshold then _ else _:=h
   by_cases ht:(l.length:Int)<s.threshold
   ·rw[if_pos ht] at h ⊢;exact h
   ·rw[if_neg ht] at h ⊢
    obtain⟨sv',kv',us,he,hs,hk⟩:=h
    have up:∀ k,w.heap.size<=k->¬ X k:=fun k hk hx=>by have:=hX k hx;omega
    exact⟨sv',kv',he,hs.list up,Cy (enc:=Own.DL) (fun _=>rfl) (fun _=>rfl) (Bh.own hk) rfl (fun k hk2=>up k (Al hk k hk2))⟩
end
section
open Go
namespace Own
def zeT (o:Ar)(s msg:ByteArray)(l:List Aj):Except Int (List KeyUse):=
 if Bz o then
  match authority o s with
  | none=>.error 6
  | some x => match Bp x msg [] o.keys l with
    | .error c=>.error c
    | .ok K=>if (l.length:Int)<x.threshold then .error 20 else .ok K
 else .error 1
end Own
end
section
open Go Go.RowKit Go.Maps
namespace Own
theorem zfn {o:Ar}(h:Bz o=true):Srt KeyUse.pub o.keys:=by
 unfold Bz at h
 simp only[Bool.and_eq_true] at h
 exact(J3 (f:=KeyUse.pub) h.2).1
end Own
def zfa (X:Nat->Prop)(w:World)(o:Own.Ar)(R:Except Int (List Own.KeyUse))(e:Ending)(w' : World):Prop:=
 (match R with
   | .error c=>e=.returned (.tuple #[Own.nobody,.int .i64 c])
   | .ok K=>∃ sv kv,e=.returned (.tuple #[.agg #[.int .i64 o.count,sv,kv],.int .i64 0])/\Au 3 Own.Fw (fun k=>¬ X k) w' sv o.spaces/\Au 2 Own.gL (fun k=>¬ X k) w' kv K)/\Below w.heap.size w w'
theorem zfc (X:Nat->Prop)(o:Own.Ar)(s msg:ByteArray)(l:List Own.Aj)(sv kv lv:Value)(w:World)(hX:∀ k,X k->k<w.heap.size)(hMx:IY w)(hSx:Au 3 Own.Fw (fun k=>¬ X k) w sv o.spaces)(hK:Own.DJ w kv o.keys)(hA:Own.I4 w lv l)
 (hls:o.spaces.length<=3000000) (hlk:o.keys.length+l.length<=900000) (hlm:∀ s∈o.spaces,s.members.length<=3000000) (Ku:msg.size<=9223372036854775000)
 (hal:∀ a∈l,a.name.size<=140737488355328/\a.sig.chains.length<=140737488355328/\a.sig.path.length<=140737488355328):
 Calls Tryz.prog 39 #[.agg #[.int .i64 o.count,sv,kv],.string s,.string msg,lv] w (zfa X w o (Own.zeT o s msg l)):=by
 obtain⟨R,hR⟩:∃ R,R=Own.zeT o s msg l:=⟨_,rfl⟩
 obtain⟨Q,hQ⟩:∃ Q,Q=zfa X w o R:=⟨_,rfl⟩
 rw[<- hR,<- hQ]
 have HQ:=zh hQ;have HR:=zh hR;clear hQ hR
 obtain⟨sa,sc,rfl⟩:=hSx.len
 have hS:Own.BH w (.slice sa o.spaces.length sc) o.spaces:=hSx.mono (fun _ _ _=>trivial)
 have HSX:=zh hSx;clear hSx
 obtain⟨ka,kc,rfl⟩:=hK.len
 obtain⟨la,lc,rfl,hap⟩:=id hA
 clear hap
 have ha0:=(At.new w 25 #[.int .i64 o.count,.slice sa o.spaces.length sc,.slice ka o.keys.length kc]).alloc (.cells #[.int .i64 0,.slice none 0 0,.slice none 0 0] 25)
 have ha1:=At.new1 w (.cells #[.int .i64 o.count,.slice sa o.spaces.length sc,.slice ka o.keys.length kc] 25) 25 #[.int .i64 0,.slice none 0 0,.slice none 0 0]
 have hb1:Below w.heap.size w ((w.alloc (.cells #[.int .i64 o.count,.slice sa o.spaces.length sc,.slice ka o.keys.length kc] 25)).alloc (.cells #[.int .i64 0,.slice none 0 0,.slice none 0 0] 25)):=zb.alloc (by simp) _
 have hz1:((w.alloc (.cells #[.int .i64 o.count,.slice sa o.spaces.length sc,.slice ka o.keys.length kc] 25)).alloc (.cells #[.int .i64 0,.slice none 0 0,.slice none 0 0] 25)).heap.size=w.heap.size+2:=by simp
 obtain⟨c0,c1,c2⟩:=ha0.c3
 have HS:=zh hS;have HK:=zh hK;have HA:=zh hA;have HMX:=zh hMx;have A0:=zh ha0;have A1:=zh ha1;have B1:=zh hb1;have HLM:=zh hlm;have HAL:=zh hal
 clear hS hK hA hMx ha0 ha1 hb1 hlm hal
 go_enter Tryz.func39,Tryz.ntmps39
 go_wp2_with fail
 generalize (w.alloc (.cells #[.int .i64 o.count,.slice sa o.spaces.length sc,.slice ka o.keys.length kc] 25)).alloc (.cells #[.int .i64 0,.slice none 0 0,.slice none 0 0] 25)=w1 at*
 refine(KO o _ _ w1 (HMX.out.below B1.out) (HS.out.below B1.out) (HK.out.below B1.out) (by omega) (by omega) (fun s hs=>by have:=HLM.out s hs;omega)).mono ?_
 rintro e w2 ⟨rfl,hb2⟩
 have A02:=zh (A0.out.below hb2 (by omega));have A12:=zh (A1.out.below hb2 (by omega));have B2:=zh (B1.out.trans (hb2.mono B1.out.size))
 have hz2:=hb2.size
 obtain⟨y0,y1,y2⟩:=A02.out.c3
 clear hb2 A0 A1 B1 c0 c1 c2
 cases hv:Own.Bz o with
 | false =>
   have e:R=.error 1:=by rw[HR.out,Own.zeT,if_neg (by rw[hv];simp)]
   have HE:=zh e
   have TW:=A12;have TB:=B2
   have x0:=TW.out.cell 0;have x1:=TW.out.cell 1;have x2:=TW.out.cell 2;have x3:=TW.out.free 0;have x4:=TW.out.free 1;have x5:=TW.out.free 2
   simp only[zg] at x0 x1 x2
   clear e hv
   go_wp2_with fail
   have F2:=((TW.out.set 0 (.int .i64 0)).set 1 (.slice none 0 0)).set 2 (.slice none 0 0)
   refine BM rfl rfl rfl (AQ F2 Tryz.underlying25 rfl Bv) ?_
   rw[HQ.out,HE.out]
   exact⟨rfl,((TB.out.setCell (p:=⟨w.heap.size+1,0,none⟩) (by simp) _).setCell (p:=⟨w.heap.size+1,1,none⟩) (by simp) _).setCell (p:=⟨w.heap.size+1,2,none⟩) (by simp) _⟩
 | true=>
 have hR2:R=(match Own.authority o s with
  | none=>.error 6
  | some x => match Own.Bp x msg [] o.keys l with
    | .error c=>.error c
    | .ok K=>if (l.length:Int)<x.threshold then .error 20 else .ok K):=by rw[HR.out,Own.zeT,if_pos hv]<;>rfl
 have HR2:=zh hR2;have zdO:=zh (Own.zfn hv);have HOK:=zh (Own.OK.of hv)
 clear hR2 hv
 go_wp2_with fail
 refine(Qc o s _ _ w2 (HMX.out.below B2.out) (HS.out.below B2.out) (HK.out.below B2.out) (by omega) (by omega) (fun s hs=>by have:=HLM.out s hs;omega)).mono ?_
 intro e w3 hpost
 obtain⟨hval,hb3⟩:=hpost
 have A03:=zh (A02.out.below hb3 (by omega));have A13:=zh (A12.out.below hb3 (by omega));have B3:=zh (B2.out.trans (hb3.mono B2.out.size))
 have hz3:=hb3.size
 clear hb3 A02 A12 B2 y0 y1 y2
 cases hau:Own.authority o s with
 | none =>
   rw[hau] at hval
   have NH:e=.returned (.tuple #[.agg #[.string ⟨#[]⟩,.slice none 0 0,.int .i64 0],.bool false]):=hval
   subst NH
   have e:R=.error 6:=by rw[HR2.out,hau]
   have HE:=zh e
   have TW:=zh (A13.out.alloc (.cells #[.string ⟨#[]⟩,.slice none 0 0,.int .i64 0] 39));have TB:=zh (B3.out.alloc B3.out.size (.cells #[.string ⟨#[]⟩,.slice none 0 0,.int .i64 0] 39))
   have x0:=TW.out.cell 0;have x1:=TW.out.cell 1;have x2:=TW.out.cell 2;have x3:=TW.out.free 0;have x4:=TW.out.free 1;have x5:=TW.out.free 2
   simp only[zg] at x0 x1 x2
   clear e hau hval
   go_wp2_with fail
   have F2:=((TW.out.set 0 (.int .i64 0)).set 1 (.slice none 0 0)).set 2 (.slice none 0 0)
   refine BM rfl rfl rfl (AQ F2 Tryz.underlying25 rfl Bv) ?_
   rw[HQ.out,HE.out]
   exact⟨rfl,((TB.out.setCell (p:=⟨w.heap.size+1,0,none⟩) (by simp) _).setCell (p:=⟨w.heap.size+1,1,none⟩) (by simp) _).setCell (p:=⟨w.heap.size+1,2,none⟩) (by simp) _⟩
 | some sp=>
 rw[hau] at hval
 obtain⟨mv,rfl,hom⟩:=hval
 have hmem:=Own.zfh hau
 have hR3:R=(match Own.Bp sp msg [] o.keys l with
  | .error c=>.error c
  | .ok K=>if (l.length:Int)<sp.threshold then .error 20 else .ok K):=by rw[HR2.out,hau]
 obtain⟨ma,mm,mc,rfl⟩:=Ad hom
 obtain rfl:=Bf hom
 have hb4:Below w3.heap.size w3 (w3.alloc (.cells #[.string sp.pre,.slice ma sp.members.length mc,.int .i64 sp.threshold] 39)):=zb
 have hz4:(w3.alloc (.cells #[.string sp.pre,.slice ma sp.members.length mc,.int .i64 sp.threshold] 39)).heap.size=w3.heap.size+1:=World.size_alloc _ _
 have hmc:Own.Ag (w3.alloc (.cells #[.string sp.pre,.slice ma sp.members.length mc,.int .i64 sp.threshold] 39)) (.slice ma sp.members.length mc) sp.members:=(Own.Ag.of (Bh.own hom) rfl).below hb4
 have B4:=zh (B3.out.trans (hb4.mono B3.out.size));have A04:=zh (A03.out.below hb4 (by omega));have A14:=zh (A13.out.below hb4 (by omega))
 have hap:=zfi (fun k=>X k\/(w.heap.size<=k/\k<w.heap.size+2)) o sp msg l (.slice sa o.spaces.length sc) (.slice ka o.keys.length kc) (.slice ma sp.members.length mc) (.slice la l.length lc) _ (fun k hk=>by rcases hk with hk|hk;have:=hX k hk;omega;omega) ((HSX.out.mono (G:=fun k=>¬ (X k\/(w.heap.size<=k/\k<w.heap.size+2))) (fun k hx hk h=>h.elim hx (fun h=>by omega))).below B4.out) (HK.out.below B4.out) hmc (HA.out.below B4.out) zdO.out hls hlk HLM.out (HLM.out sp hmem) Ku HAL.out
 obtain⟨y0,y1,y2⟩:=A04.out.c3
 have HAP:=zh hap;have HR3:=zh hR3
 clear hap hR3 hau hmem hom hb4 hmc HR2 A03 A13 B3
 go_wp2_with fail
 refine HAP.out.mono ?_
 intro e w5 hpost
 obtain⟨hval,hb5⟩:=hpost
 have TW:=zh (A14.out.below hb5 (by omega));have TB:=zh (B4.out.trans (hb5.mono B4.out.size))
 have hz5:=hb5.size
 clear hb5 A04 A14 B4 y0 y1 y2 HAP
 have x0:=TW.out.cell 0;have x1:=TW.out.cell 1;have x2:=TW.out.cell 2;have x3:=TW.out.free 0;have x4:=TW.out.free 1;have x5:=TW.out.free 2
 simp only[zg] at x0 x1 x2
 cases hf:Own.Bp sp msg [] o.keys l with
 | error c =>
   rw[hf] at hval
   have NH:e=.returned (.tuple #[Own.nobody,.int .i64 c]):=hval
   subst NH
   have e:R=.error c:=by rw[HR3.out,hf]
   have HE:=zh e
   unfold Own.nobody
   clear e hf hval
   go_wp2_with fail
   have F2:=((TW.out.set 0 (.int .i64 0)).set 1 (.slice none 0 0)).set 2 (.slice none 0 0)
   refine BM rfl rfl rfl (AQ F2 Tryz.underlying25 rfl Bv) ?_
   rw[HQ.out,HE.out]
   exact⟨rfl,((TB.out.setCell (p:=⟨w.heap.size+1,0,none⟩) (by simp) _).setCell (p:=⟨w.heap.size+1,1,none⟩) (by simp) _).setCell (p:=⟨w.heap.size+1,2,none⟩) (by simp) _⟩
 | ok K =>
   rw[hf] at hval
   by_cases hth:(l.length:Int)<sp.threshold
   ·have NH : e = .returned (.tuple #[Own.nobody,.int .i64 20]) :=by
     have h:if (l.length:Int)<sp.threshold then e=.returned (.tuple #[Own.nobody,.int .i64 20]) else _:=hval
     rw[if_pos hth] at h
     exact h
    subst NH
    have e:R=.error 20:=by rw[HR3.out,hf];exact if_pos hth
    have HE:=zh e
    unfold Own.nobody
    clear e hf hval
    go_wp2_with fail
    have F2:=((TW.out.set 0 (.int .i64 0)).set 1 (.slice none 0 0)).set 2 (.slice none 0 0)
    refine BM rfl rfl rfl (AQ F2 Tryz.underlying25 rfl Bv) ?_
    rw[HQ.out,HE.out]
    exact⟨rfl,((TB.out.setCell (p:=⟨w.heap.size+1,0,none⟩) (by simp) _).setCell (p:=⟨w.heap.size+1,1,none⟩) (by simp) _).setCell (p:=⟨w.heap.size+1,2,none⟩) (by simp) _⟩
   ·have NH : ∃ sv kv,e = .returned (.tuple #[.agg #[.int .i64 o.count,sv,kv],.int .i64 0]) ∧ Au 3 Own.Fw (fun k => ¬ (X k ∨ (w.heap.size ≤ k ∧ k < w.heap.size + 2))) w5 sv o.spaces ∧ Au 2 Own.gL (fun k => ¬ (X k ∨ (w.heap.size ≤ k ∧ k < w.heap.size + 2))) w5 kv K :=by
     have h:if (l.length:Int)<sp.threshold then _ else ∃ sv kv,e=.returned (.tuple #[.agg #[.int .i64 o.count,sv,kv],.int .i64 0])/\Au 3 Own.Fw (fun k=>¬ (X k\/(w.heap.size<=k/\k<w.heap.size+2))) w5 sv o.spaces/\Au 2 Own.gL (fun k=>¬ (X k\/(w.heap.size<=k/\k<w.heap.size+2))) w5 kv K:=hval
     rw[if_neg hth] at h
     exact h
    obtain⟨sv2,kv2,rfl,hs2,hk2⟩:=NH
    have e:R=.ok K:=by rw[HR3.out,hf];exact if_neg hth
    have HE:=zh e;have HS2:=zh hs2;have HK2:=zh hk2
    obtain⟨va,vc,rfl⟩:=hs2.len
    obtain⟨ua,uc,rfl⟩:=hk2.len
    clear e hf hval hs2 hk2
    go_wp2_with fail
    have F2:=((TW.out.set 0 (.int .i64 o.count)).set 1 (.slice va o.spaces.length vc)).set 2 (.slice ua K.length uc)
    have Jb:∀ j,¬ (X j\/(w.heap.size<=j/\j<w.heap.size+2))->(((w5.setCell ⟨w.heap.size+1,0,none⟩ (.int .i64 o.count)).setCell ⟨w.heap.size+1,1,none⟩ (.slice va o.spaces.length vc)).setCell ⟨w.heap.size+1,2,none⟩ (.slice ua K.length uc)).heap[j]? = w5.heap[j]? :=fun j hj=>by
     have hne:j≠w.heap.size+1:=by rintro rfl;exact hj (.inr ⟨by omega,by omega⟩)
     rw[zo hne,zo hne,zo hne]
    refine BM rfl rfl rfl (AQ F2 Tryz.underlying25 rfl Bv) ?_
    rw[HQ.out,HE.out]
    refine⟨⟨_,_,rfl,?_,?_⟩,((TB.out.setCell (p:=⟨w.heap.size+1,0,none⟩) (by simp) _).setCell (p:=⟨w.heap.size+1,1,none⟩) (by simp) _).setCell (p:=⟨w.heap.size+1,2,none⟩) (by simp) _⟩
    ·exact(HS2.out.keep (by simp[World.setCell]) (fun k hk _=>Jb k hk)).mono (fun k hk _ hx=>hk (.inl hx))
    ·exact(HK2.out.keep (by simp[World.setCell]) (fun k hk _=>Jb k hk)).mono (fun k hk _ hx=>hk (.inl hx))
end
section
open Go
namespace Own
theorem zfd:∀ {K:List KeyUse},Srt KeyUse.pub K->∀ {k:KeyUse},k∈K->Bj K k.pub=k.next
 | [],_,k,hk=>by cases hk
 | y :: K,hs,k,hk => by
   obtain⟨h1,h2⟩:=List.pairwise_cons.1 hs
   have TI:Bj (y::K) k.pub=if y.pub=k.pub then y.next else Bj K k.pub:=by
    unfold Bj
    by_cases h:y.pub=k.pub
    ·rw[if_pos h];simp[h]
    ·rw[if_neg h];simp[h]
   rw[TI]
   rcases List.mem_cons.1 hk with rfl|hk
   ·rw[if_pos rfl]
   ·rw[if_neg (fun e=>by have:=h1 k hk;rw[e,Ca] at this;cases this)]
    exact zfd h2 hk
end Own
namespace Own
theorem zfq {o:Ar}{p msg:ByteArray}{l:List Aj}{s:Space}{K:List KeyUse}(h1:Bz o=true)(h2:authority o p=some s)(h3:Bp s msg [] o.keys l=.ok K):zeT o p msg l=if (l.length:Int)<s.threshold then .error 20 else .ok K:=by
 unfold zeT
 rw[h1,if_pos rfl,h2]
 dsimp only
 rw[h3]
end Own
namespace Own
def zeV (p:ByteArray)(th:Int)(l:List Nat):Ar:=⟨1,[⟨p,Bo l,th⟩],l.foldl (JO 0) []⟩
section
variable {p:ByteArray} {th:Int} {l:List Nat}
theorem zfb (hl:I8 l):KB (zeV p th l).keys:=KB.fold (by omega) KB.nil hl.lt
theorem zf4 (hp:BL p=true)(hl:I8 l)(h1:1<=l.length)(h8:l.length<=8)(ht:1<=th)(ht2:th<=l.length):Bz (zeV p th l)=true:=
 xH (by omega) (by decide) (fun s hs=>by rw[List.mem_singleton.1 hs];exact zaA hp hl h1 h8 ht ht2) (List.pairwise_singleton _ _) (by simp) (zfb (p:=p) (th:=th) hl)
theorem zf9 {o:Ar}{s:Space}{q:ByteArray}(ho:Bz o=true)(hs:o.spaces=[s])(hq:BL q=true)(hb:belongs q s.pre=true):authority o q=some s:=by
 unfold authority
 rw[ho,hq,hs]
 show CY q none [s]=_
 unfold CY
 rw[hb]
 rfl
theorem zfl (hl:I8 l){b:Nat}(hb:b<256):Bj (zeV p th l).keys (Gi b)=if b∈l then 1 else 0:=by
 show Bj (l.foldl (JO 0) []) (Gi b)=_
 rw[WB (by omega) hb KB.nil hl.lt,iU]
 rfl
theorem zfr (hl:I8 l){ks:List Nat}(hd:ks.Nodup)(hk:∀ b∈ks,b∈l)(msg:ByteArray):Bp ⟨p,Bo l,th⟩ msg [] (zeV p th l).keys (ks.map (Dy 1 msg))=.ok (ks.foldl (JO 1) (zeV p th l).keys):=
 KG (by omega) ks [] _ (zfb hl) hd (fun b hb=>hl.lt b (hk b hb)) (fun b hb=>⟨aL hl.lt (hk b hb),by simp,by rw[zfl hl (hl.lt b (hk b hb)),if_pos (hk b hb)];decide⟩)
theorem zfO (hp:BL p=true)(hl:I8 l)(h1:1<=l.length)(h8:l.length<=8)(ht:1<=th)(ht2:th<=l.length){q:ByteArray}(hq:BL q=true)(hb:belongs q p=true){ks:List Nat}(hd:ks.Nodup)(hk:∀ b∈ks,b∈l)(msg:ByteArray):
 zeT (zeV p th l) q msg (ks.map (Dy 1 msg))=if (ks.length:Int)<th then .error 20 else .ok (ks.foldl (JO 1) (zeV p th l).keys):=by
 rw[zfq (zf4 hp hl h1 h8 ht ht2) (zf9 (zf4 hp hl h1 h8 ht ht2) rfl hq hb) (zfr hl hd hk msg),List.length_map]
theorem zfs (hl:I8 l){ks:List Nat}(hk:∀ b∈ks,b∈l){x:KeyUse}(hx:x∈ks.foldl (JO 1) (zeV p th l).keys):∃ b,b<256/\x.pub=Gi b/\(x.next=2↔b∈ks):=by
 have hK:KB (ks.foldl (JO 1) (zeV p th l).keys):=KB.fold (by omega) (zfb hl) (fun b hb=>hl.lt b (hk b hb))
 obtain⟨b,hb,hp,_,_⟩:=hK.mem x hx
 refine⟨b,hb,hp,?_⟩
 have hn:=zfd hK.srt hx
 rw[hp,WB (by omega) hb (zfb hl) (fun b hb=>hl.lt b (hk b hb)),zfl hl hb] at hn
 by_cases e:b∈ks
 ·rw[if_pos e] at hn
  exact⟨fun _=>e,fun _=>by rw[<- hn]<;>rfl⟩
 ·rw[if_neg e] at hn
  refine⟨fun h2=>?_,fun h=>absurd h e⟩
  rw[h2] at hn
  split at hn<;>cases hn
end
end Own
end
section
open Go Go.RowKit Go.Maps
namespace Own
def zfo (o:Ar):Except Int (List KeyUse)->Ar × Int
 | .error c=>(.none,c)
 | .ok K=>(⟨o.count,o.spaces,K⟩,0)
end Own
theorem zfa.val {X:Nat->Prop}{w:World}{o:Own.Ar}{R:Except Int (List Own.KeyUse)}{e:Ending}{w' : World}(h:zfa X w o R e w'):
 ∃ sv kv,e=.returned (.tuple #[.agg #[.int .i64 (Own.zfo o R).1.count,sv,kv],.int .i64 (Own.zfo o R).2])/\Own.BH w' sv (Own.zfo o R).1.spaces/\Own.DJ w' kv (Own.zfo o R).1.keys/\Below w.heap.size w w':=by
 obtain⟨h,hb⟩:=h
 cases R with
 | error c=>exact⟨_,_,h,Au.nil _ _,Au.nil _ _,hb⟩
 | ok K =>
   obtain⟨sv,kv,h1,h2,h3⟩:=h
   exact⟨sv,kv,h1,h2.mono (fun _ _ _=>trivial),h3.mono (fun _ _ _=>trivial),hb⟩
structure OwB (w:World) (b:Nat) (n:Int) (S:List Own.Space) (K:List Own.KeyUse) (sv kv:Value):Prop where
 at_:At w b 25 #[.int .i64 n,sv,kv]
 sp:Own.BH w sv S
 ks:Own.DJ w kv K
section
variable {w w' : World} {b:Nat} {n:Int} {S:List Own.Space} {K:List Own.KeyUse} {sv kv cv pv:Value} {a:Own.Aj}
theorem OwB.below (h:OwB w b n S K sv kv)(hb:Below w.heap.size w w'):OwB w' b n S K sv kv:=⟨h.at_.below hb h.at_.lt,h.sp.below hb,h.ks.below hb⟩
theorem OwB.new (hs:Own.BH w sv S)(hk:Own.DJ w kv K)(n:Int):OwB (w.alloc (.cells #[.int .i64 n,sv,kv] 25)) w.heap.size n S K sv kv:=
 have hb:=(Below.refl w.heap.size w).alloc (Nat.le_refl _) (.cells #[.int .i64 n,sv,kv] 25)
 ⟨At.new w _ _,hs.below hb,hk.below hb⟩
end
theorem zf7 (o:Own.Ar)(s msg:ByteArray)(l:List Own.Aj)(sv kv lv:Value)(w:World)(hM:IY w)(hS:Own.BH w sv o.spaces)(hK:Own.DJ w kv o.keys)(hA:Own.I4 w lv l)
 (hl:o.spaces.length<=10/\o.keys.length<=10/\∀ s∈o.spaces,s.members.length<=10) (hll:l.length<=10) (Ku:msg.size<=200)
 (hal:∀ a∈l,a.name.size<=140737488355328/\a.sig.chains.length<=140737488355328/\a.sig.path.length<=140737488355328):
 Calls Tryz.prog 39 #[.agg #[.int .i64 o.count,sv,kv],.string s,.string msg,lv] w fun e w' => ∃ sv kv,e=.returned (.tuple #[.agg #[.int .i64 (Own.zfo o (Own.zeT o s msg l)).1.count,sv,kv],.int .i64 (Own.zfo o (Own.zeT o s msg l)).2])/\Own.BH w' sv (Own.zfo o (Own.zeT o s msg l)).1.spaces/\Own.DJ w' kv (Own.zfo o (Own.zeT o s msg l)).1.keys/\Below w.heap.size w w' :=
 (zfc (fun _=>False) o s msg l sv kv lv w (fun k hk=>hk.elim) hM (hS.mono (fun _ _ _=>fun h=>h)) hK hA (by have:=hl.1;omega) (by have:=hl.2.1;omega) (fun s hs=>by have:=hl.2.2 s hs;omega) (by omega) hal).mono (fun _ _ h=>h.val)
end
section
open Go Go.Maps
namespace Own
theorem zft:∀ (k l:List Nat),k.Nodup->(∀ b∈k,b∈l)->k.length<=l.length
 | [],l,_,_=>Nat.zero_le _
 | a :: k,l,hn,hs => by
   have ha:a∈l:=hs a List.mem_cons_self
   have h1:=List.length_erase_of_mem ha
   have h2:=List.length_pos_of_mem ha
   have hn':=List.nodup_cons.1 hn
   have h3:=zft k (l.erase a) hn'.2 (fun b hb=>(List.mem_erase_of_ne (fun(h:b=a)=>hn'.1 (by rw[<- h];exact hb))).2 (hs b (List.mem_cons_of_mem _ hb)))
   rw[List.length_cons]
   omega
theorem zfm {l:List Nat}(hl:∀ b∈l,b<256):(keysOf l).length<=l.length:=zft _ _ (U7 (KI l)) (fun _ hb=>(TM hl).1 hb)
theorem zfA {L:List Nat}(h:L.length<=4):(Bo L).length<=10:=by rw[OX];omega
theorem zfe (i:Nat):∀ (ks:List Nat) (K:List KeyUse),(ks.foldl (JO i) K).length<=K.length+ks.length
 | [],K=>Nat.le_refl _
 | k :: ks,K => by
   rw[List.foldl_cons,List.length_cons]
   refine Nat.le_trans (zfe i ks _) ?_
   have h:(JO i K k).length<=K.length+1:=by unfold JO;exact uK K _
   omega
theorem zf8 {p:ByteArray}{th:Int}{L:List Nat}(h:L.length<=4):(zeV p th L).spaces.length<=10/\(zeV p th L).keys.length<=10/\∀ x∈(zeV p th L).spaces,x.members.length<=10:=by
 have h1:(zeV p th L).spaces=[⟨p,Bo L,th⟩]:=by unfold zeV;exact Eq.refl _
 have h2:(zeV p th L).keys=L.foldl (JO 0) []:=by unfold zeV;exact Eq.refl _
 rw[h1,h2]
 refine⟨Nat.le_add_left 1 9,Nat.le_trans (zfe 0 L []) (by rw[List.length_nil];omega),fun x hx=>?_⟩
 rw[List.mem_singleton.1 hx]
 exact zfA h
end Own
namespace Own
def zff (l ks:List Nat)(x:Nat):List Nat:=if l.getD (x%l.length) 0∈ks then ks else ks++[l.getD (x%l.length) 0]
def ksF (l who:List Nat):List Nat:=who.foldl (zff l) []
theorem zf5 (l who:List Nat)(k:Nat)(hk:k<who.length):ksF l (who.take (k+1))=zff l (ksF l (who.take k)) (who.getD k 0):=by
 unfold ksF
 rw[List.take_add_one,List.foldl_append,List.getD_eq_getElem?_getD,List.getElem?_eq_getElem hk]
 rfl
theorem step_ok {l ks:List Nat}(h1:1<=l.length)(h:ks.Nodup/\∀ b∈ks,b∈l)(x:Nat):(zff l ks x).Nodup/\(∀ b∈zff l ks x,b∈l)/\(zff l ks x).length<=ks.length+1:=by
 have hb:l.getD (x%l.length) 0∈l:=by
  have:x%l.length<l.length:=Nat.mod_lt _ (by omega)
  rw[List.getD_eq_getElem?_getD,List.getElem?_eq_getElem this]
  exact List.getElem_mem _
 unfold zff
 split
 ·exact⟨h.1,h.2,by omega⟩
 ·rename_i hn
  refine⟨List.nodup_append.2 ⟨h.1,List.pairwise_singleton _ _,fun a ha b hb' => ?_⟩,fun b hb' => ?_,by rw[List.length_append];exact Nat.le_refl _⟩
  ·rw[List.mem_singleton.1 hb']
   intro e
   exact hn (e ▸ ha)
  ·rcases List.mem_append.1 hb' with h' | h'
   ·exact h.2 b h'
   ·rw[List.mem_singleton.1 h']
    exact hb
theorem zfB {l:List Nat}(h1:1<=l.length)(who:List Nat):∀ k,k<=who.length->(ksF l (who.take k)).Nodup/\(∀ b∈ksF l (who.take k),b∈l)/\(ksF l (who.take k)).length<=k
 | 0,_ => by
   rw[List.take_zero]
   exact⟨List.nodup_nil,(fun b hb=>by cases hb),Nat.le_refl _⟩
 | k + 1,hk => by
   obtain⟨h2,h3,h4⟩:=zfB h1 who k (by omega)
   rw[zf5 l who k (by omega)]
   obtain⟨s1,s2,s3⟩:=step_ok h1 ⟨h2,h3⟩ (who.getD k 0)
   exact⟨s1,s2,by omega⟩
theorem zf0 {L ks:List Nat}(hL:∀ b∈L,b<256)(hk:∀ b∈ks,b∈L)(msg:ByteArray){b:Nat}(hb:b<256):((Bo L).any fun m=>decide (m.pub=Gi b)&&(ks.map (Dy 1 msg)).any fun a=>decide (a.name=m.name))=decide (b∈ks):=by
 rw[Bool.eq_iff_iff,List.any_eq_true,decide_eq_true_eq]
 constructor
 ·rintro⟨m,hm,h⟩
  obtain⟨c,hc,rfl⟩:=List.mem_map.1 hm
  rw[Bool.and_eq_true,decide_eq_true_eq,List.any_eq_true] at h
  obtain⟨h1,a,ha,h2⟩:=h
  obtain⟨d,hd,rfl⟩:=List.mem_map.1 ha
  have e1:c=b:=kr (hL c hc) hb h1
  have e2:d=c:=aK (hL d (hk d hd)) (hL c hc) (of_decide_eq_true h2)
  rw[<- e1,<- e2]
  exact hd
 ·intro h
  refine⟨aJ b,List.mem_map.2 ⟨b,hk b h,rfl⟩,?_⟩
  rw[Bool.and_eq_true,decide_eq_true_eq,List.any_eq_true]
  exact⟨rfl,Dy 1 msg b,List.mem_map.2 ⟨b,h,rfl⟩,decide_eq_true rfl⟩
theorem zfI:BL oz=true:=rfl
theorem zf1:belongs oz sAB=true:=rfl
structure zfR (l:List Nat) (msg:ByteArray) (n:Int) (o:Ar) (M:List Member) (ks:List Nat) (x:Ar):Prop where
 claim:Cq .none (Bl .none (FL sAB n (keysOf l)) 0 (keysOf l))=(o,0)
 so:o.spaces.length<=10/\o.keys.length<=10/\∀ s∈o.spaces,s.members.length<=10
 sp:o.spaces=[⟨sAB,M,n⟩]
 app:zfo o (zeT o oz msg (ks.map (Dy 1 msg)))=if (ks.length:Int)<n then (.none,20) else (x,0)
 xc:x.count=o.count
 xs:x.spaces=o.spaces
 xk:x.keys.length<=20
 sig:∀ k∈x.keys,(M.any fun m=>decide (m.pub=k.pub)&&(ks.map (Dy 1 msg)).any fun a=>decide (a.name=m.name))=decide (k.next=2)
theorem zfu {l:List Nat}(hl:∀ b∈l,b<256)(h1:1<=l.length)(h4:l.length<=4)(msg:ByteArray){n:Int}(hn1:1<=n)(hn2:n<=(keysOf l).length){ks:List Nat}(hd:ks.Nodup)(hks:∀ b∈ks,b∈l)(hk4:ks.length<=4):∃ o x,zfR l msg n o (Bo (keysOf l)) ks x:=by
 have hk:=KI l
 have hm:∀ b∈ks,b∈keysOf l:=fun b hb=>(TM hl).2 (hks b hb)
 have hle:(keysOf l).length<=4:=Nat.le_trans (zfm hl) h4
 generalize hL:keysOf l=L at*
 have h1L:1<=L.length:=by omega
 have hc:Cq .none (Bl .none (FL sAB n L) 0 L)=(zeV sAB n L,0):=uG (p:=sAB) (th:=n) uH hk h1L (by omega) hn1 hn2
 have ha:=zfO (p:=sAB) (th:=n) uH hk h1L (by omega) hn1 hn2 zfI zf1 hd hm msg
 have so:=zf8 (p:=sAB) (th:=n) hle
 have hq:=fun {x:KeyUse} (hx:x∈ks.foldl (JO 1) (zeV sAB n L).keys)=>zfs (p:=sAB) (th:=n) hk hm hx
 have hz:=zfe 1 ks (zeV sAB n L).keys
 have hs:(zeV sAB n L).spaces=[⟨sAB,Bo L,n⟩]:=by unfold zeV;exact Eq.refl _
 have hsg:=fun {b:Nat} (hb:b<256)=>zf0 hk.lt hm msg hb
 generalize zeV sAB n L=o at*
 generalize ks.foldl (JO 1) o.keys=K at*
 refine⟨o,⟨o.count,o.spaces,K⟩,⟨by rw[hL];exact hc,so,hs,?_,rfl,rfl,by have:=so.2.1;show K.length<=_;omega,fun k hkk=>?_⟩⟩
 ·rw[ha]
  split<;>rfl
 ·obtain⟨b,hb,hp,hn⟩:=hq hkk
  rw[hp,hsg hb]
  exact decide_eq_decide.2 hn.symm
end Own
end
section
open Go Go.RowKit Go.Maps
theorem zf2 (g:Nat)(lb:Array Value)(eg:∀ args w,(callFunc g args).run Tryz.prog w=.ok (.enter g args) w)(p:Own.Aj->Bool)(v:Value)(l:List Own.Aj)(w:World)(h:Own.I4 w v l)(hl:l.length<=140737488355328)
 (hp:∀ (W:World) (x:Own.Aj) (ca:Option Addr) (cn cc:Nat) (pa:Option Addr) (pn pc:Nat),Below w.heap.size w W->Calls Tryz.prog g (#[.agg #[.string x.name,.int .i64 x.sig.index,.slice ca cn cc,.slice pa pn pc]]++lb) W fun e w' => e=.returned (.bool (p x))/\Below W.heap.size W w'):
 Calls Tryz.prog 101 #[v,.func (.func g) #[] lb] w fun e w' => (∃ i,e=.returned (.int .i64 i)/\Own.Idx p l i)/\Below w.heap.size w w':=by
 obtain⟨a,c,rfl,hz⟩:=id h
 clear hz
 have HL:=zh h;have HP:=zh hp;clear h hp
 go_enter Tryz.func101,Tryz.ntmps101
 go_wp2_with fail
 go_loopw [8] (fun i wr=>∃ k:Nat,∃ hk:k<=l.length,i=.int .i64 k/\(∀ j (hj:j<k),p (l[j]'(by omega))=false)/\Below w.heap.size w wr) (fun i _=>l.length-(intOf i).toNat)
 case atStart=>exact⟨0,by omega,rfl,(fun j hj=>absurd hj (by omega)),Below.refl _ _⟩
 case round=>
  obtain⟨k,hk,rfl,hn,hb⟩:=hrel
  have HBW:=zh hb;have HN:=zh hn
  by_cases hlt:k<l.length
  case neg=>
   have hke:k=l.length:=by omega
   have dk:decide ((k:Int)<l.length)=false:=zf
   have hix:=Own.Idx.miss (p:=p) (l:=l) (fun j hj=>hn j (by omega))
   have HIX:=zh hix
   clear hix hke hb hn
   go_wp2_with fail
   go_ret
   exact⟨⟨_,rfl,HIX.out⟩,HBW.out⟩
  have dk:decide ((k:Int)<l.length)=true:=zt
  obtain⟨a',c',he,hc⟩:=HL.out.below hb
  obtain⟨b,o,cv,pv,ha,hbl,e0,e1,e2,e3,h4,h5,_⟩:=hc k hlt
  cases he
  subst ha
  obtain⟨ca,cc,rfl⟩:=h4.len
  obtain⟨pa,pc,rfl⟩:=h5.len
  have hcall:=HP.out wr l[k] ca l[k].sig.chains.length cc pa l[k].sig.path.length pc hb
  obtain⟨nm,hnm⟩:∃ x,x=l[k].name:=⟨_,rfl⟩
  obtain⟨ix,hix⟩:∃ x,x=l[k].sig.index:=⟨_,rfl⟩
  obtain⟨n1,hn1⟩:∃ x,x=l[k].sig.chains.length:=⟨_,rfl⟩
  obtain⟨n2,hn2⟩:∃ x,x=l[k].sig.path.length:=⟨_,rfl⟩
  rw[<- hnm] at e0 hcall
  rw[<- hix] at e1 hcall
  rw[<- hn1] at e2 hcall
  rw[<- hn2] at e3 hcall
  clear hb hn hnm hix hn1 hn2 h4 h5 hc
  cases hq:p l[k] with
  | true =>
    rw[hq] at hcall
    have hix:=Own.Idx.hit hlt hq (HN.out)
    have HIX:=zh hix
    clear hix hq
    go_wp2_with (go_at_fn g;refine hcall.mono ?_;rintro e w' ⟨rfl,hb'⟩)
    go_ret
    exact⟨⟨_,rfl,HIX.out⟩,HBW.out.trans (hb'.mono HBW.out.size)⟩
  | false =>
    rw[hq] at hcall
    have hn2:∀ j (hj:j<k+1),p (l[j]'(by omega))=false:=fun j hj=>by
     by_cases e:j=k
     ·subst e;exact hq
     ·exact HN.out j (by omega)
    have HN2:=zh hn2
    clear hn2 hq
    go_wp2_with (go_at_fn g;refine hcall.mono ?_;rintro e w' ⟨rfl,hb'⟩)
    go_round
    case measure=>simp[intOf];omega
    case rel=>exact⟨k+1,by omega,by go_num,HN2.out,HBW.out.trans (hb'.mono HBW.out.size)⟩
theorem zf3 (g:Nat)(lb:Array Value)(eg:∀ args w,(callFunc g args).run Tryz.prog w=.ok (.enter g args) w)(p:Own.Aj->Bool)(v:Value)(l:List Own.Aj)(w:World)(h:Own.I4 w v l)(hl:l.length<=140737488355328)
 (hp:∀ (W:World) (x:Own.Aj) (ca:Option Addr) (cn cc:Nat) (pa:Option Addr) (pn pc:Nat),Below w.heap.size w W->Calls Tryz.prog g (#[.agg #[.string x.name,.int .i64 x.sig.index,.slice ca cn cc,.slice pa pn pc]]++lb) W fun e w' => e=.returned (.bool (p x))/\Below W.heap.size W w'):
 Calls Tryz.prog 44 #[v,.func (.func g) #[] lb] w fun e w' => e=.returned (.bool (l.any p))/\Below w.heap.size w w':=by
 have HI:=zh (zf2 g lb eg p v l w h hl hp);clear h hp
 go_enter Tryz.func44,Tryz.ntmps44
 go_wp2_with fail
 refine HI.out.mono ?_
 rintro e w2 ⟨⟨i,rfl,hi⟩,hb⟩
 have HB:=zh hb;have HJ:=zh hi.any;clear hb hi
 go_wp2_with fail
 go_ret
 exact⟨by rw[<- HJ.out]<;>rfl,HB.out⟩
theorem zfp (nm:ByteArray)(ix:Int)(ca:Option Addr)(cn cc:Nat)(pa:Option Addr)(pn pc:Nat)(mb:Nat)(mn:ByteArray)(w:World)(hm:w.cell? ⟨mb,0,none⟩=some (.string mn)):
 Calls Tryz.prog 45 (#[.agg #[.string nm,.int .i64 ix,.slice ca cn cc,.slice pa pn pc]]++#[.pointer (some ⟨mb,0,none⟩)]) w fun e w' => e=.returned (.bool (decide (nm=mn)))/\Below w.heap.size w w':=by
 obtain⟨R,hR⟩:∃ R,R=decide (nm=mn):=⟨_,rfl⟩
 rw[<- hR]
 have F1:=zh (show Aw w _ [(72,#[.string nm,.int .i64 ix,.slice ca cn cc,.slice pa pn pc])] from((Dm.nil w).push 72 #[.string nm,.int .i64 ix,.slice ca cn cc,.slice pa pn pc]).boxes)
 have H0:=zh (fun W (hW:Below w.heap.size w W)=>(hW.cell (p:=⟨mb,0,none⟩) (block_lt hm)).trans hm)
 clear hm
 have HE:=zh (show(nm.toList==mn.toList)=R by rw[bytes_beq,hR])
 clear hR
 go_enter Tryz.func45,Tryz.ntmps45
 go_upto_region 1 with fail
 generalize (w.alloc (.cells #[.string nm,.int .i64 ix,.slice ca cn cc,.slice pa pn pc] 72))=w1 at*
 obtain⟨x00,x01,x02,x03⟩:=F1.out.zca rfl
 have y0:=H0.out w1 F1.out.under
 go_wp2_with fail
 go_ret
 exact⟨by rw[<- HE.out]<;>rfl,F1.out.under⟩
theorem zfv (m:Own.Member)(kb ab:Nat)(kp:ByteArray)(lv:Value)(l:List Own.Aj)(w:World)(hk:w.cell? ⟨kb,0,none⟩=some (.string kp))(ha:w.cell? ⟨ab,0,none⟩=some lv)(hl:Own.I4 w lv l)(hll:l.length<=140737488355328):
 Calls Tryz.prog 43 (#[.agg #[.string m.name,.string m.pub]]++#[.pointer (some ⟨kb,0,none⟩),.pointer (some ⟨ab,0,none⟩)]) w fun e w' => e=.returned (.bool (decide (m.pub=kp)&&l.any (fun a=>decide (a.name=m.name))))/\Below w.heap.size w w':=by
 obtain⟨mn,mp⟩:=m
 dsimp only
 obtain⟨R,hR⟩:∃ R,R=(decide (mp=kp)&&l.any (fun a=>decide (a.name=mn))):=⟨_,rfl⟩
 rw[<- hR]
 obtain⟨la,lc,rfl,hz⟩:=id hl
 clear hz
 have F1:=zh (show Aw w _ [(76,#[.string mn,.string mp])] from((Dm.nil w).push 76 #[.string mn,.string mp]).boxes)
 have H0:=zh (fun W (hW:Below w.heap.size w W)=>(hW.cell (p:=⟨kb,0,none⟩) (block_lt hk)).trans hk)
 have H1:=zh (fun W (hW:Below w.heap.size w W)=>(hW.cell (p:=⟨ab,0,none⟩) (block_lt ha)).trans ha)
 have HL:=zh hl
 clear hk ha hl
 go_enter Tryz.func43,Tryz.ntmps43
 go_upto_region 1 with fail
 generalize (w.alloc (.cells #[.string mn,.string mp] 76))=w1 at*
 obtain⟨x00,x01⟩:=F1.out.zbY rfl
 have y0:=H0.out w1 F1.out.under;have y1:=H1.out w1 F1.out.under
 by_cases hp:mp=kp
 ·have q1:(mp.toList==kp.toList)=true:=by rw[bytes_beq];exact decide_eq_true hp
  have hcf:=zf3 45 #[.pointer (some ⟨w.heap.size,0,none⟩)] Tryz.call45 (fun a=>decide (a.name=mn)) (.slice la l.length lc) l w1 (HL.out.below F1.out.under) hll (fun W x ca cn cc pa pn pc hW=>zfp x.name x.sig.index ca cn cc pa pn pc w.heap.size mn W ((hW.cell (p:=⟨w.heap.size,0,none⟩) (block_lt x00)).trans x00))
  have HCF:=zh hcf
  have HE:=zh (show R=l.any (fun a=>decide (a.name=mn)) by rw[hR,decide_eq_true hp]<;>rfl)
  clear hcf hR hp
  go_wp2_with fail
  refine HCF.out.mono ?_
  rintro e w2 ⟨rfl,hb⟩
  rw[<- HE.out]
  have B2:=zh (F1.out.under.trans (hb.mono F1.out.under.size))
  clear hb
  go_wp2_with fail
  go_ret
  exact⟨rfl,B2.out⟩
 ·have q1:(mp.toList==kp.toList)=false:=by rw[bytes_beq];exact decide_eq_false hp
  have HE:=zh (show R=false by rw[hR,decide_eq_false hp]<;>rfl)
  clear hR hp
  go_wp2_with fail
  go_ret
  exact⟨by rw[HE.out]<;>rfl,F1.out.under⟩
def zeY (k:Int):Lit:=.int .u8 k
def OkU (k:Int):Prop:=(Lit.int .u8 k).wf=true
theorem zfw (k:Int):WideAt.IsKeyLit (zeY k):=by unfold zeY WideAt.IsKeyLit;trivial
theorem zfJ {k j:Int}(h:k≠j):zeY k≠zeY j:=by
 intro e
 apply h
 unfold zeY at e
 cases e
 rfl
theorem zfC:Keyed Tryz.prog 5:=int_keyed Tryz.underlying5
theorem zfx {k:Int}(h:OkU k):keyOf Tryz.prog 5 (.int .u8 k)=some (zeY k):=keyOf_int_mk Tryz.underlying5 h
def zeZ (D:DataW Value)(f:Int->Option Value):Prop:=IsMap D/\∀ k:Int,match f k with
 | some v=>has D (zeY k)=true/\∀ z,D.atKey (zeY k) z=.held v
 | none=>has D (zeY k)=false
def zeW (w:World)(b n:Nat)(f:Int->Option Value):Prop:=∃ D,w.ownsMap Tryz.prog 5 RV b n D/\zeZ D f
def zfD (f:Int->Option Value)(k:Int)(v:Value):Int->Option Value:=fun j=>if k=j then some v else f j
theorem zeZ.put {D:DataW Value}{f:Int->Option Value}(h:zeZ D f)(k:Int)(v:Value):zeZ (D.put (zeY k) (.held v)) (zfD f k v):=by
 refine⟨h.1.put _ _,fun j=>?_⟩
 unfold zfD
 by_cases e:k=j
 ·subst e
  rw[if_pos rfl]
  exact⟨has_put_same h.1 (zfw k) _,fun z=>atKey_put_same h.1 (zfw k) _ z⟩
 ·rw[if_neg e]
  have hn:zeY j≠zeY k:=zfJ (Ne.symm e)
  have:=h.2 j
  cases hf:f j with
  | none=>rw[hf] at this;simp only at this ⊢;rw[has_put_other hn];exact this
  | some x=>rw[hf] at this;simp only at this ⊢;rw[has_put_other hn];exact⟨this.1,fun z=>by rw[atKey_put_other hn];exact this.2 z⟩
theorem zeZ.at {D:DataW Value}{f:Int->Option Value}(h:zeZ D f)(k:Int)(z:Value):D.atKey (zeY k) (.held z)=.held ((f k).getD z)/\has D (zeY k)=(f k).isSome:=by
 have:=h.2 k
 cases hf:f k with
 | none=>rw[hf] at this;exact⟨atKey_of_not_has this _,this⟩
 | some x=>rw[hf] at this;exact⟨this.2 _,this.1⟩
section
variable {w w' : World} {b n:Nat} {f:Int->Option Value}
theorem zeW.made (w:World):zeW (w.alloc (.map #[] 0)) w.heap.size 0 (fun _=>none):=
 ⟨_,World.ownsMap_made w _ _ _,isMap_empty,fun k=>by show has (.map []) (zeY k)=false;rfl⟩
theorem zeW.lt (h:zeW w b n f):b<w.heap.size:=by obtain⟨D,h,_⟩:=h;exact h.lt
theorem zeW.keep (h:zeW w b n f)(hk:w'.heap[b]? = w.heap[b]?):zeW w' b n f:=by
 obtain⟨D,⟨es,clock,hb,F,hs,hD⟩,hr⟩:=h
 exact⟨D,⟨es,clock,by rw[hk];exact hb,F,hs,hD⟩,hr⟩
theorem zeW.below {B:Nat}(h:zeW w b n f)(hb:Below B w w')(hB:b<B):zeW w' b n f:=h.keep (hb.block b hB)
theorem zeW.mono (h:zeW w b n f){m:Nat}(hm:n<=m):zeW w b m f:=by obtain⟨D,h,hr⟩:=h;exact⟨D,h.mono hm,hr⟩
variable {ops:Array Oper} {rest:List Oper} {o:Oper} {a:Act} {Q:Exit->Act->World->Prop}
theorem zeW.aS {t e:TypeId}(ht:Tryz.prog.underlying t=some (.map 5 e))(z:Value)(hz:(zeroValue e).run Tryz.prog w=.ok z w)(h:zeW w b n f)(k:Int)(hk:OkU k):
 (Instr.lookup t (.map (some b)) (.int .u8 k) false).run Tryz.prog w=.ok ((f k).getD z) w:=by
 obtain⟨D,hD,hr⟩:=h
 obtain⟨v,ps,hrun,hv⟩:=hD.lookup zfC ht hz (R:=RV) (zd:=.held z) (zp:=[]) rfl (zfx hk)
 have:=hr.at k z
 rw[this.1] at hv
 unfold RV at hv
 simp only[Option.some.injEq,Prod.mk.injEq,DataW.held.injEq] at hv
 rw[hv.1] at hrun
 exact hrun
theorem zfK (hg:o.guard=none)(m x y:Operand)(t e:TypeId)(hop:o.op=Op.mapUpdate t m x y)(ht:Tryz.prog.underlying t=some (.map 5 e))(h:zeW w b n f)(hn:n<maxLen)(hm:a.eval m=.map (some b))(k:Int)(v:Value)(hx:a.eval x=.int .u8 k)(hy:a.eval y=v)(hk:OkU k)
 (hK:∀ w',zeW w' b (n+1) (zfD f k v)->w.grownBy w' (some b)->wpList Tryz.prog ops Q rest (a.put o.dst undef) w'):wpList Tryz.prog ops Q (o::rest) a w:=by
 obtain⟨D,hD,hr⟩:=h
 exact wpList_mapUpdate_own w hg m x y t hop 5 e zfC ht RV b n D hm hD hn _ _ _ hx hy (zfx hk) (.held v) [] rfl fun w' h1 h2=>hK w' ⟨_,h1,hr.put k v⟩ h2
end
section
variable {w w' : World} {b r n cnt:Nat} {f:Int->Option Value} {done:List Int}
variable {ops:Array Oper} {rest:List Oper} {o:Oper} {a:Act} {Q:Exit->Act->World->Prop}
end
end
section
open Go Go.RowKit Go.Maps
def zfE (w:World)(v:Value)(bs:List Int):Prop:=Bh w v 1 bs.length (bs.map (Value.int .u8))/\∀ b∈bs,0<=b/\b<256
theorem zfE.keys {w:World}{v:Value}{bs:List Int}(h:zfE w v bs):∃ l:List Nat,(∀ b∈l,b<256)/\DI w v l:=by
 obtain⟨h1,h2⟩:=h
 refine⟨bs.map Int.toNat,fun b hb=>?_,?_⟩
 ·obtain⟨x,hx,rfl⟩:=List.mem_map.1 hb
  have:=h2 x hx
  omega
 ·have e : Rl (bs.map Int.toNat) = bs.map (Value.int .u8) :=by
   unfold Rl
   rw[List.map_map]
   refine List.map_congr_left fun x hx=>?_
   have:=h2 x hx
   show Value.int .u8 ((x.toNat:Nat):Int)=_
   rw[show((x.toNat:Nat):Int)=x by omega]
  rw[DI,e,List.length_map]
  exact h1
def Own.uset (ks:List Nat):Int->Option Value:=fun j=>if ks.any (fun b=>decide ((b:Int)=j)) then some (.bool true) else none
theorem Own.zfF (ks:List Nat)(b:Nat):zfD (Own.uset ks) (b:Int) (.bool true)=Own.uset (ks++[b]):=by
 funext j
 unfold zfD Own.uset
 rw[List.any_append,List.any_cons,List.any_nil,Bool.or_false]
 by_cases h:(b:Int)=j
 ·rw[if_pos h,decide_eq_true h,Bool.or_true,if_pos rfl]
 ·rw[if_neg h,decide_eq_false h,Bool.or_false]
theorem Own.zfG (ks:List Nat)(b:Nat):(Own.uset ks (b:Int)).getD (.bool false)=.bool (decide (b∈ks)):=by
 unfold Own.uset
 by_cases h:b∈ks
 ·rw[if_pos (List.any_eq_true.2 ⟨b,h,decide_eq_true rfl⟩),decide_eq_true h]
  rfl
 ·rw [if_neg (fun he => by
   obtain⟨c,hc,e⟩:=List.any_eq_true.1 he
   have e:=of_decide_eq_true e
   exact h (by rw[show b=c by omega];exact hc)),decide_eq_false h]
  rfl
theorem zfy (v v2:Value)(bs bs2:List Int)(th:Int)(msg:ByteArray)(w:World)(hM:IY w)(hv:zfE w v bs)(hth:0<=th/\th<256)(hv2:zfE w v2 bs2)(hms:msg.size<=140737488355328):
 Calls Tryz.prog 8 #[v,.int .u8 th,v2,.string msg] w fun e w' => e=.returned (.bool true)/\Below w.heap.size w w':=by
 obtain⟨l,hl,hkl⟩:=hv.keys
 obtain⟨who,hwh,hkw⟩:=hv2.keys
 obtain⟨ka,kc,rfl⟩:=hkl.len
 obtain⟨wa,wc,rfl⟩:=hkw.len
 obtain⟨N,hN⟩:∃ N,N=l.length:=⟨_,rfl⟩
 obtain⟨NW,hNW⟩:∃ N,N=who.length:=⟨_,rfl⟩
 rw[<- hN] at hkl ⊢
 rw[<- hNW] at hkw ⊢
 have HM:=zh hM;have HK:=zh hkl;have HW:=zh hkw
 clear hM hv hkl hv2 hkw
 go_enter Tryz.func8,Tryz.ntmps8
 go_wp2_with fail
 refine(awake53_any w HM.out).mono ?_
 rintro e w1 ⟨rfl,hb⟩
 have B1:=zh hb;clear hb
 by_cases h1:N<1
 ·have d1:decide ((N:Int)<1)=true:=zt
  go_wp2_with fail
  go_ret
  exact⟨rfl,B1.out⟩
 have d1:decide ((N:Int)<1)=false:=zf
 by_cases h2:4<N
 ·have d2:decide (4<(N:Int))=true:=zt
  have d2' : decide (4<N)=true:=decide_eq_true h2
  go_wp2_with fail
  go_ret
  exact⟨rfl,B1.out⟩
 have d2:decide (4<(N:Int))=false:=zf
 have d2' : decide (4<N)=false:=decide_eq_false h2
 by_cases h5:4<NW
 ·have d2:decide (4<(NW:Int))=true:=zt
  have d2' : decide (4<NW)=true:=decide_eq_true h5
  go_wp2_with fail
  go_ret
  exact⟨rfl,B1.out⟩
 have d5:decide (4<(NW:Int))=false:=zf
 have d5' : decide (4<NW)=false:=decide_eq_false h5
 by_cases h3:200<msg.size
 ·have d3:decide (200<(msg.size:Int))=true:=zt
  have d3' : decide (200<msg.size)=true:=decide_eq_true h3
  go_wp2_with fail
  go_ret
  exact⟨rfl,B1.out⟩
 have d3:decide (200<(msg.size:Int))=false:=zf
 have d3' : decide (200<msg.size)=false:=decide_eq_false h3
 have hN1:1<=l.length:=by omega
 have hN4:l.length<=4:=by omega
 obtain⟨b0,hb0⟩:∃ b,b∈l:=⟨l[0]'(by omega),List.getElem_mem _⟩
 obtain⟨NL,hNL⟩:∃ n,n=(Own.keysOf l).length:=⟨_,rfl⟩
 have zgd:1<=NL:=by rw[hNL];exact List.length_pos_of_mem ((Own.TM hl).2 hb0)
 have zge:NL<=4:=by rw[hNL];exact Nat.le_trans (Own.zfm hl) hN4
 clear hb0
 have hml:(Own.Bo (Own.keysOf l)).length=NL:=by rw[Own.OX,hNL]
 have hmb:=fun W (hk:DI W (.slice ka l.length kc) l)=>Jd l ka kc W hk hl hN1 (by omega)
 rw[hml] at hmb
 simp only[<- hN] at hmb
 obtain⟨M,hMq⟩:∃ M,M=Own.Bo (Own.keysOf l):=⟨_,rfl⟩
 rw[<- hMq] at hmb hml
 have HMB:=zh hmb;have HML:=zh hml;have HNL:=zh hNL;have HMQ:=zh hMq;have HL:=zh hl;have HWH:=zh hwh;have HN:=zh hN;have HNW:=zh hNW;have HN1:=zh hN1;have HN4:=zh hN4
 clear hmb hml hNL hMq hl hwh hN hNW hN1 hN4
 go_wp2_with fail
 refine(HMB.out w1 (HK.out.below B1.out)).mono ?_
 rintro e w2 ⟨mv,rfl,hm,hb⟩
 obtain⟨ma,mn,mc,rfl⟩:=Ad hm
 obtain rfl:=Bf hm
 have B2:=zh (B1.out.trans (hb.mono B1.out.size));have M2:=zh (show Own.Ag w2 (.slice ma mn mc) M from Own.Ag.of (Bh.own hm) HML.out.symm)
 clear hm hb B1 HMB
 have h0:=hth.1;have h9:=hth.2
 have hr0:0<=th%(mn:Int):=Int.emod_nonneg _ (by omega)
 have hr1:th%(mn:Int)<mn:=Int.emod_lt_of_pos _ (by omega)
 go_upto_region 7 with fail
 obtain⟨n,hn⟩:∃ n,n=1+th%(mn:Int):=⟨_,rfl⟩
 have hn1:1<=n:=by omega
 have hn2:n<=mn:=by omega
 rw[<- hn]
 clear hn hr0 hr1 h0 h9 hth
 obtain⟨o,x0,hQ0⟩:=Own.zfu HL.out HN1.out HN4.out msg hn1 (by rw[<- HNL.out];exact hn2) (ks:=[]) List.nodup_nil (fun b hb=>by cases hb) (by simp)
 have zfP:=hQ0.claim
 have hso:=hQ0.so
 have hcl:=fun W (hM:IY W) (hk:DI W (.slice ka l.length kc) l)=>UF Own.sAB n l ka kc W hM hk HL.out HN1.out (by have:=HN4.out;omega)
 rw[zfP,<- HN.out] at hcl
 have zfS:=zh zfP;have HSO:=zh hso;have HCL:=zh hcl
 clear zfP hso hcl hQ0
 unfold Own.sAB at HCL
 obtain⟨on,oS,oK⟩:=o
 go_wp2_with fail
 refine(HCL.out w2 (HM.out.below B2.out) (HK.out.below B2.out)).mono ?_
 rintro e w3 ⟨sv,kv,rfl,hs3,hk3,hb3⟩
 have hs3:Own.BH w3 sv oS:=hs3.mono (fun _ _ _=>trivial)
 have hk3:Own.DJ w3 kv oK:=hk3.mono (fun _ _ _=>trivial)
 obtain⟨sa,sc,rfl⟩:=hs3.len
 obtain⟨ya,yc,rfl⟩:=hk3.len
 have B3:=zh (B2.out.trans (hb3.mono B2.out.size));have S3:=zh hs3;have K3:=zh hk3;have M3:=zh (M2.out.below hb3)
 clear hs3 hk3 hb3 HCL B2 M2
 dsimp only
 go_upto_region 8 with fail
 have hb:=(Below.refl w3.heap.size w3).alloc (Nat.le_refl _) (.cells #[.int .i64 on,.slice sa oS.length sc,.slice ya oK.length yc] 25)
 have O4:=zh (OwB.new S3.out K3.out on)
 have B4:=zh (B3.out.trans (hb.mono B3.out.size));have M4:=zh (M3.out.below hb)
 clear hb B3 S3 K3 M3
 generalize w3.alloc (.cells #[.int .i64 on,.slice sa oS.length sc,.slice ya oK.length yc] 25)=w4 at*
 obtain⟨b,hbe⟩:∃ b,b=w3.heap.size:=⟨_,rfl⟩
 rw[<- hbe] at O4 ⊢
 clear hbe
 have hmk:=fun t W=>run_makeMap (P:=Tryz.prog) t W
 go_upto_region 12 with fail
 clear hmk
 have hb:=(Below.refl w4.heap.size w4).alloc (Nat.le_refl _) (.cells #[.slice none 0 0] 27)
 have hb2:Below w4.heap.size w4 ((w4.alloc (.cells #[.slice none 0 0] 27)).alloc (.map #[] 0)):=hb.alloc (by simp) _
 have A6:=zh (show At ((w4.alloc (.cells #[.slice none 0 0] 27)).alloc (.map #[] 0)) w4.heap.size 27 #[.slice none 0 0] from(At.new w4 _ _).alloc _)
 have U6:=zh (show zeW ((w4.alloc (.cells #[.slice none 0 0] 27)).alloc (.map #[] 0)) (w4.heap.size+1) 0 (fun _=>none) from by
  have h:=zeW.made (w4.alloc (.cells #[.slice none 0 0] 27))
  rwa [World.size_alloc] at h)
 have Z6:=zh (show((w4.alloc (.cells #[.slice none 0 0] 27)).alloc (.map #[] 0)).heap.size=w4.heap.size+2 by simp)
 have X6:=zh hb2
 clear hb hb2
 generalize (w4.alloc (.cells #[.slice none 0 0] 27)).alloc (.map #[] 0)=w6 at*
 obtain⟨ab,hab⟩:∃ x,x=w4.heap.size:=⟨_,rfl⟩
 obtain⟨mb,hmb⟩:∃ x,x=w4.heap.size+1:=⟨_,rfl⟩
 rw[<- hab] at A6 U6 hmb ⊢
 rw[<- hmb] at U6 ⊢
 have HAB:=zh hab;have Y6:=zh (show Below ab w4 w6 by rw[hab];exact X6.out)
 have hzw:w.heap.size<=ab:=by rw[hab];exact B4.out.size
 have hz6:w6.heap.size=ab+2:=by rw[Z6.out,hab]
 have hbo:b<ab:=by rw[hab];exact O4.out.at_.lt
 have HZ6:=zh hz6;have HMB:=zh hmb
 clear hab Z6 X6 hz6 hmb
 obtain⟨S,hS⟩:∃ S,S=Own.Dy 1 msg:=⟨_,rfl⟩
 have HSQ:=zh hS
 clear hS
 go_wp2_with fail
 go_loopw [61] (fun i wr=>∃ (k:Nat) (v:Value) (ks:List Nat),k<=NW/\i=.int .i64 k/\ks=Own.ksF l (who.take k)/\At wr ab 27 #[v]/\Own.Dc (ab+2) wr v (ks.map S)/\zeW wr mb k (Own.uset ks)/\Below ab w4 wr) (fun i _=>NW-(intOf i).toNat)
 case atStart=>exact⟨0,_,[],by omega,rfl,by rw[List.take_zero]<;>rfl,A6.out,Own.Dc.nil _ _,U6.out,Y6.out⟩
 case round=>
  obtain⟨k,v,ks,hk,rfl,hks,hat,hap,hu,hY⟩:=hrel
  have AR:=zh hat;have PR:=zh hap;have UR:=zh hu;have YR:=zh hY;have HKS:=zh hks
  have hb:Below w.heap.size w wr:=B4.out.trans (hY.mono hzw)
  obtain⟨va,vc,hv⟩:=hap.len
  obtain⟨nk,hnk⟩:∃ x,x=(ks.map S).length:=⟨_,rfl⟩
  rw[<- hnk] at hv
  subst hv
  have HNK:=zh hnk
  have zgf:nk<=4:=by
   have h:=(Own.zfB HN1.out who k (by rw[<- HNW.out];exact hk)).2.2
   rw[hnk,List.length_map,hks]
   omega
  clear hat hap hu hY hks hnk A6 U6 Y6
  by_cases hlt:k<NW
  case neg=>
   have dk:decide ((k:Int)<NW)=false:=zf
   have hke:k=NW:=by omega
   have hkq:=Own.zfB HN1.out who k (by rw[<- HNW.out];exact hk)
   rw[<- HKS.out] at hkq
   obtain⟨o',x,hQ⟩:=Own.zfu HL.out HN1.out HN4.out msg hn1 (by rw[<- HNL.out];exact hn2) hkq.1 hkq.2.1 (by have:=hkq.2.2;omega)
   rw[<- HMQ.out] at hQ
   obtain rfl:(⟨on,oS,oK⟩:Own.Ar)=o':=by
    have h:=hQ.claim
    rw[zfS.out] at h
    exact congrArg Prod.fst h
   have zfT:nk=ks.length:=by rw[HNK.out,List.length_map]
   have hsp:oS=[⟨Own.sAB,M,n⟩]:=hQ.sp
   subst hsp
   have hal:∀ a∈ks.map S,a.name.size<=140737488355328/\a.sig.chains.length<=140737488355328/\a.sig.path.length<=140737488355328:=by rw[HSQ.out];exact Own.uL 1 (by omega) msg ks
   have hap:=fun(sv kv lv:Value) W (hM:IY W) hS hK hA=>zf7 ⟨on,[⟨Own.sAB,M,n⟩],oK⟩ Own.oz msg (ks.map S) sv kv lv W hM hS hK hA hQ.so (by rw[<- HNK.out];omega) (by omega) hal
   have happ:=hQ.app
   rw[<- HSQ.out] at happ
   rw[happ] at hap
   have hxc:=hQ.xc;have hxs:=hQ.xs;have hxk:=hQ.xk;have hsig:=hQ.sig
   rw[<- HSQ.out] at hsig
   obtain⟨xn,xS,xK⟩:=x
   obtain rfl:xn=on:=hxc
   obtain rfl:xS=[⟨Own.sAB,M,n⟩]:=hxs
   have OR:=zh (O4.out.below (by rw[<- HAB.out];exact YR.out));have MR:=zh (M4.out.below (by rw[<- HAB.out];exact YR.out));have BR:=zh hb
   have HAP:=zh hap;have HXK:=zh hxk;have zfV:=zh hsig;have zfU:=zh zfT
   unfold Own.oz at HAP
   clear hb hke hkq hQ hal hap happ hxk hsig zfT O4 M4 B4 HSO zfS
   have a0:=AR.out.c1;obtain⟨c0,c1,c2⟩:=OR.out.at_.c3
   go_wp2_with fail
   have hpo:Own.I4 wr (.slice va nk vc) (ks.map S):=PR.out.tu.out
   refine(HAP.out _ _ _ wr (HM.out.below BR.out) OR.out.sp OR.out.ks hpo).mono ?_
   rintro e w7 ⟨sv,kv,rfl,hs7,hk7,hb7⟩
   have O7:=zh (OR.out.below hb7);have M7:=zh (MR.out.below hb7);have B7:=zh (BR.out.trans (hb7.mono BR.out.size));have A7:=zh (AR.out.below hb7 AR.out.lt);have P7:=zh (PR.out.below hb7)
   clear hb7 hpo OR MR BR AR PR HAP a0 c0 c1 c2
   by_cases hq:(ks.length:Int)<n
   ·rw[if_pos hq] at hs7 hk7 ⊢
    obtain⟨pa,pc,rfl⟩:=hs7.len
    obtain⟨ra,rc,rfl⟩:=hk7.len
    have dq:decide ((nk:Int)<n)=true:=decide_eq_true (by rw[zfU.out];exact hq)
    clear hs7 hk7 hq
    go_upto_region 21 with fail
    have hb:=(Below.refl w7.heap.size w7).alloc (Nat.le_refl _) (.cells #[.int .i64 Own.Ar.none.count,.slice pa Own.Ar.none.spaces.length pc,.slice ra Own.Ar.none.keys.length rc] 25)
    have A8:=zh (A7.out.below hb A7.out.lt);have B8:=zh (B7.out.trans (hb.mono B7.out.size))
    clear hb
    generalize w7.alloc (.cells #[.int .i64 Own.Ar.none.count,.slice pa Own.Ar.none.spaces.length pc,.slice ra Own.Ar.none.keys.length rc] 25)=w8 at*
    have a0:=A8.out.c1
    go_wp2_with fail
    go_ret
    exact⟨rfl,B8.out⟩
   rw[if_neg hq] at hs7 hk7 ⊢
   dsimp only at hs7 hk7 ⊢
   obtain⟨pa,pc,rfl⟩:=hs7.len
   obtain⟨ra,rc,rfl⟩:=hk7.len
   have dq:decide ((nk:Int)<n)=false:=decide_eq_false (by rw[zfU.out];exact hq)
   clear hq
   go_upto_region 21 with fail
   have hb:=(Below.refl w7.heap.size w7).alloc (Nat.le_refl _) (.cells #[.int .i64 xn,.slice pa 1 pc,.slice ra xK.length rc] 25)
   have V8:=zh (show OwB (w7.alloc (.cells #[.int .i64 xn,.slice pa 1 pc,.slice ra xK.length rc] 25)) w7.heap.size xn [⟨Own.sAB,M,n⟩] xK (.slice pa 1 pc) (.slice ra xK.length rc) from OwB.new hs7 hk7 xn)
   have O8:=zh (show OwB (w7.alloc (.cells #[.int .i64 xn,.slice pa 1 pc,.slice ra xK.length rc] 25)) b xn [⟨Own.sAB,M,n⟩] oK (.slice sa 1 sc) (.slice ya oK.length yc) from O7.out.below hb)
   have A8:=zh (A7.out.below hb A7.out.lt);have B8:=zh (B7.out.trans (hb.mono B7.out.size));have M8:=zh (M7.out.below hb);have P8:=zh (P7.out.below hb)
   clear hb hs7 hk7 O7 A7 B7 M7 P7
   generalize w7.alloc (.cells #[.int .i64 xn,.slice pa 1 pc,.slice ra xK.length rc] 25)=w8 at*
   obtain⟨c,hc⟩:∃ x,x=w7.heap.size:=⟨_,rfl⟩
   rw[<- hc] at V8 ⊢
   clear hc hs3
   have a0:=A8.out.c1
   go_upto_region 23 with fail
   obtain⟨gs,os,v1,rfl,hgs,p0,p1,p2,hv1⟩:=Own.BH.cells V8.out.sp (i:=0) (by simp)
   obtain⟨gt,ot,v2,rfl,hgt,q0,q1,q2,hv2⟩:=Own.BH.cells O8.out.sp (i:=0) (by simp)
   have p0:w8.cell? ⟨gs,os,none⟩=some (.string Own.sAB):=by simpa using p0
   have p1:w8.cell? ⟨gs,os+1,none⟩=some v1:=by simpa using p1
   have p2:w8.cell? ⟨gs,os+2,none⟩=some (.int .i64 n):=by simpa using p2
   have q0:w8.cell? ⟨gt,ot,none⟩=some (.string Own.sAB):=by simpa using q0
   have q1:w8.cell? ⟨gt,ot+1,none⟩=some v2:=by simpa using q1
   have q2:w8.cell? ⟨gt,ot+2,none⟩=some (.int .i64 n):=by simpa using q2
   have hss:=fun W (hW:Below w8.heap.size w8 W)=>YQ ⟨Own.sAB,M,n⟩ v1 v2 W (hv1.below hW) (hv2.below hW) (by show M.length<=_;rw[HML.out];omega)
   have hw1:Own.Ag w8 v1 M:=hv1
   have hw2:Own.Ag w8 v2 M:=hv2
   obtain⟨va1,vc1,zfW⟩:=hw1.len
   obtain⟨va2,vc2,zfX⟩:=hw2.len
   subst zfW zfX
   dsimp only at hss
   have HSS:=zh hss
   clear hv1 hv2 hw1 hw2 hss
   obtain⟨c0,c1,c2⟩:=O8.out.at_.c3;obtain⟨x0,x1,x2⟩:=V8.out.at_.c3
   refine Lex.zl ?_
   go_wp2_with fail
   refine(HSS.out w8.drew ((Below.refl _ _).drew)).mono ?_
   rintro e w9 ⟨rfl,hb⟩
   have Y9:=zh (show Below w8.heap.size w8 w9 from(Below.refl w8.heap.size w8).drew.trans hb)
   clear hb HSS
   go_wp2_with fail
   refine Lex.ze ?_
   have V9:=zh (V8.out.below Y9.out);have A9:=zh (A8.out.below Y9.out A8.out.lt);have B9:=zh (B8.out.trans (Y9.out.mono B8.out.size));have M9:=zh (M8.out.below Y9.out);have P9:=zh (P8.out.below Y9.out)
   clear V8 A8 B8 M8 P8 O8 Y9 c0 c1 c2 x0 x1 x2 p0 p1 p2 q0 q1 q2 a0
   obtain⟨x0,x1,x2⟩:=V9.out.at_.c3
   go_wp2_with fail
   clear x0 x1 x2
   go_loopw [129] (fun i wj=>∃ j:Nat,j<=xK.length/\i=.int .i64 j/\Below w9.heap.size w9 wj) (fun i _=>xK.length-(intOf i).toNat)
   case atStart=>exact⟨0,by omega,rfl,Below.refl _ _⟩
   case round=>
    obtain⟨j,hj,rfl,hbj⟩:=hrel
    have YJ:=zh hbj
    have zgc:xK.length<=20:=HXK.out
    by_cases hjl:j<xK.length
    case neg=>
     have dk2:decide ((j:Int)<xK.length)=false:=zf
     clear hbj
     go_wp2_with fail
     go_ret
     exact⟨rfl,B9.out.trans (YJ.out.mono B9.out.size)⟩
    have dk2:decide ((j:Int)<xK.length)=true:=zt
    obtain⟨gk,ok,hka,hgk,k0,k1⟩:=Own.DJ.cells (V9.out.ks.below hbj) hjl
    subst hka
    have hsg:=zfV.out xK[j] (List.getElem_mem hjl)
    obtain⟨kp,hkp⟩:∃ x,x=xK[j].pub:=⟨_,rfl⟩
    obtain⟨kn,hkn⟩:∃ x,x=xK[j].next:=⟨_,rfl⟩
    rw[<- hkp] at k0 hsg
    rw[<- hkn] at k1 hsg
    have HSG:=zh hsg
    clear hkp hkn hsg hbj
    go_upto_region 28 with fail
    have hb:=(Below.refl wr.heap.size wr).alloc (Nat.le_refl _) (.cells #[.string kp,.int .i64 kn] 59)
    have T11:=zh (At.new wr 59 #[.string kp,.int .i64 kn])
    have Y11:=zh (YJ.out.trans (hb.mono YJ.out.size))
    clear hb k0 k1
    generalize wr.alloc (.cells #[.string kp,.int .i64 kn] 59)=w11 at*
    obtain⟨t0,t1⟩:=T11.out.c2
    have hcf:=Vz 43 #[.pointer (some ⟨wr.heap.size,0,none⟩),.pointer (some ⟨ab,0,none⟩)] Tryz.call43 (fun m=>decide (m.pub=kp)&&(ks.map S).any fun a=>decide (a.name=m.name)) (.slice ma mn mc) M w11 (M9.out.below Y11.out) (by rw[HML.out];omega) (fun W x hW=>zfv x wr.heap.size ab kp (.slice va nk vc) (ks.map S) W ((hW.cell (p:=⟨wr.heap.size,0,none⟩) T11.out.lt).trans t0) ((hW.cell (p:=⟨ab,0,none⟩) (A9.out.below Y11.out A9.out.lt).lt).trans ((A9.out.below Y11.out A9.out.lt).cell 0)) ((P9.out.below Y11.out).below hW).tu.out (by rw[<- HNK.out];omega))
    rw[HSG.out] at hcf
    have HCF:=zh hcf
    clear hcf
    go_wp2_with fail
    refine HCF.out.mono ?_
    rintro e w12 ⟨rfl,hb⟩
    have Y12:=zh (Y11.out.trans (hb.mono Y11.out.size));have T12:=zh (T11.out.below hb T11.out.lt)
    clear hb t0 t1 T11
    obtain⟨t0,t1⟩:=T12.out.c2
    by_cases h2:kn=2
    ·have dz:(kn==(2:Int))=true:=by rw[h2]<;>rfl
     rw[decide_eq_true h2]
     clear h2
     go_wp2_with fail
     go_round
     case measure=>simp[intOf];omega
     case rel=>exact⟨j+1,by omega,by go_num,Y12.out⟩
    ·have dz:(kn==(2:Int))=false:=by rw[beq_eq_false_iff_ne];exact h2
     rw[decide_eq_false h2]
     go_wp2_with fail
     go_round
     case measure=>simp[intOf];omega
     case rel=>exact⟨j+1,by omega,by go_num,Y12.out⟩
  have dk:decide ((k:Int)<NW)=true:=zt
  obtain⟨gw,ow,hwa,hgw,hwc⟩:=DI.cell (HW.out.below hb) (i:=k) (by rw[<- HNW.out];exact hlt)
  subst hwa
  obtain⟨xw,hxw⟩:∃ x,x=who.getD k 0:=⟨_,rfl⟩
  rw[<- hxw] at hwc
  have hj:xw%N<l.length:=by rw[HN.out];exact Nat.mod_lt _ (by have:=HN1.out;omega)
  obtain⟨gk,ok,hka,hgk,hkc⟩:=DI.cell (HK.out.below hb) (i:=xw%N) hj
  subst hka
  obtain⟨bk,hbk⟩:∃ x,x=l.getD (xw%N) 0:=⟨_,rfl⟩
  rw[<- hbk] at hkc
  have hbl:bk∈l:=by rw[hbk,List.getD_eq_getElem?_getD,List.getElem?_eq_getElem hj];exact List.getElem_mem _
  have hb256:=HL.out bk hbl
  obtain⟨jn,hjn⟩:∃ x,x=xw%N:=⟨_,rfl⟩
  rw[<- hjn] at hkc hj
  have hmod:((xw:Int)%(N:Int))=(jn:Int):=by rw[hjn];omega
  have hjN:jn<N:=by rw[hjn];exact Nat.mod_lt _ (by have:=HN1.out;have:=HN.out;omega)
  have hx256:xw<256:=by
   rw[hxw]
   have h:k<who.length:=by rw[<- HNW.out];exact hlt
   rw[List.getD_eq_getElem?_getD,List.getElem?_eq_getElem h]
   exact HWH.out _ (List.getElem_mem _)
  have hstep:Own.ksF l (who.take (k+1))=if bk∈ks then ks else ks++[bk]:=by
   rw[Own.zf5 l who k (by rw[<- HNW.out];exact hlt),<- HKS.out,Own.zff,<- HN.out,<- hxw,<- hbk]
  have zfN:=zh hstep;have HBL:=zh hbl
  have hok:OkU (bk:Int):=by
   unfold OkU
   simp[Lit.wf,IntKind.has]
   have h1:IntKind.u8.min=0:=by decide
   have h2:IntKind.u8.max=255:=by decide
   omega
  have hlk:=UR.out.aS (t:=67) (e:=4) Tryz.underlying67 (.bool false) (by rfl) (bk:Int) hok
  rw[Own.zfG] at hlk
  have HOK:=zh hok
  clear hstep hbl hok hxw hbk hjn hb
  by_cases hin:bk∈ks
  ·rw[decide_eq_true hin] at hlk
   have HST:=zh (show Own.ksF l (who.take (k+1))=ks by rw[zfN.out,if_pos hin])
   clear hin
   go_wp2_with fail
   go_round
   case measure=>simp[intOf];omega
   case rel=>exact⟨k+1,_,ks,by omega,by go_num,HST.out.symm,AR.out,PR.out,UR.out.mono (by omega),YR.out⟩
  ·rw[decide_eq_false hin] at hlk
   have HST:=zh (show Own.ksF l (who.take (k+1))=ks++[bk] by rw[zfN.out,if_neg hin])
   clear hin
   have hkm:k<maxLen:=by unfold maxLen;omega
   go_upto_region 18 with (at_mapUpdate;go_must (refine zfK rfl _ _ _ 67 4 rfl Tryz.underlying67 UR.out hkm rfl (bk:Int) (.bool true) rfl rfl HOK.out ?_);intro wN hu2 hg2)
   have zfY:ab≠mb:=by rw[HMB.out];omega
   have kee:∀ {i:Nat},i≠mb->i<wr.heap.size->wN.heap[i]? = wr.heap[i]? :=fun hi hl=>hg2.block _ hl (fun e=>hi (by simpa using e))
   have AN:=zh (show At wN ab 27 #[.slice va nk vc] by unfold At;rw[kee zfY AR.out.lt];exact AR.out)
   have PN:=zh (PR.out.keep (w':=wN) hg2.size (fun j h1 h2=>kee (by rw[HMB.out];omega) h2))
   rw[Own.zfF] at hu2
   have UN:=zh hu2
   have YN:=zh (YR.out.grown hg2 (by rw[HAB.out];exact YR.out.size) (fun i hi=>by cases hi;rw[HMB.out];omega))
   clear hu2 hg2 kee hlk hkm
   obtain⟨A,hA⟩:∃ A,A=S bk:=⟨_,rfl⟩
   have hsg:∀ W,Calls Tryz.prog 41 #[.int .u8 (bk:Int),.int .i64 1,.string msg] W fun e w' => ∃ cv pv,e=.returned (.agg #[.string A.name,.int .i64 A.sig.index,cv,pv])/\w'.ownsRow W.heap.size 9 1 cv 67 (A.sig.chains.map Value.string)/\w'.ownsRow W.heap.size 9 1 pv 1 (A.sig.path.map Value.string)/\Below W.heap.size W w':=fun W=>by
    have h:=Vg bk 1 msg W hb256 (by omega) (by omega)
    rw[hA,HSQ.out,show(Own.Dy 1 msg bk).name=Own.CZ bk from rfl,show(Own.Dy 1 msg bk).sig.index=((1:Nat):Int) from Own.Nc _ _ _]
    exact h
   have hT:(ks++[bk]).map S=ks.map S++[A]:=by rw[List.map_append,hA]<;>rfl
   obtain⟨an,⟨ix,ch,pa⟩⟩:=A
   dsimp only at hsg
   have HSX:=zh hsg;have HT:=zh hT
   clear hsg hT hA
   have a0:=AN.out.c1
   have HX1:=zh (show(wN.cell? ⟨ab,0,none⟩).isSome=true by rw[a0]<;>rfl)
   refine Lex.zn (fun j=>j=ab) [0] 5 [4] ?_
   simp only[Lex.Br,zd]
   go_wp2_with fail
   refine(HSX.out _).mono ?_
   rintro e w5 ⟨cv,pv,rfl,hcv,hpv,hb5⟩
   have hb6:Below wN.heap.size wN w5:=(Below.refl wN.heap.size wN).drew.trans hb5
   obtain⟨ca,cm,cc,rfl⟩:=Ad hcv
   obtain rfl:=Bf hcv
   obtain⟨pa',pm,pc,rfl⟩:=Ad hpv
   obtain rfl:=Bf hpv
   have HB6:=zh hb6
   have HOB:=zh AN.out.lt
   have hwz:ab+2<=wN.heap.size:=by have:=UN.out.lt;rw[HMB.out] at this;omega
   have hb7:Below w5.heap.size w5 (w5.alloc (.cells #[.string an,.int .i64 ix,.slice ca 67 cc,.slice pa' 1 pc] 72)):=zb
   have hb8:=hb6.trans (hb7.mono hb6.size)
   have Y8:=zh (YN.out.trans (hb8.mono (by rw[HAB.out];exact YN.out.size)));have A8:=zh (AN.out.below hb8 AN.out.lt);have U8:=zh (UN.out.below hb8 UN.out.lt)
   obtain⟨css,e1,e2,e3⟩:=PN.out.below hb8
   rw[<- HNK.out] at e2
   obtain⟨za6,z1,z2,z3⟩:=id PN.out
   have eH:∀ j,(Value.slice va nk vc).ownBlock=some j->j<wN.heap.size:=fun j hj=>Own.J8 z2 j hj
   have hsc:Own.JQ (fun j=>ab+2<=j/\(Value.slice va nk vc).ownBlock≠some j) (w5.alloc (.cells #[.string an,.int .i64 ix,.slice ca 67 cc,.slice pa' 1 pc] 72)) (.slice ca 67 cc) ch:=
    Own.JQ.own (own_below hcv hb7) (fun j hj=>by
     have hj2:wN.heap.size<=j:=hj
     exact⟨by omega,fun e=>by have:=eH j e;omega⟩)
   have hsp:Own.JQ (fun j=>ab+2<=j/\(Value.slice va nk vc).ownBlock≠some j) (w5.alloc (.cells #[.string an,.int .i64 ix,.slice ca 67 cc,.slice pa' 1 pc] 72)) (.slice pa' 1 pc) pa:=
    Own.JQ.own (own_below hpv hb7) (fun j hj=>by
     have hj2:wN.heap.size<=j:=hj
     exact⟨by omega,fun e=>by have:=eH j e;omega⟩)
   have E1:=zh e1;have E2:=zh e2;have E3:=zh e3;have HSC:=zh hsc;have HSP:=zh hsp
   have HRW:=zh (CS w5 72 #[.string an,.int .i64 ix,.slice ca 67 cc,.slice pa' 1 pc] 4 1 1 rfl)
   have HGW:=zh (show ab+2<=(w5.alloc (.cells #[.string an,.int .i64 ix,.slice ca 67 cc,.slice pa' 1 pc] 72)).heap.size from Nat.le_trans hwz hb8.size)
   clear hcv hpv hb5 hb6 hb7 hb8 e1 e2 e3 za6 z1 z2 z3 eH hsc hsp
   go_wp2_with fail
   refine Lex.Mid.intro (fun j hj _=>by rw[hj];exact HB6.out.block _ HOB.out) ?_
   go_wp2_with (at_builtin;go_must (refine Ai Mq rfl _ _ rfl (ab+2) nk (.slice va nk vc) css.flatten rfl E2.out (.slice (some ⟨w5.heap.size,0,none⟩) 1 1) 1 [.string an,.int .i64 ix,.slice ca 67 cc,.slice pa' 1 pc] rfl HRW.out (by intro u hu;simp at hu;rcases hu with rfl|rfl|rfl|rfl<;>rfl) (by omega) (by omega) HGW.out ?_);intro v9 w9 ho9 hg9 hw9;obtain⟨ya9,ym9,yc9,rfl⟩:=Ad ho9;have AP9:=zh (Own.Dc.push (x:=⟨an,⟨ix,ch,pa⟩⟩) E1.out (by rw[<- HNK.out];exact E2.out) E3.out HSC.out HSP.out (by rw[<- HNK.out];exact ho9) hg9 hw9);have Y9:=zh (Y8.out.grown hg9 (by rw[HAB.out];exact Y8.out.size) (fun i hi=>by have:=Al E2.out i (by first|exact hi|exact hi.symm);omega));have kee:∀ i,i<ab+2->w9.heap[i]? = (w5.alloc (.cells #[.string an,.int .i64 ix,.slice ca 67 cc,.slice pa' 1 pc] 72)).heap[i]? :=(fun i hi=>hg9.block _ (by have:=HGW.out;omega) (fun e=>by have:=Al E2.out i e.symm;omega));have A9:=zh (show At w9 ab 27 #[.slice va nk vc] by unfold At;rw[kee ab (by omega)];exact A8.out);have U9:=zh (U8.out.keep (w':=w9) (kee mb (by rw[HMB.out];omega)));clear ho9 hg9 hw9 kee;have a9:=A9.out.cell 0;have a9f:=A9.out.free 0;simp only[List.getElem?_toArray,List.getElem?_cons_zero] at a9)
   refine Lex.zk ⟨⟨rfl,HX1.out⟩,trivial⟩ ?_
   go_wp2_with fail
   refine⟨⟨k+1,.slice ya9 ym9 yc9,ks++[bk],by omega,by go_num,HST.out.symm,?_,?_,?_,?_⟩,by simp[intOf];omega⟩
   ·have h:=A9.out.set 0 (.slice ya9 ym9 yc9)
    simpa using h
   ·rw[HT.out]
    exact AP9.out.keep (by simp[World.setCell]) (fun j hj _=>zo (by show j≠ab;omega))
   ·exact U9.out.keep (zo (by show mb≠ab;omega))
   ·exact Y9.out.setCell (p:=⟨ab,0,none⟩) (Nat.le_refl _) _
end
section
open Go Go.ChangeShapes Go.WideShapes Go.RowKit Go.Maps
theorem zfL:Tryz.prog.cellsOf 5=1:=by kernel_rfl
theorem zf6 {H:Type}{enc:TypeId × Value->H}{W:World}{a:Option Addr}{len cap:Nat}{d:DataW H}{p:List MemPlace}(h:DataW.Trod enc Tryz.prog W 0 (fun _=>true) true 66 (.slice a len cap) d p):
 ∃ bs:List Int,zfE W (.slice a len cap) bs:=by
 obtain⟨fuel,hf⟩:=h
 rcases open_ints Tryz.underlying66 Tryz.underlying5 zfL hf with ⟨hcs,_⟩|⟨a',len',cap',zs,hcs,_,hl,hm,hz,hx,hcell,hwz⟩
 ·have e:Value.slice a len cap=.slice none 0 0:=by simpa [Value.cells] using hcs
  rw[e]
  exact⟨[],Bh.nil 0 none,fun b hb=>(by cases hb)⟩
 ·have e:Value.slice a len cap=.slice (some a') len' cap':=by simpa [Value.cells] using hcs
  rw[e]
  have hz' : zs.length=cap':=by simpa using hz
  have hlen:(zs.take len').length=len':=by rw[List.length_take];omega
  refine⟨zs.take len',⟨by rw[List.length_map,Nat.mul_one],some a',cap',by rw[hlen],?_⟩,fun b hb=>?_⟩
  ·rw[hlen]
   by_cases h0:len' = 0
   ·exact .inl h0
   ·have hc0:=hcell 0 (by omega)
    obtain⟨b,o,sp⟩:=a'
    have hspot:sp=none:=by simpa [Addr.add] using World.cell?_spot hc0
    subst hspot
    have ad:∀ q,(⟨b,o,none⟩:Addr).add q=⟨b,o+q,none⟩:=fun q=>by unfold Addr.add;split<;>simp_all
    refine .inr ⟨b,o,rfl,?_,fun j u hj=>?_⟩
    ·rw[ad] at hc0
     exact block_lt hc0
    ·have hjl : j < len' :=by
      have:=(List.getElem?_eq_some_iff.1 hj).1
      rw[List.length_map,hlen] at this
      exact this
     have hc:=hcell j (by omega)
     rw[ad] at hc
     rw[hc]
     rw[List.getElem?_map,List.getElem?_take,if_pos hjl] at hj
     have hjz:j<zs.length:=by omega
     rw[List.getElem?_eq_getElem hjz] at hj
     simp only[Option.map_some,Option.some.injEq] at hj
     rw[<- hj]
     simp[List.getD_eq_getElem?_getD,hjz]
  ·have hw:=hwz b (List.mem_of_mem_take hb)
   simp[Lit.wf,IntKind.has] at hw
   have h1:IntKind.u8.min=0:=by decide
   have h2:IntKind.u8.max=255:=by decide
   omega
section
variable {H:Type} {enc:TypeId × Value->H}
theorem zeU {a:Assume}{C:Checked}{os:Os}{f:FuncId}{fn:Func}{s:ChangeSpec}{conds:List PathCond}{apart fresh handsOn again:Bool}{X:World->Array Value->Prop}
 (hX:∀ (w w' : World) (args:Array Value),w.heap=w'.heap->X w args->X w' args)
 (own:ownKnob C.prog.godebug=none) (started:os.Started) (noInit:C.prog.inits.idxOf? f=none) (hfn:C.prog.funcs[f]? = some fn)
 (witness : ∃ (w : World) (tape : Tape) (i : Input),w.os = os ∧ (w.forCall tape i).Shaped C.prog ∧ i.vars = [] ∧ Input.okWide C.prog (w.forCall tape i) .any w.heap.size f i ∧
   ((s.pre enc C.prog fn conds apart (w.forCall tape i).memory i.args/\X (w.forCall tape i).memory i.args)/\sizedMet enc C.prog fn (OpenSpec.ofChange s) apart (w.forCall tape i).memory i.args)/\a.holds C.prog (lone (Frame.enter C.prog f i.args .normal) [] (w.forCall tape i)))
 (contract : ∀ (W : World) (base : Nat) (args : Array Value) (ds gs : List (DataW H)) (before : List MemPlace),
   (∀ (j:Nat) t v,fn.params[j]? = some t->args[j]? = some v->Value.okWide C.prog W .any base t v)->
   DataW.Whole enc C.prog fn.params.toList s.vars apart W args.toList ds gs before->
   conds.all (PathCond.test C.prog ⟨fn.params.toList,ds,s.plain.varTypes C.prog,gs⟩)=true->
   (DataW.weightsEach C.prog (fn.params.toList++s.plain.varTypes C.prog) (ds++gs)).all (· <= reachBytes)=true->X W args->W.ShapedOpen C.prog->
   a.holds C.prog (lone (Frame.enter C.prog f args .normal) [] W)->
   Calls C.prog f args W fun e W' => ∃ v,e=.returned v/\s.post enc C.prog fn apart fresh handsOn again W args v W'):
 ReturnsInHanded a C os f .any (fun w args=>(s.pre enc C.prog fn conds apart w args/\X w args)/\sizedMet enc C.prog fn (OpenSpec.ofChange s) apart w args) (s.post enc C.prog fn apart fresh handsOn again):=by
 refine returnsInHanded_of_calls own started noInit witness ?_
 intro w tape i _ hsh _ hok hpre hholds
 obtain⟨_,_,_,fn',hfn',_,_,_,_,hval⟩:=hok
 have e:fn' = fn:=Option.some.inj (hfn'.symm.trans hfn)
 subst e
 obtain⟨⟨⟨ds,gs,before,hw,hc⟩,hx⟩,hz⟩:=hpre
 have hw':=DataW.Whole.of_heap (w':=w.forCall tape i) (by rfl) hw
 refine(contract (w.forCall tape i) w.heap.size i.args ds gs before hval hw' hc (hz.weights hw) (hX _ _ _ (by rfl) hx) hsh hholds).mono fun e W' ⟨v,he,hp⟩=>?_
 subst he
 exact ChangeSpec.post_blind hp
theorem zfM {W:World}(h:W.ShapedOpen Tryz.prog):IY W:=
 Go.Proofs.cell_of_shapedOpen_int (zero:=#[.int .i64 0]) (t:=3) h (of_decide_eq_true (by kernel_rfl)) (by kernel_rfl) rfl (by kernel_rfl) (by kernel_rfl) Tryz.underlying3
end
end
section
open Go Go.ChangeShapes Go.WideShapes Go.RowKit Go.Maps
section
variable {H:Type} {enc:TypeId × Value->H}
theorem zfQ {W:World}{base:Nat}{sp:Nat->Bool}{v:Value}{d:DataW H}{ps:List MemPlace}(hval:Value.okWide Tryz.prog W .any base 9 v)(h:DataW.Trod enc Tryz.prog W 0 sp true 9 v d ps)(hz:(d.weights Tryz.prog 9).all (· <= reachBytes)=true):
 ∃ s:ByteArray,v=.string s/\s.size<=140737488355328:=by
 obtain⟨s,rfl,rfl,_,_⟩:=ChangeMaps.open_string Tryz.underlying9 hval h
 refine⟨s,rfl,?_⟩
 simp only[DataW.weights,List.all_cons,List.all_nil,Bool.and_true,decide_eq_true_eq,Array.length_toList] at hz
 unfold reachBytes at hz
 have e:s.size=s.data.size:=rfl
 omega
end
end
section
open Go Go.ChangeShapes Go.WideShapes Go.ChangeAt Go.RowKit
theorem zfz:ownKnob Tryz.prog.godebug=none:=by kernel_rfl
theorem zeX:laidOutB Tryz.prog=true:=by kernel_rfl
theorem zfg (os:Os)(started:os.Started)(H:Type)(enc:TypeId × Value->H):
 ReturnsInHanded {} Tryz.checked os 8 .any (fun w args=>(Rows.ownersQuorumSpec.pre enc Tryz.prog Tryz.f8 Rows.ownersQuorumRow.domain false w args/\laidMetH Tryz.prog Rows.ownersQuorumRow.laid w)/\sizedMet enc Tryz.prog Tryz.f8 (OpenSpec.ofChange Rows.ownersQuorumSpec) false w args)
  (Rows.ownersQuorumSpec.post enc Tryz.prog Tryz.f8 false true false false):=by
 refine zeU (C:=Tryz.checked) (X:=fun w _=>laidMetH Tryz.prog Rows.ownersQuorumRow.laid w) (fun _ _ _ hh h=>h.of_heap hh) zfz started (by kernel_rfl) Tryz.func8
  (ChangeSpec.witness_shaped (enc :=enc) (C :=Tryz.checked) (os :=os) (X :=fun w _ => laidMetH Tryz.prog Rows.ownersQuorumRow.laid w) false (World.laidAll Tryz.prog os Rows.ownersQuorumRow.laid) #[.slice none 0 0,.int .u8 0,.slice none 0 0,.string ⟨#[]⟩] 8 (World.laidAll_os _ _ _)
    (World.shaped_of_ZipB (by kernel_rfl) (by kernel_rfl)) (by kernel_rfl) (by kernel_rfl) (by kernel_rfl)
    (by rw[MakeChecks.laidMetH_plain _ _ _ (by kernel_rfl)];exact laidMet_laidAll _ (by kernel_rfl) (by kernel_rfl))) ?_
 intro W base args ds gs before hval0 hW _ hz0 _ hsh _
 have hM:=zfM hsh
 have hval:∀ (j:Nat) t v,Tryz.f8.params[j]? = some t->args[j]? = some v->Value.okWide Tryz.prog W .any base t v:=hval0
 have hW':=hW
 obtain⟨p,q,hA0,hV,rfl,_,_⟩:=hW
 have hA:DataW.TrodAll enc Tryz.prog W 0 (fun _=>true) true Tryz.f8.params.toList args.toList ds p:=hA0
 rw[Tryz.params8] at hA hval
 obtain⟨v0,v1,v2,v3,d0,d1,d2,d3,p0,p1,p2,p3,rfl,rfl,rfl,h0,h1,h2,h3⟩:=trodAll_four hA
 obtain⟨rfl,rfl⟩:=trodVars_none hV
 obtain⟨x1,rfl,rfl,rfl,wx1⟩:=open_int Tryz.underlying5 (hval 1 5 v1 rfl rfl) h1
 have hx1:0<=x1/\x1<256:=by
  have:=wx1
  simp[Lit.wf,IntKind.has] at this
  have h1:IntKind.u8.min=0:=by decide
  have h2:IntKind.u8.max=255:=by decide
  omega
 have e0:DataW.weightsEach Tryz.prog (Tryz.f8.params.toList++Rows.ownersQuorumSpec.plain.varTypes Tryz.prog) ([d0,DataW.lit (.int .u8 x1),d2,d3]++[])=d0.weights Tryz.prog 66++(d2.weights Tryz.prog 66++(d3.weights Tryz.prog 9++[])):=by
  rw[Tryz.params8]
  rfl
 have hz0:=e0 ▸ hz0
 simp only[List.all_append,List.all_nil,Bool.and_true,Bool.and_eq_true] at hz0
 obtain⟨a0,ze8,cap0,rfl⟩:=okWide_slice Tryz.underlying66 (hval 0 66 v0 rfl rfl)
 obtain⟨bs0,zfZ⟩:=zf6 h0
 obtain⟨a2,len2,cap2,rfl⟩:=okWide_slice Tryz.underlying66 (hval 2 66 v2 rfl rfl)
 obtain⟨bs2,zga⟩:=zf6 h2
 obtain⟨s3,rfl,zgb⟩:=zfQ (hval 3 9 v3 rfl rfl) h3 hz0.2.2
 have e1:Rows.ownersQuorumSpec.fn H ([d0,.lit (.int .u8 x1),d2,d3]++[]) = { results:=[.lit (.bool true)],args:=[d0,.lit (.int .u8 x1),d2,d3] } :=by simp[Rows.ownersQuorumSpec]
 refine(zfy (.slice a0 ze8 cap0) (.slice a2 len2 cap2) bs0 bs2 x1 s3 W hM zfZ hx1 zga zgb).mono fun e W' ⟨he,hb⟩=>?_
 subst he
 refine⟨_,rfl,_,_,_,[],p0++([]++(p2++(p3++[]))),[],by simpa using hW',?_,?_,?_,hb.frame _,fun h=>by cases h⟩
 ·rw[e1];exact trodAll_mk1 (shut_bool Tryz.underlying4 true)
 ·rw[e1];exact(trodAll_cons_mk (Below.trod zeX (by kernel_rfl) (of_decide_eq_true (by kernel_rfl)) h0 hb (fun z hz=>hW'.lt z (by simp[hz]))) (trodAll_cons_mk (shut_int Tryz.underlying5 wx1) (trodAll_cons_mk (Below.trod zeX (by kernel_rfl) (of_decide_eq_true (by kernel_rfl)) h2 hb (fun z hz=>hW'.lt z (by simp[hz]))) (trodAll_cons_mk (Below.trod zeX (by kernel_rfl) (of_decide_eq_true (by kernel_rfl)) h3 hb (fun z hz=>hW'.lt z (by simp[hz]))) trodAll_mk0))))
 ·rw[e1];rfl
theorem zfj:Rows.OwnersQuorumSaid:=
 OpenClaim.holds_of_wide 8 Tryz.f8 rfl rfl rfl rfl rfl rfl rfl ⟨rfl,rfl,rfl,rfl,rfl⟩ rfl rfl rfl rfl rfl (by kernel_rfl) Tryz.func8 (by kernel_rfl)
  (of_decide_eq_true (by kernel_rfl)) (by unfold Func.isWrapper;first|(rw[if_pos (by decide +kernel)];kernel_rfl)|(rw[if_neg (by decide +kernel)];exact⟨rfl,rfl⟩))
  (fun os started H enc _=>zfg os started H enc)
theorem oquorum_card:Rows.OwnersQuorumCardSaid:=
 Claim7.holds_tied_plain_at .later [] [.data,.pinned] true Rows.ownersQuorumCard.stood.harness false zfj (fun _ h=>by cases h) (by kernel_rfl) (fun _ h=>by cases h) ownersQuorum_row_tie rfl ⟨rfl,rfl⟩ (by kernel_rfl) rfl
  (fun f fn hf hfn => by
    obtain rfl : f = 8 := Option.some.inj ((show Tryz.prog.funcNamed "modcert/modcertlaw53.OwnersQuorum" = some 8 by kernel_rfl).symm.trans hf) |>.symm
    obtain rfl:fn=Tryz.f8:=(Option.some.inj (Tryz.func8.symm.trans hfn)).symm
    exact⟨by kernel_rfl,fun j t ht=>by
     rw[Tryz.params8] at ht
     have hm:t∈[66,5,66,9]:=by simpa using Array.mem_of_getElem? ht
     have hall:([66,5,66,9].all fun u => !Tryz.prog.wantsStandIn u)=true:=by kernel_rfl
     exact(show Tryz.prog.wantsStandIn t=false by simpa using List.all_eq_true.1 hall t hm)⟩)
  (by kernel_rfl)
end
end Go.Proofs.YtjlmglgmcekmhaaGreatDoor
