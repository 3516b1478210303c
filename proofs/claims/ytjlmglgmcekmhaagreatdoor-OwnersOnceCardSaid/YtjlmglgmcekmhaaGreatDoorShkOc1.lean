/- The program's owners: Authority. -/
import Derived.WalkKit
import Derived.WalkSpells
import Derived.WalkLawsBesides
import Derived.Deep.Draws
import Derived.Deep.AppendLies
import Derived.Maps.AppendAt
import Derived.Lib.Hide
import Derived.Maps.OwnSet
import Derived.Lib.Bytes
import Derived.Laws.BytesArg
import Derived.Lib.Split
import Derived.Lib.SplitLaws
import Derived.Laws.EntriesVeiled
import Derived.Test.YtjlmglgmcekmhaaGreatDoorChecked
import Derived.BigQuiet
import Derived.Deep.QuietTactic
import Derived.Lib.SlBytesRow
import Derived.KernelRfl
import Derived.NoCompiler
import Derived.StillTail
import Derived.Laws.ResultCell
import Derived.Deep.MidRow
import Derived.Deep.RegionHeld3
import Derived.Deep.DrawnRows
import Derived.Deep.Cut
import Derived.StillTailTactics
import Derived.Deep.RegionLaw
import Derived.Shelf.Strings.Builder1
import Derived.Shelf.Strings.Builder2
import Derived.Shelf.Strings.OnBuilder
import Derived.Shelf.Small.Utf8
import Derived.Shelf.Small.Bits
import Derived.Shelf.Small.Strs
import Derived.Shelf.Strings.BuilderF
import Derived.Shelf.Strings.BuilderK
import Derived.Shelf.Utf8.RuneCount
import Derived.Shelf.Strings.Builder2Cap
import Derived.Shelf.Strconv.Itoa0
import Derived.Shelf.LaysM
import Derived.Shelf.Strconv.Clone
import Derived.Shelf.Strings.Search1
import Derived.Shelf.Strings.Search2
import Derived.Shelf.Strings.Search3
import Derived.Shelf.Strings.Count
import Derived.Shelf.Strings.Shaped
import Derived.Shelf.Strings.Prefix
import Derived.Shelf.Strings.Split
import Derived.Shelf.Strings.SplitShaped
import Derived.Shelf.Unicode.Decode
import Derived.Shelf.Strings.Runes
import Derived.Shelf.Strings.RuneCount
import Derived.Shelf.Strings.Explode
import Derived.Shelf.Bits.Mul64
import Derived.Shelf.Strings.Repeat
import Derived.Shelf.Unicode.DecodeSlow
import Derived.Shelf.Unicode.DecodeAny
import Derived.Shelf.Strings.BuilderCap
import Derived.Shelf.Slices.Turned
import Derived.Ground.SlgnProg
import Derived.Shelf.SlicesE.Index
import Derived.Shelf.SlicesE.Clone
import Derived.Ground.SlgfProg
import Derived.Shelf.SlicesE.IndexFunc
import Derived.Shelf.SlicesQ.IndexFunc
import Derived.Test.YtjlmglgmcekmhaaGreatDoorProg
import Derived.Maps.RangeWalk
import Derived.StringKeys
import Derived.Deep.DeepCutAuto
import Derived.Lib.EndianBits
import Derived.OwnWalk
import Derived.Laws.BitsLemmas
import Derived.Laws.AppendOwn
import Derived.Deep.AppendSrc
import Derived.Lib.ConvBytes
import Derived.Lib.Overlaps
import Derived.Laws.Externs
import Derived.Lib.AppendZeros
import Derived.Laws.IdiomCopy
import Derived.Laws.CopyRow
import Derived.Lib.OthersKept
import Derived.Deep.LoopGhost
import Derived.OrdersIn
import Derived.RangeFuncCalls
import Derived.TacticsIn
import Derived.RangeFuncNested
import Derived.RangeFuncBound
import Derived.RangeFuncLeaves
import Derived.OwnWalkIn
import Derived.TacticsInMore
import Derived.LoopNIn
import Derived.LoopIn
import Derived.Lib.Builder
import Derived.Lib.FrozenHead
import Derived.Lib.AppendStr
import Derived.Lib.SliceRun
import Derived.ProofKit
import Derived.OpenShut
import Derived.Deep.Strs
import Derived.Deep.SlicePairs
import Derived.ChangeMaps5
import Derived.ChangeSlices
import Derived.HandedShaped
import Derived.SliceStrings
import Derived.Stop.Joined
import Derived.Test.YtjlmglgmcekmhaaGreatDoorRows
import Derived.Test.YtjlmglgmcekmhaaGreatDoorCards
import Derived.Test.YtjlmglgmcekmhaaGreatDoorTie
import Derived.LaidMore
import Derived.Lay
import Derived.SevenTiedAt
import Derived.Test.YtjlmglgmcekmhaaGreatDoorShkB1
import Derived.Test.YtjlmglgmcekmhaaGreatDoorShkB2
import Derived.Test.YtjlmglgmcekmhaaGreatDoorShkB3
import Derived.Test.YtjlmglgmcekmhaaGreatDoorShkB4
import Derived.Test.YtjlmglgmcekmhaaGreatDoorShkB5
import Derived.Test.YtjlmglgmcekmhaaGreatDoorShkB6
import Derived.Test.YtjlmglgmcekmhaaGreatDoorShkB7
import Derived.Test.YtjlmglgmcekmhaaGreatDoorShkB8
import Derived.Test.YtjlmglgmcekmhaaGreatDoorShkB9
import Derived.Test.YtjlmglgmcekmhaaGreatDoorShkB10
import Derived.Test.YtjlmglgmcekmhaaGreatDoorShkB11
import Derived.Test.YtjlmglgmcekmhaaGreatDoorShkB12
import Derived.Test.YtjlmglgmcekmhaaGreatDoorShkB13
set_option linter.unusedVariables false
set_option linter.unusedSimpArgs false
set_option maxRecDepth 100000
set_option maxHeartbeats 4000000
namespace Go.Proofs.YtjlmglgmcekmhaaGreatDoor
section
open Go Go.RowKit Go.Maps
namespace Own
theorem zeL (s:ByteArray):∀ (l:List Space) (b:Option Space) (x:Space),CW s b l=some x->x∈l\/b=some x
 | [],b,x,h=>.inr h
 | y :: l,b,x,h => by
   rw[Nf] at h
   rcases zeL s l _ x h with h|h
   ·exact .inl (List.mem_cons_of_mem _ h)
   ·unfold TM at h
    split at h
    ·cases h;exact .inl List.mem_cons_self
    ·exact .inr h
theorem zeJ {o:Ar}{s:ByteArray}{x:Space}(h:authority o s=some x):x∈o.spaces:=by
 unfold authority at h
 split at h
 ·rcases zeL s _ _ x h with h|h
  ·exact h
  ·cases h
 ·cases h
end Own
namespace Own
end Own
namespace Own
end Own
def zfi (X:Nat->Prop)(w:World)(o:Own.Ar)(n th:Int)(R:Except Int (List Own.KeyUse))(e:Ending)(w' : World):Prop:=
 (match R with
   | .error c=>e=.returned (.tuple #[Own.nobody,.int .i64 c])
   | .ok K=>if n<th then e=.returned (.tuple #[Own.nobody,.int .i64 20]) else ∃ sv kv,e=.returned (.tuple #[.agg #[.int .i64 o.count,sv,kv],.int .i64 0])/\Au 3 Own.Fu (fun k=>¬ X k) w' sv o.spaces/\Au 2 Own.fG (fun k=>¬ X k) w' kv K)/\Below w.heap.size w w'
theorem zeK (X:Nat->Prop)(o:Own.Ar)(s:Own.Space)(msg:ByteArray)(l:List Own.Aj)(sv kv mv lv:Value)(w:World)(hX:∀ k,X k->k<w.heap.size)(hS:Au 3 Own.Fu (fun k=>¬ X k) w sv o.spaces)(hK:Own.D9 w kv o.keys)(hm:Own.Ag w mv s.members)(hA:Own.Iy w lv l)
 (hsrt:Own.Srt Own.KeyUse.pub o.keys) (hls:o.spaces.length<=3000000) (hlk:o.keys.length+l.length<=900000) (hlm:∀ s∈o.spaces,s.members.length<=3000000) (hml:s.members.length<=3000000) (Kr:msg.size<=9223372036854775000)
 (hal:∀ a∈l,a.name.size<=140737488355328/\a.sig.chains.length<=140737488355328/\a.sig.path.length<=140737488355328):
 Calls Tryz.prog 97 #[.agg #[.int .i64 o.count,sv,kv],.agg #[.string s.pre,mv,.int .i64 s.threshold],.string msg,lv] w (zfi X w o l.length s.threshold (Own.Bp s msg [] o.keys l)):=by
 refine(Uc o s msg l sv kv mv lv w (hS.mono (fun _ _ _=>trivial)) hK hm hA hsrt hls hlk hlm hml Kr hal).mono ?_
 rintro e w' ⟨h,hb⟩
 refine⟨?_,hb⟩
 cases hr:Own.Bp s msg [] o.keys l with
 | error c=>rw[hr] at h;exact h
 | ok K =>
   rw[hr] at h
   show if _ then _ else _
   have h:if (l.length:Int)<s.threshold then _ else _:=h
   by_cases ht:(l.length:Int)<s.threshold
   ·rw[if_pos ht] at h ⊢;exact h
   ·rw[if_neg ht] at h ⊢
    obtain⟨sv',kv',us,he,hs,hk⟩:=h
    have up:∀ k,w.heap.size<=k->¬ X k:=fun k hk hx=>by have:=hX k hx;omega
    exact⟨sv',kv',he,hs.list up,Cx (enc:=Own.DJ) (fun _=>rfl) (fun _=>rfl) (Bh.own hk) rfl (fun k hk2=>up k (Al hk k hk2))⟩
end
section
open Go
namespace Own
def ze1 (o:Ar)(s msg:ByteArray)(l:List Aj):Except Int (List KeyUse):=
 if Bz o then
  match authority o s with
  | none=>.error 6
  | some x => match Bp x msg [] o.keys l with
    | .error c=>.error c
    | .ok K=>if (l.length:Int)<x.threshold then .error 20 else .ok K
 else .error 1
end Own
end
section
open Go Go.RowKit Go.Maps
namespace Own
theorem zeO {o:Ar}(h:Bz o=true):Srt KeyUse.pub o.keys:=by
 unfold Bz at h
 simp only[Bool.and_eq_true] at h
 exact(Jz (f:=KeyUse.pub) h.2).1
end Own
def zeD (X:Nat->Prop)(w:World)(o:Own.Ar)(R:Except Int (List Own.KeyUse))(e:Ending)(w' : World):Prop:=
 (match R with
   | .error c=>e=.returned (.tuple #[Own.nobody,.int .i64 c])
   | .ok K=>∃ sv kv,e=.returned (.tuple #[.agg #[.int .i64 o.count,sv,kv],.int .i64 0])/\Au 3 Own.Fu (fun k=>¬ X k) w' sv o.spaces/\Au 2 Own.fG (fun k=>¬ X k) w' kv K)/\Below w.heap.size w w'
theorem zeF (X:Nat->Prop)(o:Own.Ar)(s msg:ByteArray)(l:List Own.Aj)(sv kv lv:Value)(w:World)(hX:∀ k,X k->k<w.heap.size)(hMx:IW w)(hSx:Au 3 Own.Fu (fun k=>¬ X k) w sv o.spaces)(hK:Own.D9 w kv o.keys)(hA:Own.Iy w lv l)
 (hls:o.spaces.length<=3000000) (hlk:o.keys.length+l.length<=900000) (hlm:∀ s∈o.spaces,s.members.length<=3000000) (Kr:msg.size<=9223372036854775000)
 (hal:∀ a∈l,a.name.size<=140737488355328/\a.sig.chains.length<=140737488355328/\a.sig.path.length<=140737488355328):
 Calls Tryz.prog 39 #[.agg #[.int .i64 o.count,sv,kv],.string s,.string msg,lv] w (zeD X w o (Own.ze1 o s msg l)):=by
 obtain⟨R,hR⟩:∃ R,R=Own.ze1 o s msg l:=⟨_,rfl⟩
 obtain⟨Q,hQ⟩:∃ Q,Q=zeD X w o R:=⟨_,rfl⟩
 rw[<- hR,<- hQ]
 have HQ:=zh hQ;have HR:=zh hR;clear hQ hR
 obtain⟨sa,sc,rfl⟩:=hSx.len
 have hS:Own.BH w (.slice sa o.spaces.length sc) o.spaces:=hSx.mono (fun _ _ _=>trivial)
 have HSX:=zh hSx;clear hSx
 obtain⟨ka,kc,rfl⟩:=hK.len
 obtain⟨la,lc,rfl,hap⟩:=id hA
 clear hap
 have ha0:=(At.new w 25 #[.int .i64 o.count,.slice sa o.spaces.length sc,.slice ka o.keys.length kc]).alloc (.cells #[.int .i64 0,.slice none 0 0,.slice none 0 0] 25)
 have ha1:=At.new1 w (.cells #[.int .i64 o.count,.slice sa o.spaces.length sc,.slice ka o.keys.length kc] 25) 25 #[.int .i64 0,.slice none 0 0,.slice none 0 0]
 have hb1:Below w.heap.size w ((w.alloc (.cells #[.int .i64 o.count,.slice sa o.spaces.length sc,.slice ka o.keys.length kc] 25)).alloc (.cells #[.int .i64 0,.slice none 0 0,.slice none 0 0] 25)):=zb.alloc (by simp) _
 have hz1:((w.alloc (.cells #[.int .i64 o.count,.slice sa o.spaces.length sc,.slice ka o.keys.length kc] 25)).alloc (.cells #[.int .i64 0,.slice none 0 0,.slice none 0 0] 25)).heap.size=w.heap.size+2:=by simp
 obtain⟨c0,c1,c2⟩:=ha0.c3
 have HS:=zh hS;have HK:=zh hK;have HA:=zh hA;have HMX:=zh hMx;have A0:=zh ha0;have A1:=zh ha1;have B1:=zh hb1;have HLM:=zh hlm;have HAL:=zh hal
 clear hS hK hA hMx ha0 ha1 hb1 hlm hal
 go_enter Tryz.func39,Tryz.ntmps39
 go_wp2_with fail
 generalize (w.alloc (.cells #[.int .i64 o.count,.slice sa o.spaces.length sc,.slice ka o.keys.length kc] 25)).alloc (.cells #[.int .i64 0,.slice none 0 0,.slice none 0 0] 25)=w1 at*
 refine(KL o _ _ w1 (HMX.out.below B1.out) (HS.out.below B1.out) (HK.out.below B1.out) (by omega) (by omega) (fun s hs=>by have:=HLM.out s hs;omega)).mono ?_
 rintro e w2 ⟨rfl,hb2⟩
 have A02:=zh (A0.out.below hb2 (by omega));have A12:=zh (A1.out.below hb2 (by omega));have B2:=zh (B1.out.trans (hb2.mono B1.out.size))
 have hz2:=hb2.size
 obtain⟨y0,y1,y2⟩:=A02.out.c3
 clear hb2 A0 A1 B1 c0 c1 c2
 cases hv:Own.Bz o with
 | false =>
   have e:R=.error 1:=by rw[HR.out,Own.ze1,if_neg (by rw[hv];simp)]
   have HE:=zh e
   have TW:=A12;have TB:=B2
   have x0:=TW.out.cell 0;have x1:=TW.out.cell 1;have x2:=TW.out.cell 2;have x3:=TW.out.free 0;have x4:=TW.out.free 1;have x5:=TW.out.free 2
   simp only[zg] at x0 x1 x2
   clear e hv
   go_wp2_with fail
   have F2:=((TW.out.set 0 (.int .i64 0)).set 1 (.slice none 0 0)).set 2 (.slice none 0 0)
   refine BM rfl rfl rfl (AQ F2 Tryz.underlying25 rfl Bv) ?_
   rw[HQ.out,HE.out]
   exact⟨rfl,((TB.out.setCell (p:=⟨w.heap.size+1,0,none⟩) (by simp) _).setCell (p:=⟨w.heap.size+1,1,none⟩) (by simp) _).setCell (p:=⟨w.heap.size+1,2,none⟩) (by simp) _⟩
 | true=>
 have hR2:R=(match Own.authority o s with
  | none=>.error 6
  | some x => match Own.Bp x msg [] o.keys l with
    | .error c=>.error c
    | .ok K=>if (l.length:Int)<x.threshold then .error 20 else .ok K):=by rw[HR.out,Own.ze1,if_pos hv]<;>rfl
 have HR2:=zh hR2;have zdv:=zh (Own.zeO hv);have HOK:=zh (Own.OK.of hv)
 clear hR2 hv
 go_wp2_with fail
 refine(PX o s _ _ w2 (HMX.out.below B2.out) (HS.out.below B2.out) (HK.out.below B2.out) (by omega) (by omega) (fun s hs=>by have:=HLM.out s hs;omega)).mono ?_
 intro e w3 hpost
 obtain⟨hval,hb3⟩:=hpost
 have A03:=zh (A02.out.below hb3 (by omega));have A13:=zh (A12.out.below hb3 (by omega));have B3:=zh (B2.out.trans (hb3.mono B2.out.size))
 have hz3:=hb3.size
 clear hb3 A02 A12 B2 y0 y1 y2
 cases hau:Own.authority o s with
 | none =>
   rw[hau] at hval
   have Nz:e=.returned (.tuple #[.agg #[.string ⟨#[]⟩,.slice none 0 0,.int .i64 0],.bool false]):=hval
   subst Nz
   have e:R=.error 6:=by rw[HR2.out,hau]
   have HE:=zh e
   have TW:=zh (A13.out.alloc (.cells #[.string ⟨#[]⟩,.slice none 0 0,.int .i64 0] 39));have TB:=zh (B3.out.alloc B3.out.size (.cells #[.string ⟨#[]⟩,.slice none 0 0,.int .i64 0] 39))
   have x0:=TW.out.cell 0;have x1:=TW.out.cell 1;have x2:=TW.out.cell 2;have x3:=TW.out.free 0;have x4:=TW.out.free 1;have x5:=TW.out.free 2
   simp only[zg] at x0 x1 x2
   clear e hau hval
   go_wp2_with fail
   have F2:=((TW.out.set 0 (.int .i64 0)).set 1 (.slice none 0 0)).set 2 (.slice none 0 0)
   refine BM rfl rfl rfl (AQ F2 Tryz.underlying25 rfl Bv) ?_
   rw[HQ.out,HE.out]
   exact⟨rfl,((TB.out.setCell (p:=⟨w.heap.size+1,0,none⟩) (by simp) _).setCell (p:=⟨w.heap.size+1,1,none⟩) (by simp) _).setCell (p:=⟨w.heap.size+1,2,none⟩) (by simp) _⟩
 | some sp=>
 rw[hau] at hval
 obtain⟨mv,rfl,hom⟩:=hval
 have hmem:=Own.zeJ hau
 have hR3:R=(match Own.Bp sp msg [] o.keys l with
  | .error c=>.error c
  | .ok K=>if (l.length:Int)<sp.threshold then .error 20 else .ok K):=by rw[HR2.out,hau]
 obtain⟨ma,mm,mc,rfl⟩:=Ad hom
 obtain rfl:=Bf hom
 have hb4:Below w3.heap.size w3 (w3.alloc (.cells #[.string sp.pre,.slice ma sp.members.length mc,.int .i64 sp.threshold] 39)):=zb
 have hz4:(w3.alloc (.cells #[.string sp.pre,.slice ma sp.members.length mc,.int .i64 sp.threshold] 39)).heap.size=w3.heap.size+1:=World.size_alloc _ _
 have hmc:Own.Ag (w3.alloc (.cells #[.string sp.pre,.slice ma sp.members.length mc,.int .i64 sp.threshold] 39)) (.slice ma sp.members.length mc) sp.members:=(Own.Ag.of (Bh.own hom) rfl).below hb4
 have B4:=zh (B3.out.trans (hb4.mono B3.out.size));have A04:=zh (A03.out.below hb4 (by omega));have A14:=zh (A13.out.below hb4 (by omega))
 have hap:=zeK (fun k=>X k\/(w.heap.size<=k/\k<w.heap.size+2)) o sp msg l (.slice sa o.spaces.length sc) (.slice ka o.keys.length kc) (.slice ma sp.members.length mc) (.slice la l.length lc) _ (fun k hk=>by rcases hk with hk|hk;have:=hX k hk;omega;omega) ((HSX.out.mono (G:=fun k=>¬ (X k\/(w.heap.size<=k/\k<w.heap.size+2))) (fun k hx hk h=>h.elim hx (fun h=>by omega))).below B4.out) (HK.out.below B4.out) hmc (HA.out.below B4.out) zdv.out hls hlk HLM.out (HLM.out sp hmem) Kr HAL.out
 obtain⟨y0,y1,y2⟩:=A04.out.c3
 have HAP:=zh hap;have HR3:=zh hR3
 clear hap hR3 hau hmem hom hb4 hmc HR2 A03 A13 B3
 go_wp2_with fail
 refine HAP.out.mono ?_
 intro e w5 hpost
 obtain⟨hval,hb5⟩:=hpost
 have TW:=zh (A14.out.below hb5 (by omega));have TB:=zh (B4.out.trans (hb5.mono B4.out.size))
 have hz5:=hb5.size
 clear hb5 A04 A14 B4 y0 y1 y2 HAP
 have x0:=TW.out.cell 0;have x1:=TW.out.cell 1;have x2:=TW.out.cell 2;have x3:=TW.out.free 0;have x4:=TW.out.free 1;have x5:=TW.out.free 2
 simp only[zg] at x0 x1 x2
 cases hf:Own.Bp sp msg [] o.keys l with
 | error c =>
   rw[hf] at hval
   have Nz:e=.returned (.tuple #[Own.nobody,.int .i64 c]):=hval
   subst Nz
   have e:R=.error c:=by rw[HR3.out,hf]
   have HE:=zh e
   unfold Own.nobody
   clear e hf hval
   go_wp2_with fail
   have F2:=((TW.out.set 0 (.int .i64 0)).set 1 (.slice none 0 0)).set 2 (.slice none 0 0)
   refine BM rfl rfl rfl (AQ F2 Tryz.underlying25 rfl Bv) ?_
   rw[HQ.out,HE.out]
   exact⟨rfl,((TB.out.setCell (p:=⟨w.heap.size+1,0,none⟩) (by simp) _).setCell (p:=⟨w.heap.size+1,1,none⟩) (by simp) _).setCell (p:=⟨w.heap.size+1,2,none⟩) (by simp) _⟩
 | ok K =>
   rw[hf] at hval
   by_cases hth:(l.length:Int)<sp.threshold
   ·have Nz : e = .returned (.tuple #[Own.nobody,.int .i64 20]) :=by
     have h:if (l.length:Int)<sp.threshold then e=.returned (.tuple #[Own.nobody,.int .i64 20]) else _:=hval
     rw[if_pos hth] at h
     exact h
    subst Nz
    have e:R=.error 20:=by rw[HR3.out,hf];exact if_pos hth
    have HE:=zh e
    unfold Own.nobody
    clear e hf hval
    go_wp2_with fail
    have F2:=((TW.out.set 0 (.int .i64 0)).set 1 (.slice none 0 0)).set 2 (.slice none 0 0)
    refine BM rfl rfl rfl (AQ F2 Tryz.underlying25 rfl Bv) ?_
    rw[HQ.out,HE.out]
    exact⟨rfl,((TB.out.setCell (p:=⟨w.heap.size+1,0,none⟩) (by simp) _).setCell (p:=⟨w.heap.size+1,1,none⟩) (by simp) _).setCell (p:=⟨w.heap.size+1,2,none⟩) (by simp) _⟩
   ·have Nz : ∃ sv kv,e = .returned (.tuple #[.agg #[.int .i64 o.count,sv,kv],.int .i64 0]) ∧ Au 3 Own.Fu (fun k => ¬ (X k ∨ (w.heap.size ≤ k ∧ k < w.heap.size + 2))) w5 sv o.spaces ∧ Au 2 Own.fG (fun k => ¬ (X k ∨ (w.heap.size ≤ k ∧ k < w.heap.size + 2))) w5 kv K :=by
     have h:if (l.length:Int)<sp.threshold then _ else ∃ sv kv,e=.returned (.tuple #[.agg #[.int .i64 o.count,sv,kv],.int .i64 0])/\Au 3 Own.Fu (fun k=>¬ (X k\/(w.heap.size<=k/\k<w.heap.size+2))) w5 sv o.spaces/\Au 2 Own.fG (fun k=>¬ (X k\/(w.heap.size<=k/\k<w.heap.size+2))) w5 kv K:=hval
     rw[if_neg hth] at h
     exact h
    obtain⟨sv2,kv2,rfl,hs2,hk2⟩:=Nz
    have e:R=.ok K:=by rw[HR3.out,hf];exact if_neg hth
    have HE:=zh e;have HS2:=zh hs2;have HK2:=zh hk2
    obtain⟨va,vc,rfl⟩:=hs2.len
    obtain⟨ua,uc,rfl⟩:=hk2.len
    clear e hf hval hs2 hk2
    go_wp2_with fail
    have F2:=((TW.out.set 0 (.int .i64 o.count)).set 1 (.slice va o.spaces.length vc)).set 2 (.slice ua K.length uc)
    have IZ:∀ j,¬ (X j\/(w.heap.size<=j/\j<w.heap.size+2))->(((w5.setCell ⟨w.heap.size+1,0,none⟩ (.int .i64 o.count)).setCell ⟨w.heap.size+1,1,none⟩ (.slice va o.spaces.length vc)).setCell ⟨w.heap.size+1,2,none⟩ (.slice ua K.length uc)).heap[j]? = w5.heap[j]? :=fun j hj=>by
     have hne:j≠w.heap.size+1:=by rintro rfl;exact hj (.inr ⟨by omega,by omega⟩)
     rw[zo hne,zo hne,zo hne]
    refine BM rfl rfl rfl (AQ F2 Tryz.underlying25 rfl Bv) ?_
    rw[HQ.out,HE.out]
    refine⟨⟨_,_,rfl,?_,?_⟩,((TB.out.setCell (p:=⟨w.heap.size+1,0,none⟩) (by simp) _).setCell (p:=⟨w.heap.size+1,1,none⟩) (by simp) _).setCell (p:=⟨w.heap.size+1,2,none⟩) (by simp) _⟩
    ·exact(HS2.out.keep (by simp[World.setCell]) (fun k hk _=>IZ k hk)).mono (fun k hk _ hx=>hk (.inl hx))
    ·exact(HK2.out.keep (by simp[World.setCell]) (fun k hk _=>IZ k hk)).mono (fun k hk _ hx=>hk (.inl hx))
end
section
open Go
namespace Own
theorem zeQ {o:Ar}{p msg:ByteArray}{l:List Aj}{s:Space}{K:List KeyUse}(h1:Bz o=true)(h2:authority o p=some s)(h3:Bp s msg [] o.keys l=.ok K):ze1 o p msg l=if (l.length:Int)<s.threshold then .error 20 else .ok K:=by
 unfold ze1
 rw[h1,if_pos rfl,h2]
 dsimp only
 rw[h3]
theorem ze5 {o:Ar}{p msg:ByteArray}{l:List Aj}{s:Space}{c:Int}(h1:Bz o=true)(h2:authority o p=some s)(h3:Bp s msg [] o.keys l=.error c):ze1 o p msg l=.error c:=by
 unfold ze1
 rw[h1,if_pos rfl,h2]
 dsimp only
 rw[h3]
end Own
namespace Own
def ze2 (p:ByteArray)(th:Int)(l:List Nat):Ar:=⟨1,[⟨p,Bo l,th⟩],l.foldl (JM 0) []⟩
section
variable {p:ByteArray} {th:Int} {l:List Nat}
theorem ze6 (hl:I6 l):KB (ze2 p th l).keys:=KB.fold (by omega) KB.nil hl.lt
theorem zeE (hp:BL p=true)(hl:I6 l)(h1:1<=l.length)(h8:l.length<=8)(ht:1<=th)(ht2:th<=l.length):Bz (ze2 p th l)=true:=
 wF (by omega) (by decide) (fun s hs=>by rw[List.mem_singleton.1 hs];exact zaf hp hl h1 h8 ht ht2) (List.pairwise_singleton _ _) (by simp) (ze6 (p:=p) (th:=th) hl)
theorem zeG {o:Ar}{s:Space}{q:ByteArray}(ho:Bz o=true)(hs:o.spaces=[s])(hq:BL q=true)(hb:belongs q s.pre=true):authority o q=some s:=by
 unfold authority
 rw[ho,hq,hs]
 show CW q none [s]=_
 unfold CW
 rw[hb]
 rfl
theorem zeA (hl:I6 l){b:Nat}(hb:b<256):Bj (ze2 p th l).keys (Gg b)=if b∈l then 1 else 0:=by
 show Bj (l.foldl (JM 0) []) (Gg b)=_
 rw[Wq (by omega) hb KB.nil hl.lt,iA]
 rfl
theorem zeR (hl:I6 l){ks:List Nat}(hd:ks.Nodup)(hk:∀ b∈ks,b∈l)(msg:ByteArray):Bp ⟨p,Bo l,th⟩ msg [] (ze2 p th l).keys (ks.map (Dw 1 msg))=.ok (ks.foldl (JM 1) (ze2 p th l).keys):=
 KE (by omega) ks [] _ (ze6 hl) hd (fun b hb=>hl.lt b (hk b hb)) (fun b hb=>⟨ZU hl.lt (hk b hb),by simp,by rw[zeA hl (hl.lt b (hk b hb)),if_pos (hk b hb)];decide⟩)
theorem zfq (hp:BL p=true)(hl:I6 l)(h1:1<=l.length)(h8:l.length<=8)(ht:1<=th)(ht2:th<=l.length){q:ByteArray}(hq:BL q=true)(hb:belongs q p=true){ks:List Nat}(hd:ks.Nodup)(hk:∀ b∈ks,b∈l)(msg:ByteArray):
 ze1 (ze2 p th l) q msg (ks.map (Dw 1 msg))=if (ks.length:Int)<th then .error 20 else .ok (ks.foldl (JM 1) (ze2 p th l).keys):=by
 rw[zeQ (zeE hp hl h1 h8 ht ht2) (zeG (zeE hp hl h1 h8 ht ht2) rfl hq hb) (zeR hl hd hk msg),List.length_map]
/-! ### once -/
theorem zeW (hl:I6 l)(h1:1<=l.length)(h8:l.length<=8){b:Nat}(hb:b∈l)(msg:ByteArray):ze1 (ze2 sA 1 l) sA msg [Dw 1 msg b]=.ok ([b].foldl (JM 1) (ze2 sA 1 l).keys):=by
 have h:=zfq (p:=sA) (th:=1) yD hl h1 h8 (by omega) (by omega) (q:=sA) yD rfl (ks:=[b]) (List.pairwise_singleton _ _) (fun x hx=>by rw[List.mem_singleton.1 hx];exact hb) msg
 rw[if_neg (by simp)] at h
 exact h
def ze4 (l:List Nat)(n:Int)(b:Nat):Ar:=⟨n,[⟨sA,Bo l,1⟩],[b].foldl (JM 1) (ze2 sA 1 l).keys⟩
theorem zeZ (hl:I6 l)(h1:1<=l.length)(h8:l.length<=8){b:Nat}(hb:b∈l){n:Int}(hn:0<=n)(hn2:n<=5):Bz (ze4 l n b)=true:=
 wF hn (Int.le_trans hn2 (by decide)) (fun s hs=>by rw[List.mem_singleton.1 hs];exact zaf yD hl h1 h8 (by omega) (by omega)) (List.pairwise_singleton _ _) (by simp) (KB.fold (by omega) (ze6 hl) (fun x hx=>by rw[List.mem_singleton.1 hx];exact hl.lt b hb))
theorem zeM (hl:I6 l){b:Nat}(hb:b∈l)(n:Int):Bj (ze4 l n b).keys (Gg b)=2:=by
 show Bj ([b].foldl (JM 1) (ze2 sA 1 l).keys) (Gg b)=2
 rw[Wq (by omega) (hl.lt b hb) (ze6 hl) (fun x hx=>by rw[List.mem_singleton.1 hx];exact hl.lt b hb),if_pos (by simp)]
 rfl
theorem ze7 {s:Space}{msg:ByteArray}{K:List KeyUse}{a:Aj}{m:Member}(hf:find s.members a.name=some m)(hi:a.sig.index<Bj K m.pub)(l:List Aj):Bp s msg [] K (a::l)=if Sig.verify m.pub msg a.sig then .error 8 else .error 18:=by
 unfold Bp
 rw[hf]
 dsimp only
 rw[if_neg (by simp),if_pos hi]
theorem zeX (hl:I6 l)(h1:1<=l.length)(h8:l.length<=8){b:Nat}(hb:b∈l){n:Int}(hn:0<=n)(hn2:n<=5)(msg:ByteArray):ze1 (ze4 l n b) sA msg [Dw 1 msg b]=.error 8:=by
 have ho:=zeZ hl h1 h8 hb hn hn2
 refine ze5 ho (zeG ho rfl yD rfl) ?_
 rw[ze7 (m:=ZR b) (ZU hl.lt hb) (by show(Sig.BJ (BK.Cc b) 1 msg).index<Bj (ze4 l n b).keys (Gg b);rw[MW,zeM hl hb];decide)]
 rw[show(ZR b).pub=Gg b from rfl,show(Dw 1 msg b).sig=Sig.BJ (BK.Cc b) 1 msg from rfl,ZV b 1 (by omega) msg,if_pos rfl]
theorem zeY (hl:I6 l)(h1:1<=l.length)(h8:l.length<=8){b:Nat}(hb:b∈l)(msg:ByteArray):ze1 (ze2 sA 1 l) sA msg [Dw 1 msg b,Dw 1 msg b]=.error 5:=by
 have ho:=zeE (p:=sA) (th:=1) yD hl h1 h8 (by omega) (by omega)
 refine ze5 ho (zeG ho rfl yD rfl) ?_
 have hf:find (Bo l) (CX b)=some (ZR b):=ZU hl.lt hb
 unfold Bp
 rw[show(Dw 1 msg b).name=CX b from rfl,hf]
 dsimp only
 rw[show(ZR b).pub=Gg b from rfl,show(Dw 1 msg b).sig=Sig.BJ (BK.Cc b) 1 msg from rfl,ZV b 1 (by omega) msg,if_neg (by simp),if_pos rfl,MW,zeA hl (hl.lt b hb),if_pos hb,if_neg (by decide)]
 unfold Bp
 rw[show(Dw 1 msg b).name=CX b from rfl,hf]
 dsimp only
 rw[if_pos (by simp)]
def ze8 (l:List Nat):Op:=⟨1,sA,Bo l,1,⟨#[]⟩,⟨#[]⟩,[]⟩
theorem zfa (m:List Nat)(op:Op)(hk:op.kind=1)(hp:op.pre=sA):FZ [⟨sA,Bo m,1⟩] op=.ok (⟨sA,Bo m,1⟩,[AY op]):=by
 have h1:Ia [⟨sA,Bo m,1⟩] op.pre=some ⟨sA,Bo m,1⟩:=by
  unfold Ia
  rw[List.find?_cons_of_pos (by rw[hp];exact decide_eq_true rfl)]
 have h2:Du Space.pre (AY op) [⟨sA,Bo m,1⟩]=[AY op]:=by
  have e:(AY op).pre=sA:=hp
  unfold Du
  rw[e,show Ak (Space.pre ⟨sA,Bo m,1⟩) sA=false from BU _,if_neg (by simp),if_pos rfl]
 unfold FZ
 rw[if_neg (by omega),if_pos hk,h1,h2]
theorem zeS (hl:I6 l)(h1:1<=l.length)(h8:l.length<=8){b:Nat}(hb:b∈l):Co (ze2 sA 1 l) (Bl (ze2 sA 1 l) (ze8 l) 1 [b])=(ze4 l 2 b,0):=by
 have hop:Ew (opW (ze8 l) [])=true:=Nk yD hl (th:=1) h1 h8 (by omega) (by omega) 1 (by omega) (by omega)
 have hc:(ze2 sA 1 l).count≠late:=by show(1:Int)≠late;decide
 have h:=OM (i:=1) (ks:=[b]) (zeE (p:=sA) (th:=1) yD hl h1 h8 (by omega) (by omega)) hop hc (zfa l (ze8 l) rfl rfl) (by omega) (ze6 hl) (List.pairwise_singleton _ _) (fun x hx=>by rw[List.mem_singleton.1 hx];exact hl.lt b hb) (by simp) (fun x hx=>by
  rw[List.mem_singleton.1 hx]
  exact⟨ZU hl.lt hb,by rw[zeA hl (hl.lt b hb),if_pos hb];decide⟩) (by simp)
 rw[h]
 have e:(ze2 sA 1 l).count+1=(2:Int):=rfl
 rw[e]
 unfold ze4
 rfl
theorem zff (hl:I6 l)(h1:1<=l.length)(h8:l.length<=8){b:Nat}(hb:b∈l):(Co (ze4 l 2 b) (Bl (ze2 sA 1 l) (ze8 l) 1 [b])).2≠0:=by
 have ho:=zeZ hl h1 h8 hb (n:=2) (by omega) (by omega)
 obtain⟨msg,Kr⟩:∃ m,m=(Bc (ze2 sA 1 l) (opW (ze8 l) [])).1:=⟨_,rfl⟩
 have hal:(Bl (ze2 sA 1 l) (ze8 l) 1 [b]).Aa=[Dw 1 msg b]:=by rw[Kr]<;>rfl
 have hop:Ew (Bl (ze2 sA 1 l) (ze8 l) 1 [b])=true:=by
  unfold Bl
  rw[iy (by simp)]
  exact Nk yD hl (th:=1) h1 h8 (by omega) (by omega) 1 (by omega) (by omega)
 have ha:∀ m,AX ⟨sA,Bo l,1⟩ m (ze4 l 2 b).keys [Dw 1 msg b]=.error 8\/AX ⟨sA,Bo l,1⟩ m (ze4 l 2 b).keys [Dw 1 msg b]=.error 18:=fun m=>by
  unfold AX
  rw[ze7 (m:=ZR b) (ZU hl.lt hb) (by show(Sig.BJ (BK.Cc b) 1 msg).index<Bj (ze4 l 2 b).keys (Gg b);rw[MW,zeM hl hb];decide)]
  cases Sig.verify (ZR b).pub m (Dw 1 msg b).sig with
  | true=>exact .inl rfl
  | false=>exact .inr rfl
 unfold Co
 rw[if_neg (by rw[ho,hop];simp),if_neg (by show ¬ (2:Int)=late;decide),show(ze4 l 2 b).spaces=[⟨sA,Bo l,1⟩] from rfl,zfa l _ rfl rfl]
 dsimp only
 rw[hal]
 rcases ha (Bc (ze4 l 2 b) (Bl (ze2 sA 1 l) (ze8 l) 1 [b])).1 with h|h
 ·rw[h];exact fun e=>by cases e
 ·rw[h];exact fun e=>by cases e
end
end Own
end
section
open Go Go.RowKit Go.Maps
namespace Own
def zeH (o:Ar):Except Int (List KeyUse)->Ar × Int
 | .error c=>(.none,c)
 | .ok K=>(⟨o.count,o.spaces,K⟩,0)
end Own
theorem zeD.val {X:Nat->Prop}{w:World}{o:Own.Ar}{R:Except Int (List Own.KeyUse)}{e:Ending}{w' : World}(h:zeD X w o R e w'):
 ∃ sv kv,e=.returned (.tuple #[.agg #[.int .i64 (Own.zeH o R).1.count,sv,kv],.int .i64 (Own.zeH o R).2])/\Own.BH w' sv (Own.zeH o R).1.spaces/\Own.D9 w' kv (Own.zeH o R).1.keys/\Below w.heap.size w w':=by
 obtain⟨h,hb⟩:=h
 cases R with
 | error c=>exact⟨_,_,h,Au.nil _ _,Au.nil _ _,hb⟩
 | ok K =>
   obtain⟨sv,kv,h1,h2,h3⟩:=h
   exact⟨sv,kv,h1,h2.mono (fun _ _ _=>trivial),h3.mono (fun _ _ _=>trivial),hb⟩
structure OwB (w:World) (b:Nat) (n:Int) (S:List Own.Space) (K:List Own.KeyUse) (sv kv:Value):Prop where
 at_:At w b 25 #[.int .i64 n,sv,kv]
 sp:Own.BH w sv S
 ks:Own.D9 w kv K
structure SgB (w:World) (b:Nat) (a:Own.Aj) (cv pv:Value):Prop where
 at_:At w b 72 #[.string a.name,.int .i64 a.sig.index,cv,pv]
 c:Am w cv a.sig.chains
 p:Am w pv a.sig.path
 cap:Eo pv
section
variable {w w' : World} {b:Nat} {n:Int} {S:List Own.Space} {K:List Own.KeyUse} {sv kv cv pv:Value} {a:Own.Aj}
theorem OwB.below (h:OwB w b n S K sv kv)(hb:Below w.heap.size w w'):OwB w' b n S K sv kv:=⟨h.at_.below hb h.at_.lt,h.sp.below hb,h.ks.below hb⟩
theorem OwB.new (hs:Own.BH w sv S)(hk:Own.D9 w kv K)(n:Int):OwB (w.alloc (.cells #[.int .i64 n,sv,kv] 25)) w.heap.size n S K sv kv:=
 have hb:=(Below.refl w.heap.size w).alloc (Nat.le_refl _) (.cells #[.int .i64 n,sv,kv] 25)
 ⟨At.new w _ _,hs.below hb,hk.below hb⟩
theorem SgB.below (h:SgB w b a cv pv)(hb:Below w.heap.size w w'):SgB w' b a cv pv:=⟨h.at_.below hb h.at_.lt,h.c.below hb,h.p.below hb,h.cap⟩
theorem SgB.one (h:SgB w b a cv pv):Own.Iy w (.slice (some ⟨b,0,none⟩) 1 1) [a]:=by
 refine⟨_,_,rfl,fun i hi=>?_⟩
 have hi0:i=0:=by simpa using hi
 subst hi0
 exact⟨b,0,cv,pv,rfl,h.at_.lt,h.at_.cell 0,h.at_.cell 1,h.at_.cell 2,h.at_.cell 3,h.c,h.p,h.cap⟩
theorem Iy.two {g:Nat}(h:At w g 72 #[.string a.name,.int .i64 a.sig.index,cv,pv,.string a.name,.int .i64 a.sig.index,cv,pv])(hc:Am w cv a.sig.chains)(hp:Am w pv a.sig.path)(hq:Eo pv):Own.Iy w (.slice (some ⟨g,0,none⟩) 2 2) [a,a]:=by
 refine⟨_,_,rfl,fun i hi=>?_⟩
 have hi0:i=0\/i=1:=by simp at hi;omega
 rcases hi0 with rfl|rfl
 ·exact⟨g,0,cv,pv,rfl,h.lt,h.cell 0,h.cell 1,h.cell 2,h.cell 3,hc,hp,hq⟩
 ·exact⟨g,0,cv,pv,rfl,h.lt,h.cell 4,h.cell 5,h.cell 6,h.cell 7,hc,hp,hq⟩
end
theorem zfb (o:Own.Ar)(op:Own.Op)(sv kv mv av:Value)(w:World)(hM:IW w)(hS:Own.BH w sv o.spaces)(hK:Own.D9 w kv o.keys)(hm:Own.Ag w mv op.members)(hA:Own.Iy w av op.Aa)
 (hl:o.spaces.length<=10/\o.keys.length<=10/\∀ s∈o.spaces,s.members.length<=10) (hml:op.members.length<=10)
 (hal:∀ a∈op.Aa,a.name.size<=140737488355328/\a.sig.chains.length<=140737488355328/\a.sig.path.length<=140737488355328):
 Calls Tryz.prog 14 #[.agg #[.int .i64 o.count,sv,kv],Own.opV op mv av] w (Own.zcI w (Own.Co o op)):=
 (QS o op sv kv mv av w hM hS hK hm hA (by have:=hl.1;omega) (by have:=hl.2.1;omega) (fun s hs=>by have:=hl.2.2 s hs;omega) (by omega) hal).mono (fun _ _ h=>h.val)
theorem zeB (o:Own.Ar)(s msg:ByteArray)(l:List Own.Aj)(sv kv lv:Value)(w:World)(hM:IW w)(hS:Own.BH w sv o.spaces)(hK:Own.D9 w kv o.keys)(hA:Own.Iy w lv l)
 (hl:o.spaces.length<=10/\o.keys.length<=10/\∀ s∈o.spaces,s.members.length<=10) (hll:l.length<=10) (Kr:msg.size<=200)
 (hal:∀ a∈l,a.name.size<=140737488355328/\a.sig.chains.length<=140737488355328/\a.sig.path.length<=140737488355328):
 Calls Tryz.prog 39 #[.agg #[.int .i64 o.count,sv,kv],.string s,.string msg,lv] w fun e w' => ∃ sv kv,e=.returned (.tuple #[.agg #[.int .i64 (Own.zeH o (Own.ze1 o s msg l)).1.count,sv,kv],.int .i64 (Own.zeH o (Own.ze1 o s msg l)).2])/\Own.BH w' sv (Own.zeH o (Own.ze1 o s msg l)).1.spaces/\Own.D9 w' kv (Own.zeH o (Own.ze1 o s msg l)).1.keys/\Below w.heap.size w w' :=
 (zeF (fun _=>False) o s msg l sv kv lv w (fun k hk=>hk.elim) hM (hS.mono (fun _ _ _=>fun h=>h)) hK hA (by have:=hl.1;omega) (by have:=hl.2.1;omega) (fun s hs=>by have:=hl.2.2 s hs;omega) (by omega) hal).mono (fun _ _ h=>h.val)
end
section
open Go Go.Maps
namespace Own
theorem zfg (b i:Nat)(hi:i<2)(msg:ByteArray):(Sig.BJ (BK.Cc b) i msg).chains.length<=140737488355328/\(Sig.BJ (BK.Cc b) i msg).path.length<=140737488355328:=by
 obtain⟨_,h2,_,h4,_⟩:=PE (zah b i hi msg)
 exact⟨by omega,by omega⟩
end Own
namespace Own
theorem zeT:∀ (k l:List Nat),k.Nodup->(∀ b∈k,b∈l)->k.length<=l.length
 | [],l,_,_=>Nat.zero_le _
 | a :: k,l,hn,hs => by
   have ha:a∈l:=hs a List.mem_cons_self
   have h1:=List.length_erase_of_mem ha
   have h2:=List.length_pos_of_mem ha
   have hn':=List.nodup_cons.1 hn
   have h3:=zeT k (l.erase a) hn'.2 (fun b hb=>(List.mem_erase_of_ne (fun(h:b=a)=>hn'.1 (by rw[<- h];exact hb))).2 (hs b (List.mem_cons_of_mem _ hb)))
   rw[List.length_cons]
   omega
theorem zfc {l:List Nat}(hl:∀ b∈l,b<256):(keysOf l).length<=l.length:=zeT _ _ (Ux (KG l)) (fun _ hb=>(TF hl).1 hb)
theorem zeI {L:List Nat}(h:L.length<=4):(Bo L).length<=10:=by rw[OQ];omega
theorem ze9 (i:Nat):∀ (ks:List Nat) (K:List KeyUse),(ks.foldl (JM i) K).length<=K.length+ks.length
 | [],K=>Nat.le_refl _
 | k :: ks,K => by
   rw[List.foldl_cons,List.length_cons]
   refine Nat.le_trans (ze9 i ks _) ?_
   have h:(JM i K k).length<=K.length+1:=by unfold JM;exact tO K _
   omega
theorem zfd {p:ByteArray}{th:Int}{L:List Nat}(h:L.length<=4):(ze2 p th L).spaces.length<=10/\(ze2 p th L).keys.length<=10/\∀ x∈(ze2 p th L).spaces,x.members.length<=10:=by
 have h1:(ze2 p th L).spaces=[⟨p,Bo L,th⟩]:=by unfold ze2;exact Eq.refl _
 have h2:(ze2 p th L).keys=L.foldl (JM 0) []:=by unfold ze2;exact Eq.refl _
 rw[h1,h2]
 refine⟨Nat.le_add_left 1 9,Nat.le_trans (ze9 0 L []) (by rw[List.length_nil];omega),fun x hx=>?_⟩
 rw[List.mem_singleton.1 hx]
 exact zeI h
theorem zeN {L:List Nat}{n:Int}{b:Nat}(h:L.length<=4):(ze4 L n b).spaces.length<=10/\(ze4 L n b).keys.length<=10/\∀ x∈(ze4 L n b).spaces,x.members.length<=10:=by
 have h1:(ze4 L n b).spaces=[⟨sA,Bo L,1⟩]:=by unfold ze4;exact Eq.refl _
 have h2:(ze4 L n b).keys=[b].foldl (JM 1) (ze2 sA 1 L).keys:=by unfold ze4;exact Eq.refl _
 have h3:(ze2 sA 1 L).keys=L.foldl (JM 0) []:=by unfold ze2;exact Eq.refl _
 rw[h1,h2,h3]
 refine⟨Nat.le_add_left 1 9,Nat.le_trans (ze9 1 [b] _) ?_,fun x hx=>?_⟩
 ·have:=ze9 0 L []
  rw[List.length_nil] at this
  rw[show([b]:List Nat).length=1 from rfl]
  omega
 ·rw[List.mem_singleton.1 hx]
  exact zeI h
structure zfy (l:List Nat) (b:Nat) (msg:ByteArray) (o x y z:Ar) (M:List Member) (A:Aj) (aps:List Aj) (c:Int):Prop where
 claim:Co .none (Bl .none (FJ sA 1 (keysOf l)) 0 (keysOf l))=(o,0)
 m:Bo (keysOf l)=M
 ml:M.length<=10
 a1:Dw 1 msg b=A
 ai:A.sig.index=1
 an:A.name.size=4
 al:A.sig.chains.length<=140737488355328/\A.sig.path.length<=140737488355328
 p1:zeH o (ze1 o sA msg [A])=(x,0)
 p2:ze1 x sA msg [A]=.error 8
 p3:ze1 o sA msg [A,A]=.error 5
 apd:[b].map (Dw 1 (Bc o ⟨1,sA,M,1,⟨#[]⟩,⟨#[]⟩,[]⟩).1)=aps
 apl:aps.length=1
 all:∀ a∈aps,a.name.size<=140737488355328/\a.sig.chains.length<=140737488355328/\a.sig.path.length<=140737488355328
 ap1:Co o ⟨1,sA,M,1,⟨#[]⟩,⟨#[]⟩,aps⟩=(y,0)
 ap2:Co y ⟨1,sA,M,1,⟨#[]⟩,⟨#[]⟩,aps⟩=(z,c)
 c0:c≠0
 so:o.spaces.length<=10/\o.keys.length<=10/\∀ s∈o.spaces,s.members.length<=10
 sx:x.spaces.length<=10/\x.keys.length<=10/\∀ s∈x.spaces,s.members.length<=10
 sy:y.spaces.length<=10/\y.keys.length<=10/\∀ s∈y.spaces,s.members.length<=10
theorem zfh {l:List Nat}{b:Nat}(hl:∀ b∈l,b<256)(hb:b∈l)(h4:l.length<=4)(msg:ByteArray):∃ o x y z M A aps c,zfy l b msg o x y z M A aps c:=by
 have hk:=KG l
 have hbk:b∈keysOf l:=(TF hl).2 hb
 have hn:(keysOf l).length<=4:=Nat.le_trans (zfc hl) h4
 have h1:1<=(keysOf l).length:=List.length_pos_of_mem hbk
 generalize hL:keysOf l=L at*
 have hc:=tK (p:=sA) (th:=1) yD hk h1 (by omega) (by omega) (by omega)
 have hp1:=zeW hk h1 (by omega) hbk msg
 have hp2:=zeX hk h1 (by omega) hbk (n:=1) (by omega) (by omega) msg
 have hp3:=zeY hk h1 (by omega) hbk msg
 have ha1:=zeS hk h1 (by omega) hbk
 have ha2:=zff hk h1 (by omega) hbk
 have so:=zfd (p:=sA) (th:=1) hn
 have sx:=zeN (n:=1) (b:=b) hn
 have sy:=zeN (n:=2) (b:=b) hn
 have hi:=Uz b 1 msg
 have hz:=LD b
 have hs:=zfg b 1 (by omega) msg
 have hq:=fun m=>tQ 1 (by omega) m [b]
 have hm:=zeI hn
 have hx:zeH (ze2 sA 1 L) (ze1 (ze2 sA 1 L) sA msg [Dw 1 msg b])=(ze4 L 1 b,0):=by rw[hp1]<;>rfl
 unfold ze8 at ha1 ha2
 rw[nM] at ha1 ha2
 have hA:Dw 1 msg b=⟨CX b,Sig.BJ (BK.Cc b) 1 msg⟩:=rfl
 rw[hA] at hx hp2 hp3 hi
 have hc2:Co .none (Bl .none (FJ sA 1 L) 0 L)=(ze2 sA 1 L,0):=hc
 generalize ze2 sA 1 L=o at*
 generalize ze4 L 1 b=x at*
 generalize ze4 L 2 b=y at*
 generalize hM:Bo L=M at*
 refine⟨o,x,y,_,M,_,_,_,⟨by rw[hL];exact hc2,by rw[hL,hM],hm,hA,hi,hz,hs,hx,hp2,hp3,rfl,by rw[List.length_map]<;>rfl,hq _,ha1,rfl,ha2,so,sx,sy⟩⟩
end Own
end
section
open Go Go.RowKit Go.Maps
def zfj (w:World)(v:Value)(bs:List Int):Prop:=Bh w v 1 bs.length (bs.map (Value.int .u8))/\∀ b∈bs,0<=b/\b<256
theorem zfj.keys {w:World}{v:Value}{bs:List Int}(h:zfj w v bs):∃ l:List Nat,(∀ b∈l,b<256)/\D8 w v l:=by
 obtain⟨h1,h2⟩:=h
 refine⟨bs.map Int.toNat,fun b hb=>?_,?_⟩
 ·obtain⟨x,hx,rfl⟩:=List.mem_map.1 hb
  have:=h2 x hx
  omega
 ·have e : Rf (bs.map Int.toNat) = bs.map (Value.int .u8) :=by
   unfold Rf
   rw[List.map_map]
   refine List.map_congr_left fun x hx=>?_
   have:=h2 x hx
   show Value.int .u8 ((x.toNat:Nat):Int)=_
   rw[show((x.toNat:Nat):Int)=x by omega]
  rw[D8,e,List.length_map]
  exact h1
theorem zfe (v:Value)(bs:List Int)(msg:ByteArray)(w:World)(hM:IW w)(hv:zfj w v bs)(hms:msg.size<=140737488355328):
 Calls Tryz.prog 9 #[v,.string msg] w fun e w' => e=.returned (.bool true)/\Below w.heap.size w w':=by
 obtain⟨l,hl,hkl⟩:=hv.keys
 obtain⟨ka,kc,rfl⟩:=hkl.len
 obtain⟨N,hN⟩:∃ N,N=l.length:=⟨_,rfl⟩
 rw[<- hN] at hkl ⊢
 have HM:=zh hM;have HK:=zh hkl
 clear hM hv hkl
 go_enter Tryz.func9,Tryz.ntmps9
 go_wp2_with fail
 refine(awake53_any w HM.out).mono ?_
 rintro e w1 ⟨rfl,hb⟩
 have B1:=zh hb;clear hb
 by_cases h1:N<1
 ·have d1:decide ((N:Int)<1)=true:=zt
  go_wp2_with fail
  go_ret
  exact⟨rfl,B1.out⟩
 have d1:decide ((N:Int)<1)=false:=zf
 by_cases h2:4<N
 ·have d2:decide (4<(N:Int))=true:=zt
  have d2' : decide (4<N)=true:=decide_eq_true h2
  go_wp2_with fail
  go_ret
  exact⟨rfl,B1.out⟩
 have d2:decide (4<(N:Int))=false:=zf
 have d2' : decide (4<N)=false:=decide_eq_false h2
 by_cases h3:200<msg.size
 ·have d3:decide (200<(msg.size:Int))=true:=zt
  have d3' : decide (200<msg.size)=true:=decide_eq_true h3
  go_wp2_with fail
  go_ret
  exact⟨rfl,B1.out⟩
 have d3:decide (200<(msg.size:Int))=false:=zf
 have d3' : decide (200<msg.size)=false:=decide_eq_false h3
 have hN1:1<=l.length:=by omega
 have hN4:l.length<=4:=by omega
 obtain⟨bk,hbk⟩:∃ b,b=l.getD 0 0:=⟨_,rfl⟩
 have hbl:bk∈l:=by rw[hbk,List.getD_eq_getElem?_getD,List.getElem?_eq_getElem (by omega)];exact List.getElem_mem _
 have hb256:=hl bk hbl
 obtain⟨o,x,y,z,M,A,aps,cz,hF⟩:=Own.zfh hl hbl hN4 msg
 have hcl:=fun W (hM:IW W) (hk:D8 W (.slice ka l.length kc) l)=>U0 Own.sA 1 l ka kc W hM hk hl hN1 (by omega)
 rw[hF.claim] at hcl
 have hmb:=fun W (hk:D8 W (.slice ka l.length kc) l)=>Jb l ka kc W hk hl hN1 (by omega)
 rw[hF.m] at hmb
 simp only[<- hN] at hcl hmb
 have hs0:=fun W=>UW bk 1 msg W hb256 (by omega) (by omega)
 obtain⟨n0,hn0⟩:∃ x,x=Own.CX bk:=⟨_,rfl⟩
 have han:A.name=n0:=by rw[hn0,<- hF.a1]<;>rfl
 rw[hF.a1,<- hn0] at hs0
 have hp1:=fun(sv kv lv:Value) W (hM:IW W) hS hK hA=>zeB o Own.sA msg [A] sv kv lv W hM hS hK hA hF.so (by simp) (by omega) (fun a ha=>by rw[List.mem_singleton.1 ha];exact⟨by have:=hF.an;omega,hF.al⟩)
 have hp2:=fun(sv kv lv:Value) W (hM:IW W) hS hK hA=>zeB x Own.sA msg [A] sv kv lv W hM hS hK hA hF.sx (by simp) (by omega) (fun a ha=>by rw[List.mem_singleton.1 ha];exact⟨by have:=hF.an;omega,hF.al⟩)
 have hp3:=fun(sv kv lv:Value) W (hM:IW W) hS hK hA=>zeB o Own.sA msg [A,A] sv kv lv W hM hS hK hA hF.so (by simp) (by omega) (fun a ha=>by
  have ha:a=A:=by rcases List.mem_cons.1 ha with h|h;exact h;exact List.mem_singleton.1 h
  rw[ha];exact⟨by have:=hF.an;omega,hF.al⟩)
 rw[hF.p1] at hp1
 rw[hF.p2] at hp2
 rw[hF.p3] at hp3
 simp only[show ∀ o c,Own.zeH o (.error c)=(⟨0,[],[]⟩,c) from fun _ _=>rfl] at hp2 hp3
 have hsg:=fun(sv kv mv:Value) (b:Nat) W (hM:IW W) hs hk (hm:Own.Ag W mv M) (ha:At W b 5 #[.int .u8 (bk:Int)])=>JK o ⟨1,Own.sA,M,1,⟨#[]⟩,⟨#[]⟩,[]⟩ 1 [bk] sv kv mv (.slice none 0 0) (some ⟨b,0,none⟩) 1 W hM (by omega) hs hk hm ⟨_,_,rfl⟩ (by have:=hF.ml;show M.length<=_;omega) (D8.at1 ha) (by simpa using hb256) (by simp)
 rw[hF.apd] at hsg
 have ha1:=fun(sv kv mv av:Value) W (hM:IW W) hS hK (hm:Own.Ag W mv M) hA=>zfb o ⟨1,Own.sA,M,1,⟨#[]⟩,⟨#[]⟩,aps⟩ sv kv mv av W hM hS hK hm hA hF.so hF.ml hF.all
 rw[hF.ap1] at ha1
 have ha2:=fun(sv kv mv av:Value) W (hM:IW W) hS hK (hm:Own.Ag W mv M) hA=>zfb y ⟨1,Own.sA,M,1,⟨#[]⟩,⟨#[]⟩,aps⟩ sv kv mv av W hM hS hK hm hA hF.sy hF.ml hF.all
 rw[hF.ap2] at ha2
 unfold Own.opV Own.Yz at hsg
 unfold Own.opV at ha1 ha2
 have hai:=hF.ai;have hal:=hF.apl;have hc0:=hF.c0
 have hcz:(cz==(0:Int))=false:=by rw[beq_eq_false_iff_ne];exact hc0
 have hcn:(cz != (0:Int))=true:=by rw[bne,hcz]<;>rfl
 obtain⟨c1,S1,K1⟩:=o
 obtain⟨c2,S2,K2⟩:=x
 obtain⟨c3,S3,K3⟩:=y
 obtain⟨c4,S4,K4⟩:=z
 obtain⟨an,asg⟩:=A
 obtain rfl:an=n0:=han
 dsimp only at hai hs0 hp1 hp2 hp3 hsg ha1 ha2
 obtain⟨ML,hML⟩:∃ n,n=M.length:=⟨_,rfl⟩
 simp only[<- hML] at hmb
 have HCL:=zh hcl;have HMB:=zh hmb;have HS0:=zh hs0;have HP1:=zh hp1;have HP2:=zh hp2;have HP3:=zh hp3;have HSG:=zh hsg;have HA1:=zh ha1;have HA2:=zh ha2;have HAI:=zh hai;have HAL:=zh hal;have HML:=zh hML;have HBK:=zh hbk;have HN1:=zh hN1;have HN:=zh hN
 clear hcl hmb hs0 hp1 hp2 hp3 hsg ha1 ha2 hai hal hML hbk hN1 hN4 hN hF hbl hb256 hl hc0 hn0
 unfold Own.sA at HCL HP1 HP2 HP3 HSG HA1 HA2
 go_wp2_with fail
 refine(HCL.out w1 (HM.out.below B1.out) (HK.out.below B1.out)).mono ?_
 rintro e w3 ⟨sv,kv,rfl,hs3,hk3,hb3⟩
 have hs3:Own.BH w3 sv S1:=hs3.mono (fun _ _ _=>trivial)
 have hk3:Own.D9 w3 kv K1:=hk3.mono (fun _ _ _=>trivial)
 obtain⟨sa,sc,rfl⟩:=hs3.len
 obtain⟨ya,yc,rfl⟩:=hk3.len
 have B3:=zh (B1.out.trans (hb3.mono B1.out.size));have S3':=zh hs3;have K3':=zh hk3
 clear hs3 hk3 hb3 HCL
 dsimp only
 go_upto_region 6 with fail
 have O4:=zh (OwB.new S3'.out K3'.out c1)
 have hb:=(Below.refl w3.heap.size w3).alloc (Nat.le_refl _) (.cells #[.int .i64 c1,.slice sa S1.length sc,.slice ya K1.length yc] 25)
 have B4:=zh (B3.out.trans (hb.mono B3.out.size))
 clear hb
 generalize w3.alloc (.cells #[.int .i64 c1,.slice sa S1.length sc,.slice ya K1.length yc] 25)=w4 at*
 obtain⟨b,hbe⟩:∃ b,b=w3.heap.size:=⟨_,rfl⟩
 rw[<- hbe] at O4 ⊢
 clear hbe S3' K3' B3
 have hkc:=D8.cell (HK.out.below B4.out) (i:=0) (by have:=HN1.out;omega)
 obtain⟨kb,ze0,hka,zfH,hkc⟩:=hkc
 subst hka
 have hkc:w4.cell? ⟨kb,ze0,none⟩=some (.int .u8 (bk:Int)):=by rw[HBK.out];simpa using hkc
 have HKC:=zh hkc
 go_wp2_with fail
 refine(HS0.out w4).mono ?_
 rintro e w5 ⟨cv,pv,rfl,hcv,hpv,hb⟩
 obtain⟨ca,cn,cc,rfl⟩:=Ad hcv
 obtain⟨pa,pn,pc,rfl⟩:=Ad hpv
 have CV:=zh (Own.JN.own (F:=fun _=>True) hcv (fun _ _=>trivial)).st;have PV:=zh (Own.JN.own (F:=fun _=>True) hpv (fun _ _=>trivial))
 have O5:=zh (O4.out.below hb);have B5:=zh (B4.out.trans (hb.mono B4.out.size))
 clear hb hcv hpv O4 B4 hkc HS0
 go_upto_region 7 with fail
 have hb:=(Below.refl w5.heap.size w5).alloc (Nat.le_refl _) (.cells #[.string an,.int .i64 1,.slice ca cn cc,.slice pa pn pc] 72)
 have G6:=zh (show SgB (w5.alloc (.cells #[.string an,.int .i64 1,.slice ca cn cc,.slice pa pn pc] 72)) w5.heap.size ⟨an,asg⟩ (.slice ca cn cc) (.slice pa pn pc) from⟨by rw[HAI.out];exact At.new w5 _ _,CV.out.below hb,PV.out.st.below hb,PV.out.cap⟩)
 have O6:=zh (O5.out.below hb);have B6:=zh (B5.out.trans (hb.mono B5.out.size))
 clear hb CV PV O5 B5
 generalize w5.alloc (.cells #[.string an,.int .i64 1,.slice ca cn cc,.slice pa pn pc] 72)=w6 at*
 obtain⟨d,hd⟩:∃ d,d=w5.heap.size:=⟨_,rfl⟩
 rw[<- hd] at G6 ⊢
 clear hd
 have c0:=O6.out.at_.cell 0;have c1':=O6.out.at_.cell 1;have c2':=O6.out.at_.cell 2
 have d0:=G6.out.at_.cell 0;have d1:=G6.out.at_.cell 1;have d2:=G6.out.at_.cell 2;have d3:=G6.out.at_.cell 3
 simp only[zg] at d0 d1 d2 d3 c0 c1' c2'
 rw[HAI.out] at d1
 go_wp2_with fail
 have hb:=(Below.refl w6.heap.size w6).alloc (Nat.le_refl _) (.cells #[.string an,.int .i64 1,.slice ca cn cc,.slice pa pn pc] 72)
 have R7:=zh (show SgB (w6.alloc (.cells #[.string an,.int .i64 1,.slice ca cn cc,.slice pa pn pc] 72)) w6.heap.size ⟨an,asg⟩ (.slice ca cn cc) (.slice pa pn pc) from⟨by rw[HAI.out];exact At.new w6 _ _,G6.out.c.below hb,G6.out.p.below hb,G6.out.cap⟩)
 have O7:=zh (O6.out.below hb);have G7:=zh (G6.out.below hb);have B7:=zh (B6.out.trans (hb.mono B6.out.size))
 clear hb c0 c1' c2' d0 d1 d2 d3 O6 G6 B6
 generalize w6.alloc (.cells #[.string an,.int .i64 1,.slice ca cn cc,.slice pa pn pc] 72)=w7 at*
 refine(HP1.out _ _ _ w7 (HM.out.below B7.out) O7.out.sp O7.out.ks R7.out.one).mono ?_
 rintro e w8 ⟨sv,kv,rfl,hs8,hk8,hb⟩
 obtain⟨sb,sd,rfl⟩:=hs8.len
 obtain⟨yb,yd,rfl⟩:=hk8.len
 have O8:=zh (O7.out.below hb);have G8:=zh (G7.out.below hb);have B8:=zh (B7.out.trans (hb.mono B7.out.size))
 have S8:=zh hs8;have K8:=zh hk8
 clear hb hs8 hk8 O7 G7 B7 R7 HP1
 dsimp only
 go_upto_region 8 with fail
 have hb:=(Below.refl w8.heap.size w8).alloc (Nat.le_refl _) (.cells #[.int .i64 c2,.slice sb S2.length sd,.slice yb K2.length yd] 25)
 have P9:=zh (OwB.new S8.out K8.out c2)
 have O9:=zh (O8.out.below hb);have G9:=zh (G8.out.below hb);have B9:=zh (B8.out.trans (hb.mono B8.out.size))
 clear hb S8 K8 O8 G8 B8
 generalize w8.alloc (.cells #[.int .i64 c2,.slice sb S2.length sd,.slice yb K2.length yd] 25)=w9 at*
 obtain⟨c,hc⟩:∃ d,d=w8.heap.size:=⟨_,rfl⟩
 rw[<- hc] at P9 ⊢
 clear hc
 have c0:=P9.out.at_.cell 0;have c1':=P9.out.at_.cell 1;have c2':=P9.out.at_.cell 2
 have d0:=G9.out.at_.cell 0;have d1:=G9.out.at_.cell 1;have d2:=G9.out.at_.cell 2;have d3:=G9.out.at_.cell 3
 simp only[zg] at d0 d1 d2 d3 c0 c1' c2'
 rw[HAI.out] at d1
 go_wp2_with fail
 have hb:=(Below.refl w9.heap.size w9).alloc (Nat.le_refl _) (.cells #[.string an,.int .i64 1,.slice ca cn cc,.slice pa pn pc] 72)
 have R10:=zh (show SgB (w9.alloc (.cells #[.string an,.int .i64 1,.slice ca cn cc,.slice pa pn pc] 72)) w9.heap.size ⟨an,asg⟩ (.slice ca cn cc) (.slice pa pn pc) from⟨by rw[HAI.out];exact At.new w9 _ _,G9.out.c.below hb,G9.out.p.below hb,G9.out.cap⟩)
 have O10:=zh (O9.out.below hb);have P10:=zh (P9.out.below hb);have G10:=zh (G9.out.below hb);have B10:=zh (B9.out.trans (hb.mono B9.out.size))
 clear hb c0 c1' c2' d0 d1 d2 d3 O9 P9 G9 B9
 generalize w9.alloc (.cells #[.string an,.int .i64 1,.slice ca cn cc,.slice pa pn pc] 72)=w10 at*
 refine(HP2.out _ _ _ w10 (HM.out.below B10.out) P10.out.sp P10.out.ks R10.out.one).mono ?_
 rintro e w11 ⟨sv,kv,rfl,zfz,zf0,hb⟩
 obtain⟨qa,qc,rfl⟩:=zfz.len
 obtain⟨ra,rc,rfl⟩:=zf0.len
 have O11:=zh (O10.out.below hb);have G11:=zh (G10.out.below hb);have B11:=zh (B10.out.trans (hb.mono B10.out.size))
 clear hb zfz zf0 O10 P10 G10 B10 R10 HP2
 go_upto_region 9 with fail
 have hb:=(Below.refl w11.heap.size w11).alloc (Nat.le_refl _) (.cells #[.int .i64 0,.slice qa 0 qc,.slice ra 0 rc] 25)
 have O12:=zh (O11.out.below hb);have G12:=zh (G11.out.below hb);have B12:=zh (B11.out.trans (hb.mono B11.out.size))
 clear hb O11 G11 B11
 generalize w11.alloc (.cells #[.int .i64 0,.slice qa 0 qc,.slice ra 0 rc] 25)=w12 at*
 have c0:=O12.out.at_.cell 0;have c1':=O12.out.at_.cell 1;have c2':=O12.out.at_.cell 2
 have d0:=G12.out.at_.cell 0;have d1:=G12.out.at_.cell 1;have d2:=G12.out.at_.cell 2;have d3:=G12.out.at_.cell 3
 simp only[zg] at d0 d1 d2 d3 c0 c1' c2'
 rw[HAI.out] at d1
 go_wp2_with fail
 have hb:=(Below.refl w12.heap.size w12).alloc (Nat.le_refl _) (.cells #[.string an,.int .i64 1,.slice ca cn cc,.slice pa pn pc,.string an,.int .i64 1,.slice ca cn cc,.slice pa pn pc] 72)
 have hat:At (w12.alloc (.cells #[.string an,.int .i64 1,.slice ca cn cc,.slice pa pn pc,.string an,.int .i64 1,.slice ca cn cc,.slice pa pn pc] 72)) w12.heap.size 72 #[.string an,.int .i64 asg.index,.slice ca cn cc,.slice pa pn pc,.string an,.int .i64 asg.index,.slice ca cn cc,.slice pa pn pc]:=by rw[HAI.out];exact At.new w12 _ _
 have R13:=zh (Iy.two (a:=⟨an,asg⟩) hat (G12.out.c.below hb) (G12.out.p.below hb) G12.out.cap)
 have O13:=zh (O12.out.below hb);have B13:=zh (B12.out.trans (hb.mono B12.out.size))
 clear hb hat c0 c1' c2' d0 d1 d2 d3 O12 G12 B12
 generalize w12.alloc (.cells #[.string an,.int .i64 1,.slice ca cn cc,.slice pa pn pc,.string an,.int .i64 1,.slice ca cn cc,.slice pa pn pc] 72)=w13 at*
 refine(HP3.out _ _ _ w13 (HM.out.below B13.out) O13.out.sp O13.out.ks R13.out).mono ?_
 rintro e w14 ⟨sv,kv,rfl,zav,zcN,hb⟩
 obtain⟨qa,qc,rfl⟩:=zav.len
 obtain⟨ra,rc,rfl⟩:=zcN.len
 have O14:=zh (O13.out.below hb);have B14:=zh (B13.out.trans (hb.mono B13.out.size))
 clear hb zav zcN O13 B13 R13 HP3
 dsimp only
 go_upto_region 12 with fail
 have hb:=(Below.refl w14.heap.size w14).alloc (Nat.le_refl _) (.cells #[.int .i64 0,.slice qa 0 qc,.slice ra 0 rc] 25)
 have O24:=zh (O14.out.below hb);have B24:=zh (B14.out.trans (hb.mono B14.out.size))
 clear hb O14 B14
 generalize w14.alloc (.cells #[.int .i64 0,.slice qa 0 qc,.slice ra 0 rc] 25)=w24 at*
 have c0:=O24.out.at_.cell 0;have c1':=O24.out.at_.cell 1;have c2':=O24.out.at_.cell 2
 simp only[zg] at c0 c1' c2'
 obtain⟨kb2,ko2,hke,zcB,hkd⟩:=D8.cell (HK.out.below B24.out) (i:=0) (by have:=HN1.out;omega)
 obtain⟨rfl,rfl⟩:kb2=kb/\ko2=ze0:=by cases hke;exact⟨rfl,rfl⟩
 have hkd:w24.cell? ⟨kb2,ko2,none⟩=some (.int .u8 (bk:Int)):=by rw[HBK.out];simpa using hkd
 have Y0:=zh (show(w24.cell? ⟨b,0,none⟩).isSome=true by rw[c0]<;>rfl)
 have Y1:=zh (show(w24.cell? ⟨kb2,ko2,none⟩).isSome=true by rw[hkd]<;>rfl)
 refine Lex.FH (fun _=>True) [0,6] [7,9] 10 [.pure 2,.call,.pure 4,.new,.call,.new] [] (by kernel_rfl) (by kernel_rfl) (by kernel_rfl) ?_
 simp only[Lex.Jd,Lex.Br,zd]
 have BD:=zh (show Below w24.heap.size w24 w24.drew from(Below.refl _ _).drew)
 have ZD:=zh (show w24.drew.heap.size=w24.heap.size by rw[EZ])
 have HKD:=zh hkd;have HKL:=zh zcB
 clear hke zcB
 go_wp2_with fail
 refine Lex.Qg.intro ?_
 intro w25 zf1
 have X25:=zh (BD.out.trans (zf1.mono BD.out.size));clear zf1
 go_wp2_with fail
 refine(HMB.out w25 (HK.out.below (B24.out.trans (X25.out.mono B24.out.size)))).mono ?_
 rintro e w26 ⟨mv,rfl,hm,hb⟩
 obtain⟨ma,mn,mc,rfl⟩:=Ad hm
 obtain rfl:=Bf hm
 have X26:=zh (X25.out.trans (hb.mono X25.out.size));have zf2:=zh hb;have R26:=zh hm;have HLT:=zh (fun k (hk:(Value.slice ma mn mc).ownBlock=some k)=>(show w25.heap.size<=k/\k<w26.heap.size from⟨Al hm k hk,Own.J6 hm k hk⟩))
 have zfB:w24.heap.size<=w25.heap.size:=X25.out.size
 clear hm hb X25 HMB
 go_wp2_with fail
 refine Lex.Vp.intro (fun j _ hjl=>X26.out.block _ hjl) (Lex.Kept.of_below zf2.out) ?_
 have hke:=(X26.out.cell (p:=⟨kb2,ko2,none⟩) HKL.out).trans HKD.out
 go_wp2_with fail
 refine Lex.Qg.intro ?_
 intro w29 zf3
 go_wp2_with fail
 refine Lex.Qh.intro (fun w30 zfr zf4 zfC=>?_)
 have zfs:=zf4.at_
 have zf5:w24.heap.size<=w29.heap.size:=by rw[<- ZD.out];exact zf3
 obtain⟨g30,hg⟩:∃ g,g=w29.heap.size:=⟨_,rfl⟩
 rw[World.size_alloc]
 rw[<- hg] at zfs zf5 ⊢
 have X30:=zh (X26.out.trans (zfr.mono X26.out.size));have P30:=zh zfs;have R30:=zh (own_below R26.out zfr)
 clear zfr zf4 zfC zfs hg zf3 X26 zf2 R26
 intro w31 zfk
 have X31:=zh (X30.out.trans (zfk.mono X30.out.size));have P31:=zh (P30.out.below zfk P30.out.lt);have R31:=zh (own_below R30.out zfk)
 have B31:=zh (B24.out.trans (X31.out.mono B24.out.size))
 clear zfk X30 P30 R30
 go_wp2_with fail
 have zf6:Own.Ag w31 (.slice ma mn mc) M:=Own.Ag.of (Bh.own R31.out) HML.out
 refine(HSG.out (.slice sa S1.length sc) (.slice ya K1.length yc) (.slice ma mn mc) g30 w31 (HM.out.below B31.out) ⟨_,_,_,rfl⟩ ⟨_,_,_,rfl⟩ zf6 P31.out).mono ?_
 rintro e w32 ⟨av,rfl,ha32,zfl⟩
 obtain⟨aa,ac,hav⟩:=ha32.len
 rw[HAL.out] at hav
 subst hav
 have X32:=zh (X31.out.trans (zfl.mono X31.out.size));have zf7:=zh zfl;have R32:=zh (own_below R31.out zfl);have A32:=zh ha32
 have zfD:w24.heap.size<=w31.heap.size:=X31.out.size
 clear ha32 zfl X31 P31 HSG B31 R31 zf6
 go_wp2_with fail
 refine Lex.Vp.intro (fun j _ hjl=>X32.out.block _ hjl) (Lex.Kept.of_below zf7.out) ?_
 intro w33 zf8
 go_wp2_with fail
 refine Lex.Qh.intro (fun w34 zfm zf9 zft=>?_)
 have zfu:=zf9.at_
 have zfv:w24.heap.size<=w33.heap.size:=by rw[<- ZD.out];exact zf8
 obtain⟨q,hq⟩:∃ g,g=w33.heap.size:=⟨_,rfl⟩
 rw[<- hq] at zfu zfv ⊢
 have X34:=zh (X32.out.trans (zfm.mono X32.out.size));have Q34:=zh zfu;have R34:=zh (own_below R32.out zfm)
 have o1:=zft (w31.heap.size,w32.heap.size) (by simp)
 have o2:=zft (w25.heap.size,w26.heap.size) (by simp)
 rw[World.size_alloc,<- hq] at o1 o2
 dsimp only at o1 o2
 have G34:=zh zfm;have OF1:=zh o1;have OF2:=zh o2
 clear zft zf9 zfu zfm o1 o2 hq zf8 X32 zf7 R32
 have s0:=Q34.out.cell 0;have s1:=Q34.out.cell 1;have s2:=Q34.out.cell 2;have s3:=Q34.out.cell 3;have s4:=Q34.out.cell 4;have s5:=Q34.out.cell 5;have s6:=Q34.out.cell 6
 have t0:=Q34.out.free 0;have t1:=Q34.out.free 1;have t2:=Q34.out.free 2;have t3:=Q34.out.free 3;have t4:=Q34.out.free 4;have t5:=Q34.out.free 5;have t6:=Q34.out.free 6
 simp only[zg] at s0 s1 s2 s3 s4 s5 s6
 go_wp2_with fail
 refine Lex.zk ⟨⟨trivial,Y0.out⟩,⟨trivial,Y1.out⟩,trivial⟩ ?_
 have IZ:∀ k,k≠q->(((((((w34.setCell ⟨q,0,none⟩ (.int .i64 1)).setCell ⟨q,1,none⟩ (.string ⟨#[97]⟩)).setCell ⟨q,2,none⟩ (.slice ma mn mc)).setCell ⟨q,3,none⟩ (.int .i64 1)).setCell ⟨q,4,none⟩ (.string ⟨#[]⟩)).setCell ⟨q,5,none⟩ (.string ⟨#[]⟩)).setCell ⟨q,6,none⟩ (.slice aa 1 ac)).heap[k]? = w34.heap[k]? :=fun k hk=>OJ hk _ _ _ _ _ _ _
 have hsz:(((((((w34.setCell ⟨q,0,none⟩ (.int .i64 1)).setCell ⟨q,1,none⟩ (.string ⟨#[97]⟩)).setCell ⟨q,2,none⟩ (.slice ma mn mc)).setCell ⟨q,3,none⟩ (.int .i64 1)).setCell ⟨q,4,none⟩ (.string ⟨#[]⟩)).setCell ⟨q,5,none⟩ (.string ⟨#[]⟩)).setCell ⟨q,6,none⟩ (.slice aa 1 ac)).heap.size=w34.heap.size:=Qp (b:=q) _ _ _ _ _ _ _
 have X35:=zh (show Below w24.heap.size w24 (((((((w34.setCell ⟨q,0,none⟩ (.int .i64 1)).setCell ⟨q,1,none⟩ (.string ⟨#[97]⟩)).setCell ⟨q,2,none⟩ (.slice ma mn mc)).setCell ⟨q,3,none⟩ (.int .i64 1)).setCell ⟨q,4,none⟩ (.string ⟨#[]⟩)).setCell ⟨q,5,none⟩ (.string ⟨#[]⟩)).setCell ⟨q,6,none⟩ (.slice aa 1 ac)) from Yx X34.out zfv _ _ _ _ _ _ _)
 have Q35:=zh (show At (((((((w34.setCell ⟨q,0,none⟩ (.int .i64 1)).setCell ⟨q,1,none⟩ (.string ⟨#[97]⟩)).setCell ⟨q,2,none⟩ (.slice ma mn mc)).setCell ⟨q,3,none⟩ (.int .i64 1)).setCell ⟨q,4,none⟩ (.string ⟨#[]⟩)).setCell ⟨q,5,none⟩ (.string ⟨#[]⟩)).setCell ⟨q,6,none⟩ (.slice aa 1 ac)) q 29 #[.int .i64 1,.string ⟨#[97]⟩,.slice ma mn mc,.int .i64 1,.string ⟨#[]⟩,.string ⟨#[]⟩,.slice aa 1 ac] from At.Ri Q34.out _ _ _ _ _ _ _)
 have R35:=zh (Af (w':=((((((w34.setCell ⟨q,0,none⟩ (.int .i64 1)).setCell ⟨q,1,none⟩ (.string ⟨#[97]⟩)).setCell ⟨q,2,none⟩ (.slice ma mn mc)).setCell ⟨q,3,none⟩ (.int .i64 1)).setCell ⟨q,4,none⟩ (.string ⟨#[]⟩)).setCell ⟨q,5,none⟩ (.string ⟨#[]⟩)).setCell ⟨q,6,none⟩ (.slice aa 1 ac)) R34.out (fun k hk=>IZ k (by have h1:=HLT.out k hk;have h2:=OF2.out;omega)))
 have A35:=zh (A32.out.keep (w':=((((((w34.setCell ⟨q,0,none⟩ (.int .i64 1)).setCell ⟨q,1,none⟩ (.string ⟨#[97]⟩)).setCell ⟨q,2,none⟩ (.slice ma mn mc)).setCell ⟨q,3,none⟩ (.int .i64 1)).setCell ⟨q,4,none⟩ (.string ⟨#[]⟩)).setCell ⟨q,5,none⟩ (.string ⟨#[]⟩)).setCell ⟨q,6,none⟩ (.slice aa 1 ac)) (by rw[hsz];exact G34.out.size) (fun k h1 h2=>(IZ k (by have h3:=OF1.out;omega)).trans (G34.out.block k h2)))
 clear IZ hsz X34 Q34 R34 A32 G34 OF1 OF2 HLT s0 s1 s2 s3 s4 s5 s6 t0 t1 t2 t3 t4 t5 t6 Y0 Y1 BD ZD HKL HKD hke c0 c1' c2' zf5 zfv zfB zfD
 generalize ((((((w34.setCell ⟨q,0,none⟩ (.int .i64 1)).setCell ⟨q,1,none⟩ (.string ⟨#[97]⟩)).setCell ⟨q,2,none⟩ (.slice ma mn mc)).setCell ⟨q,3,none⟩ (.int .i64 1)).setCell ⟨q,4,none⟩ (.string ⟨#[]⟩)).setCell ⟨q,5,none⟩ (.string ⟨#[]⟩)).setCell ⟨q,6,none⟩ (.slice aa 1 ac)=w35 at*
 have B35:=zh (B24.out.trans (X35.out.mono B24.out.size));have O35:=zh (O24.out.below X35.out)
 have M35:=zh (show Own.Ag w35 (.slice ma mn mc) M from Own.Ag.of (Bh.own R35.out) HML.out)
 have zfw:=zh A35.out.rX.out
 clear X35 O24 B24 R35 A35
 have c0:=O35.out.at_.cell 0;have c1':=O35.out.at_.cell 1;have c2':=O35.out.at_.cell 2
 have s0:=Q35.out.cell 0;have s1:=Q35.out.cell 1;have s2:=Q35.out.cell 2;have s3:=Q35.out.cell 3;have s4:=Q35.out.cell 4;have s5:=Q35.out.cell 5;have s6:=Q35.out.cell 6
 simp only[zg] at s0 s1 s2 s3 s4 s5 s6 c0 c1' c2'
 go_wp2_with fail
 refine(HA1.out _ _ _ _ w35 (HM.out.below B35.out) O35.out.sp O35.out.ks M35.out zfw.out).mono ?_
 rintro e w36 ⟨sv2,kv2,rfl,hs2,hk2,hb⟩
 have hs2:Own.BH w36 sv2 S3:=hs2.mono (fun _ _ _=>trivial)
 have hk2:Own.D9 w36 kv2 K3:=hk2.mono (fun _ _ _=>trivial)
 obtain⟨sb2,sd2,rfl⟩:=hs2.len
 obtain⟨kb3,kd2,rfl⟩:=hk2.len
 have B36:=zh (B35.out.trans (hb.mono B35.out.size));have Q36:=zh (Q35.out.below hb Q35.out.lt);have M36:=zh (M35.out.below hb);have zfA:=zh (zfw.out.below hb);have S36:=zh hs2;have K36:=zh hk2
 clear hs2 hk2 hb O35 Q35 B35 M35 zfw HA1 s0 s1 s2 s3 s4 s5 s6 c0 c1' c2'
 dsimp only
 go_upto_region 14 with fail
 have hb:=(Below.refl w36.heap.size w36).alloc (Nat.le_refl _) (.cells #[.int .i64 c3,.slice sb2 S3.length sd2,.slice kb3 K3.length kd2] 25)
 have O37:=zh (OwB.new S36.out K36.out c3)
 have B37:=zh (B36.out.trans (hb.mono B36.out.size));have Q37:=zh (Q36.out.below hb Q36.out.lt);have M37:=zh (M36.out.below hb);have zfE:=zh (zfA.out.below hb)
 clear hb S36 K36 B36 Q36 M36 zfA
 generalize w36.alloc (.cells #[.int .i64 c3,.slice sb2 S3.length sd2,.slice kb3 K3.length kd2] 25)=w37 at*
 obtain⟨y,hy⟩:∃ d,d=w36.heap.size:=⟨_,rfl⟩
 rw[<- hy] at O37 ⊢
 clear hy
 have c0:=O37.out.at_.cell 0;have c1':=O37.out.at_.cell 1;have c2':=O37.out.at_.cell 2
 have s0:=Q37.out.cell 0;have s1:=Q37.out.cell 1;have s2:=Q37.out.cell 2;have s3:=Q37.out.cell 3;have s4:=Q37.out.cell 4;have s5:=Q37.out.cell 5;have s6:=Q37.out.cell 6
 simp only[zg] at s0 s1 s2 s3 s4 s5 s6 c0 c1' c2'
 go_wp2_with fail
 refine(HA2.out _ _ _ _ w37 (HM.out.below B37.out) O37.out.sp O37.out.ks M37.out zfE.out).mono ?_
 rintro e w38 ⟨sv2,kv2,rfl,_,_,hb⟩
 have B38:=zh (B37.out.trans (hb.mono B37.out.size))
 clear hb
 dsimp only
 go_wp2_with fail
 go_ret
 exact⟨rfl,B38.out⟩
end
section
open Go Go.ChangeShapes Go.WideShapes Go.RowKit Go.Maps
theorem zfn:Tryz.prog.cellsOf 5=1:=by kernel_rfl
theorem zfo {H:Type}{enc:TypeId × Value->H}{W:World}{a:Option Addr}{len cap:Nat}{d:DataW H}{p:List MemPlace}(h:DataW.Trod enc Tryz.prog W 0 (fun _=>true) true 66 (.slice a len cap) d p):
 ∃ bs:List Int,zfj W (.slice a len cap) bs:=by
 obtain⟨fuel,hf⟩:=h
 rcases open_ints Tryz.underlying66 Tryz.underlying5 zfn hf with ⟨hcs,_⟩|⟨a',len',cap',zs,hcs,_,hl,hm,hz,hx,hcell,hwz⟩
 ·have e:Value.slice a len cap=.slice none 0 0:=by simpa [Value.cells] using hcs
  rw[e]
  exact⟨[],Bh.nil 0 none,fun b hb=>(by cases hb)⟩
 ·have e:Value.slice a len cap=.slice (some a') len' cap':=by simpa [Value.cells] using hcs
  rw[e]
  have hz' : zs.length=cap':=by simpa using hz
  have hlen:(zs.take len').length=len':=by rw[List.length_take];omega
  refine⟨zs.take len',⟨by rw[List.length_map,Nat.mul_one],some a',cap',by rw[hlen],?_⟩,fun b hb=>?_⟩
  ·rw[hlen]
   by_cases h0:len' = 0
   ·exact .inl h0
   ·have hc0:=hcell 0 (by omega)
    obtain⟨b,o,sp⟩:=a'
    have hspot:sp=none:=by simpa [Addr.add] using World.cell?_spot hc0
    subst hspot
    have ad:∀ q,(⟨b,o,none⟩:Addr).add q=⟨b,o+q,none⟩:=fun q=>by unfold Addr.add;split<;>simp_all
    refine .inr ⟨b,o,rfl,?_,fun j u hj=>?_⟩
    ·rw[ad] at hc0
     exact block_lt hc0
    ·have hjl : j < len' :=by
      have:=(List.getElem?_eq_some_iff.1 hj).1
      rw[List.length_map,hlen] at this
      exact this
     have hc:=hcell j (by omega)
     rw[ad] at hc
     rw[hc]
     rw[List.getElem?_map,List.getElem?_take,if_pos hjl] at hj
     have hjz:j<zs.length:=by omega
     rw[List.getElem?_eq_getElem hjz] at hj
     simp only[Option.map_some,Option.some.injEq] at hj
     rw[<- hj]
     simp[List.getD_eq_getElem?_getD,hjz]
  ·have hw:=hwz b (List.mem_of_mem_take hb)
   simp[Lit.wf,IntKind.has] at hw
   have h1:IntKind.u8.min=0:=by decide
   have h2:IntKind.u8.max=255:=by decide
   omega
section
variable {H:Type} {enc:TypeId × Value->H}
theorem ze3 {a:Assume}{C:Checked}{os:Os}{f:FuncId}{fn:Func}{s:ChangeSpec}{conds:List PathCond}{apart fresh handsOn again:Bool}{X:World->Array Value->Prop}
 (hX:∀ (w w' : World) (args:Array Value),w.heap=w'.heap->X w args->X w' args)
 (own:ownKnob C.prog.godebug=none) (started:os.Started) (noInit:C.prog.inits.idxOf? f=none) (hfn:C.prog.funcs[f]? = some fn)
 (witness : ∃ (w : World) (tape : Tape) (i : Input),w.os = os ∧ (w.forCall tape i).Shaped C.prog ∧ i.vars = [] ∧ Input.okWide C.prog (w.forCall tape i) .any w.heap.size f i ∧
   ((s.pre enc C.prog fn conds apart (w.forCall tape i).memory i.args/\X (w.forCall tape i).memory i.args)/\sizedMet enc C.prog fn (OpenSpec.ofChange s) apart (w.forCall tape i).memory i.args)/\a.holds C.prog (lone (Frame.enter C.prog f i.args .normal) [] (w.forCall tape i)))
 (contract : ∀ (W : World) (base : Nat) (args : Array Value) (ds gs : List (DataW H)) (before : List MemPlace),
   (∀ (j:Nat) t v,fn.params[j]? = some t->args[j]? = some v->Value.okWide C.prog W .any base t v)->
   DataW.Whole enc C.prog fn.params.toList s.vars apart W args.toList ds gs before->
   conds.all (PathCond.test C.prog ⟨fn.params.toList,ds,s.plain.varTypes C.prog,gs⟩)=true->
   (DataW.weightsEach C.prog (fn.params.toList++s.plain.varTypes C.prog) (ds++gs)).all (· <= reachBytes)=true->X W args->W.ShapedOpen C.prog->
   a.holds C.prog (lone (Frame.enter C.prog f args .normal) [] W)->
   Calls C.prog f args W fun e W' => ∃ v,e=.returned v/\s.post enc C.prog fn apart fresh handsOn again W args v W'):
 ReturnsInHanded a C os f .any (fun w args=>(s.pre enc C.prog fn conds apart w args/\X w args)/\sizedMet enc C.prog fn (OpenSpec.ofChange s) apart w args) (s.post enc C.prog fn apart fresh handsOn again):=by
 refine returnsInHanded_of_calls own started noInit witness ?_
 intro w tape i _ hsh _ hok hpre hholds
 obtain⟨_,_,_,fn',hfn',_,_,_,_,hval⟩:=hok
 have e:fn' = fn:=Option.some.inj (hfn'.symm.trans hfn)
 subst e
 obtain⟨⟨⟨ds,gs,before,hw,hc⟩,hx⟩,hz⟩:=hpre
 have hw':=DataW.Whole.of_heap (w':=w.forCall tape i) (by rfl) hw
 refine(contract (w.forCall tape i) w.heap.size i.args ds gs before hval hw' hc (hz.weights hw) (hX _ _ _ (by rfl) hx) hsh hholds).mono fun e W' ⟨v,he,hp⟩=>?_
 subst he
 exact ChangeSpec.post_blind hp
theorem zfp {W:World}(h:W.ShapedOpen Tryz.prog):IW W:=
 Go.Proofs.cell_of_shapedOpen_int (zero:=#[.int .i64 0]) (t:=3) h (of_decide_eq_true (by kernel_rfl)) (by kernel_rfl) rfl (by kernel_rfl) (by kernel_rfl) Tryz.underlying3
end
end
section
open Go Go.ChangeShapes Go.WideShapes Go.RowKit Go.Maps
section
variable {H:Type} {enc:TypeId × Value->H}
theorem zfx {W:World}{base:Nat}{sp:Nat->Bool}{v:Value}{d:DataW H}{ps:List MemPlace}(hval:Value.okWide Tryz.prog W .any base 9 v)(h:DataW.Trod enc Tryz.prog W 0 sp true 9 v d ps)(hz:(d.weights Tryz.prog 9).all (· <= reachBytes)=true):
 ∃ s:ByteArray,v=.string s/\s.size<=140737488355328:=by
 obtain⟨s,rfl,rfl,_,_⟩:=ChangeMaps.open_string Tryz.underlying9 hval h
 refine⟨s,rfl,?_⟩
 simp only[DataW.weights,List.all_cons,List.all_nil,Bool.and_true,decide_eq_true_eq,Array.length_toList] at hz
 unfold reachBytes at hz
 have e:s.size=s.data.size:=rfl
 omega
end
end
section
open Go Go.ChangeShapes Go.WideShapes Go.ChangeAt Go.RowKit
theorem zeU:ownKnob Tryz.prog.godebug=none:=by kernel_rfl
theorem zeC:laidOutB Tryz.prog=true:=by kernel_rfl
theorem zeP (os:Os)(started:os.Started)(H:Type)(enc:TypeId × Value->H):
 ReturnsInHanded {} Tryz.checked os 9 .any (fun w args=>(Rows.ownersOnceSpec.pre enc Tryz.prog Tryz.f9 Rows.ownersOnceRow.domain false w args/\laidMetH Tryz.prog Rows.ownersOnceRow.laid w)/\sizedMet enc Tryz.prog Tryz.f9 (OpenSpec.ofChange Rows.ownersOnceSpec) false w args)
  (Rows.ownersOnceSpec.post enc Tryz.prog Tryz.f9 false true false false):=by
 refine ze3 (C:=Tryz.checked) (X:=fun w _=>laidMetH Tryz.prog Rows.ownersOnceRow.laid w) (fun _ _ _ hh h=>h.of_heap hh) zeU started (by kernel_rfl) Tryz.func9
  (ChangeSpec.witness_shaped (enc :=enc) (C :=Tryz.checked) (os :=os) (X :=fun w _ => laidMetH Tryz.prog Rows.ownersOnceRow.laid w) false (World.laidAll Tryz.prog os Rows.ownersOnceRow.laid) #[.slice none 0 0,.string ⟨#[]⟩] 8 (World.laidAll_os _ _ _)
    (World.shaped_of_ZipB (by kernel_rfl) (by kernel_rfl)) (by kernel_rfl) (by kernel_rfl) (by kernel_rfl)
    (by rw[MakeChecks.laidMetH_plain _ _ _ (by kernel_rfl)];exact laidMet_laidAll _ (by kernel_rfl) (by kernel_rfl))) ?_
 intro W base args ds gs before hval0 hW _ hz0 _ hsh _
 have hM:=zfp hsh
 have hval:∀ (j:Nat) t v,Tryz.f9.params[j]? = some t->args[j]? = some v->Value.okWide Tryz.prog W .any base t v:=hval0
 have hW':=hW
 obtain⟨p,q,hA0,hV,rfl,_,_⟩:=hW
 have hA:DataW.TrodAll enc Tryz.prog W 0 (fun _=>true) true Tryz.f9.params.toList args.toList ds p:=hA0
 rw[Tryz.params9] at hA hval
 obtain⟨v0,v1,d0,d1,p0,p1,rfl,rfl,rfl,h0,h1⟩:=trodAll_two hA
 obtain⟨rfl,rfl⟩:=trodVars_none hV
 have e0:DataW.weightsEach Tryz.prog (Tryz.f9.params.toList++Rows.ownersOnceSpec.plain.varTypes Tryz.prog) ([d0,d1]++[])=d0.weights Tryz.prog 66++(d1.weights Tryz.prog 9++[]):=by
  rw[Tryz.params9]
  rfl
 have hz0:=e0 ▸ hz0
 simp only[List.all_append,List.all_nil,Bool.and_true,Bool.and_eq_true] at hz0
 obtain⟨a0,zef,cap0,rfl⟩:=okWide_slice Tryz.underlying66 (hval 0 66 v0 rfl rfl)
 obtain⟨bs0,zfF⟩:=zfo h0
 obtain⟨s1,rfl,zfG⟩:=zfx (hval 1 9 v1 rfl rfl) h1 hz0.2
 have e1:Rows.ownersOnceSpec.fn H ([d0,d1]++[]) = { results:=[.lit (.bool true)],args:=[d0,d1] } :=by simp[Rows.ownersOnceSpec]
 refine(zfe (.slice a0 zef cap0) bs0 s1 W hM zfF zfG).mono fun e W' ⟨he,hb⟩=>?_
 subst he
 refine⟨_,rfl,_,_,_,[],p0++(p1++[]),[],by simpa using hW',?_,?_,?_,hb.frame _,fun h=>by cases h⟩
 ·rw[e1];exact trodAll_mk1 (shut_bool Tryz.underlying4 true)
 ·rw[e1];exact(trodAll_cons_mk (Below.trod zeC (by kernel_rfl) (of_decide_eq_true (by kernel_rfl)) h0 hb (fun z hz=>hW'.lt z (by simp[hz]))) (trodAll_cons_mk (Below.trod zeC (by kernel_rfl) (of_decide_eq_true (by kernel_rfl)) h1 hb (fun z hz=>hW'.lt z (by simp[hz]))) trodAll_mk0))
 ·rw[e1];rfl
theorem zeV:Rows.OwnersOnceSaid:=
 OpenClaim.holds_of_wide 9 Tryz.f9 rfl rfl rfl rfl rfl rfl rfl ⟨rfl,rfl,rfl,rfl,rfl⟩ rfl rfl rfl rfl rfl (by kernel_rfl) Tryz.func9 (by kernel_rfl)
  (of_decide_eq_true (by kernel_rfl)) (by unfold Func.isWrapper;first|(rw[if_pos (by decide +kernel)];kernel_rfl)|(rw[if_neg (by decide +kernel)];exact⟨rfl,rfl⟩))
  (fun os started H enc _=>zeP os started H enc)
theorem oonce_card:Rows.OwnersOnceCardSaid:=
 Claim7.holds_tied_plain_at .later [] [.data,.pinned] true Rows.ownersOnceCard.stood.harness false zeV (fun _ h=>by cases h) (by kernel_rfl) (fun _ h=>by cases h) ownersOnce_row_tie rfl ⟨rfl,rfl⟩ (by kernel_rfl) rfl
  (fun f fn hf hfn => by
    obtain rfl : f = 9 := Option.some.inj ((show Tryz.prog.funcNamed "modcert/modcertlaw53.OwnersOnce" = some 9 by kernel_rfl).symm.trans hf) |>.symm
    obtain rfl:fn=Tryz.f9:=(Option.some.inj (Tryz.func9.symm.trans hfn)).symm
    exact⟨by kernel_rfl,fun j t ht=>by
     rw[Tryz.params9] at ht
     have hm:t∈[66,9]:=by simpa using Array.mem_of_getElem? ht
     have hall:([66,9].all fun u => !Tryz.prog.wantsStandIn u)=true:=by kernel_rfl
     exact(show Tryz.prog.wantsStandIn t=false by simpa using List.all_eq_true.1 hall t hm)⟩)
  (by kernel_rfl)
end
end Go.Proofs.YtjlmglgmcekmhaaGreatDoor
