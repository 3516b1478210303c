/- Members of the laws of package 53, their names, keys and signatures, plainly: what they sign is accepted. -/
import Derived.WalkKit
import Derived.Test.YtjlmglgmcekmhaaGreatDoorChecked
import Derived.WalkLawsBesides
import Derived.WalkSpells
import Derived.Lib.Hide
import Derived.BigQuiet
import Derived.Deep.QuietTactic
import Derived.Lib.SlBytesRow
import Derived.Deep.Draws
import Derived.Deep.AppendLies
import Derived.Maps.AppendAt
import Derived.Maps.OwnSet
import Derived.Lib.Bytes
import Derived.Laws.BytesArg
import Derived.KernelRfl
import Derived.NoCompiler
import Derived.StillTail
import Derived.Laws.ResultCell
import Derived.Deep.MidRow
import Derived.Deep.RegionHeld3
import Derived.Deep.DrawnRows
import Derived.Deep.Cut
import Derived.StillTailTactics
import Derived.Deep.RegionLaw
import Derived.Shelf.Strings.Builder1
import Derived.Shelf.Strings.Builder2
import Derived.Shelf.Strings.OnBuilder
import Derived.Shelf.Small.Utf8
import Derived.Shelf.Small.Bits
import Derived.Shelf.Small.Strs
import Derived.Shelf.Strings.BuilderF
import Derived.Shelf.Strings.BuilderK
import Derived.Shelf.Utf8.RuneCount
import Derived.Shelf.Strings.Builder2Cap
import Derived.Shelf.Strconv.Itoa0
import Derived.Shelf.LaysM
import Derived.Shelf.Strconv.Clone
import Derived.Shelf.Strings.Search1
import Derived.Shelf.Strings.Search2
import Derived.Shelf.Strings.Search3
import Derived.Shelf.Strings.Count
import Derived.Shelf.Strings.Shaped
import Derived.Shelf.Strings.Prefix
import Derived.Shelf.Strings.Split
import Derived.Shelf.Strings.SplitShaped
import Derived.Shelf.Unicode.Decode
import Derived.Shelf.Strings.Runes
import Derived.Shelf.Strings.RuneCount
import Derived.Shelf.Strings.Explode
import Derived.Shelf.Bits.Mul64
import Derived.Shelf.Strings.Repeat
import Derived.Shelf.Unicode.DecodeSlow
import Derived.Shelf.Unicode.DecodeAny
import Derived.Shelf.Strings.BuilderCap
import Derived.Shelf.Slices.Turned
import Derived.Ground.SlgnProg
import Derived.Shelf.SlicesE.Index
import Derived.Shelf.SlicesE.Clone
import Derived.Ground.SlgfProg
import Derived.Shelf.SlicesE.IndexFunc
import Derived.Shelf.SlicesQ.IndexFunc
import Derived.Test.YtjlmglgmcekmhaaGreatDoorProg
import Derived.Lib.Split
import Derived.Lib.SplitLaws
import Derived.Laws.EntriesVeiled
import Derived.Maps.RangeWalk
import Derived.StringKeys
import Derived.Deep.DeepCutAuto
import Derived.Lib.EndianBits
import Derived.OwnWalk
import Derived.Laws.BitsLemmas
import Derived.Laws.AppendOwn
import Derived.Deep.AppendSrc
import Derived.Lib.ConvBytes
import Derived.Lib.Overlaps
import Derived.Laws.Externs
import Derived.Lib.AppendZeros
import Derived.Laws.IdiomCopy
import Derived.Laws.CopyRow
import Derived.Lib.OthersKept
import Derived.Deep.LoopGhost
import Derived.OrdersIn
import Derived.RangeFuncCalls
import Derived.TacticsIn
import Derived.RangeFuncNested
import Derived.RangeFuncBound
import Derived.RangeFuncLeaves
import Derived.OwnWalkIn
import Derived.TacticsInMore
import Derived.LoopNIn
import Derived.LoopIn
import Derived.Lib.Builder
import Derived.Lib.FrozenHead
import Derived.Lib.AppendStr
import Derived.Lib.SliceRun
import Derived.HandedShaped
import Derived.OpenShut
import Derived.ProofKit
import Derived.SliceStrings
import Derived.Stop.Joined
import Derived.Deep.Strs
import Derived.Deep.SlicePairs
import Derived.ChangeMaps5
import Derived.Test.YtjlmglgmcekmhaaGreatDoorRows
import Derived.Test.YtjlmglgmcekmhaaGreatDoorCards
import Derived.Test.YtjlmglgmcekmhaaGreatDoorTie
import Derived.LaidMore
import Derived.Lay
import Derived.SevenTiedAt
import Derived.Test.YtjlmglgmcekmhaaGreatDoorShkB1
import Derived.Test.YtjlmglgmcekmhaaGreatDoorShkB2
import Derived.Test.YtjlmglgmcekmhaaGreatDoorShkB3
import Derived.Test.YtjlmglgmcekmhaaGreatDoorShkB4
import Derived.Test.YtjlmglgmcekmhaaGreatDoorShkB5
import Derived.Test.YtjlmglgmcekmhaaGreatDoorShkB6
import Derived.Test.YtjlmglgmcekmhaaGreatDoorShkB7
import Derived.Test.YtjlmglgmcekmhaaGreatDoorShkB8
import Derived.Test.YtjlmglgmcekmhaaGreatDoorShkB9
import Derived.Test.YtjlmglgmcekmhaaGreatDoorShkB10
import Derived.Test.YtjlmglgmcekmhaaGreatDoorShkB11
import Derived.Test.YtjlmglgmcekmhaaGreatDoorShkB12
import Derived.Test.YtjlmglgmcekmhaaGreatDoorShkB13
set_option linter.unusedVariables false
set_option linter.unusedSimpArgs false
set_option maxRecDepth 100000
set_option maxHeartbeats 4000000
namespace Go.Proofs.YtjlmglgmcekmhaaGreatDoor
section
open Go
namespace Own
theorem zeI {a b:Nat}(ha:a<256)(hb:b<256)(hne:a≠b)(i:Nat)(hi:i<2)(msg:ByteArray):Sig.verify (Gg a) msg (Sig.BJ (BK.Cc b) i msg)=false:=by
 cases h:Sig.verify (Gg a) msg (Sig.BJ (BK.Cc b) i msg) with
 | false=>rfl
 | true =>
   exfalso
   have hv:=Sig.Zf (BK.Cc b) i hi msg
   unfold Sig.verify at h hv
   unfold Gg at h
   rw[Sig.Ju,Sig.MF,Bool.and_eq_true] at h hv
   have h1:=h.2
   have h2:=hv.2
   unfold Sig.included at h1 h2
   rw[Bool.and_eq_true,decide_eq_true_eq] at h1 h2
   have h3:=h1.2
   rw[h2.2] at h3
   exact BK.qR hb ha (Ne.symm hne) (Option.some.inj h3)
end Own
end
section
open Go Go.RowKit Go.Maps
namespace Own
theorem zeE (s:ByteArray):∀ (l:List Space) (b:Option Space) (x:Space),CW s b l=some x->x∈l\/b=some x
 | [],b,x,h=>.inr h
 | y :: l,b,x,h => by
   rw[Nf] at h
   rcases zeE s l _ x h with h|h
   ·exact .inl (List.mem_cons_of_mem _ h)
   ·unfold TM at h
    split at h
    ·cases h;exact .inl List.mem_cons_self
    ·exact .inr h
theorem zeB {o:Ar}{s:ByteArray}{x:Space}(h:authority o s=some x):x∈o.spaces:=by
 unfold authority at h
 split at h
 ·rcases zeE s _ _ x h with h|h
  ·exact h
  ·cases h
 ·cases h
end Own
namespace Own
end Own
namespace Own
end Own
def zeV (X:Nat->Prop)(w:World)(o:Own.Ar)(n th:Int)(R:Except Int (List Own.KeyUse))(e:Ending)(w' : World):Prop:=
 (match R with
   | .error c=>e=.returned (.tuple #[Own.nobody,.int .i64 c])
   | .ok K=>if n<th then e=.returned (.tuple #[Own.nobody,.int .i64 20]) else ∃ sv kv,e=.returned (.tuple #[.agg #[.int .i64 o.count,sv,kv],.int .i64 0])/\Au 3 Own.Fu (fun k=>¬ X k) w' sv o.spaces/\Au 2 Own.fG (fun k=>¬ X k) w' kv K)/\Below w.heap.size w w'
theorem zeC (X:Nat->Prop)(o:Own.Ar)(s:Own.Space)(msg:ByteArray)(l:List Own.Aj)(sv kv mv lv:Value)(w:World)(hX:∀ k,X k->k<w.heap.size)(hS:Au 3 Own.Fu (fun k=>¬ X k) w sv o.spaces)(hK:Own.D9 w kv o.keys)(hm:Own.Ag w mv s.members)(hA:Own.Iy w lv l)
 (hsrt:Own.Srt Own.KeyUse.pub o.keys) (hls:o.spaces.length<=3000000) (hlk:o.keys.length+l.length<=900000) (hlm:∀ s∈o.spaces,s.members.length<=3000000) (hml:s.members.length<=3000000) (Kr:msg.size<=9223372036854775000)
 (hal:∀ a∈l,a.name.size<=140737488355328/\a.sig.chains.length<=140737488355328/\a.sig.path.length<=140737488355328):
 Calls Tryz.prog 97 #[.agg #[.int .i64 o.count,sv,kv],.agg #[.string s.pre,mv,.int .i64 s.threshold],.string msg,lv] w (zeV X w o l.length s.threshold (Own.Bp s msg [] o.keys l)):=by
 refine(Uc o s msg l sv kv mv lv w (hS.mono (fun _ _ _=>trivial)) hK hm hA hsrt hls hlk hlm hml Kr hal).mono ?_
 rintro e w' ⟨h,hb⟩
 refine⟨?_,hb⟩
 cases hr:Own.Bp s msg [] o.keys l with
 | error c=>rw[hr] at h;exact h
 | ok K =>
   rw[hr] at h
   show if _ then _ else _
   have h:if (l.length:Int)<s.threshold then _ else _:=h
   by_cases ht:(l.length:Int)<s.threshold
   ·rw[if_pos ht] at h ⊢;exact h
   ·rw[if_neg ht] at h ⊢
    obtain⟨sv',kv',us,he,hs,hk⟩:=h
    have up:∀ k,w.heap.size<=k->¬ X k:=fun k hk hx=>by have:=hX k hx;omega
    exact⟨sv',kv',he,hs.list up,Cx (enc:=Own.DJ) (fun _=>rfl) (fun _=>rfl) (Bh.own hk) rfl (fun k hk2=>up k (Al hk k hk2))⟩
end
section
open Go
namespace Own
def ze0 (o:Ar)(s msg:ByteArray)(l:List Aj):Except Int (List KeyUse):=
 if Bz o then
  match authority o s with
  | none=>.error 6
  | some x => match Bp x msg [] o.keys l with
    | .error c=>.error c
    | .ok K=>if (l.length:Int)<x.threshold then .error 20 else .ok K
 else .error 1
end Own
end
section
open Go Go.RowKit Go.Maps
namespace Own
theorem zeJ {o:Ar}(h:Bz o=true):Srt KeyUse.pub o.keys:=by
 unfold Bz at h
 simp only[Bool.and_eq_true] at h
 exact(Jz (f:=KeyUse.pub) h.2).1
end Own
def ze6 (X:Nat->Prop)(w:World)(o:Own.Ar)(R:Except Int (List Own.KeyUse))(e:Ending)(w' : World):Prop:=
 (match R with
   | .error c=>e=.returned (.tuple #[Own.nobody,.int .i64 c])
   | .ok K=>∃ sv kv,e=.returned (.tuple #[.agg #[.int .i64 o.count,sv,kv],.int .i64 0])/\Au 3 Own.Fu (fun k=>¬ X k) w' sv o.spaces/\Au 2 Own.fG (fun k=>¬ X k) w' kv K)/\Below w.heap.size w w'
theorem ze8 (X:Nat->Prop)(o:Own.Ar)(s msg:ByteArray)(l:List Own.Aj)(sv kv lv:Value)(w:World)(hX:∀ k,X k->k<w.heap.size)(hMx:IW w)(hSx:Au 3 Own.Fu (fun k=>¬ X k) w sv o.spaces)(hK:Own.D9 w kv o.keys)(hA:Own.Iy w lv l)
 (hls:o.spaces.length<=3000000) (hlk:o.keys.length+l.length<=900000) (hlm:∀ s∈o.spaces,s.members.length<=3000000) (Kr:msg.size<=9223372036854775000)
 (hal:∀ a∈l,a.name.size<=140737488355328/\a.sig.chains.length<=140737488355328/\a.sig.path.length<=140737488355328):
 Calls Tryz.prog 39 #[.agg #[.int .i64 o.count,sv,kv],.string s,.string msg,lv] w (ze6 X w o (Own.ze0 o s msg l)):=by
 obtain⟨R,hR⟩:∃ R,R=Own.ze0 o s msg l:=⟨_,rfl⟩
 obtain⟨Q,hQ⟩:∃ Q,Q=ze6 X w o R:=⟨_,rfl⟩
 rw[<- hR,<- hQ]
 have HQ:=zh hQ;have HR:=zh hR;clear hQ hR
 obtain⟨sa,sc,rfl⟩:=hSx.len
 have hS:Own.BH w (.slice sa o.spaces.length sc) o.spaces:=hSx.mono (fun _ _ _=>trivial)
 have HSX:=zh hSx;clear hSx
 obtain⟨ka,kc,rfl⟩:=hK.len
 obtain⟨la,lc,rfl,hap⟩:=id hA
 clear hap
 have ha0:=(At.new w 25 #[.int .i64 o.count,.slice sa o.spaces.length sc,.slice ka o.keys.length kc]).alloc (.cells #[.int .i64 0,.slice none 0 0,.slice none 0 0] 25)
 have ha1:=At.new1 w (.cells #[.int .i64 o.count,.slice sa o.spaces.length sc,.slice ka o.keys.length kc] 25) 25 #[.int .i64 0,.slice none 0 0,.slice none 0 0]
 have hb1:Below w.heap.size w ((w.alloc (.cells #[.int .i64 o.count,.slice sa o.spaces.length sc,.slice ka o.keys.length kc] 25)).alloc (.cells #[.int .i64 0,.slice none 0 0,.slice none 0 0] 25)):=zb.alloc (by simp) _
 have hz1:((w.alloc (.cells #[.int .i64 o.count,.slice sa o.spaces.length sc,.slice ka o.keys.length kc] 25)).alloc (.cells #[.int .i64 0,.slice none 0 0,.slice none 0 0] 25)).heap.size=w.heap.size+2:=by simp
 obtain⟨c0,c1,c2⟩:=ha0.c3
 have HS:=zh hS;have HK:=zh hK;have HA:=zh hA;have HMX:=zh hMx;have A0:=zh ha0;have A1:=zh ha1;have B1:=zh hb1;have HLM:=zh hlm;have HAL:=zh hal
 clear hS hK hA hMx ha0 ha1 hb1 hlm hal
 go_enter Tryz.func39,Tryz.ntmps39
 go_wp2_with fail
 generalize (w.alloc (.cells #[.int .i64 o.count,.slice sa o.spaces.length sc,.slice ka o.keys.length kc] 25)).alloc (.cells #[.int .i64 0,.slice none 0 0,.slice none 0 0] 25)=w1 at*
 refine(KL o _ _ w1 (HMX.out.below B1.out) (HS.out.below B1.out) (HK.out.below B1.out) (by omega) (by omega) (fun s hs=>by have:=HLM.out s hs;omega)).mono ?_
 rintro e w2 ⟨rfl,hb2⟩
 have A02:=zh (A0.out.below hb2 (by omega));have A12:=zh (A1.out.below hb2 (by omega));have B2:=zh (B1.out.trans (hb2.mono B1.out.size))
 have hz2:=hb2.size
 obtain⟨y0,y1,y2⟩:=A02.out.c3
 clear hb2 A0 A1 B1 c0 c1 c2
 cases hv:Own.Bz o with
 | false =>
   have e:R=.error 1:=by rw[HR.out,Own.ze0,if_neg (by rw[hv];simp)]
   have HE:=zh e
   have TW:=A12;have TB:=B2
   have x0:=TW.out.cell 0;have x1:=TW.out.cell 1;have x2:=TW.out.cell 2;have x3:=TW.out.free 0;have x4:=TW.out.free 1;have x5:=TW.out.free 2
   simp only[zg] at x0 x1 x2
   clear e hv
   go_wp2_with fail
   have F2:=((TW.out.set 0 (.int .i64 0)).set 1 (.slice none 0 0)).set 2 (.slice none 0 0)
   refine BM rfl rfl rfl (AQ F2 Tryz.underlying25 rfl Bv) ?_
   rw[HQ.out,HE.out]
   exact⟨rfl,((TB.out.setCell (p:=⟨w.heap.size+1,0,none⟩) (by simp) _).setCell (p:=⟨w.heap.size+1,1,none⟩) (by simp) _).setCell (p:=⟨w.heap.size+1,2,none⟩) (by simp) _⟩
 | true=>
 have hR2:R=(match Own.authority o s with
  | none=>.error 6
  | some x => match Own.Bp x msg [] o.keys l with
    | .error c=>.error c
    | .ok K=>if (l.length:Int)<x.threshold then .error 20 else .ok K):=by rw[HR.out,Own.ze0,if_pos hv]<;>rfl
 have HR2:=zh hR2;have zdv:=zh (Own.zeJ hv);have HOK:=zh (Own.OK.of hv)
 clear hR2 hv
 go_wp2_with fail
 refine(PX o s _ _ w2 (HMX.out.below B2.out) (HS.out.below B2.out) (HK.out.below B2.out) (by omega) (by omega) (fun s hs=>by have:=HLM.out s hs;omega)).mono ?_
 intro e w3 hpost
 obtain⟨hval,hb3⟩:=hpost
 have A03:=zh (A02.out.below hb3 (by omega));have A13:=zh (A12.out.below hb3 (by omega));have B3:=zh (B2.out.trans (hb3.mono B2.out.size))
 have hz3:=hb3.size
 clear hb3 A02 A12 B2 y0 y1 y2
 cases hau:Own.authority o s with
 | none =>
   rw[hau] at hval
   have Nz:e=.returned (.tuple #[.agg #[.string ⟨#[]⟩,.slice none 0 0,.int .i64 0],.bool false]):=hval
   subst Nz
   have e:R=.error 6:=by rw[HR2.out,hau]
   have HE:=zh e
   have TW:=zh (A13.out.alloc (.cells #[.string ⟨#[]⟩,.slice none 0 0,.int .i64 0] 39));have TB:=zh (B3.out.alloc B3.out.size (.cells #[.string ⟨#[]⟩,.slice none 0 0,.int .i64 0] 39))
   have x0:=TW.out.cell 0;have x1:=TW.out.cell 1;have x2:=TW.out.cell 2;have x3:=TW.out.free 0;have x4:=TW.out.free 1;have x5:=TW.out.free 2
   simp only[zg] at x0 x1 x2
   clear e hau hval
   go_wp2_with fail
   have F2:=((TW.out.set 0 (.int .i64 0)).set 1 (.slice none 0 0)).set 2 (.slice none 0 0)
   refine BM rfl rfl rfl (AQ F2 Tryz.underlying25 rfl Bv) ?_
   rw[HQ.out,HE.out]
   exact⟨rfl,((TB.out.setCell (p:=⟨w.heap.size+1,0,none⟩) (by simp) _).setCell (p:=⟨w.heap.size+1,1,none⟩) (by simp) _).setCell (p:=⟨w.heap.size+1,2,none⟩) (by simp) _⟩
 | some sp=>
 rw[hau] at hval
 obtain⟨mv,rfl,hom⟩:=hval
 have hmem:=Own.zeB hau
 have hR3:R=(match Own.Bp sp msg [] o.keys l with
  | .error c=>.error c
  | .ok K=>if (l.length:Int)<sp.threshold then .error 20 else .ok K):=by rw[HR2.out,hau]
 obtain⟨ma,mm,mc,rfl⟩:=Ad hom
 obtain rfl:=Bf hom
 have hb4:Below w3.heap.size w3 (w3.alloc (.cells #[.string sp.pre,.slice ma sp.members.length mc,.int .i64 sp.threshold] 39)):=zb
 have hz4:(w3.alloc (.cells #[.string sp.pre,.slice ma sp.members.length mc,.int .i64 sp.threshold] 39)).heap.size=w3.heap.size+1:=World.size_alloc _ _
 have hmc:Own.Ag (w3.alloc (.cells #[.string sp.pre,.slice ma sp.members.length mc,.int .i64 sp.threshold] 39)) (.slice ma sp.members.length mc) sp.members:=(Own.Ag.of (Bh.own hom) rfl).below hb4
 have B4:=zh (B3.out.trans (hb4.mono B3.out.size));have A04:=zh (A03.out.below hb4 (by omega));have A14:=zh (A13.out.below hb4 (by omega))
 have hap:=zeC (fun k=>X k\/(w.heap.size<=k/\k<w.heap.size+2)) o sp msg l (.slice sa o.spaces.length sc) (.slice ka o.keys.length kc) (.slice ma sp.members.length mc) (.slice la l.length lc) _ (fun k hk=>by rcases hk with hk|hk;have:=hX k hk;omega;omega) ((HSX.out.mono (G:=fun k=>¬ (X k\/(w.heap.size<=k/\k<w.heap.size+2))) (fun k hx hk h=>h.elim hx (fun h=>by omega))).below B4.out) (HK.out.below B4.out) hmc (HA.out.below B4.out) zdv.out hls hlk HLM.out (HLM.out sp hmem) Kr HAL.out
 obtain⟨y0,y1,y2⟩:=A04.out.c3
 have HAP:=zh hap;have HR3:=zh hR3
 clear hap hR3 hau hmem hom hb4 hmc HR2 A03 A13 B3
 go_wp2_with fail
 refine HAP.out.mono ?_
 intro e w5 hpost
 obtain⟨hval,hb5⟩:=hpost
 have TW:=zh (A14.out.below hb5 (by omega));have TB:=zh (B4.out.trans (hb5.mono B4.out.size))
 have hz5:=hb5.size
 clear hb5 A04 A14 B4 y0 y1 y2 HAP
 have x0:=TW.out.cell 0;have x1:=TW.out.cell 1;have x2:=TW.out.cell 2;have x3:=TW.out.free 0;have x4:=TW.out.free 1;have x5:=TW.out.free 2
 simp only[zg] at x0 x1 x2
 cases hf:Own.Bp sp msg [] o.keys l with
 | error c =>
   rw[hf] at hval
   have Nz:e=.returned (.tuple #[Own.nobody,.int .i64 c]):=hval
   subst Nz
   have e:R=.error c:=by rw[HR3.out,hf]
   have HE:=zh e
   unfold Own.nobody
   clear e hf hval
   go_wp2_with fail
   have F2:=((TW.out.set 0 (.int .i64 0)).set 1 (.slice none 0 0)).set 2 (.slice none 0 0)
   refine BM rfl rfl rfl (AQ F2 Tryz.underlying25 rfl Bv) ?_
   rw[HQ.out,HE.out]
   exact⟨rfl,((TB.out.setCell (p:=⟨w.heap.size+1,0,none⟩) (by simp) _).setCell (p:=⟨w.heap.size+1,1,none⟩) (by simp) _).setCell (p:=⟨w.heap.size+1,2,none⟩) (by simp) _⟩
 | ok K =>
   rw[hf] at hval
   by_cases hth:(l.length:Int)<sp.threshold
   ·have Nz : e = .returned (.tuple #[Own.nobody,.int .i64 20]) :=by
     have h:if (l.length:Int)<sp.threshold then e=.returned (.tuple #[Own.nobody,.int .i64 20]) else _:=hval
     rw[if_pos hth] at h
     exact h
    subst Nz
    have e:R=.error 20:=by rw[HR3.out,hf];exact if_pos hth
    have HE:=zh e
    unfold Own.nobody
    clear e hf hval
    go_wp2_with fail
    have F2:=((TW.out.set 0 (.int .i64 0)).set 1 (.slice none 0 0)).set 2 (.slice none 0 0)
    refine BM rfl rfl rfl (AQ F2 Tryz.underlying25 rfl Bv) ?_
    rw[HQ.out,HE.out]
    exact⟨rfl,((TB.out.setCell (p:=⟨w.heap.size+1,0,none⟩) (by simp) _).setCell (p:=⟨w.heap.size+1,1,none⟩) (by simp) _).setCell (p:=⟨w.heap.size+1,2,none⟩) (by simp) _⟩
   ·have Nz : ∃ sv kv,e = .returned (.tuple #[.agg #[.int .i64 o.count,sv,kv],.int .i64 0]) ∧ Au 3 Own.Fu (fun k => ¬ (X k ∨ (w.heap.size ≤ k ∧ k < w.heap.size + 2))) w5 sv o.spaces ∧ Au 2 Own.fG (fun k => ¬ (X k ∨ (w.heap.size ≤ k ∧ k < w.heap.size + 2))) w5 kv K :=by
     have h:if (l.length:Int)<sp.threshold then _ else ∃ sv kv,e=.returned (.tuple #[.agg #[.int .i64 o.count,sv,kv],.int .i64 0])/\Au 3 Own.Fu (fun k=>¬ (X k\/(w.heap.size<=k/\k<w.heap.size+2))) w5 sv o.spaces/\Au 2 Own.fG (fun k=>¬ (X k\/(w.heap.size<=k/\k<w.heap.size+2))) w5 kv K:=hval
     rw[if_neg hth] at h
     exact h
    obtain⟨sv2,kv2,rfl,hs2,hk2⟩:=Nz
    have e:R=.ok K:=by rw[HR3.out,hf];exact if_neg hth
    have HE:=zh e;have HS2:=zh hs2;have HK2:=zh hk2
    obtain⟨va,vc,rfl⟩:=hs2.len
    obtain⟨ua,uc,rfl⟩:=hk2.len
    clear e hf hval hs2 hk2
    go_wp2_with fail
    have F2:=((TW.out.set 0 (.int .i64 o.count)).set 1 (.slice va o.spaces.length vc)).set 2 (.slice ua K.length uc)
    have IZ:∀ j,¬ (X j\/(w.heap.size<=j/\j<w.heap.size+2))->(((w5.setCell ⟨w.heap.size+1,0,none⟩ (.int .i64 o.count)).setCell ⟨w.heap.size+1,1,none⟩ (.slice va o.spaces.length vc)).setCell ⟨w.heap.size+1,2,none⟩ (.slice ua K.length uc)).heap[j]? = w5.heap[j]? :=fun j hj=>by
     have hne:j≠w.heap.size+1:=by rintro rfl;exact hj (.inr ⟨by omega,by omega⟩)
     rw[zo hne,zo hne,zo hne]
    refine BM rfl rfl rfl (AQ F2 Tryz.underlying25 rfl Bv) ?_
    rw[HQ.out,HE.out]
    refine⟨⟨_,_,rfl,?_,?_⟩,((TB.out.setCell (p:=⟨w.heap.size+1,0,none⟩) (by simp) _).setCell (p:=⟨w.heap.size+1,1,none⟩) (by simp) _).setCell (p:=⟨w.heap.size+1,2,none⟩) (by simp) _⟩
    ·exact(HS2.out.keep (by simp[World.setCell]) (fun k hk _=>IZ k hk)).mono (fun k hk _ hx=>hk (.inl hx))
    ·exact(HK2.out.keep (by simp[World.setCell]) (fun k hk _=>IZ k hk)).mono (fun k hk _ hx=>hk (.inl hx))
end
section
open Go
namespace Own
theorem zfe {f:Nat}(hf:f<256){b:Nat}(hb:b<256)(S:List Space)(s:Nat):Bj (LU f s).keys (Gg b)=if b=f then 2 else 0:=by
 show Bj ([f].foldl (JM 1) ([f].foldl (JM 0) [])) (Gg b)=_
 have hl:∀ x∈[f],x<256:=(I6.one hf).lt
 rw[Wq (by omega) hb (KB.fold (by omega) KB.nil hl) hl,Wq (by omega) hb KB.nil hl,iA]
 by_cases e:b=f
 ·subst e;simp
 ·simp[e]
/-! ### zfj keys -/
def ze1 (f n:Nat):Op:=⟨4,sA,[],0,CX f,Gg n,[]⟩
def ze3 (f n:Nat):Ar:=⟨2,[⟨sA,[⟨CX f,Gg n⟩],1⟩],[f].foldl (JM 1) ([f].foldl (JM 0) [])⟩
theorem zeU (f n:Nat):Ew (opW (ze1 f n) [])=true:=by
 unfold Ew Wd opName opW ze1
 dsimp only
 rw[if_pos (by omega),if_pos rfl,vG,qY,yD]
 rfl
theorem zeF {f n:Nat}(hf:f<256)(hn:n<256):Co (Eb f) (Bl (Eb f) (ze1 f n) 1 [f])=(ze3 f n,0):=by
 have hw:FZ (Eb f).spaces (ze1 f n)=.ok (⟨sA,[ZR f],1⟩,[⟨sA,[⟨CX f,Gg n⟩],1⟩]):=by
  have h1:Ia [⟨sA,Bo [f],1⟩] (ze1 f n).pre=some ⟨sA,Bo [f],1⟩:=by
   unfold Ia
   rw[List.find?_cons_of_pos (by show decide (sA=sA)=true;exact decide_eq_true rfl)]
  have h2:find (Bo [f]) (ze1 f n).name=some (ZR f):=ZU (I6.one hf).lt (by simp)
  have h3:(Bo [f]).any (fun x => !decide (x.name=(ZR f).name)&&decide (x.pub=(ze1 f n).pub))=false:=by
   unfold Bo
   simp
  have h4:Du Space.pre (XT ⟨sA,Bo [f],1⟩ (ze1 f n).name (ze1 f n).pub) [⟨sA,Bo [f],1⟩]=[⟨sA,[⟨CX f,Gg n⟩],1⟩]:=by
   have e:XT ⟨sA,Bo [f],1⟩ (ze1 f n).name (ze1 f n).pub=⟨sA,[⟨CX f,Gg n⟩],1⟩:=by
    unfold XT LK Bo
    simp only[List.map_cons,List.map_nil]
    rw[if_pos (show(ZR f).name=(ze1 f n).name from rfl)]
    rfl
   rw[e]
   unfold Du
   rw[show Ak (Space.pre ⟨sA,Bo [f],1⟩) (Space.pre ⟨sA,[⟨CX f,Gg n⟩],1⟩)=false from BU _,if_neg (by simp),if_pos rfl]
  have hk:(ze1 f n).kind=4:=rfl
  unfold FZ
  rw[if_neg (show ¬ (ze1 f n).kind=0 by rw[hk];decide),if_neg (show ¬ (ze1 f n).kind=1 by rw[hk];decide),if_neg (show ¬ (ze1 f n).kind=2 by rw[hk];decide),if_neg (show ¬ (ze1 f n).kind=3 by rw[hk];decide),show(Eb f).spaces=[⟨sA,Bo [f],1⟩] from rfl,h1]
  dsimp only
  rw[h2]
  dsimp only
  rw[h3,h4]
  rfl
 have hc:(Eb f).count≠late:=by show(1:Int)≠late;decide
 have hl:∀ x∈[f],x<256:=(I6.one hf).lt
 have hK:KB (Eb f).keys:=KB.fold (by omega) KB.nil hl
 have hnx:Bj (Eb f).keys (Gg f)<=(1:Nat):=by
  show Bj ([f].foldl (JM 0) []) (Gg f)<=_
  rw[Wq (by omega) hf KB.nil hl,if_pos (by simp)]
  decide
 have h:=OM (i:=1) (ks:=[f]) (jW hf) (zeU f n) hc hw (by omega) hK (Ux (I6.one hf)) hl (by simp) (fun b hb=>by
  rw[List.mem_singleton.1 hb]
  exact⟨ZU hl (by simp),hnx⟩) (by simp)
 rw[h]
 have e:(Eb f).count+1=(2:Int):=rfl
 rw[e]
 unfold ze3 Eb
 rfl
theorem ze7 {f n:Nat}(hf:f<256)(hn:n<256):Bz (ze3 f n)=true:=by
 have h:=zeF hf hn
 have h2:=qW (o:=Eb f) (op:=Bl (Eb f) (ze1 f n) 1 [f]) (by rw[h])
 rw[h] at h2
 exact h2.1
theorem zeG {f n:Nat}(hf:f<256)(hn:n<256):authority (ze3 f n) sA=some ⟨sA,[⟨CX f,Gg n⟩],1⟩:=by
 unfold authority
 rw[ze7 hf hn,yD]
 show CW sA none [⟨sA,[⟨CX f,Gg n⟩],1⟩]=_
 have:belongs sA sA=true:=rfl
 unfold CW
 rw[this]
 rfl
theorem zeR {f n:Nat}(hf:f<256)(hn:n<256)(hne:f≠n):Bj (ze3 f n).keys (Gg n)=0:=by
 have:=zfe hf hn [] n
 rw[if_neg (Ne.symm hne)] at this
 exact this
theorem ze9 {s:Space}{msg:ByteArray}{K:List KeyUse}{a:Aj}{m:Member}(hf:find s.members a.name=some m)(hv:Sig.verify m.pub msg a.sig=true)(hi:¬ a.sig.index<Bj K m.pub):Bp s msg [] K [a]=.ok (use K ⟨m.pub,a.sig.index+1⟩):=by
 unfold Bp
 rw[hf]
 dsimp only
 rw[if_neg (by simp),hv,if_pos rfl,if_neg hi]
 rfl
theorem zeM {o:Ar}{p msg:ByteArray}{l:List Aj}{s:Space}{K:List KeyUse}(h1:Bz o=true)(h2:authority o p=some s)(h3:Bp s msg [] o.keys l=.ok K):ze0 o p msg l=if (l.length:Int)<s.threshold then .error 20 else .ok K:=by
 unfold ze0
 rw[h1,if_pos rfl,h2]
 dsimp only
 rw[h3]
theorem zeK {o:Ar}{p msg:ByteArray}{l:List Aj}{s:Space}{c:Int}(h1:Bz o=true)(h2:authority o p=some s)(h3:Bp s msg [] o.keys l=.error c):ze0 o p msg l=.error c:=by
 unfold ze0
 rw[h1,if_pos rfl,h2]
 dsimp only
 rw[h3]
theorem zeN (n:ByteArray)(m:Member)(h:m.name=n):find [m] n=some m:=by
 unfold find
 rw[List.find?_cons_of_pos (by simpa using h)]
theorem zeW {f n:Nat}(hf:f<256)(hn:n<256)(hne:f≠n)(msg:ByteArray):∃ K,ze0 (ze3 f n) sA msg [⟨CX f,Sig.BJ (BK.Cc n) 0 msg⟩]=.ok K:=by
 have h3:=ze9 (s:=⟨sA,[⟨CX f,Gg n⟩],1⟩) (msg:=msg) (K:=(ze3 f n).keys) (a:=⟨CX f,Sig.BJ (BK.Cc n) 0 msg⟩) (m:=⟨CX f,Gg n⟩) (zeN _ _ rfl) (ZV n 0 (by omega) msg) (by
  show ¬ (Sig.BJ (BK.Cc n) 0 msg).index<Bj (ze3 f n).keys (Gg n)
  rw[MW,zeR hf hn hne]
  decide)
 have h4:=zeM (ze7 hf hn) (zeG hf hn) h3
 rw[if_neg (by simp)] at h4
 exact⟨_,h4⟩
theorem zeX {f n:Nat}(hf:f<256)(hn:n<256)(hne:f≠n)(msg:ByteArray):ze0 (ze3 f n) sA msg [Dw 1 msg f]=.error 18:=by
 refine zeK (ze7 hf hn) (zeG hf hn) ?_
 have hv:=zeI hn hf (Ne.symm hne) 1 (by omega) msg
 have h1:=zeN (CX f) ⟨CX f,Gg n⟩ rfl
 unfold Bp
 rw[show(Dw 1 msg f).name=CX f from rfl,show(Dw 1 msg f).sig=Sig.BJ (BK.Cc f) 1 msg from rfl,h1]
 dsimp only
 rw[hv,if_neg (by simp),if_neg (by simp)]
end Own
end
section
open Go Go.RowKit Go.Maps
namespace Own
def zeD (o:Ar):Except Int (List KeyUse)->Ar × Int
 | .error c=>(.none,c)
 | .ok K=>(⟨o.count,o.spaces,K⟩,0)
end Own
theorem ze6.val {X:Nat->Prop}{w:World}{o:Own.Ar}{R:Except Int (List Own.KeyUse)}{e:Ending}{w' : World}(h:ze6 X w o R e w'):
 ∃ sv kv,e=.returned (.tuple #[.agg #[.int .i64 (Own.zeD o R).1.count,sv,kv],.int .i64 (Own.zeD o R).2])/\Own.BH w' sv (Own.zeD o R).1.spaces/\Own.D9 w' kv (Own.zeD o R).1.keys/\Below w.heap.size w w':=by
 obtain⟨h,hb⟩:=h
 cases R with
 | error c=>exact⟨_,_,h,Au.nil _ _,Au.nil _ _,hb⟩
 | ok K =>
   obtain⟨sv,kv,h1,h2,h3⟩:=h
   exact⟨sv,kv,h1,h2.mono (fun _ _ _=>trivial),h3.mono (fun _ _ _=>trivial),hb⟩
structure OwB (w:World) (b:Nat) (n:Int) (S:List Own.Space) (K:List Own.KeyUse) (sv kv:Value):Prop where
 at_:At w b 25 #[.int .i64 n,sv,kv]
 sp:Own.BH w sv S
 ks:Own.D9 w kv K
structure SgB (w:World) (b:Nat) (a:Own.Aj) (cv pv:Value):Prop where
 at_:At w b 72 #[.string a.name,.int .i64 a.sig.index,cv,pv]
 c:Am w cv a.sig.chains
 p:Am w pv a.sig.path
 cap:Eo pv
section
variable {w w' : World} {b:Nat} {n:Int} {S:List Own.Space} {K:List Own.KeyUse} {sv kv cv pv:Value} {a:Own.Aj}
theorem OwB.below (h:OwB w b n S K sv kv)(hb:Below w.heap.size w w'):OwB w' b n S K sv kv:=⟨h.at_.below hb h.at_.lt,h.sp.below hb,h.ks.below hb⟩
theorem OwB.new (hs:Own.BH w sv S)(hk:Own.D9 w kv K)(n:Int):OwB (w.alloc (.cells #[.int .i64 n,sv,kv] 25)) w.heap.size n S K sv kv:=
 have hb:=(Below.refl w.heap.size w).alloc (Nat.le_refl _) (.cells #[.int .i64 n,sv,kv] 25)
 ⟨At.new w _ _,hs.below hb,hk.below hb⟩
theorem SgB.one (h:SgB w b a cv pv):Own.Iy w (.slice (some ⟨b,0,none⟩) 1 1) [a]:=by
 refine⟨_,_,rfl,fun i hi=>?_⟩
 have hi0:i=0:=by simpa using hi
 subst hi0
 exact⟨b,0,cv,pv,rfl,h.at_.lt,h.at_.cell 0,h.at_.cell 1,h.at_.cell 2,h.at_.cell 3,h.c,h.p,h.cap⟩
end
theorem zeY (o:Own.Ar)(op:Own.Op)(sv kv mv av:Value)(w:World)(hM:IW w)(hS:Own.BH w sv o.spaces)(hK:Own.D9 w kv o.keys)(hm:Own.Ag w mv op.members)(hA:Own.Iy w av op.Aa)
 (hl:o.spaces.length<=10/\o.keys.length<=10/\∀ s∈o.spaces,s.members.length<=10) (hml:op.members.length<=10)
 (hal:∀ a∈op.Aa,a.name.size<=140737488355328/\a.sig.chains.length<=140737488355328/\a.sig.path.length<=140737488355328):
 Calls Tryz.prog 14 #[.agg #[.int .i64 o.count,sv,kv],Own.opV op mv av] w (Own.zcI w (Own.Co o op)):=
 (QS o op sv kv mv av w hM hS hK hm hA (by have:=hl.1;omega) (by have:=hl.2.1;omega) (fun s hs=>by have:=hl.2.2 s hs;omega) (by omega) hal).mono (fun _ _ h=>h.val)
theorem zeH (o:Own.Ar)(s msg:ByteArray)(l:List Own.Aj)(sv kv lv:Value)(w:World)(hM:IW w)(hS:Own.BH w sv o.spaces)(hK:Own.D9 w kv o.keys)(hA:Own.Iy w lv l)
 (hl:o.spaces.length<=10/\o.keys.length<=10/\∀ s∈o.spaces,s.members.length<=10) (hll:l.length<=10) (Kr:msg.size<=200)
 (hal:∀ a∈l,a.name.size<=140737488355328/\a.sig.chains.length<=140737488355328/\a.sig.path.length<=140737488355328):
 Calls Tryz.prog 39 #[.agg #[.int .i64 o.count,sv,kv],.string s,.string msg,lv] w fun e w' => ∃ sv kv,e=.returned (.tuple #[.agg #[.int .i64 (Own.zeD o (Own.ze0 o s msg l)).1.count,sv,kv],.int .i64 (Own.zeD o (Own.ze0 o s msg l)).2])/\Own.BH w' sv (Own.zeD o (Own.ze0 o s msg l)).1.spaces/\Own.D9 w' kv (Own.zeD o (Own.ze0 o s msg l)).1.keys/\Below w.heap.size w w' :=
 (ze8 (fun _=>False) o s msg l sv kv lv w (fun k hk=>hk.elim) hM (hS.mono (fun _ _ _=>fun h=>h)) hK hA (by have:=hl.1;omega) (by have:=hl.2.1;omega) (fun s hs=>by have:=hl.2.2 s hs;omega) (by omega) hal).mono (fun _ _ h=>h.val)
theorem zeZ (o:Own.Ar)(sv kv:Value)(w:World)(hM:IW w)(hS:Own.BH w sv o.spaces)(hK:Own.D9 w kv o.keys)(hl:o.spaces.length<=10/\o.keys.length<=10/\∀ s∈o.spaces,s.members.length<=10):
 Calls Tryz.prog 20 #[.agg #[.int .i64 o.count,sv,kv]] w fun e w' => e=.returned (.bool (Own.Bz o))/\Below w.heap.size w w' :=
 KL o sv kv w hM hS hK (by have:=hl.1;omega) (by have:=hl.2.1;omega) (fun s hs=>by have:=hl.2.2 s hs;omega)
end
section
open Go Go.Maps
namespace Own
theorem zfc {f:Nat}(hf:f<256):Co .none (Bl .none (FJ sA 1 (keysOf [f])) 0 (keysOf [f]))=(Eb f,0):=by
 rw[Wu (I6.one hf)]
 exact iB hf
theorem ze4 (f n:Nat):(ze3 f n).spaces=[⟨sA,[⟨CX f,Gg n⟩],1⟩]:=by unfold ze3;exact Eq.refl _
theorem zeS (f n:Nat):(ze3 f n).keys=[f].foldl (JM 1) (Eb f).keys:=by unfold ze3 Eb;exact Eq.refl _
theorem zeT (f n:Nat):(ze3 f n).spaces.length<=10/\(ze3 f n).keys.length<=10/\∀ x∈(ze3 f n).spaces,x.members.length<=10:=by
 rw[ze4,zeS,List.foldl_cons,List.foldl_nil]
 refine⟨Nat.le_add_left 1 9,tV _ _ _ (tX f),fun x hs=>?_⟩
 rw[List.mem_singleton.1 hs]
 exact Nat.le_add_left 1 9
theorem zeO (b i:Nat)(hi:i<2)(msg:ByteArray):(Sig.BJ (BK.Cc b) i msg).chains.length<=140737488355328/\(Sig.BJ (BK.Cc b) i msg).path.length<=140737488355328:=by
 obtain⟨_,h2,_,h4,_⟩:=PE (zah b i hi msg)
 exact⟨by omega,by omega⟩
structure zfk (f n:Nat) (msg:ByteArray) (o1 o2:Ar) (nm pb:ByteArray) (aps:List Aj) (K:List KeyUse) (A B:Aj):Prop where
 claim:Co .none (Bl .none (FJ sA 1 (keysOf [f])) 0 (keysOf [f]))=(o1,0)
 name:CX f=nm
 pub:Gg n=pb
 nms:nm.size=4
 apd:[f].map (Dw 1 (Bc o1 ⟨4,sA,[],0,nm,pb,[]⟩).1)=aps
 apl:aps.length=1
 all:∀ a∈aps,a.name.size<=140737488355328/\a.sig.chains.length<=140737488355328/\a.sig.path.length<=140737488355328
 app:Co o1 ⟨4,sA,[],0,nm,pb,aps⟩=(o2,0)
 ok2:Bz o2=true
 sp2:o2.spaces=[⟨sA,[⟨nm,pb⟩],1⟩]
 s1:o1.spaces.length<=10/\o1.keys.length<=10/\∀ s∈o1.spaces,s.members.length<=10
 s2:o2.spaces.length<=10/\o2.keys.length<=10/\∀ s∈o2.spaces,s.members.length<=10
 a1:Dw 0 msg n=A
 b1:Dw 1 msg f=B
 bn:B.name=nm
 al:A.sig.chains.length<=140737488355328/\A.sig.path.length<=140737488355328
 bl:B.sig.chains.length<=140737488355328/\B.sig.path.length<=140737488355328
 ai:A.sig.index=0
 bi:B.sig.index=1
 acc:ze0 o2 sA msg [⟨nm,A.sig⟩]=.ok K
 rej:ze0 o2 sA msg [B]=.error 18
theorem zfa {f n:Nat}(hf:f<256)(hn:n<256)(hne:f≠n)(msg:ByteArray):∃ o1 o2 nm pb aps K A B,zfk f n msg o1 o2 nm pb aps K A B:=by
 have h1:=zfc hf
 have h2:=zeF hf hn
 have h3:=ze7 hf hn
 have h4:=ze4 f n
 have h5:=nP f
 have h6:=zeT f n
 obtain⟨K,h7⟩:=zeW hf hn hne msg
 have h8:=zeX hf hn hne msg
 have h9:=zeO n 0 (by omega) msg
 have h10:=zeO f 1 (by omega) msg
 have h11:=MW (BK.Cc n) 0 msg
 have h12:=MW (BK.Cc f) 1 msg
 have h13:=LD f
 have hq1:=fun m=>tQ 1 (by omega) m [f]
 have h7' : ze0 (ze3 f n) sA msg [⟨CX f,(Dw 0 msg n).sig⟩]=.ok K:=h7
 unfold ze1 at h2
 rw[nM] at h2
 have hb:Dw 1 msg f=⟨CX f,Sig.BJ (BK.Cc f) 1 msg⟩:=rfl
 have ha:Dw 0 msg n=⟨CX n,Sig.BJ (BK.Cc n) 0 msg⟩:=rfl
 rw[ha] at h7'
 rw[hb] at h8
 dsimp only at h7'
 refine⟨Eb f,ze3 f n,CX f,Gg n,_,K,_,_,⟨h1,rfl,rfl,h13,rfl,by rw[List.length_map]<;>rfl,hq1 _,h2,h3,h4,h5,h6,ha,hb,rfl,h9,h10,h11,h12,h7',h8⟩⟩
end Own
end
section
open Go Go.RowKit Go.Maps
theorem zeL (x0 x1:Int)(msg:ByteArray)(w:World)(hM:IW w)(hx0:0<=x0/\x0<256)(hx1:0<=x1/\x1<256)(hms:msg.size<=140737488355328):
 Calls Tryz.prog 10 #[.int .u8 x0,.int .u8 x1,.string msg] w fun e w' => e=.returned (.bool true)/\Below w.heap.size w w':=by
 obtain⟨f,rfl⟩:∃ f:Nat,x0=f:=⟨x0.toNat,by omega⟩
 obtain⟨n,rfl⟩:∃ f:Nat,x1=f:=⟨x1.toNat,by omega⟩
 have hf:f<256:=by omega
 have hn:n<256:=by omega
 clear hx0 hx1
 have HM:=zh hM;clear hM
 go_enter Tryz.func10,Tryz.ntmps10
 go_wp2_with fail
 refine(awake53_any w HM.out).mono ?_
 rintro e w1 ⟨rfl,hb⟩
 have B1:=zh hb;clear hb
 by_cases hfn:f=n
 ·subst hfn
  go_wp2_with fail
  go_ret
  exact⟨rfl,B1.out⟩
 have dfn:((f:Int)==(n:Int))=false:=by rw[beq_eq_false_iff_ne];omega
 have zfm : (f==n)=false:=by rw[beq_eq_false_iff_ne];exact hfn
 by_cases h2:200<msg.size
 ·have d1:decide (200<(msg.size:Int))=true:=zt
  have d1' : decide (200<msg.size)=true:=decide_eq_true h2
  go_wp2_with fail
  go_ret
  exact⟨rfl,B1.out⟩
 have d1:decide (200<(msg.size:Int))=false:=zf
 have d1' : decide (200<msg.size)=false:=decide_eq_false h2
 obtain⟨o1,o2,nm,pb,aps,K,A,B,hR⟩:=Own.zfa hf hn hfn msg
 have hcl:=fun(b:Nat) W (hM:IW W) (ha:At W b 5 #[.int .u8 (f:Int)])=>U0 Own.sA 1 [f] (some ⟨b,0,none⟩) 1 W hM (D8.at1 ha) (by simpa using hf) (by simp) (by simp)
 rw[hR.claim] at hcl
 have hnm:=fun W=>Mg f W hf
 rw[hR.name] at hnm
 have hpb:=fun W=>Rb n W hn
 rw[hR.pub] at hpb
 have hsg:=fun(sv kv:Value) (b:Nat) W (hM:IW W) hs hk (ha:At W b 5 #[.int .u8 (f:Int)])=>JK o1 ⟨4,Own.sA,[],0,nm,pb,[]⟩ 1 [f] sv kv (.slice none 0 0) (.slice none 0 0) (some ⟨b,0,none⟩) 1 W hM (by omega) hs hk (Au.nil _ _) ⟨_,_,rfl⟩ (by simp) (D8.at1 ha) (by simpa using hf) (by simp)
 rw[hR.apd] at hsg
 unfold Own.opV Own.Yz at hsg
 dsimp only at hsg
 have hap:=fun(sv kv av:Value) W (hM:IW W) hS hK hA=>zeY o1 ⟨4,Own.sA,[],0,nm,pb,aps⟩ sv kv (.slice none 0 0) av W hM hS hK (Au.nil _ _) hA hR.s1 (by simp) hR.all
 rw[hR.app] at hap
 unfold Own.opV at hap
 dsimp only at hap
 have hvl:=fun(sv kv:Value) W (hM:IW W) hS hK=>zeZ o2 sv kv W hM hS hK hR.s2
 rw[hR.ok2] at hvl
 have hs0:=fun W=>UW n 0 msg W hn (by omega) (by omega)
 have hs1:=fun W=>UW f 1 msg W hf (by omega) (by omega)
 obtain⟨n0,hn0⟩:∃ x,x=Own.CX n:=⟨_,rfl⟩
 rw[hR.a1,<- hn0] at hs0
 rw[hR.b1,hR.name] at hs1
 clear hn0
 have hx:=fun(sv kv lv:Value) W (hM:IW W) hS hK hA=>zeH o2 Own.sA msg [⟨nm,A.sig⟩] sv kv lv W hM hS hK hA hR.s2 (by simp) (by omega) (fun a ha=>by rw[List.mem_singleton.1 ha];exact⟨by have:=hR.nms;show nm.size<=_;omega,hR.al⟩)
 have hy:=fun(sv kv lv:Value) W (hM:IW W) hS hK hA=>zeH o2 Own.sA msg [B] sv kv lv W hM hS hK hA hR.s2 (by simp) (by omega) (fun a ha=>by rw[List.mem_singleton.1 ha];exact⟨by have:=hR.nms;rw[hR.bn];omega,hR.bl⟩)
 rw[hR.acc] at hx
 rw[hR.rej] at hy
 simp only[show ∀ o K,Own.zeD o (.ok K)=(⟨o.count,o.spaces,K⟩,0) from fun _ _=>rfl] at hx
 simp only[show ∀ o c,Own.zeD o (.error c)=(.none,c) from fun _ _=>rfl] at hy
 obtain⟨c1,S1,K1⟩:=o1
 obtain⟨c2,S2,K2⟩:=o2
 have hsp:S2=[⟨Own.sA,[⟨nm,pb⟩],1⟩]:=hR.sp2
 subst hsp
 have hal:=hR.apl;have hai:=hR.ai;have hbi:=hR.bi;have hbn:=hR.bn
 obtain⟨an,asg⟩:=A
 obtain⟨bn,bsg⟩:=B
 obtain rfl:bn=nm:=hbn
 dsimp only at hai hbi hs0 hs1 hx hy hap hvl
 have HCL:=zh hcl;have HNM:=zh hnm;have HPB:=zh hpb;have HSG:=zh hsg;have HAP:=zh hap;have HVL:=zh hvl;have HS0:=zh hs0;have HS1:=zh hs1;have HX:=zh hx;have HY:=zh hy;have HAL:=zh hal;have HAI:=zh hai;have HBI:=zh hbi
 clear hcl hnm hpb hsg hap hvl hs0 hs1 hx hy hal hai hbi hR hfn h2 hf hn
 unfold Own.sA at*
 go_wp2_with fail
 have hb:=(Below.refl w1.heap.size w1).alloc (Nat.le_refl _) (.cells #[.int .u8 (f:Int)] 5)
 have T2:=zh (At.new w1 5 #[.int .u8 (f:Int)]);have B2:=zh (B1.out.trans (hb.mono B1.out.size))
 clear hb
 generalize w1.alloc (.cells #[.int .u8 (f:Int)] 5)=w2 at*
 refine(HCL.out w1.heap.size w2 (HM.out.below B2.out) T2.out).mono ?_
 rintro e w3 ⟨sv,kv,rfl,hs3,hk3,hb3⟩
 have hs3:Own.BH w3 sv S1:=hs3.mono (fun _ _ _=>trivial)
 have hk3:Own.D9 w3 kv K1:=hk3.mono (fun _ _ _=>trivial)
 obtain⟨sa,sc,rfl⟩:=hs3.len
 obtain⟨ka,kc,rfl⟩:=hk3.len
 have B3:=zh (B2.out.trans (hb3.mono B2.out.size));have S3:=zh hs3;have K3:=zh hk3
 clear hs3 hk3 hb3 T2 HCL
 dsimp only
 go_upto_region 6 with fail
 have O4:=zh (OwB.new S3.out K3.out c1)
 have hb:=(Below.refl w3.heap.size w3).alloc (Nat.le_refl _) (.cells #[.int .i64 c1,.slice sa S1.length sc,.slice ka K1.length kc] 25)
 have B4:=zh (B3.out.trans (hb.mono B3.out.size))
 have hwb:w.heap.size<=w3.heap.size:=B3.out.size
 clear hb
 generalize w3.alloc (.cells #[.int .i64 c1,.slice sa S1.length sc,.slice ka K1.length kc] 25)=w4 at*
 obtain⟨b,hbe⟩:∃ b,b=w3.heap.size:=⟨_,rfl⟩
 rw[<- hbe] at O4 hwb ⊢
 clear hbe S3 K3
 have c0:=O4.out.at_.cell 0;have c1':=O4.out.at_.cell 1;have c2':=O4.out.at_.cell 2
 simp only[zg] at c0 c1' c2'
 have Y0:=zh (show(w4.cell? ⟨b,0,none⟩).isSome=true by rw[c0]<;>rfl)
 have zas:b<w4.heap.size:=O4.out.at_.lt
 refine Lex.FH (fun k=>k=b) [0] [7,9] 10 [.pure 2,.call,.pure 1,.call,.pure 2,.new,.call,.new] [] (by kernel_rfl) (by kernel_rfl) (by kernel_rfl) ?_
 simp only[Lex.Jd,Lex.Br,zd]
 have BD:=zh (show Below w4.heap.size w4 w4.drew from(Below.refl _ _).drew)
 have ZD:=zh (show w4.drew.heap.size=w4.heap.size by rw[EZ])
 go_wp2_with fail
 refine Lex.Qg.intro ?_
 intro w5 hg5
 have X5:=zh (BD.out.trans (hg5.mono BD.out.size));clear hg5
 go_wp2_with fail
 refine(HNM.out w5).mono ?_
 rintro e w6 ⟨rfl,hb⟩
 have X6:=zh (X5.out.trans (hb.mono X5.out.size));have BB6:=zh hb;clear hb X5
 go_wp2_with fail
 refine Lex.Vp.intro (fun j hj hjl=>by rw[hj];exact X6.out.block _ zas) (Lex.Kept.of_below BB6.out) ?_
 go_wp2_with fail
 refine Lex.Qg.intro ?_
 intro w7 hg7
 have X7:=zh (X6.out.trans (hg7.mono X6.out.size));clear hg7 X6 BB6
 go_wp2_with fail
 refine(HPB.out w7).mono ?_
 rintro e w8 ⟨rfl,hb⟩
 have X8:=zh (X7.out.trans (hb.mono X7.out.size));have BB8:=zh hb;clear hb X7
 go_wp2_with fail
 refine Lex.Vp.intro (fun j hj hjl=>by rw[hj];exact X8.out.block _ zas) (Lex.Kept.of_below BB8.out) ?_
 go_wp2_with fail
 refine Lex.Qg.intro ?_
 intro w9 hw9
 go_wp2_with fail
 refine Lex.Qh.intro (fun w10 wP hk10 zdU=>?_)
 have nJ:=hk10.at_
 obtain⟨g10,hg⟩:∃ g,g=w9.heap.size:=⟨_,rfl⟩
 rw[World.size_alloc]
 rw[<- hg] at nJ ⊢
 have X10:=zh (X8.out.trans (wP.mono X8.out.size));have P10:=zh nJ
 clear wP hk10 zdU nJ hg hw9 X8 BB8
 intro w11 Ud
 have X11:=zh (X10.out.trans (Ud.mono X10.out.size));have P11:=zh (P10.out.below Ud P10.out.lt)
 have B11:=zh (B4.out.trans (X11.out.mono B4.out.size))
 clear Ud X10 P10
 go_wp2_with fail
 refine(HSG.out (.slice sa S1.length sc) (.slice ka K1.length kc) g10 w11 (HM.out.below B11.out) ⟨_,_,_,rfl⟩ ⟨_,_,_,rfl⟩ P11.out).mono ?_
 rintro e w12 ⟨av,rfl,zat,wQ⟩
 obtain⟨aa,ac,hav⟩:=zat.len
 rw[HAL.out] at hav
 subst hav
 have X12:=zh (X11.out.trans (wQ.mono X11.out.size));have zcL:=zh wQ;have A12:=zh zat
 clear zat wQ X11 P11 HSG B11
 go_wp2_with fail
 refine Lex.Vp.intro (fun j hj hjl=>by rw[hj];exact X12.out.block _ zas) (Lex.Kept.of_below zcL.out) ?_
 intro w13 zcM
 go_wp2_with fail
 refine Lex.Qh.intro (fun w14 wT zcN zau=>?_)
 have zav:=zcN.at_
 have zcO:w4.heap.size<=w13.heap.size:=by rw[<- ZD.out];exact zcM
 obtain⟨q,hq⟩:∃ g,g=w13.heap.size:=⟨_,rfl⟩
 rw[<- hq] at zav zcO ⊢
 have X14:=zh (X12.out.trans (wT.mono X12.out.size));have Q14:=zh zav
 have o1:=zau (w11.heap.size,w12.heap.size) (by simp)
 rw[World.size_alloc,<- hq] at o1
 dsimp only at o1
 have G14:=zh wT;have OF1:=zh o1
 clear zau zcN zav wT o1 hq zcM X12 zcL
 have s0:=Q14.out.cell 0;have s1:=Q14.out.cell 1;have s2:=Q14.out.cell 2;have s3:=Q14.out.cell 3;have s4:=Q14.out.cell 4;have s5:=Q14.out.cell 5;have s6:=Q14.out.cell 6
 have t0:=Q14.out.free 0;have t1:=Q14.out.free 1;have t2:=Q14.out.free 2;have t3:=Q14.out.free 3;have t4:=Q14.out.free 4;have t5:=Q14.out.free 5;have t6:=Q14.out.free 6
 simp only[zg] at s0 s1 s2 s3 s4 s5 s6
 go_wp2_with fail
 refine Lex.zk ⟨⟨rfl,Y0.out⟩,trivial⟩ ?_
 have IZ:∀ k,k≠q->(((((((w14.setCell ⟨q,0,none⟩ (.int .i64 4)).setCell ⟨q,1,none⟩ (.string ⟨#[97]⟩)).setCell ⟨q,2,none⟩ (.slice none 0 0)).setCell ⟨q,3,none⟩ (.int .i64 0)).setCell ⟨q,4,none⟩ (.string bn)).setCell ⟨q,5,none⟩ (.string pb)).setCell ⟨q,6,none⟩ (.slice aa 1 ac)).heap[k]? = w14.heap[k]? :=fun k hk=>OJ hk _ _ _ _ _ _ _
 have hsz:(((((((w14.setCell ⟨q,0,none⟩ (.int .i64 4)).setCell ⟨q,1,none⟩ (.string ⟨#[97]⟩)).setCell ⟨q,2,none⟩ (.slice none 0 0)).setCell ⟨q,3,none⟩ (.int .i64 0)).setCell ⟨q,4,none⟩ (.string bn)).setCell ⟨q,5,none⟩ (.string pb)).setCell ⟨q,6,none⟩ (.slice aa 1 ac)).heap.size=w14.heap.size:=Qp (b:=q) _ _ _ _ _ _ _
 have X15:=zh (show Below w4.heap.size w4 (((((((w14.setCell ⟨q,0,none⟩ (.int .i64 4)).setCell ⟨q,1,none⟩ (.string ⟨#[97]⟩)).setCell ⟨q,2,none⟩ (.slice none 0 0)).setCell ⟨q,3,none⟩ (.int .i64 0)).setCell ⟨q,4,none⟩ (.string bn)).setCell ⟨q,5,none⟩ (.string pb)).setCell ⟨q,6,none⟩ (.slice aa 1 ac)) from Yx X14.out zcO _ _ _ _ _ _ _)
 have Q15:=zh (show At (((((((w14.setCell ⟨q,0,none⟩ (.int .i64 4)).setCell ⟨q,1,none⟩ (.string ⟨#[97]⟩)).setCell ⟨q,2,none⟩ (.slice none 0 0)).setCell ⟨q,3,none⟩ (.int .i64 0)).setCell ⟨q,4,none⟩ (.string bn)).setCell ⟨q,5,none⟩ (.string pb)).setCell ⟨q,6,none⟩ (.slice aa 1 ac)) q 29 #[.int .i64 4,.string ⟨#[97]⟩,.slice none 0 0,.int .i64 0,.string bn,.string pb,.slice aa 1 ac] from At.Ri Q14.out _ _ _ _ _ _ _)
 have A15:=zh (A12.out.keep (w':=((((((w14.setCell ⟨q,0,none⟩ (.int .i64 4)).setCell ⟨q,1,none⟩ (.string ⟨#[97]⟩)).setCell ⟨q,2,none⟩ (.slice none 0 0)).setCell ⟨q,3,none⟩ (.int .i64 0)).setCell ⟨q,4,none⟩ (.string bn)).setCell ⟨q,5,none⟩ (.string pb)).setCell ⟨q,6,none⟩ (.slice aa 1 ac)) (by rw[hsz];exact G14.out.size) (fun k h1 h2=>(IZ k (by have h3:=OF1.out;omega)).trans (G14.out.block k h2)))
 clear IZ hsz X14 Q14 A12 G14 OF1 s0 s1 s2 s3 s4 s5 s6 t0 t1 t2 t3 t4 t5 t6 Y0 BD ZD c0 c1' c2'
 generalize ((((((w14.setCell ⟨q,0,none⟩ (.int .i64 4)).setCell ⟨q,1,none⟩ (.string ⟨#[97]⟩)).setCell ⟨q,2,none⟩ (.slice none 0 0)).setCell ⟨q,3,none⟩ (.int .i64 0)).setCell ⟨q,4,none⟩ (.string bn)).setCell ⟨q,5,none⟩ (.string pb)).setCell ⟨q,6,none⟩ (.slice aa 1 ac)=w15 at*
 have B15:=zh (B4.out.trans (X15.out.mono B4.out.size));have O15:=zh (O4.out.below X15.out)
 clear X15 O4 B4 zcO zas
 have c0:=O15.out.at_.cell 0;have c1':=O15.out.at_.cell 1;have c2':=O15.out.at_.cell 2
 have s0:=Q15.out.cell 0;have s1:=Q15.out.cell 1;have s2:=Q15.out.cell 2;have s3:=Q15.out.cell 3;have s4:=Q15.out.cell 4;have s5:=Q15.out.cell 5;have s6:=Q15.out.cell 6
 simp only[zg] at s0 s1 s2 s3 s4 s5 s6 c0 c1' c2'
 go_wp2_with fail
 refine(HAP.out _ _ _ w15 (HM.out.below B15.out) O15.out.sp O15.out.ks A15.out.rX.out).mono ?_
 rintro e w16 ⟨sv2,kv2,rfl,hs2,hk2,nQ⟩
 have hs2:Own.BH w16 sv2 [⟨⟨#[97]⟩,[⟨bn,pb⟩],1⟩]:=hs2.mono (fun _ _ _=>trivial)
 have hk2:Own.D9 w16 kv2 K2:=hk2.mono (fun _ _ _=>trivial)
 obtain⟨sb,sd,rfl⟩:=hs2.len
 obtain⟨kb,kd,rfl⟩:=hk2.len
 have B16:=zh (B15.out.trans (nQ.mono B15.out.size));have S16:=zh hs2;have K16:=zh hk2
 clear hs2 hk2 nQ O15 Q15 A15 B15 HAP s0 s1 s2 s3 s4 s5 s6 c0 c1' c2'
 dsimp only
 go_upto_region 8 with fail
 have hb:=(Below.refl w16.heap.size w16).alloc (Nat.le_refl _) (.cells #[.int .i64 c2,.slice sb 1 sd,.slice kb K2.length kd] 25)
 have O17:=zh (show OwB (w16.alloc (.cells #[.int .i64 c2,.slice sb 1 sd,.slice kb K2.length kd] 25)) w16.heap.size c2 [⟨⟨#[97]⟩,[⟨bn,pb⟩],1⟩] K2 (.slice sb 1 sd) (.slice kb K2.length kd) from OwB.new S16.out K16.out c2)
 have B17:=zh (B16.out.trans (hb.mono B16.out.size))
 clear hb
 generalize w16.alloc (.cells #[.int .i64 c2,.slice sb 1 sd,.slice kb K2.length kd] 25)=w17 at*
 obtain⟨c,hc⟩:∃ c,c=w16.heap.size:=⟨_,rfl⟩
 rw[<- hc] at O17 ⊢
 clear hc S16 K16 B16
 obtain⟨gs,os,mv,rfl,hgs,p0,p1,_,hmv⟩:=Own.BH.cells O17.out.sp (i:=0) (by simp)
 obtain⟨ma,mc,hmq⟩:=hmv.len
 have hmq:mv=.slice ma 1 mc:=hmq
 subst hmq
 obtain⟨gm,om,rfl,hgm,m0,m1⟩:=Own.Ag.cells hmv (i:=0) (by simp)
 have p1:w17.cell? ⟨gs,os+1,none⟩=some (.slice (some ⟨gm,om,none⟩) 1 mc):=by simpa using p1
 have m0:w17.cell? ⟨gm,om,none⟩=some (.string bn):=by simpa using m0
 have m1:w17.cell? ⟨gm,om+1,none⟩=some (.string pb):=by simpa using m1
 have c0:=O17.out.at_.cell 0;have c1':=O17.out.at_.cell 1;have c2':=O17.out.at_.cell 2
 simp only[zg] at c0 c1' c2'
 have hcl:=O17.out.at_.lt
 have P1:=zh p1;have M0:=zh m0;have M1:=zh m1;have C1:=zh c1';have HGS:=zh hgs;have HGM:=zh hgm;have HCL:=zh hcl
 clear p0 hmv hgs hgm hcl
 refine Lex.zn (fun _=>True) [28,31,33] 39 [9,27,2] ?_
 simp only[Lex.Br,zd]
 go_wp2_with fail
 have hbd:Below w17.heap.size w17 w17.drew:=(Below.refl _ _).drew
 refine(HVL.out _ _ w17.drew (HM.out.below (B17.out.trans (hbd.mono B17.out.size))) (O17.out.sp.below hbd) (O17.out.ks.below hbd)).mono ?_
 rintro e w18 ⟨rfl,hb⟩
 have X18:=zh (hbd.trans (hb.mono hbd.size));have D18:=zh hb
 clear hb hbd c0 c1' c2' p1 m0 m1
 have c1':=(X18.out.cell (p:=⟨c,1,none⟩) HCL.out).trans C1.out
 have p1:=(X18.out.cell (p:=⟨gs,os+1,none⟩) HGS.out).trans P1.out
 have m0:=(X18.out.cell (p:=⟨gm,om,none⟩) HGM.out).trans M0.out
 have m1:=(X18.out.cell (p:=⟨gm,om+1,none⟩) HGM.out).trans M1.out
 go_wp2_with fail
 refine Lex.Mid.intro (fun k _ hkl=>D18.out.block k hkl) ?_
 go_wp2_with fail
 refine(HNM.out w18).mono ?_
 rintro e w19 ⟨rfl,hb⟩
 have X19:=zh (X18.out.trans (hb.mono X18.out.size));have D19:=zh (D18.out.trans (hb.mono D18.out.size))
 clear hb X18 D18
 go_wp2_with fail
 refine Lex.Mid.intro (fun k _ hkl=>D19.out.block k hkl) ?_
 go_wp2_with fail
 refine(HPB.out w19).mono ?_
 rintro e w20 ⟨rfl,hb⟩
 have X20:=zh (X19.out.trans (hb.mono X19.out.size));have D20:=zh (D19.out.trans (hb.mono D19.out.size))
 clear hb X19 D19
 go_wp2_with fail
 refine Lex.Mid.intro (fun k _ hkl=>D20.out.block k hkl) ?_
 go_wp2_with fail
 refine Lex.zk ⟨⟨trivial,by rw[show(w17.drew.cell? ⟨c,1,none⟩)=some _ from C1.out]<;>rfl⟩,⟨trivial,by rw[show(w17.drew.cell? ⟨gs,os+1,none⟩)=some _ from P1.out]<;>rfl⟩,⟨trivial,by rw[show(w17.drew.cell? ⟨gm,om,none⟩)=some _ from M0.out]<;>rfl⟩,trivial⟩ ?_
 have O20:=zh (O17.out.below X20.out)
 have B20:=zh (B17.out.trans (X20.out.mono B17.out.size))
 clear X20 D20 O17 B17 c1' p1 m0 m1 P1 M0 M1 C1 HGS HGM HCL
 go_wp2_with fail
 refine(HS0.out w20).mono ?_
 rintro e w21 ⟨cv,pv,rfl,hcv,hpv,hb⟩
 obtain⟨ca,cn,cc,rfl⟩:=Ad hcv
 obtain⟨pa,pn,pc,rfl⟩:=Ad hpv
 have O21:=zh (O20.out.below hb);have B21:=zh (B20.out.trans (hb.mono B20.out.size));have CV:=zh (Own.JN.own (F:=fun _=>True) hcv (fun _ _=>trivial)).st;have PV:=zh (Own.JN.own (F:=fun _=>True) hpv (fun _ _=>trivial))
 clear hb hcv hpv O20 B20
 go_upto_region 11 with fail
 have hb:=(Below.refl w21.heap.size w21).alloc (Nat.le_refl _) (.cells #[.string n0,.int .i64 0,.slice ca cn cc,.slice pa pn pc] 72)
 have T22:=zh (At.new w21 72 #[.string n0,.int .i64 0,.slice ca cn cc,.slice pa pn pc])
 have Y22:=zh hb
 clear hb
 generalize w21.alloc (.cells #[.string n0,.int .i64 0,.slice ca cn cc,.slice pa pn pc] 72)=w22 at*
 have hwd:w.heap.size<=w21.heap.size:=B21.out.size
 obtain⟨d,hd⟩:∃ d,d=w21.heap.size:=⟨_,rfl⟩
 have hdl:w21.heap.size<=d:=Nat.le_of_eq hd.symm
 rw[<- hd] at T22 ⊢
 clear hd
 go_wp2_with fail
 refine(HNM.out w22).mono ?_
 rintro e w23 ⟨rfl,hb⟩
 have T23:=zh (T22.out.below hb T22.out.lt);have Y23:=zh (Y22.out.trans (hb.mono Y22.out.size))
 clear hb T22 Y22
 have d0:=T23.out.cell 0;have d0f:=T23.out.free 0
 simp only[zg] at d0
 go_upto_region 12 with fail
 have hd0:=T23.out.set 0 (.string bn)
 simp only[List.setIfInBounds_toArray,List.set_cons_zero] at hd0
 have T24:=zh hd0
 have Y24:=zh (Y23.out.setCell (p:=⟨d,0,none⟩) hdl (.string bn))
 clear hd0 d0 d0f T23 Y23
 generalize w23.setCell ⟨d,0,none⟩ (.string bn)=w24 at*
 have O24:=zh (O21.out.below Y24.out);have B24:=zh (B21.out.trans (Y24.out.mono hwd));have zff:=zh (CV.out.below Y24.out);have zfg:=zh (PV.out.st.below Y24.out);have CP:=zh PV.out.cap
 clear Y24 O21 B21 CV PV hdl hwd
 have c0:=O24.out.at_.cell 0;have c1':=O24.out.at_.cell 1;have c2':=O24.out.at_.cell 2
 have d0:=T24.out.cell 0;have d1:=T24.out.cell 1;have d2:=T24.out.cell 2;have d3:=T24.out.cell 3
 simp only[zg] at d0 d1 d2 d3 c0 c1' c2'
 go_wp2_with fail
 have hb:=(Below.refl w24.heap.size w24).alloc (Nat.le_refl _) (.cells #[.string bn,.int .i64 0,.slice ca cn cc,.slice pa pn pc] 72)
 have hat:=At.new w24 72 #[.string bn,.int .i64 0,.slice ca cn cc,.slice pa pn pc]
 have G1:=zh (show SgB _ w24.heap.size ⟨bn,asg⟩ (.slice ca cn cc) (.slice pa pn pc) from⟨by rw[HAI.out];exact hat,zff.out.below hb,zfg.out.below hb,CP.out⟩)
 have O25:=zh (O24.out.below hb);have B25:=zh (B24.out.trans (hb.mono B24.out.size))
 clear hb hat c0 c1' c2' d0 d1 d2 d3 T24 O24 B24 zff zfg CP
 generalize w24.alloc (.cells #[.string bn,.int .i64 0,.slice ca cn cc,.slice pa pn pc] 72)=w25 at*
 refine(HX.out _ _ _ w25 (HM.out.below B25.out) O25.out.sp O25.out.ks G1.out.one).mono ?_
 rintro e w26 ⟨sv',kv',rfl,_,_,hb⟩
 have O26:=zh (O25.out.below hb);have B26:=zh (B25.out.trans (hb.mono B25.out.size))
 clear hb O25 B25 G1
 go_wp2_with fail
 refine(HS1.out w26).mono ?_
 rintro e w27 ⟨cv,pv,rfl,hcv,hpv,hb⟩
 obtain⟨ea,en,ec,rfl⟩:=Ad hcv
 obtain⟨fa,fn,fc,rfl⟩:=Ad hpv
 have O27:=zh (O26.out.below hb);have B27:=zh (B26.out.trans (hb.mono B26.out.size));have CV:=zh (Own.JN.own (F:=fun _=>True) hcv (fun _ _=>trivial)).st;have PV:=zh (Own.JN.own (F:=fun _=>True) hpv (fun _ _=>trivial))
 clear hb hcv hpv O26 B26
 go_upto_region 14 with fail
 have hb:=(Below.refl w27.heap.size w27).alloc (Nat.le_refl _) (.cells #[.string bn,.int .i64 1,.slice ea en ec,.slice fa fn fc] 72)
 have T28:=zh (At.new w27 72 #[.string bn,.int .i64 1,.slice ea en ec,.slice fa fn fc])
 have O28:=zh (O27.out.below hb);have B28:=zh (B27.out.trans (hb.mono B27.out.size));have zfh:=zh (CV.out.below hb);have zfi:=zh (PV.out.st.below hb);have CP:=zh PV.out.cap
 clear hb O27 B27 CV PV
 generalize w27.alloc (.cells #[.string bn,.int .i64 1,.slice ea en ec,.slice fa fn fc] 72)=w28 at*
 obtain⟨j,hj⟩:∃ d,d=w27.heap.size:=⟨_,rfl⟩
 rw[<- hj] at T28 ⊢
 clear hj
 have c0:=O28.out.at_.cell 0;have c1':=O28.out.at_.cell 1;have c2':=O28.out.at_.cell 2
 have d0:=T28.out.cell 0;have d1:=T28.out.cell 1;have d2:=T28.out.cell 2;have d3:=T28.out.cell 3
 simp only[zg] at d0 d1 d2 d3 c0 c1' c2'
 go_wp2_with fail
 have hb:=(Below.refl w28.heap.size w28).alloc (Nat.le_refl _) (.cells #[.string bn,.int .i64 1,.slice ea en ec,.slice fa fn fc] 72)
 have hat:=At.new w28 72 #[.string bn,.int .i64 1,.slice ea en ec,.slice fa fn fc]
 have G1:=zh (show SgB _ w28.heap.size ⟨bn,bsg⟩ (.slice ea en ec) (.slice fa fn fc) from⟨by rw[HBI.out];exact hat,zfh.out.below hb,zfi.out.below hb,CP.out⟩)
 have O29:=zh (O28.out.below hb);have B29:=zh (B28.out.trans (hb.mono B28.out.size))
 clear hb hat c0 c1' c2' d0 d1 d2 d3 T28 O28 B28 zfh zfi CP
 generalize w28.alloc (.cells #[.string bn,.int .i64 1,.slice ea en ec,.slice fa fn fc] 72)=w29 at*
 refine(HY.out _ _ _ w29 (HM.out.below B29.out) O29.out.sp O29.out.ks G1.out.one).mono ?_
 rintro e w30 ⟨sv',kv',rfl,_,_,hb⟩
 have B30:=zh (B29.out.trans (hb.mono B29.out.size))
 clear hb
 go_wp2_with fail
 go_ret
 exact⟨rfl,B30.out⟩
end
section
open Go Go.ChangeShapes Go.WideShapes Go.RowKit Go.Maps
section
variable {H:Type} {enc:TypeId × Value->H}
theorem ze2 {a:Assume}{C:Checked}{os:Os}{f:FuncId}{fn:Func}{s:ChangeSpec}{conds:List PathCond}{apart fresh handsOn again:Bool}{X:World->Array Value->Prop}
 (hX:∀ (w w' : World) (args:Array Value),w.heap=w'.heap->X w args->X w' args)
 (own:ownKnob C.prog.godebug=none) (started:os.Started) (noInit:C.prog.inits.idxOf? f=none) (hfn:C.prog.funcs[f]? = some fn)
 (witness : ∃ (w : World) (tape : Tape) (i : Input),w.os = os ∧ (w.forCall tape i).Shaped C.prog ∧ i.vars = [] ∧ Input.okWide C.prog (w.forCall tape i) .any w.heap.size f i ∧
   ((s.pre enc C.prog fn conds apart (w.forCall tape i).memory i.args/\X (w.forCall tape i).memory i.args)/\sizedMet enc C.prog fn (OpenSpec.ofChange s) apart (w.forCall tape i).memory i.args)/\a.holds C.prog (lone (Frame.enter C.prog f i.args .normal) [] (w.forCall tape i)))
 (contract : ∀ (W : World) (base : Nat) (args : Array Value) (ds gs : List (DataW H)) (before : List MemPlace),
   (∀ (j:Nat) t v,fn.params[j]? = some t->args[j]? = some v->Value.okWide C.prog W .any base t v)->
   DataW.Whole enc C.prog fn.params.toList s.vars apart W args.toList ds gs before->
   conds.all (PathCond.test C.prog ⟨fn.params.toList,ds,s.plain.varTypes C.prog,gs⟩)=true->
   (DataW.weightsEach C.prog (fn.params.toList++s.plain.varTypes C.prog) (ds++gs)).all (· <= reachBytes)=true->X W args->W.ShapedOpen C.prog->
   a.holds C.prog (lone (Frame.enter C.prog f args .normal) [] W)->
   Calls C.prog f args W fun e W' => ∃ v,e=.returned v/\s.post enc C.prog fn apart fresh handsOn again W args v W'):
 ReturnsInHanded a C os f .any (fun w args=>(s.pre enc C.prog fn conds apart w args/\X w args)/\sizedMet enc C.prog fn (OpenSpec.ofChange s) apart w args) (s.post enc C.prog fn apart fresh handsOn again):=by
 refine returnsInHanded_of_calls own started noInit witness ?_
 intro w tape i _ hsh _ hok hpre hholds
 obtain⟨_,_,_,fn',hfn',_,_,_,_,hval⟩:=hok
 have e:fn' = fn:=Option.some.inj (hfn'.symm.trans hfn)
 subst e
 obtain⟨⟨⟨ds,gs,before,hw,hc⟩,hx⟩,hz⟩:=hpre
 have hw':=DataW.Whole.of_heap (w':=w.forCall tape i) (by rfl) hw
 refine(contract (w.forCall tape i) w.heap.size i.args ds gs before hval hw' hc (hz.weights hw) (hX _ _ _ (by rfl) hx) hsh hholds).mono fun e W' ⟨v,he,hp⟩=>?_
 subst he
 exact ChangeSpec.post_blind hp
theorem zfb {W:World}(h:W.ShapedOpen Tryz.prog):IW W:=
 Go.Proofs.cell_of_shapedOpen_int (zero:=#[.int .i64 0]) (t:=3) h (of_decide_eq_true (by kernel_rfl)) (by kernel_rfl) rfl (by kernel_rfl) (by kernel_rfl) Tryz.underlying3
end
end
section
open Go Go.ChangeShapes Go.WideShapes Go.RowKit Go.Maps
section
variable {H:Type} {enc:TypeId × Value->H}
theorem zfd {W:World}{base:Nat}{sp:Nat->Bool}{v:Value}{d:DataW H}{ps:List MemPlace}(hval:Value.okWide Tryz.prog W .any base 9 v)(h:DataW.Trod enc Tryz.prog W 0 sp true 9 v d ps)(hz:(d.weights Tryz.prog 9).all (· <= reachBytes)=true):
 ∃ s:ByteArray,v=.string s/\s.size<=140737488355328:=by
 obtain⟨s,rfl,rfl,_,_⟩:=ChangeMaps.open_string Tryz.underlying9 hval h
 refine⟨s,rfl,?_⟩
 simp only[DataW.weights,List.all_cons,List.all_nil,Bool.and_true,decide_eq_true_eq,Array.length_toList] at hz
 unfold reachBytes at hz
 have e:s.size=s.data.size:=rfl
 omega
end
end
section
open Go Go.ChangeShapes Go.WideShapes Go.ChangeAt Go.RowKit
theorem zeP:ownKnob Tryz.prog.godebug=none:=by kernel_rfl
theorem zeQ:laidOutB Tryz.prog=true:=by kernel_rfl
theorem ze5 (os:Os)(started:os.Started)(H:Type)(enc:TypeId × Value->H):
 ReturnsInHanded {} Tryz.checked os 10 .any (fun w args=>(Rows.ownersRotatesSpec.pre enc Tryz.prog Tryz.f10 Rows.ownersRotatesRow.domain false w args/\laidMetH Tryz.prog Rows.ownersRotatesRow.laid w)/\sizedMet enc Tryz.prog Tryz.f10 (OpenSpec.ofChange Rows.ownersRotatesSpec) false w args)
  (Rows.ownersRotatesSpec.post enc Tryz.prog Tryz.f10 false true false false):=by
 refine ze2 (C:=Tryz.checked) (X:=fun w _=>laidMetH Tryz.prog Rows.ownersRotatesRow.laid w) (fun _ _ _ hh h=>h.of_heap hh) zeP started (by kernel_rfl) Tryz.func10
  (ChangeSpec.witness_shaped (enc :=enc) (C :=Tryz.checked) (os :=os) (X :=fun w _ => laidMetH Tryz.prog Rows.ownersRotatesRow.laid w) false (World.laidAll Tryz.prog os Rows.ownersRotatesRow.laid) #[.int .u8 0,.int .u8 0,.string ⟨#[]⟩] 8 (World.laidAll_os _ _ _)
    (World.shaped_of_ZipB (by kernel_rfl) (by kernel_rfl)) (by kernel_rfl) (by kernel_rfl) (by kernel_rfl)
    (by rw[MakeChecks.laidMetH_plain _ _ _ (by kernel_rfl)];exact laidMet_laidAll _ (by kernel_rfl) (by kernel_rfl))) ?_
 intro W base args ds gs before hval0 hW _ hz0 _ hsh _
 have hM:=zfb hsh
 have hval:∀ (j:Nat) t v,Tryz.f10.params[j]? = some t->args[j]? = some v->Value.okWide Tryz.prog W .any base t v:=hval0
 have hW':=hW
 obtain⟨p,q,hA0,hV,rfl,_,_⟩:=hW
 have hA:DataW.TrodAll enc Tryz.prog W 0 (fun _=>true) true Tryz.f10.params.toList args.toList ds p:=hA0
 rw[Tryz.params10] at hA hval
 obtain⟨v0,v1,v2,d0,d1,d2,p0,p1,p2,rfl,rfl,rfl,h0,h1,h2⟩:=trodAll_three hA
 obtain⟨rfl,rfl⟩:=trodVars_none hV
 obtain⟨x0,rfl,rfl,rfl,wx0⟩:=open_int Tryz.underlying5 (hval 0 5 v0 rfl rfl) h0
 have hx0:0<=x0/\x0<256:=by
  have:=wx0
  simp[Lit.wf,IntKind.has] at this
  have h1:IntKind.u8.min=0:=by decide
  have h2:IntKind.u8.max=255:=by decide
  omega
 obtain⟨x1,rfl,rfl,rfl,wx1⟩:=open_int Tryz.underlying5 (hval 1 5 v1 rfl rfl) h1
 have hx1:0<=x1/\x1<256:=by
  have:=wx1
  simp[Lit.wf,IntKind.has] at this
  have h1:IntKind.u8.min=0:=by decide
  have h2:IntKind.u8.max=255:=by decide
  omega
 have e0:DataW.weightsEach Tryz.prog (Tryz.f10.params.toList++Rows.ownersRotatesSpec.plain.varTypes Tryz.prog) ([DataW.lit (.int .u8 x0),DataW.lit (.int .u8 x1),d2]++[])=d2.weights Tryz.prog 9++[]:=by
  rw[Tryz.params10]
  rfl
 have hz0:=e0 ▸ hz0
 simp only[List.all_append,List.all_nil,Bool.and_true,Bool.and_eq_true] at hz0
 obtain⟨s2,rfl,zfl⟩:=zfd (hval 2 9 v2 rfl rfl) h2 hz0
 have e1:Rows.ownersRotatesSpec.fn H ([.lit (.int .u8 x0),.lit (.int .u8 x1),d2]++[]) = { results:=[.lit (.bool true)],args:=[.lit (.int .u8 x0),.lit (.int .u8 x1),d2] } :=by simp[Rows.ownersRotatesSpec]
 refine(zeL x0 x1 s2 W hM hx0 hx1 zfl).mono fun e W' ⟨he,hb⟩=>?_
 subst he
 refine⟨_,rfl,_,_,_,[],[]++([]++(p2++[])),[],by simpa using hW',?_,?_,?_,hb.frame _,fun h=>by cases h⟩
 ·rw[e1];exact trodAll_mk1 (shut_bool Tryz.underlying4 true)
 ·rw[e1];exact(trodAll_cons_mk (shut_int Tryz.underlying5 wx0) (trodAll_cons_mk (shut_int Tryz.underlying5 wx1) (trodAll_cons_mk (Below.trod zeQ (by kernel_rfl) (of_decide_eq_true (by kernel_rfl)) h2 hb (fun z hz=>hW'.lt z (by simp[hz]))) trodAll_mk0)))
 ·rw[e1];rfl
theorem zeA:Rows.OwnersRotatesSaid:=
 OpenClaim.holds_of_wide 10 Tryz.f10 rfl rfl rfl rfl rfl rfl rfl ⟨rfl,rfl,rfl,rfl,rfl⟩ rfl rfl rfl rfl rfl (by kernel_rfl) Tryz.func10 (by kernel_rfl)
  (of_decide_eq_true (by kernel_rfl)) (by unfold Func.isWrapper;first|(rw[if_pos (by decide +kernel)];kernel_rfl)|(rw[if_neg (by decide +kernel)];exact⟨rfl,rfl⟩))
  (fun os started H enc _=>ze5 os started H enc)
theorem orotates_card:Rows.OwnersRotatesCardSaid:=
 Claim7.holds_tied_plain_at .later [] [.data,.pinned] true Rows.ownersRotatesCard.stood.harness false zeA (fun _ h=>by cases h) (by kernel_rfl) (fun _ h=>by cases h) ownersRotates_row_tie rfl ⟨rfl,rfl⟩ (by kernel_rfl) rfl
  (fun f fn hf hfn => by
    obtain rfl : f = 10 := Option.some.inj ((show Tryz.prog.funcNamed "modcert/modcertlaw53.OwnersRotates" = some 10 by kernel_rfl).symm.trans hf) |>.symm
    obtain rfl:fn=Tryz.f10:=(Option.some.inj (Tryz.func10.symm.trans hfn)).symm
    exact⟨by kernel_rfl,fun j t ht=>by
     rw[Tryz.params10] at ht
     have hm:t∈[5,5,9]:=by simpa using Array.mem_of_getElem? ht
     have hall:([5,5,9].all fun u => !Tryz.prog.wantsStandIn u)=true:=by kernel_rfl
     exact(show Tryz.prog.wantsStandIn t=false by simpa using List.all_eq_true.1 hall t hm)⟩)
  (by kernel_rfl)
end
end Go.Proofs.YtjlmglgmcekmhaaGreatDoor
