/- Rows of proposals with one vote more or another one. -/
import Derived.Test.YtnijhlphcjjpbaaGreatDoorShkVo7
set_option linter.unusedVariables false
set_option linter.unusedSimpArgs false
set_option maxRecDepth 100000
set_option maxHeartbeats 16000000
namespace Go.Proofs.YtnijhlphcjjpbaaGreatDoor
section
open Go Go.RowKit Go.Maps
theorem EL {w:World}{base g n cap size:Nat}{e:TypeId}{xs:List Value}(h:w.ownsRow base e size (.slice (some ⟨g,0,none⟩) n cap) n xs)(i:Nat)(hi:i<xs.length)(u:Value):(w.setCell ⟨g,i,none⟩ u).ownsRow base e size (.slice (some ⟨g,0,none⟩) n cap) n (xs.set i u):=by
 obtain⟨ys,h1,h2,h3,h4,h5,h6⟩:=KA h
 refine EI (cur:=xs.set i u++ys) ?_ h2 h3 h4 (by simpa using h5) (by rw[List.take_append_of_le_length (by rw[List.length_set,h6];exact Nat.le_refl _),List.take_of_length_le (by rw[List.length_set,h6];exact Nat.le_refl _)])
 have:=h1.set i u
 rwa [List.setIfInBounds_toArray,List.set_append_left _ _ hi] at this
namespace Own
def Db (p:Aa)(nv:List Vote):Aa:=⟨p.id,p.path,p.digest,p.opened,p.expires,nv⟩
theorem En.turn {B:Nat}{w w' : World}{v u' : Value}{L:List Aa}{us:List Value}(h:En B w v L us){i:Nat}(hi:i<L.length){nv:List Vote}
 (hrow:w'.ownsRow B 46 6 v L.length (cellsS (L.set i (Db L[i] nv)) (us.set i u'))) (hu:w'.ownsRow B 82 3 u' nv.length (nv.flatMap BP))
 (hother:∀ j (hj:j<L.length) (hj' : j<us.length),j≠i->w'.ownsRow B 82 3 us[j] L[j].Al.length (L[j].Al.flatMap BP))
 (hap:∀ j (hj:j<us.length),j≠i->∀ k,us[j].ownBlock=some k->u'.ownBlock≠some k):En B w' v (L.set i (Db L[i] nv)) (us.set i u'):=by
 refine⟨by simp[h.len],by rw[List.length_set];exact hrow,fun j h1 h2=>?_,?_⟩
 ·rw[List.length_set] at h1 h2
  by_cases hji:j=i
  ·subst hji
   rw[List.getElem_set_self,List.getElem_set_self]
   exact hu
  ·rw[List.getElem_set_ne (fun e=>hji e.symm),List.getElem_set_ne (fun e=>hji e.symm)]
   exact hother j h1 h2 hji
 ·rw[List.pairwise_iff_getElem]
  intro a b ha hb hab k hk
  rw[List.length_set] at ha hb
  by_cases hai:i=a
  ·subst hai
   rw[List.getElem_set_self] at hk
   rw[List.getElem_set_ne (by omega)]
   intro e
   exact hap b hb (by omega) k e hk
  ·rw[List.getElem_set_ne hai] at hk
   by_cases hbi:i=b
   ·subst hbi
    rw[List.getElem_set_self]
    exact hap a ha (by omega) k hk
   ·rw[List.getElem_set_ne hbi]
    exact(List.pairwise_iff_getElem.1 h.apart) a b ha hb hab k hk
theorem o8 (L:List Aa):∀ (us:List Value) (i:Nat) (hi:i<L.length) (_:us.length=L.length) (nv:List Vote) (u' : Value),cellsS (L.set i (Db L[i] nv)) (us.set i u')=(cellsS L us).set (i*6+5) u':=by
 induction L with
 | nil=>intro us i hi;cases hi
 | cons x L ih =>
   intro us i hi hl nv u'
   cases us with
   | nil=>cases hl
   | cons z us =>
     cases i with
     | zero=>rfl
     | succ i =>
       have hi' : i<L.length:=by simpa using hi
       have:=ih us i hi' (by simpa using hl) nv u'
       unfold cellsS at this ⊢
       show EY x z++(List.zipWith EY (L.set i (Db L[i] nv)) (us.set i u')).flatten=(EY x z++(List.zipWith EY L us).flatten).set ((i+1)*6+5) u'
       rw[this,List.set_append_right _ _ (by show 6<=_;omega)]
       congr 2
       show i*6+5=(i+1)*6+5-6
       omega
theorem kH (L:List Aa):∀ (us:List Value) (i:Nat) (hi:i<L.length) (hi' : i<us.length) (_:us.length=L.length) (nv:List Vote),cellsS (L.set i (Db L[i] nv)) us=cellsS L us:=by
 induction L with
 | nil=>intro us i hi;cases hi
 | cons x L ih =>
   intro us i hi hi' hl nv
   cases us with
   | nil=>cases hl
   | cons z us =>
     cases i with
     | zero=>rfl
     | succ i =>
       have hi2:i<L.length:=by simpa using hi
       have:=ih us i hi2 (by simpa using hi') (by simpa using hl) nv
       unfold cellsS at this ⊢
       show EY x z++(List.zipWith EY (L.set i (Db L[i] nv)) us).flatten=EY x z++(List.zipWith EY L us).flatten
       rw[this]
theorem KG (L:List Aa):∀ (us:List Value) (i:Nat) (hi:i<L.length) (hi' : i<us.length) (c:Nat) (_:c<6),(cellsS L us)[i*6+c]? = (EY L[i] us[i])[c]? :=by
 induction L with
 | nil=>intro us i hi;cases hi
 | cons x L ih =>
   intro us i hi hi' c hc
   cases us with
   | nil=>cases hi'
   | cons z us =>
     have hl:(EY x z).length=6:=rfl
     cases i with
     | zero =>
       show(EY x z++cellsS L us)[0*6+c]? = _
       rw[Nat.zero_mul,Nat.zero_add,List.getElem?_append_left (by omega)]
       rfl
     | succ i =>
       have:=ih us i (by simpa using hi) (by simpa using hi') c hc
       show(EY x z++cellsS L us)[(i+1)*6+c]? = (EY (L[i]'(by simpa using hi)) (us[i]'(by simpa using hi')))[c]?
       rw[<- this,List.getElem?_append_right (by omega),hl]
       congr 1
       omega
theorem oC (L:List Aa):∀ (us:List Value),us.length=L.length->(cellsS L us).length=L.length*6:=by
 induction L with
 | nil=>intro us _;simp[cellsS]
 | cons x L ih =>
   intro us hl
   cases us with
   | nil=>cases hl
   | cons z us =>
     have:=ih us (by simpa using hl)
     unfold cellsS at this ⊢
     show(EY x z++(List.zipWith EY L us).flatten).length=_
     rw[List.length_append,this]
     show 6+L.length*6=(L.length+1)*6
     omega
theorem Nr:∀ (L:List Aa) (i:Nat) (hi:i<L.length) (_:L.Pairwise fun x y=>x.id<y.id) (nv:List Vote),MK L (Db L[i] nv)=L.set i (Db L[i] nv)
 | [],i,hi,_,_=>by cases hi
 | x :: L,0,hi,hp,nv => by
   obtain⟨h1,_⟩:=List.pairwise_cons.1 hp
   have e:MK (x::L) (Db x nv)=Db x nv::L:=by
    unfold MK
    rw[List.map_cons,if_pos (show x.id=(Db x nv).id from rfl)]
    congr 1
    have:∀ y∈L,(if y.id=(Db x nv).id then Db x nv else y)=y:=fun y hy=>if_neg (by have:=h1 y hy;show ¬ y.id=x.id;omega)
    rw[List.map_congr_left this,List.map_id']
   exact e
 | x :: L,i + 1,hi,hp,nv => by
   obtain⟨h1,h2⟩:=List.pairwise_cons.1 hp
   have hi' : i<L.length:=by simpa using hi
   have ih:=Nr L i hi' h2 nv
   have:=h1 _ (List.getElem_mem hi')
   have e:MK (x::L) (Db L[i] nv)=x::MK L (Db L[i] nv):=by
    unfold MK
    rw[List.map_cons,if_neg (by show ¬ x.id=L[i].id;omega)]
   show MK (x::L) (Db L[i] nv)=x::L.set i (Db L[i] nv)
   rw[e,ih]
end Own
def Ns (w:World)(R:Own.Queue × Own.Ak × Int)(e:Ending)(w' : World):Prop:=
 (∃ qv sv kv,e=.returned (.tuple #[qv,.agg #[.int .i64 R.2.1.count,sv,kv],.int .i64 R.2.2])/\Own.jk w' qv R.1/\Own.AJ w' sv R.2.1.spaces/\Own.Bo w' kv R.2.1.keys)/\Below w.heap.size w w'
namespace Own
theorem RS {q:Queue}(h:AY q=true){p:Aa}(hp:p∈q.props):Bg p=true/\p.id<q.next/\q.next<=1099511627776:=by
 unfold AY late at h
 simp only[Bool.and_eq_true,decide_eq_true_eq] at h
 have:=GJ h.2 p hp
 simp only[Bool.and_eq_true,decide_eq_true_eq] at this
 exact⟨this.1,this.2,h.1.1.2⟩
structure POK (p:Aa):Prop where
 id0:0<=p.id
 path:p.path.size<=64
 dig:p.digest.size=32
 len:p.Al.length<=1024
 srt:Srt Vote.name p.Al
theorem POK.of {p:Aa}(h:Bg p=true):POK p:=by
 unfold Bg Sig.digest at h
 simp only[Bool.and_eq_true,decide_eq_true_eq] at h
 obtain⟨⟨⟨⟨⟨h1,h2⟩,h3⟩,_⟩,h5⟩,h6⟩:=h
 refine⟨h1,?_,h3,h5,(IJ (f:=Vote.name) h6).1⟩
 unfold Bp at h2
 simp only[Bool.and_eq_true,decide_eq_true_eq] at h2
 exact h2.1.2
end Own
namespace Own
theorem tV {α : Type}{f : α -> ByteArray}{t:ByteArray}{l:List α}(h:Dl f t l=true):posB f t l<l.length:=by
 unfold Dl at h
 cases hq:l[posB f t l]? with
 | none=>rw[hq] at h;cases h
 | some y=>exact(List.getElem?_eq_some_iff.1 hq).1
theorem KH:∀ (V:List Vote) (i:Nat) (hi:i<V.length) (c:Nat) (_:c<3),(V.flatMap BP)[i*3+c]? = (BP V[i])[c]?
 | [],i,hi,_,_=>by cases hi
 | x :: V,0,_,c,hc => by
   rw[List.flatMap_cons,Nat.zero_mul,Nat.zero_add,List.getElem?_append_left (by show c<3;exact hc)]
   rfl
 | x :: V,i + 1,hi,c,hc => by
   rw[List.flatMap_cons,List.getElem?_append_right (by show 3<=_;omega)]
   have:=KH V i (by simpa using hi) c hc
   show(V.flatMap BP)[(i+1)*3+c-3]? = _
   rw[show(i+1)*3+c-3=i*3+c by omega,this]
   rfl
theorem fH (V:List Vote):(V.flatMap BP).length=V.length*3:=by
 induction V with
 | nil=>rfl
 | cons x V ih=>rw[List.flatMap_cons,List.length_append,ih,List.length_cons];show 3+_=_;omega
theorem Uy:∀ (V:List Vote) (i:Nat) (_:i<V.length) (x:Vote),(V.set i x).flatMap BP=(((V.flatMap BP).set (i*3) (.string x.name)).set (i*3+1) (.string x.pub)).set (i*3+2) (.bool x.agrees)
 | [],i,hi,_=>by cases hi
 | y::V,0,_,x=>rfl
 | y :: V,i + 1,hi,x => by
   have ih:=Uy V i (by simpa using hi) x
   show(y::V.set i x).flatMap BP=_
   have hl:(BP y).length=3:=rfl
   rw[List.flatMap_cons,List.flatMap_cons,ih,List.set_append_right _ _ (by omega),List.set_append_right _ _ (by omega),List.set_append_right _ _ (by omega),hl,show(i+1)*3-3=i*3 by omega,show(i+1)*3+1-3=i*3+1 by omega,show(i+1)*3+2-3=i*3+2 by omega]
end Own
namespace Own
theorem En.ne {B:Nat}{w:World}{v:Value}{L:List Aa}{us:List Value}(h:En B w v L us){i j:Nat}(hi:i<us.length)(hj:j<us.length)(hij:i≠j):∀ k,us[i].ownBlock=some k->us[j].ownBlock≠some k:=by
 intro k hk
 rcases Nat.lt_or_ge i j with hlt|hge
 ·exact(List.pairwise_iff_getElem.1 h.apart) i j hi hj hlt k hk
 ·intro hk2
  exact(List.pairwise_iff_getElem.1 h.apart) j i hj hi (by omega) k hk2 hk
theorem fI (V:List Vote)(i:Nat)(x:Vote):(V.flatMap BP).take (i*3)++(BP x++(V.flatMap BP).drop (i*3))=(V.take i++x::V.drop i).flatMap BP:=by
 have h:∀ (V:List Vote) (i:Nat),(V.flatMap BP).take (i*3)=(V.take i).flatMap BP/\(V.flatMap BP).drop (i*3)=(V.drop i).flatMap BP:=by
  intro V
  induction V with
  | nil=>intro i;simp
  | cons y V ih =>
    intro i
    cases i with
    | zero=>simp
    | succ i =>
      obtain⟨h1,h2⟩:=ih i
      have hl:(BP y).length=3:=rfl
      rw[List.flatMap_cons,List.take_append,List.drop_append,hl,show(i+1)*3-3=i*3 by omega,h1,h2,List.take_of_length_le (by omega),List.drop_of_length_le (by omega)]
      exact⟨rfl,rfl⟩
 rw[(h V i).1,(h V i).2,List.flatMap_append,List.flatMap_cons]
theorem En.same {B:Nat}{w w' : World}{g cap ub uc:Nat}{L:List Aa}{us:List Value}{j:Nat}{V nv:List Vote}(h:En B w (.slice (some ⟨g,0,none⟩) L.length cap) L us)(hj:j<L.length)(hju:j<us.length)(hue:us[j]=.slice (some ⟨ub,0,none⟩) V.length uc)
 (hu:w'.ownsRow B 82 3 (.slice (some ⟨ub,0,none⟩) V.length uc) nv.length (nv.flatMap BP)) (hw:w.ownsRow B 82 3 (.slice (some ⟨ub,0,none⟩) V.length uc) V.length (V.flatMap BP)) (hk:∀ k,k≠ub->w'.heap[k]? = w.heap[k]?):En B w' (.slice (some ⟨g,0,none⟩) L.length cap) (L.set j (Db L[j] nv)) us:=by
 have hgu:g≠ub:=fun e=>Mv h.row hw (by decide) g rfl (by rw[e];rfl)
 have e:us.set j (.slice (some ⟨ub,0,none⟩) V.length uc)=us:=by rw[<- hue];exact List.set_getElem_self hju
 have ht:=En.turn (u':=.slice (some ⟨ub,0,none⟩) V.length uc) (nv:=nv) h hj (w':=w') ?_ hu (fun i hi hi' hij=>Aq (h.Al i hi hi') (fun k hkk=>hk k (fun e2=>h.ne hi' hju hij k hkk (by rw[hue,e2];rfl)))) (fun i hi hij k hkk=>by
  have:=h.ne hi hju hij k hkk
  rwa [hue] at this)
 ·rwa [e] at ht
 ·rw[e,kH L us j hj hju h.len nv]
  exact Aq h.row (fun k hkk=>hk k (by cases hkk;exact hgu))
end Own
theorem RU (q:Own.Queue)(o:Own.Ak)(id:Int)(ag:Bool)(ap:Own.AZ)(qv sv kv cv pv:Value)(w:World)(hMx:Fe w)(hP:Own.A9 w qv q.props)(hS:Own.AJ w sv o.spaces)(hK:Own.Bo w kv o.keys)(hcs:Ay w cv ap.sig.chains)(hps:Ay w pv ap.sig.path)(hcap:CS pv)
 (hlp:q.props.length<=1000000) (hlv:∀ x∈q.props,x.Al.length<=3000000) (hls:o.spaces.length<=3000000) (hlk:o.keys.length<=800000) (hlm:∀ x∈o.spaces,x.members.length<=3000000)
 (hal:ap.name.size<=140737488355328/\ap.sig.chains.length<=140737488355328/\ap.sig.path.length<=140737488355328):
 Calls Tryz.prog 25 #[.agg #[.int .i64 q.next,qv],.agg #[.int .i64 o.count,sv,kv],.int .i64 id,.bool ag,.agg #[.string ap.name,.int .i64 ap.sig.index,cv,pv]] w (Ns w (Own.Gm q o id ag ap)):=by
 obtain⟨R,hR⟩:∃ R,R=Own.Gm q o id ag ap:=⟨_,rfl⟩
 obtain⟨Q,hQ⟩:∃ Q,Q=Ns w R:=⟨_,rfl⟩
 rw[<- hR,<- hQ]
 have HQ:=zh hQ;clear hQ
 unfold Own.Gm Own.Ej at hR
 obtain⟨qa,qc,rfl⟩:=hP.len
 obtain⟨sa,sc,rfl⟩:=hS.len
 obtain⟨ka,kc,rfl⟩:=hK.len
 obtain⟨ca,cc,rfl⟩:=hcs.len
 obtain⟨pa,pc,rfl⟩:=hps.len
 have hvq:=fun W (hW:Below w.heap.size w W)=>D9 q (.slice qa q.props.length qc) W (hMx.below hW) (hP.below hW) (by omega) (fun p hp=>by have:=hlv p hp;omega)
 have hvo:=fun W (hW:Below w.heap.size w W)=>EU o (.slice sa o.spaces.length sc) (.slice ka o.keys.length kc) W (hMx.below hW) (hS.below hW) (hK.below hW) (by omega) (by omega) (fun x hx=>by have:=hlm x hx;omega)
 have hau:=fun(s:ByteArray) W (hW:Below w.heap.size w W)=>EH o s (.slice sa o.spaces.length sc) (.slice ka o.keys.length kc) W (hMx.below hW) (hS.below hW) (hK.below hW) (by omega) (by omega) (fun x hx=>by have:=hlm x hx;omega)
 have hus:=fun(X:Nat->Prop) (s:Own.Space) (path msg:ByteArray) (ma:Option Addr) (mc:Nat) W (hW:Below w.heap.size w W) (hXw:∀ k,X k->w.heap.size<=k) (hX:∀ k,X k->k<W.heap.size) hm hmc yx GY=>Z8 X o s path msg ap (.slice sa o.spaces.length sc) (.slice ka o.keys.length kc) (.slice ca ap.sig.chains.length cc) (.slice pa ap.sig.path.length pc) ma mc W hX (hMx.below hW) ((hS.mono (G:=fun k=>¬ X k) (fun k _ hk h=>by have:=hXw k h;omega)).below hW) (hK.below hW) hm hmc (hcs.below hW) (hps.below hW) hcap yx hlk GY hal
 have hqp:=fun(h:Own.AY q=true) (p:Own.Aa) (hp:p∈q.props)=>Own.RS h hp
 have ZW:Own.AY q=true->q.props.Pairwise fun x y=>x.id<y.id:=fun h=>Own.Us h
 obtain⟨QB,hQB⟩:∃ b,b=Own.AY q:=⟨_,rfl⟩
 obtain⟨OB,hOB⟩:∃ b,b=Own.AQ o:=⟨_,rfl⟩
 simp only[<- hQB,<- hOB] at hvq hvo hR hqp ZW
 obtain⟨nx,L⟩:=q
 dsimp only at*
 obtain⟨AU,hAU⟩:∃ AU,AU=Own.authority o:=⟨_,rfl⟩
 obtain⟨UR,hUR⟩:∃ UR:Own.Space->ByteArray->Except Int (Own.Member × List Own.KeyUse),UR=fun s m=>Own.Fw o s m ap:=⟨_,rfl⟩
 have hur:∀ s m,Own.Fw o s m ap=UR s m:=fun s m=>by rw[hUR]
 have P9:∀ s m c,UR s m=.error c->(c==0)=false:=fun s m c h=>by
  rw[<- hur] at h
  unfold Own.Fw at h
  split at h
  ·cases h;rfl
  ·split at h
   ·split at h
    ·cases h;rfl
    ·cases h
   ·cases h;rfl
 have kI:=zh P9;clear P9
 have hR2:R=if (QB&&OB)=false then (Own.Queue.none,Own.Ak.none,1) else match L.find? (fun p=>decide (p.id=id)) with
  | none=>(Own.Queue.none,Own.Ak.none,6)
  | some p => match AU p.path with
    | none=>(Own.Queue.none,Own.Ak.none,6)
    | some s => match UR s (Own.AX p ag) with
      | .error c=>(Own.Queue.none,Own.Ak.none,c)
      | .ok (m,K)=>if 1024<(Own.BI p.Al ⟨ap.name,m.pub,ag⟩).length then (Own.Queue.none,Own.Ak.none,7) else (⟨nx,Own.MK L (Own.Db p (Own.BI p.Al ⟨ap.name,m.pub,ag⟩))⟩,{ o with keys:=K },0):=by
  rw[hR,hAU]
  split
  ·rfl
  ·cases L.find? (fun p=>decide (p.id=id)) with
   | none=>rfl
   | some p =>
     dsimp only
     cases Own.authority o p.path with
     | none=>rfl
     | some s =>
       dsimp only
       rw[<- hur]
       unfold Own.Fw
       cases Own.find s.members ap.name with
       | none=>rfl
       | some m =>
         dsimp only
         cases hv:Sig.verify m.pub (Own.AX p ag) ap.sig with
         | false=>rfl
         | true =>
           by_cases hi:ap.sig.index<Own.Bf o.keys m.pub
           ·simp[hi]
           ·simp only[Bool.true_eq_false,hi,if_false,if_true]
            rfl
 simp only[<- hAU,hur] at hau hus
 have HVQ:=zh hvq;have HVO:=zh hvo;have oD:=zh hau;have HUS:=zh hus;have HQP:=zh hqp;have oF:=zh ZW;have HR:=zh hR2;have HP:=zh hP;have HLV:=zh hlv;have HMX:=zh hMx;have HAU:=zh hAU
 have HSS:=zh hS;have HKK:=zh hK
 clear hvq hvo hau hus hqp ZW hR hR2 hS hK hlm hQB hOB hAU hUR hur hP hlv hMx hcs hps hcap
 obtain⟨nm,⟨ix,chs,pth⟩⟩:=ap
 obtain⟨cnt,S,K⟩:=o
 dsimp only at*
 have F1:=zh (show Ap w _ [(24,#[.int .i64 nx,.slice qa L.length qc]),(38,#[.int .i64 cnt,.slice sa S.length sc,.slice ka K.length kc]),(43,#[.string nm,.int .i64 ix,.slice ca chs.length cc,.slice pa pth.length pc]),(24,#[.int .i64 0,.slice none 0 0]),(38,#[.int .i64 0,.slice none 0 0,.slice none 0 0])] from((((((BL.nil w).push 24 #[.int .i64 nx,.slice qa L.length qc]).push 38 #[.int .i64 cnt,.slice sa S.length sc,.slice ka K.length kc]).push 43 #[.string nm,.int .i64 ix,.slice ca chs.length cc,.slice pa pth.length pc]).push 24 #[.int .i64 0,.slice none 0 0]).push 38 #[.int .i64 0,.slice none 0 0,.slice none 0 0]).boxes)
 have x00:(((((w.alloc (.cells #[.int .i64 nx,.slice qa L.length qc] 24)).alloc (.cells #[.int .i64 cnt,.slice sa S.length sc,.slice ka K.length kc] 38)).alloc (.cells #[.string nm,.int .i64 ix,.slice ca chs.length cc,.slice pa pth.length pc] 43)).alloc (.cells #[.int .i64 0,.slice none 0 0] 24)).alloc (.cells #[.int .i64 0,.slice none 0 0,.slice none 0 0] 38)).cell? ⟨w.heap.size,0,none⟩=some (.int .i64 nx):=F1.out.cell 0 0 rfl rfl
 have x01:(((((w.alloc (.cells #[.int .i64 nx,.slice qa L.length qc] 24)).alloc (.cells #[.int .i64 cnt,.slice sa S.length sc,.slice ka K.length kc] 38)).alloc (.cells #[.string nm,.int .i64 ix,.slice ca chs.length cc,.slice pa pth.length pc] 43)).alloc (.cells #[.int .i64 0,.slice none 0 0] 24)).alloc (.cells #[.int .i64 0,.slice none 0 0,.slice none 0 0] 38)).cell? ⟨w.heap.size,1,none⟩=some (.slice qa L.length qc):=F1.out.cell 0 1 rfl rfl
 go_enter Tryz.func25,Tryz.ntmps25
 go_wp2_with fail
 generalize (((((w.alloc (.cells #[.int .i64 nx,.slice qa L.length qc] 24)).alloc (.cells #[.int .i64 cnt,.slice sa S.length sc,.slice ka K.length kc] 38)).alloc (.cells #[.string nm,.int .i64 ix,.slice ca chs.length cc,.slice pa pth.length pc] 43)).alloc (.cells #[.int .i64 0,.slice none 0 0] 24)).alloc (.cells #[.int .i64 0,.slice none 0 0,.slice none 0 0] 38))=w1 at*
 refine(HVQ.out w1 F1.out.under).mono ?_
 rintro e w2 ⟨rfl,hb2⟩
 have F2:=zh (F1.out.step hb2)
 (try clear x00);(try clear x01)
 clear hb2
 cases QB with
 | false =>
   have HE:=zh (show R=(Own.Queue.none,Own.Ak.none,1) by rw[HR.out];rfl)
   obtain⟨x30,x31,Cz,C8⟩:=F2.out.GZ rfl
   obtain⟨x40,x41,x42,CY,CZ,Da⟩:=F2.out.LX rfl
   go_wp2_with fail
   have g1:=F2.out.put 3 0 (.int .i64 0) rfl
   have g2:=g1.put 3 1 (.slice none 0 0) rfl
   have g3:=g2.put 4 0 (.int .i64 0) rfl
   have g4:=g3.put 4 1 (.slice none 0 0) rfl
   have G2:=g4.put 4 2 (.slice none 0 0) rfl
   clear g1 g2 g3 g4
   refine BH rfl rfl rfl rfl (Ab (G2.at1 3 rfl) Tryz.underlying24 rfl Ao) (Ab (G2.at1 4 rfl) Tryz.underlying38 rfl Am) ?_
   rw[HQ.out,HE.out]
   exact⟨⟨_,_,_,rfl,⟨_,rfl,Ag.nil _ _⟩,Ag.nil _ _,Ag.nil _ _⟩,G2.under⟩
 | true=>
 obtain⟨x10,x11,x12⟩:=F2.out.JU rfl
 go_wp2_with fail
 refine(HVO.out w2 F2.out.under).mono ?_
 rintro e w3 ⟨rfl,hb3⟩
 have F3:=zh (F2.out.step hb3)
 (try clear x00);(try clear x01);(try clear x10 x11 x12);(try clear x30 x31 Cz C8);(try clear x40 x41 x42 CY CZ Da)
 clear hb3
 cases OB with
 | false =>
   have HE:=zh (show R=(Own.Queue.none,Own.Ak.none,1) by rw[HR.out];rfl)
   obtain⟨x30,x31,Cz,C8⟩:=F3.out.GZ rfl
   obtain⟨x40,x41,x42,CY,CZ,Da⟩:=F3.out.LX rfl
   go_wp2_with fail
   have g1:=F3.out.put 3 0 (.int .i64 0) rfl
   have g2:=g1.put 3 1 (.slice none 0 0) rfl
   have g3:=g2.put 4 0 (.int .i64 0) rfl
   have g4:=g3.put 4 1 (.slice none 0 0) rfl
   have G2:=g4.put 4 2 (.slice none 0 0) rfl
   clear g1 g2 g3 g4
   refine BH rfl rfl rfl rfl (Ab (G2.at1 3 rfl) Tryz.underlying24 rfl Ao) (Ab (G2.at1 4 rfl) Tryz.underlying38 rfl Am) ?_
   rw[HQ.out,HE.out]
   exact⟨⟨_,_,_,rfl,⟨_,rfl,Ag.nil _ _⟩,Ag.nil _ _,Ag.nil _ _⟩,G2.under⟩
 | true=>
 have hr:=HR.out
 rw[if_neg (show ¬ (true&&true)=false by decide)] at hr
 obtain⟨x00,x01⟩:=F3.out.Dw rfl
 have HR1:=zh hr;clear hr HR
 go_wp2_with fail
 refine(IL nx id (.slice qa L.length qc) L w3 (HP.out.below F3.out.under) (by omega)).mono ?_
 rintro e w4 ⟨⟨i,rfl,hi⟩,hb4⟩
 have F4:=zh (F3.out.step hb4)
 (try clear x00);(try clear x01);(try clear x10 x11 x12);(try clear x30 x31 Cz C8);(try clear x40 x41 x42 CY CZ Da)
 clear hb4
 rcases hi with ⟨rfl,hf,_⟩|⟨j,hj,rfl,hf,hpj,_⟩
 ·have HE:=zh (show R=(Own.Queue.none,Own.Ak.none,6) by rw[HR1.out,hf])
  clear hf
  obtain⟨x30,x31,Cz,C8⟩:=F4.out.GZ rfl
  obtain⟨x40,x41,x42,CY,CZ,Da⟩:=F4.out.LX rfl
  go_wp2_with fail
  have g1:=F4.out.put 3 0 (.int .i64 0) rfl
  have g2:=g1.put 3 1 (.slice none 0 0) rfl
  have g3:=g2.put 4 0 (.int .i64 0) rfl
  have g4:=g3.put 4 1 (.slice none 0 0) rfl
  have G2:=g4.put 4 2 (.slice none 0 0) rfl
  clear g1 g2 g3 g4
  refine BH rfl rfl rfl rfl (Ab (G2.at1 3 rfl) Tryz.underlying24 rfl Ao) (Ab (G2.at1 4 rfl) Tryz.underlying38 rfl Am) ?_
  rw[HQ.out,HE.out]
  exact⟨⟨_,_,_,rfl,⟨_,rfl,Ag.nil _ _⟩,Ag.nil _ _,Ag.nil _ _⟩,G2.under⟩
 have dj:decide ((j:Int)<0)=false:=zf
 have hr:=HR1.out
 rw[hf] at hr
 have HR2:=zh hr
 obtain⟨x00,x01⟩:=F4.out.Dw rfl
 clear hr hf hpj HR1
 go_wp2_with fail
 refine(Yd nx (.slice qa L.length qc) L w4 (HP.out.below F4.out.under) hlp HLV.out).mono ?_
 rintro e w5 ⟨⟨v5,us,rfl,hso⟩,hb5⟩
 obtain⟨g,cap,rfl,_⟩:=CO hso.row (by omega)
 have O6:=zh (show Ap w5 _ [(24,#[.int .i64 nx,.slice (some ⟨g,0,none⟩) L.length cap])] from((BL.nil w5).push 24 #[.int .i64 nx,.slice (some ⟨g,0,none⟩) L.length cap]).boxes)
 have F6:=zh (F4.out.step (hb5.trans (O6.out.under.mono hb5.size)));have SO6:=zh (hso.below O6.out.under);have oG:=hso
 have hz5:w.heap.size+5<=w4.heap.size:=F4.out.size
 have zcy:=hb5.size
 (try clear x00);(try clear x01);(try clear x10 x11 x12);(try clear x30 x31 Cz C8);(try clear x40 x41 x42 CY CZ Da)
 clear hb5 hso
 go_upto_region 7 with fail
 generalize (w5.alloc (.cells #[.int .i64 nx,.slice (some ⟨g,0,none⟩) L.length cap] 24))=w6 at*
 have hju:j<us.length:=by rw[SO6.out.len];exact hj
 have hcc:∀ i x,(Own.cellsS L us)[i]? = some x->w6.cell? ⟨g,i,none⟩=some x:=by
  obtain⟨g',cap',e,h⟩:=CO SO6.out.row (by omega)
  cases e
  exact h
 have hvj:=SO6.out.Al j hj hju
 have kK:=oG.Al j hj (by rw[oG.len];exact hj)
 obtain⟨ua,um,uc,hue⟩:=Ac hvj
 rw[hue] at hvj kK
 obtain rfl:=Bt hvj
 have hgl:g<w6.heap.size:=Own.BQ SO6.out.row g rfl
 have hgu:w4.heap.size+3<=g:=Az SO6.out.row g rfl
 obtain⟨hpk,Jb,hnx⟩:=HQP.out (by first|rfl|trivial) L[j] (List.getElem_mem hj)
 have Ye:=Own.POK.of hpk
 have c0:=hcc (j*6) _ (Own.KG L us j hj hju 0 (by omega))
 have c1:=hcc (j*6+1) _ (Own.KG L us j hj hju 1 (by omega))
 have c2:=hcc (j*6+2) _ (Own.KG L us j hj hju 2 (by omega))
 have c3:=hcc (j*6+3) _ (Own.KG L us j hj hju 3 (by omega))
 have c4:=hcc (j*6+4) _ (Own.KG L us j hj hju 4 (by omega))
 have c5:=hcc (j*6+5) _ (Own.KG L us j hj hju 5 (by omega))
 rw[hue] at c5
 obtain⟨x,hx⟩:∃ x,x=L[j]:=⟨_,rfl⟩
 have hr:=HR2.out
 rw[<- hx] at c0 c1 c2 c3 c4 c5 hvj kK Ye Jb hr
 obtain⟨pid,ppa,pdi,pop,pex,V⟩:=x
 dsimp only at c0 c1 c2 c3 c4 c5 hvj kK Ye Jb hr
 have HX:=zh hx;have HUE:=zh hue;have HVJ:=zh hvj;have y8:=zh kK;have HG5:=zh oG.row;have ZX:=zh Ye;have HR3:=zh hr
 obtain⟨x10,x11,x12⟩:=F6.out.JU rfl
 have hz6:w5.heap.size+1<=w6.heap.size:=O6.out.size
 clear hx hue hvj kK oG hr HR2 hcc hpk
 have z01:w6.cell? ⟨w5.heap.size,1,none⟩=some (.slice (some ⟨g,0,none⟩) L.length cap):=O6.out.cell 0 1 rfl rfl
 go_upto_region 8 with fail
 clear z01
 have fJ:=fun W (hW:Below w6.heap.size w6 W)=>oD.out ppa W (F6.out.under.trans (hW.mono F6.out.under.size))
 have hr4:=HR3.out
 cases hA:AU ppa with
 | none =>
   rw[hA] at hr4
   simp only[hA] at fJ
   have HE:=zh hr4;have HA6:=zh fJ
   clear hr4 fJ hA HR3
   refine Lex.Df (fun _=>False) [] [9] 11 [.pure 5,.call,.pure 3,.new] [1] (by kernel_rfl) (by kernel_rfl) (by kernel_rfl) ?_
   simp only[Lex.FD,Lex.AA,zd]
   have BD6:=zh (show Below w6.heap.size w6 w6.drew from(Below.refl _ _).drew)
   have ZD6:=zh (show w6.drew.heap.size=w6.heap.size by rw[Ad])
   go_wp2_with fail
   refine Lex.Hg.intro ?_
   intro w6a hga
   have HBa:=zh (BD6.out.trans (hga.mono BD6.out.size))
   clear hga
   (try clear x00);(try clear x01);(try clear x10 x11 x12);(try clear x30 x31 Cz C8);(try clear x40 x41 x42 CY CZ Da)
   clear c0 c1 c2 c3 c4 c5
   go_wp2_with fail
   refine(HA6.out w6a HBa.out).mono ?_
   rintro e w7 ⟨rfl,hb7⟩
   have HB7:=zh (HBa.out.trans (hb7.mono HBa.out.size));have BB7:=zh hb7
   clear hb7
   go_wp2_with fail
   refine Lex.KP.intro (fun k hk _=>hk.elim) (Lex.Kept.of_below BB7.out) ?_
   go_wp2_with fail
   refine Lex.Hg.intro ?_
   intro w7a kL
   go_wp2_with fail
   refine Lex.Ni.intro (fun w7b hg hk _=>?_)
   have hs7:=hk.at_
   obtain⟨SB,hSB⟩:∃ SB,SB=w7a.heap.size:=⟨_,rfl⟩
   have hsb:w6.heap.size<=SB:=by rw[hSB,<- ZD6.out];exact kL
   rw[<- hSB] at hs7 ⊢
   have hb7:=HB7.out.trans (hg.mono HB7.out.size)
   have s0:=hs7.cell 0;have s1:=hs7.cell 1;have s2:=hs7.cell 2;have s3:=hs7.free 0;have s4:=hs7.free 1;have s5:=hs7.free 2
   simp only[zg] at s0 s1 s2
   have F8:=zh (F6.out.step (((hb7.setCell (p:=⟨SB,0,none⟩) hsb (.string ⟨#[]⟩)).setCell (p:=⟨SB,1,none⟩) hsb (.slice none 0 0)).setCell (p:=⟨SB,2,none⟩) hsb (.int .i64 0)))
   clear hg hk hb7 hs7 hSB kL
   go_wp2_with fail
   refine Lex.Mid.intro (fun k hk _=>hk.elim) ?_
   go_wp2_with fail
   refine Lex.zk trivial ?_
   clear s0 s1 s2 s3 s4 s5
   generalize ((w7b.setCell ⟨SB,0,none⟩ (.string ⟨#[]⟩)).setCell ⟨SB,1,none⟩ (.slice none 0 0)).setCell ⟨SB,2,none⟩ (.int .i64 0)=w8 at*
   obtain⟨x30,x31,Cz,C8⟩:=F8.out.GZ rfl
   obtain⟨x40,x41,x42,CY,CZ,Da⟩:=F8.out.LX rfl
   go_wp2_with fail
   have g1:=F8.out.put 3 0 (.int .i64 0) rfl
   have g2:=g1.put 3 1 (.slice none 0 0) rfl
   have g3:=g2.put 4 0 (.int .i64 0) rfl
   have g4:=g3.put 4 1 (.slice none 0 0) rfl
   have G2:=g4.put 4 2 (.slice none 0 0) rfl
   clear g1 g2 g3 g4
   refine BH rfl rfl rfl rfl (Ab (G2.at1 3 rfl) Tryz.underlying24 rfl Ao) (Ab (G2.at1 4 rfl) Tryz.underlying38 rfl Am) ?_
   rw[HQ.out,HE.out]
   exact⟨⟨_,_,_,rfl,⟨_,rfl,Ag.nil _ _⟩,Ag.nil _ _,Ag.nil _ _⟩,G2.under⟩
 | some sp =>
   rw[hA] at hr4
   simp only[hA] at fJ
   have HR5:=zh hr4;have HA6:=zh fJ;have HSA:=zh hA
   obtain⟨Fp,M,th⟩:=sp
   dsimp only at HA6 HR5
   clear hr4 fJ hA HR3
   refine Lex.Df (fun _=>False) [] [9] 11 [.pure 5,.call,.pure 3,.new] [1] (by kernel_rfl) (by kernel_rfl) (by kernel_rfl) ?_
   simp only[Lex.FD,Lex.AA,zd]
   have BD6:=zh (show Below w6.heap.size w6 w6.drew from(Below.refl _ _).drew)
   have ZD6:=zh (show w6.drew.heap.size=w6.heap.size by rw[Ad])
   go_wp2_with fail
   refine Lex.Hg.intro ?_
   intro w6a hga
   have HBa:=zh (BD6.out.trans (hga.mono BD6.out.size))
   clear hga
   (try clear x00);(try clear x01);(try clear x10 x11 x12);(try clear x30 x31 Cz C8);(try clear x40 x41 x42 CY CZ Da)
   go_wp2_with fail
   refine(HA6.out w6a HBa.out).mono ?_
   rintro e w7 ⟨⟨mv,rfl,hov⟩,hb7⟩
   dsimp only at hov
   obtain⟨ma,mm,mc,rfl⟩:=Ac hov
   obtain rfl:=Bt hov
   have hov:=BG hov HBa.out.size
   have HB7:=zh (HBa.out.trans (hb7.mono HBa.out.size));have BB7:=zh hb7
   have hmc:M.length<=mc:=by
    obtain⟨_,⟨h0,hn⟩|⟨_,_,_,h0,_,_,h1,_⟩⟩:=hov
    ·injection h0 with _ q1 q2
     omega
    ·injection h0 with _ q1 q2
     omega
   have HOV:=zh hov
   clear hb7 hov
   go_wp2_with fail
   refine Lex.KP.intro (fun k hk _=>hk.elim) (Lex.Kept.of_below BB7.out) ?_
   go_wp2_with fail
   refine Lex.Hg.intro ?_
   intro w7a kL
   go_wp2_with fail
   refine Lex.Ni.intro (fun w7b hg hk ho=>?_)
   have hs7:=hk.at_
   obtain⟨SB,hSB⟩:∃ SB,SB=w7a.heap.size:=⟨_,rfl⟩
   have hsb:w6.heap.size<=SB:=by rw[hSB,<- ZD6.out];exact kL
   rw[<- hSB] at hs7 ⊢
   have hb7:=HB7.out.trans (hg.mono HB7.out.size)
   have RX:=own_below HOV.out hg
   have hne:=hs7.own_ne RX (by decide)
   have s0:=hs7.cell 0;have s1:=hs7.cell 1;have s2:=hs7.cell 2;have s3:=hs7.free 0;have s4:=hs7.free 1;have s5:=hs7.free 2
   simp only[zg] at s0 s1 s2
   have hb8:=(((hb7.setCell (p:=⟨SB,0,none⟩) hsb (.string Fp)).setCell (p:=⟨SB,1,none⟩) hsb (.slice ma M.length mc)).setCell (p:=⟨SB,2,none⟩) hsb (.int .i64 th))
   have hs8:At (((w7b.setCell ⟨SB,0,none⟩ (.string Fp)).setCell ⟨SB,1,none⟩ (.slice ma M.length mc)).setCell ⟨SB,2,none⟩ (.int .i64 th)) SB 70 #[.string Fp,.slice ma M.length mc,.int .i64 th]:=((hs7.set 0 (.string Fp)).set 1 (.slice ma M.length mc)).set 2 (.int .i64 th)
   have hm8:Ag 2 Own.Cb (fun k=>w6.heap.size<=k/\k≠SB/\k<(((w7b.setCell ⟨SB,0,none⟩ (.string Fp)).setCell ⟨SB,1,none⟩ (.slice ma M.length mc)).setCell ⟨SB,2,none⟩ (.int .i64 th)).heap.size) (((w7b.setCell ⟨SB,0,none⟩ (.string Fp)).setCell ⟨SB,1,none⟩ (.slice ma M.length mc)).setCell ⟨SB,2,none⟩ (.int .i64 th)) (.slice ma M.length mc) M:=
    Ck (enc:=Own.Ie) (fun _=>rfl) (fun _=>rfl) (Bz.own (Aq RX (fun k hk=>by
     have h2:k≠SB:=fun e=>hne (by rw[hk,e])
     rw[zo h2,zo h2,zo h2]))) rfl (fun k hk=>by
     have h1:=Az RX k hk
     have h2:=Own.BQ RX k hk
     refine⟨h1,fun e=>hne (by rw[hk,e]),?_⟩
     simp only[World.setCell,Array.size_modify]
     exact h2)
   have F8:=zh (F6.out.step hb8);have O8:=zh (O6.out.step hb8);have SO8:=zh (SO6.out.below hb8);have HB8:=zh hb8;have S8:=zh hs8;have HM8:=zh hm8
   clear hg hk ho hb7 hs7 hSB kL hb8 hs8 hm8 RX hne HOV HBa HB7 BB7
   go_wp2_with fail
   refine Lex.Mid.intro (fun k hk _=>hk.elim) ?_
   go_wp2_with fail
   refine Lex.zk trivial ?_
   clear s0 s1 s2 s3 s4 s5
   generalize ((w7b.setCell ⟨SB,0,none⟩ (.string Fp)).setCell ⟨SB,1,none⟩ (.slice ma M.length mc)).setCell ⟨SB,2,none⟩ (.int .i64 th)=w8 at*
   go_upto_region 11 with fail
   have c0':=(HB8.out.cell (p:=⟨g,j*6,none⟩) hgl).trans c0
   have c1':=(HB8.out.cell (p:=⟨g,j*6+1,none⟩) hgl).trans c1
   have c2':=(HB8.out.cell (p:=⟨g,j*6+2,none⟩) hgl).trans c2
   have c3':=(HB8.out.cell (p:=⟨g,j*6+3,none⟩) hgl).trans c3
   have c4':=(HB8.out.cell (p:=⟨g,j*6+4,none⟩) hgl).trans c4
   have c5':=(HB8.out.cell (p:=⟨g,j*6+5,none⟩) hgl).trans c5
   obtain⟨s0,s1,s2⟩:=S8.out.c3
   (try clear x00);(try clear x01);(try clear x10 x11 x12);(try clear x30 x31 Cz C8);(try clear x40 x41 x42 CY CZ Da)
   obtain⟨x10,x11,x12⟩:=F8.out.JU rfl
   have h1l:w.heap.size+1<w8.heap.size:=F8.out.lt (i:=1) (by show 1<5;omega)
   have h2l:w.heap.size+1+1<w8.heap.size:=F8.out.lt (i:=2) (by show 2<5;omega)
   have hsl:SB<w8.heap.size:=S8.out.lt
   have y9:g<w8.heap.size:=Nat.lt_of_lt_of_le hgl HB8.out.size
   have zcz:=HB8.out.size
   have HC5:=zh c5'
   have HX1:=zh (zi x10)
   have HX2:=zh (zi s0)
   have HX3:=zh (zi c1')
   have HX4:=zh (show(w8.cell? ⟨w.heap.size+1+1,0,none⟩).isSome=true by rw[F8.out.cell 2 0 rfl rfl];rfl)
   have hpk:=ZX.out
   obtain⟨MSG,ZY⟩:∃ m,m=Own.AX ⟨pid,ppa,pdi,pop,pex,V⟩ ag:=⟨_,rfl⟩
   have hms:MSG.size<=9223372036854775000:=by
    have h1:ppa.size<=64:=hpk.path
    have h2:pdi.size=32:=hpk.dig
    have h3:=Cod.BS pid.toNat;have h4:=Cod.BS ppa.size;have h5:=Cod.BS pdi.size
    rw[ZY]
    unfold Own.AX Cod.text Sig.b1
    simp only[ByteArray.size_append]
    have:∀ x:UInt8,(⟨#[x]⟩:ByteArray).size=1:=fun _=>rfl
    rw[this]
    omega
   have GY:=fun W=>Hf ⟨pid,ppa,pdi,pop,pex,V⟩ ag (.slice ua V.length uc) W hpk.id0 (by show pid<_;omega) (by have:ppa.size<=64:=hpk.path;show ppa.size<=_;omega) (by have:pdi.size=32:=hpk.dig;show pdi.size<=_;omega)
   have hr6:=HR5.out
   simp only[<- ZY] at GY hr6
   have hus:=fun(X:Nat->Prop) W (hW:Below w8.heap.size w8 W) (hXw:∀ k,X k->w.heap.size<=k) (hX:∀ k,X k->k<W.heap.size) (hXm:∀ k,w6.heap.size<=k/\k≠SB/\k<w8.heap.size->¬ X k)=>HUS.out X ⟨Fp,M,th⟩ ppa MSG ma mc W (F8.out.under.trans (hW.mono F8.out.under.size)) hXw hX ((HM8.out.below hW).mono (fun k hk _=>hXm k hk)) hmc HSA.out hms
   dsimp only at hus
   have kM:=zh GY;have Uz:=zh hus;have HR6:=zh hr6
   have P9:=kI.out ⟨Fp,M,th⟩ MSG
   clear GY hus hr6 ZY hpk c0 c1 c2 c3 c4 c5
   cases hU:UR ⟨Fp,M,th⟩ MSG with
   | error ec =>
     have hec:=P9 ec hU
     simp only[hU] at Uz HR6
     clear P9 hU
     have BD8:=zh (show Below w8.heap.size w8 w8.drew from(Below.refl _ _).drew)
     have ZD8:=zh (show w8.drew.heap.size=w8.heap.size by rw[Ad])
     refine Lex.Df (fun k=>k=w.heap.size+1\/k=SB\/k=g\/k=w.heap.size+1+1) [0,1,5,11] [17] 20 [.pure 10,.call,.pure 1,.call,.pure 4,.new] [1] (by kernel_rfl) (by kernel_rfl) (by kernel_rfl) ?_
     simp only[Lex.FD,Lex.AA,zd]
     go_wp2_with fail
     refine Lex.Hg.intro ?_
     intro w8a hga
     have HBa:=zh (BD8.out.trans (hga.mono BD8.out.size));have HXa:=zh hga
     clear hga
     (try clear x00);(try clear x01);(try clear x10 x11 x12);(try clear x30 x31 Cz C8);(try clear x40 x41 x42 CY CZ Da)
     clear c0' c1' c2' c3' c4' c5' s0 s1 s2
     go_wp2_with fail
     refine(kM.out _).mono ?_
     rintro e w9 ⟨rfl,hb9⟩
     have F9:=zh (F8.out.step (HBa.out.trans (hb9.mono HBa.out.size)));have HB9:=zh (HBa.out.trans (hb9.mono HBa.out.size));have HX9:=zh (HXa.out.trans (hb9.mono HXa.out.size));have BB9:=zh hb9
     clear hb9
     obtain⟨x20,x21,x22,x23⟩:=F9.out.SF rfl
     go_wp2_with fail
     refine Lex.KP.intro (fun k _ hkl=>HX9.out.block _ hkl) (Lex.Kept.of_below BB9.out) ?_
     go_wp2_with fail
     refine Lex.Hg.intro ?_
     intro w9a hga
     have Ti:=zh (HB9.out.trans (hga.mono HB9.out.size));have fK:=zh (HX9.out.trans (hga.mono HX9.out.size))
     clear hga HBa HXa HB9 HX9 BB9
     (try clear x00);(try clear x01);(try clear x10 x11 x12);(try clear x20);(try clear x21);(try clear x22);(try clear x23);(try clear x30 x31 Cz C8);(try clear x40 x41 x42 CY CZ Da)
     go_wp2_with fail
     refine(Uz.out (fun k=>(w.heap.size<=k/\k<w6.heap.size)\/(w8.heap.size<=k/\k<w9a.heap.size)) w9a Ti.out (fun k hk=>by have:=F8.out.size;omega) (fun k hk=>by have:=Ti.out.size;omega) (fun k hk=>by omega)).mono ?_
     rintro e w9r ⟨rfl,IK⟩
     unfold Own.nobody
     have fM:=zh (Ti.out.trans (IK.mono Ti.out.size));have Yf:=zh (fK.out.trans (IK.mono fK.out.size));have oH:=zh IK
     clear IK
     go_wp2_with fail
     refine Lex.KP.intro (fun k _ hkl=>Yf.out.block _ hkl) (Lex.Kept.of_below oH.out) ?_
     go_wp2_with fail
     refine Lex.Hg.intro ?_
     intro w9s kN
     go_wp2_with fail
     refine Lex.Ni.intro (fun w10 VN hk10 kP=>?_)
     have Jc:=hk10.at_
     obtain⟨NB,hNB⟩:∃ NB,NB=w9s.heap.size:=⟨_,rfl⟩
     have yA:NB+1<=w9a.heap.size\/w9r.heap.size<=NB:=by
      have:=kP (w9a.heap.size,w9r.heap.size) List.mem_cons_self
      simpa [hNB] using this
     have aj:w8.heap.size<=NB:=by rw[hNB,<- ZD8.out];exact kN
     rw[<- hNB] at Jc ⊢
     have Yg:=zh (fM.out.trans (VN.mono fM.out.size));have oI:=zh (Yf.out.trans (VN.mono Yf.out.size))
     have oJ:At (((w10.setCell ⟨NB,0,none⟩ (.int .i64 0)).setCell ⟨NB,1,none⟩ (.slice none 0 0)).setCell ⟨NB,2,none⟩ (.slice none 0 0)) NB 38 #[(.int .i64 0),(.slice none 0 0),(.slice none 0 0)]:=((Jc.set 0 (.int .i64 0)).set 1 (.slice none 0 0)).set 2 (.slice none 0 0)
     have HBN:=zh (((Yg.out.setCell (p:=⟨NB,0,none⟩) aj (.int .i64 0)).setCell (p:=⟨NB,1,none⟩) aj (.slice none 0 0)).setCell (p:=⟨NB,2,none⟩) aj (.slice none 0 0))
     have n0:=Jc.cell 0;have n1:=Jc.cell 1;have n2:=Jc.cell 2;have n3:=Jc.free 0;have n4:=Jc.free 1;have n5:=Jc.free 2
     simp only[zg] at n0 n1 n2
     have hkp:∀ k,k≠NB->(((w10.setCell ⟨NB,0,none⟩ (.int .i64 0)).setCell ⟨NB,1,none⟩ (.slice none 0 0)).setCell ⟨NB,2,none⟩ (.slice none 0 0)).heap[k]? = w10.heap[k]? :=fun k hk=>by
      rw[zo hk,zo hk,zo hk]
     clear oJ Jc hNB VN hk10 kP kN hkp
     go_wp2_with fail
     refine Lex.Mid.intro (fun k _ hkl=>by
      have h3:k≠NB:=by have:=ZD8.out;omega
      rw[zo h3,zo h3,zo h3]
      exact oI.out.block _ hkl) ?_
     go_wp2_with fail
     clear n0 n1 n2 n3 n4 n5
     generalize ((w10.setCell ⟨NB,0,none⟩ (.int .i64 0)).setCell ⟨NB,1,none⟩ (.slice none 0 0)).setCell ⟨NB,2,none⟩ (.slice none 0 0)=w11 at*
     refine Lex.zk ⟨⟨.inl rfl,HX1.out⟩,⟨.inr (.inl rfl),HX2.out⟩,⟨.inr (.inr (.inl rfl)),HX3.out⟩,⟨.inr (.inr (.inr rfl)),HX4.out⟩,trivial⟩ ?_
     have F11:=zh (F8.out.step HBN.out)
     have HE:=zh HR6.out
     obtain⟨x30,x31,Cz,C8⟩:=F11.out.GZ rfl
     obtain⟨x40,x41,x42,CY,CZ,Da⟩:=F11.out.LX rfl
     go_wp2_with fail
     have g1:=F11.out.put 3 0 (.int .i64 0) rfl
     have g2:=g1.put 3 1 (.slice none 0 0) rfl
     have g3:=g2.put 4 0 (.int .i64 0) rfl
     have g4:=g3.put 4 1 (.slice none 0 0) rfl
     have G2:=g4.put 4 2 (.slice none 0 0) rfl
     clear g1 g2 g3 g4
     refine BH rfl rfl rfl rfl (Ab (G2.at1 3 rfl) Tryz.underlying24 rfl Ao) (Ab (G2.at1 4 rfl) Tryz.underlying38 rfl Am) ?_
     rw[HQ.out,HE.out]
     exact⟨⟨_,_,_,rfl,⟨_,rfl,Ag.nil _ _⟩,Ag.nil _ _,Ag.nil _ _⟩,G2.under⟩
   | ok mk =>
     simp only[hU] at Uz HR6
     clear P9 hU
     obtain⟨mm,K1⟩:=mk
     dsimp only at Uz HR6
     have BD8:=zh (show Below w8.heap.size w8 w8.drew from(Below.refl _ _).drew)
     have ZD8:=zh (show w8.drew.heap.size=w8.heap.size by rw[Ad])
     refine Lex.Df (fun k=>k=w.heap.size+1\/k=SB\/k=g\/k=w.heap.size+1+1) [0,1,5,11] [17] 20 [.pure 10,.call,.pure 1,.call,.pure 4,.new] [1] (by kernel_rfl) (by kernel_rfl) (by kernel_rfl) ?_
     simp only[Lex.FD,Lex.AA,zd]
     go_wp2_with fail
     refine Lex.Hg.intro ?_
     intro w8a hga
     have HBa:=zh (BD8.out.trans (hga.mono BD8.out.size));have HXa:=zh hga
     clear hga
     (try clear x00);(try clear x01);(try clear x10 x11 x12);(try clear x20);(try clear x21);(try clear x22);(try clear x23);(try clear x30 x31 Cz C8);(try clear x40 x41 x42 CY CZ Da)
     clear c0' c1' c2' c3' c4' c5' s0 s1 s2
     go_wp2_with fail
     refine(kM.out _).mono ?_
     rintro e w9 ⟨rfl,hb9⟩
     have F9:=zh (F8.out.step (HBa.out.trans (hb9.mono HBa.out.size)));have HB9:=zh (HBa.out.trans (hb9.mono HBa.out.size));have HX9:=zh (HXa.out.trans (hb9.mono HXa.out.size));have BB9:=zh hb9
     clear hb9
     obtain⟨x20,x21,x22,x23⟩:=F9.out.SF rfl
     go_wp2_with fail
     refine Lex.KP.intro (fun k _ hkl=>HX9.out.block _ hkl) (Lex.Kept.of_below BB9.out) ?_
     go_wp2_with fail
     refine Lex.Hg.intro ?_
     intro w9a hga
     have Ti:=zh (HB9.out.trans (hga.mono HB9.out.size));have fK:=zh (HX9.out.trans (hga.mono HX9.out.size))
     clear hga HBa HXa HB9 HX9 BB9
     (try clear x00);(try clear x01);(try clear x10 x11 x12);(try clear x20);(try clear x21);(try clear x22);(try clear x23);(try clear x30 x31 Cz C8);(try clear x40 x41 x42 CY CZ Da)
     go_wp2_with fail
     refine(Uz.out (fun k=>(w.heap.size<=k/\k<w6.heap.size)\/(w8.heap.size<=k/\k<w9a.heap.size)) w9a Ti.out (fun k hk=>by have:=F8.out.size;omega) (fun k hk=>by have:=Ti.out.size;omega) (fun k hk=>by omega)).mono ?_
     rintro e w9r ⟨⟨sv',kv',rfl,oK,oL⟩,IK⟩
     dsimp only at oK oL
     obtain⟨sa',sc',rfl⟩:=oK.len
     obtain⟨ka',kc',rfl⟩:=oL.len
     have fM:=zh (Ti.out.trans (IK.mono Ti.out.size));have Yf:=zh (fK.out.trans (IK.mono fK.out.size));have oH:=zh IK
     clear IK
     go_wp2_with fail
     refine Lex.KP.intro (fun k _ hkl=>Yf.out.block _ hkl) (Lex.Kept.of_below oH.out) ?_
     go_wp2_with fail
     refine Lex.Hg.intro ?_
     intro w9s kN
     go_wp2_with fail
     refine Lex.Ni.intro (fun w10 VN hk10 kP=>?_)
     have Jc:=hk10.at_
     obtain⟨NB,hNB⟩:∃ NB,NB=w9s.heap.size:=⟨_,rfl⟩
     have yA:NB+1<=w9a.heap.size\/w9r.heap.size<=NB:=by
      have:=kP (w9a.heap.size,w9r.heap.size) List.mem_cons_self
      simpa [hNB] using this
     have aj:w8.heap.size<=NB:=by rw[hNB,<- ZD8.out];exact kN
     rw[<- hNB] at Jc ⊢
     have Yg:=zh (fM.out.trans (VN.mono fM.out.size));have oI:=zh (Yf.out.trans (VN.mono Yf.out.size))
     have hrs:=(oK.mono (G:=fun k=>¬ ((w.heap.size<=k/\k<w6.heap.size)\/k=NB)) (fun k hk hl=>by omega)).below VN
     have hrk:=(oL.mono (G:=fun k=>¬ ((w.heap.size<=k/\k<w6.heap.size)\/k=NB)) (fun k hk hl=>by omega)).below VN
     have oJ:At (((w10.setCell ⟨NB,0,none⟩ (.int .i64 cnt)).setCell ⟨NB,1,none⟩ (.slice sa' S.length sc')).setCell ⟨NB,2,none⟩ (.slice ka' K1.length kc')) NB 38 #[(.int .i64 cnt),(.slice sa' S.length sc'),(.slice ka' K1.length kc')]:=((Jc.set 0 (.int .i64 cnt)).set 1 (.slice sa' S.length sc')).set 2 (.slice ka' K1.length kc')
     have HBN:=zh (((Yg.out.setCell (p:=⟨NB,0,none⟩) aj (.int .i64 cnt)).setCell (p:=⟨NB,1,none⟩) aj (.slice sa' S.length sc')).setCell (p:=⟨NB,2,none⟩) aj (.slice ka' K1.length kc'))
     have n0:=Jc.cell 0;have n1:=Jc.cell 1;have n2:=Jc.cell 2;have n3:=Jc.free 0;have n4:=Jc.free 1;have n5:=Jc.free 2
     simp only[zg] at n0 n1 n2
     have hkp:∀ k,k≠NB->(((w10.setCell ⟨NB,0,none⟩ (.int .i64 cnt)).setCell ⟨NB,1,none⟩ (.slice sa' S.length sc')).setCell ⟨NB,2,none⟩ (.slice ka' K1.length kc')).heap[k]? = w10.heap[k]? :=fun k hk=>by
      rw[zo hk,zo hk,zo hk]
     have hsz:w10.heap.size<=(((w10.setCell ⟨NB,0,none⟩ (.int .i64 cnt)).setCell ⟨NB,1,none⟩ (.slice sa' S.length sc')).setCell ⟨NB,2,none⟩ (.slice ka' K1.length kc')).heap.size:=by simp[World.setCell]
     have N11:=zh oJ
     have yB:=zh ((hrs.keep hsz (fun k hk _=>hkp k (fun e=>hk (.inr e)))).mono (G:=fun k=>¬ (w.heap.size<=k/\k<w6.heap.size)/\k≠NB) (fun k hk _=>⟨fun h=>hk (.inl h),fun h=>hk (.inr h)⟩))
     have yC:=zh ((hrk.keep hsz (fun k hk _=>hkp k (fun e=>hk (.inr e)))).mono (G:=fun k=>¬ (w.heap.size<=k/\k<w6.heap.size)/\k≠NB) (fun k hk _=>⟨fun h=>hk (.inl h),fun h=>hk (.inr h)⟩))
     clear oJ Jc hNB hrs hrk oK oL hkp hsz VN hk10 kP kN
     go_wp2_with fail
     refine Lex.Mid.intro (fun k _ hkl=>by
      have h3:k≠NB:=by have:=ZD8.out;omega
      rw[zo h3,zo h3,zo h3]
      exact oI.out.block _ hkl) ?_
     go_wp2_with fail
     clear n0 n1 n2 n3 n4 n5
     generalize ((w10.setCell ⟨NB,0,none⟩ (.int .i64 cnt)).setCell ⟨NB,1,none⟩ (.slice sa' S.length sc')).setCell ⟨NB,2,none⟩ (.slice ka' K1.length kc')=w11 at*
     refine Lex.zk ⟨⟨.inl rfl,HX1.out⟩,⟨.inr (.inl rfl),HX2.out⟩,⟨.inr (.inr (.inl rfl)),HX3.out⟩,⟨.inr (.inr (.inr rfl)),HX4.out⟩,trivial⟩ ?_
     clear HX1 HX2 HX3 HX4 h1l h2l hsl kM Uz Yg Ti fM oI Yf fK oH F9 BD8 ZD8 yA
     have F11:=zh (F8.out.step HBN.out);have O11:=zh (O8.out.step HBN.out);have yD:=zh (SO8.out.below HBN.out)
     have hz8:w.heap.size+5<=w6.heap.size:=F6.out.size
     have sU:=HBN.out.size
     have yE:=zh (own_below (own_below HVJ.out HB8.out) HBN.out)
     have qN:=zh ((HBN.out.cell (p:=⟨g,j*6+5,none⟩) y9).trans HC5.out)
     have qO:g<w11.heap.size:=Nat.lt_of_lt_of_le y9 HBN.out.size
     have yF:=N11.out.lt
     clear F6 F8 O6 O8 SO6 SO8 HB8 HBN HC5 HUS oD HVQ HVO HQP HA6 HM8 S8 kI HSS HKK HMX
     obtain⟨x20,x21,x22,x23⟩:=F11.out.SF rfl
     have B12:=zh (show Ap w11 _ [(82,#[.string nm,.string mm.pub,.bool ag])] from((BL.nil w11).push 82 #[.string nm,.string mm.pub,.bool ag]).boxes)
     go_upto_region 15 with fail
     generalize (w11.alloc (.cells #[.string nm,.string mm.pub,.bool ag] 82))=w12 at*
     have F12:=zh (F11.out.step B12.out.under);have O12:=zh (O11.out.step B12.out.under);have yG:=zh (yD.out.below B12.out.under);have N12:=zh (N11.out.below B12.out.under yF)
     have yH:=zh (yB.out.below B12.out.under);have yI:=zh (yC.out.below B12.out.under);have tX:=zh (own_below yE.out B12.out.under)
     have hc5:=(B12.out.under.cell (p:=⟨g,j*6+5,none⟩) qO).trans qN.out
     (try clear x00);(try clear x01);(try clear x10 x11 x12);(try clear x20);(try clear x21);(try clear x22);(try clear x23);(try clear x30 x31 Cz C8);(try clear x40 x41 x42 CY CZ Da)
     have x20:w12.cell? ⟨w.heap.size+1+1,0,none⟩=some (.string nm):=F12.out.cell 2 0 rfl rfl
     have hpk:=ZX.out
     have hbs:=Xx (.slice ua V.length uc) V nm w12.drew (Own.KF (own_below tX.out (Below.refl _ _).drew) rfl) hpk.srt (by have:V.length<=1024:=hpk.len;omega)
     obtain⟨Pn,hPn⟩:∃ Pn,Pn=Own.posB Own.Vote.name nm V:=⟨_,rfl⟩
     obtain⟨HIT,tY⟩:∃ b,b=Own.Dl Own.Vote.name nm V:=⟨_,rfl⟩
     rw[<- hPn,<- tY] at hbs
     have HBS:=zh hbs;have HPN:=zh hPn;have Zy:=zh tY
     clear hbs hPn tY hpk F11 O11 yD yB yC yE qN N11
     go_wp2_with fail
     refine Lex.zl ?_
     go_wp2_with fail
     refine HBS.out.mono ?_
     rintro e w13 ⟨rfl,kQ⟩
     have Ea : Below w12.heap.size w12 w13:=(Below.refl w12.heap.size w12).drew.trans kQ
     have yJ:=B12.out.under.size
     have kR:=(Ea.cell (p:=⟨g,j*6+5,none⟩) (Nat.lt_of_lt_of_le qO yJ)).trans hc5
     have F13:=zh (F12.out.step Ea);have O13:=zh (O12.out.step Ea);have Mc:=zh (yG.out.below Ea);have N13:=zh (N12.out.below Ea N12.out.lt);have B13:=zh (B12.out.step Ea)
     have yK:=zh (yH.out.below Ea);have yL:=zh (yI.out.below Ea);have Yh:=zh (own_below tX.out Ea)
     have zc0:=Ea.size
     (try clear x00);(try clear x01);(try clear x10 x11 x12);(try clear x20);(try clear x21);(try clear x22);(try clear x23);(try clear x30 x31 Cz C8);(try clear x40 x41 x42 CY CZ Da)
     clear kQ Ea hc5 HBS F12 O12 yG N12 B12 yH yI tX
     go_wp2_with fail
     refine Lex.ze ?_
     have hlen:V.length<=1024:=ZX.out.len
     cases HIT with
     | true =>
       have hPl:=Own.tV Zy.out.symm
       rw[<- HPN.out] at hPl
       obtain⟨ub,uc',hue,hvc⟩:=CO Yh.out (by omega)
       cases hue
       have d0:=hvc (Pn*3) _ (Own.KH V Pn hPl 0 (by omega))
       have d1:=hvc (Pn*3+1) _ (Own.KH V Pn hPl 1 (by omega))
       have d2:=hvc (Pn*3+2) _ (Own.KH V Pn hPl 2 (by omega))
       obtain⟨cur,hat⟩:=Dx Yh.out rfl
       have d3:=hat.free (Pn*3);have d4:=hat.free (Pn*3+1);have d5:=hat.free (Pn*3+2)
       obtain⟨v00,v01,v02⟩:=B13.out.Jo rfl
       clear hvc hat
       go_wp2_with fail
       refine Lex.zl ?_
       go_wp2_with fail
       refine Lex.ze ?_
       have hkk:∀ k,k≠ub->((((w13.setCell ⟨ub,Pn*3,none⟩ (.string nm)).setCell ⟨ub,Pn*3+1,none⟩ (.string mm.pub)).setCell ⟨ub,Pn*3+2,none⟩ (.bool ag)).drew).heap[k]? = w13.heap[k]? :=fun k hk=>by
        rw[Ad,zo hk,zo hk,zo hk]
       have hvl:=Own.fH V
       have p3:=EL (EL (EL Yh.out (Pn*3) (by omega) (.string nm)) (Pn*3+1) (by rw[List.length_set];omega) (.string mm.pub)) (Pn*3+2) (by rw[List.length_set,List.length_set];omega) (.bool ag)
       have hvs:=Own.Uy V Pn hPl ⟨nm,mm.pub,ag⟩
       dsimp only at hvs
       rw[<- hvs] at p3
       have p4:=Aq (w':=(((w13.setCell ⟨ub,Pn*3,none⟩ (.string nm)).setCell ⟨ub,Pn*3+1,none⟩ (.string mm.pub)).setCell ⟨ub,Pn*3+2,none⟩ (.bool ag)).drew) p3 (fun _ _=>by rw[Ad])
       have zc1:w6.heap.size<=ub\/ub<w6.heap.size:=by omega
       have zc2:w4.heap.size+3<=ub:=Az Yh.out ub rfl
       have zc3:ub<w13.heap.size:=Own.BQ Yh.out ub rfl
       have zc4:ub<w6.heap.size:=Own.BQ HVJ.out ub rfl
       have hso:=Own.En.same (nv:=V.set Pn ⟨nm,mm.pub,ag⟩) Mc.out hj hju (V:=V) (by rw[HUE.out,<- HX.out]) (by rw[List.length_set];exact p4) Yh.out hkk
       have hnb:NB≠ub:=by omega
       have ho5:ub≠w5.heap.size:=by
        have hh:=Own.BQ y8.out ub rfl
        omega
       have SOT:=zh hso
       have F15:=zh (F13.out.keep (((F13.out.under.setCell (p:=⟨ub,Pn*3,none⟩) (by show w.heap.size<=ub;omega) (.string nm)).setCell (p:=⟨ub,Pn*3+1,none⟩) (by show w.heap.size<=ub;omega) (.string mm.pub)).setCell (p:=⟨ub,Pn*3+2,none⟩) (by show w.heap.size<=ub;omega) (.bool ag)).drew (by rw[Ad];simp[World.setCell]) (fun k _ hk=>hkk k (by have hk:k<w.heap.size+5:=hk;omega)))
       have N15:=zh (N13.out.keep (hkk NB hnb))
       have oM:=zh (show At w13 w5.heap.size 24 #[.int .i64 nx,.slice (some ⟨g,0,none⟩) L.length cap] from O13.out.at1 0 rfl);have O15:=zh (oM.out.keep (hkk w5.heap.size (fun e=>ho5 e.symm)))
       have hsz:w13.heap.size<=((((w13.setCell ⟨ub,Pn*3,none⟩ (.string nm)).setCell ⟨ub,Pn*3+1,none⟩ (.string mm.pub)).setCell ⟨ub,Pn*3+2,none⟩ (.bool ag)).drew).heap.size:=by rw[Ad];simp[World.setCell]
       have tZ:=zh (yK.out.keep hsz (fun k hk _=>hkk k (fun e=>hk.1 (by omega))))
       have uf:=zh (yL.out.keep hsz (fun k hk _=>hkk k (fun e=>hk.1 (by omega))))
       have hput:Own.BI V ⟨nm,mm.pub,ag⟩=V.set Pn ⟨nm,mm.pub,ag⟩:=by
        rw[Own.CW,Own.GK,<- Zy.out,<- HPN.out,if_pos rfl,List.set_eq_take_append_cons_drop,if_pos hPl]
       have HE:=zh (show R=(⟨nx,L.set j (Own.Db L[j] (V.set Pn ⟨nm,mm.pub,ag⟩))⟩,⟨cnt,S,K1⟩,0) by
        rw[HR6.out,hput,if_neg (by rw[List.length_set];omega),HX.out,Own.Nr L j hj (oF.out (by first|rfl|trivial))])
       clear d0 d1 d2 d3 d4 d5 hkk p3 p4 hvs hso hsz hput kR v00 v01 v02
       generalize (((w13.setCell ⟨ub,Pn*3,none⟩ (.string nm)).setCell ⟨ub,Pn*3+1,none⟩ (.string mm.pub)).setCell ⟨ub,Pn*3+2,none⟩ (.bool ag)).drew=w15 at*
       obtain⟨o0,o1⟩:=O15.out.c2;obtain⟨n0,n1,n2⟩:=N15.out.c3
       obtain⟨x30,x31,Cz,C8⟩:=F15.out.GZ rfl
       obtain⟨x40,x41,x42,CY,CZ,Da⟩:=F15.out.LX rfl
       have HXN:=zh (zi n0)
       go_wp2_with fail
       refine Lex.zn (fun k=>k=NB) [1] 3 [3] ?_
       simp only[Lex.AA,zd]
       go_wp2_with fail
       refine Lex.Mid.intro (fun k hk _=>by
        have h3:k≠w.heap.size+1+1+1:=by rw[hk];omega
        rw[Ad,Ad,zo h3,zo h3]) ?_
       go_wp2_with fail
       refine Lex.zk ⟨⟨rfl,HXN.out⟩,trivial⟩ ?_
       go_wp2_with fail
       have g1:=F15.out.put 3 0 (.int .i64 nx) rfl
       have g2:=g1.put 3 1 (.slice (some ⟨g,0,none⟩) L.length cap) rfl
       have g3:=g2.put 4 0 (.int .i64 cnt) rfl
       have g4:=g3.put 4 1 (.slice sa' S.length sc') rfl
       have g5:=g4.put 4 2 (.slice ka' K1.length kc') rfl
       have G2:=g5.drew
       clear g1 g2 g3 g4 g5
       refine BH rfl rfl rfl rfl (Ab (G2.at1 3 rfl) Tryz.underlying24 rfl Ao) (Ab (G2.at1 4 rfl) Tryz.underlying38 rfl Am) ?_
       rw[HQ.out,HE.out]
       have hst:∀ k,k≠w.heap.size+1+1+1->k≠w.heap.size+1+1+1+1->((((((w15.setCell ⟨w.heap.size+1+1+1,0,none⟩ (.int .i64 nx)).setCell ⟨w.heap.size+1+1+1,1,none⟩ (.slice (some ⟨g,0,none⟩) L.length cap)).setCell ⟨w.heap.size+1+1+1+1,0,none⟩ (.int .i64 cnt)).setCell ⟨w.heap.size+1+1+1+1,1,none⟩ (.slice sa' S.length sc')).setCell ⟨w.heap.size+1+1+1+1,2,none⟩ (.slice ka' K1.length kc')).drew).heap[k]? = w15.heap[k]? :=fun k h3 h4=>by
        rw[Ad,zo h4,zo h4,zo h4,zo h3,zo h3]
       have hsz:w15.heap.size<=((((((w15.setCell ⟨w.heap.size+1+1+1,0,none⟩ (.int .i64 nx)).setCell ⟨w.heap.size+1+1+1,1,none⟩ (.slice (some ⟨g,0,none⟩) L.length cap)).setCell ⟨w.heap.size+1+1+1+1,0,none⟩ (.int .i64 cnt)).setCell ⟨w.heap.size+1+1+1+1,1,none⟩ (.slice sa' S.length sc')).setCell ⟨w.heap.size+1+1+1+1,2,none⟩ (.slice ka' K1.length kc')).drew).heap.size:=by rw[Ad];simp[World.setCell]
       refine⟨⟨_,_,_,rfl,⟨_,rfl,?_⟩,?_,?_⟩,G2.under⟩
       ·exact(SOT.out.keep (fun k hk _=>hst k (by omega) (by omega))).props
       ·exact(tZ.out.keep hsz (fun k hk _=>hst k (fun e=>hk.1 (by omega)) (fun e=>hk.1 (by omega)))).mono (fun _ _ _=>trivial)
       ·exact(uf.out.keep hsz (fun k hk _=>hst k (fun e=>hk.1 (by omega)) (fun e=>hk.1 (by omega)))).mono (fun _ _ _=>trivial)
     | false =>
       have hput:Own.BI V ⟨nm,mm.pub,ag⟩=V.take Pn++⟨nm,mm.pub,ag⟩::V.drop Pn:=by
        rw[Own.CW,Own.GK,<- Zy.out,<- HPN.out,if_neg Bool.false_ne_true,Nat.add_zero]
       have og:Pn<=V.length:=by rw[HPN.out];exact Own.II _ _
       have hnl:(V.take Pn++(⟨nm,mm.pub,ag⟩:Own.Vote)::V.drop Pn).length=V.length+1:=by
        rw[List.length_append,List.length_take,List.length_cons,List.length_drop];omega
       by_cases qP:V.length=1024
       ·have d1:((V.length:Int)==1024)=true:=beq_iff_eq.2 (by omega)
        have HE:=zh (show R=(Own.Queue.none,Own.Ak.none,7) by rw[HR6.out,hput,if_pos (by rw[hnl];omega)])
        clear hput hnl qP
        obtain⟨x30,x31,Cz,C8⟩:=F13.out.GZ rfl
        obtain⟨x40,x41,x42,CY,CZ,Da⟩:=F13.out.LX rfl
        go_wp2_with fail
        have g1:=F13.out.put 3 0 (.int .i64 0) rfl
        have g2:=g1.put 3 1 (.slice none 0 0) rfl
        have g3:=g2.put 4 0 (.int .i64 0) rfl
        have g4:=g3.put 4 1 (.slice none 0 0) rfl
        have G2:=g4.put 4 2 (.slice none 0 0) rfl
        clear g1 g2 g3 g4
        refine BH rfl rfl rfl rfl (Ab (G2.at1 3 rfl) Tryz.underlying24 rfl Ao) (Ab (G2.at1 4 rfl) Tryz.underlying38 rfl Am) ?_
        rw[HQ.out,HE.out]
        exact⟨⟨_,_,_,rfl,⟨_,rfl,Ag.nil _ _⟩,Ag.nil _ _,Ag.nil _ _⟩,G2.under⟩
       have d1:((V.length:Int)==1024)=false:=beq_eq_false_iff_ne.2 (by omega)
       have HE:=zh (show R=(⟨nx,L.set j (Own.Db L[j] (V.take Pn++⟨nm,mm.pub,ag⟩::V.drop Pn))⟩,⟨cnt,S,K1⟩,0) by
        rw[HR6.out,hput,if_neg (by rw[hnl];omega),HX.out,Own.Nr L j hj (oF.out (by first|rfl|trivial))])
       have HNL:=zh hnl
       clear hput hnl qP
       obtain⟨v00,v01,v02⟩:=B13.out.Jo rfl
       have hba:Below w13.heap.size w13 (w13.alloc (.cells #[.string nm,.string mm.pub,.bool ag] 82)).drew:=zb.drew
       have hnv:=(At.new w13 82 #[.string nm,.string mm.pub,.bool ag]).drew
       have kS:(w13.alloc (.cells #[.string nm,.string mm.pub,.bool ag] 82)).drew.heap.size=w13.heap.size+1:=by rw[Ad];exact World.size_alloc _ _
       have kT:∀ k,(Value.slice ua V.length uc).ownBlock=some k->w4.heap.size+3<=k/\k<w6.heap.size/\k≠w5.heap.size:=fun k hk=>⟨Az HVJ.out k hk,Own.BQ HVJ.out k hk,by have:=Own.BQ y8.out k hk;omega⟩
       have hins:=Vq (w4.heap.size+3) V.length Pn w13.heap.size (.slice ua V.length uc) (V.flatMap Own.BP) [.string nm,.string mm.pub,.bool ag] _ (own_below Yh.out hba) (Own.jq V) og (by omega) rfl hnv (by intro u hu;simp at hu;rcases hu with rfl|rfl|rfl<;>rfl) (fun e=>by have:=(kT _ e).2.1;omega) (by rw[kS];omega)
       have jL:=zh hins;have qQ:=zh hba;have oN:=zh kS;have HVL:=zh kT
       clear hins hnv hba kS kT
       go_wp2_with fail
       refine Lex.zl ?_
       go_wp2_with fail
       refine jL.out.mono ?_
       rintro e w14 ⟨v',rfl,ho0,oO,yM⟩
       have hfl:=Own.fI V Pn ⟨nm,mm.pub,ag⟩
       have oP:w14.ownsRow (w4.heap.size+3) 82 3 v' (V.length+1) ((V.take Pn++(⟨nm,mm.pub,ag⟩:Own.Vote)::V.drop Pn).flatMap Own.BP):=by rw[<- hfl];exact ho0
       obtain⟨va',vm',vc',rfl⟩:=Ac oP
       obtain rfl:=Bt oP
       have yN:(Value.slice ua V.length uc).ownBlock≠some g:=fun e=>Mv Yh.out Mc.out.row (by decide) g e rfl
       have Qc:∀ k,k<w13.heap.size->(Value.slice ua V.length uc).ownBlock≠some k->w14.heap[k]? = w13.heap[k]? :=fun k hk hne=>(oO.block k (by rw[oN.out];omega) (fun e=>hne e.symm)).trans (qQ.out.block k hk)
       have kU:g<w13.heap.size:=Own.BQ Mc.out.row g rfl
       have r14:w14.ownsRow (w4.heap.size+3) 46 6 (.slice (some ⟨g,0,none⟩) L.length cap) L.length (Own.cellsS L us):=Aq Mc.out.row (fun k hk=>by cases hk;exact Qc g kU yN)
       obtain⟨zc5,Pv⟩:=Dx r14 (g:=g) rfl
       have f5:=Pv.free (j*6+5)
       have q5:w14.cell? ⟨g,j*6+5,none⟩=some (.slice ua V.length uc):=(Ho (Qc g kU yN)).trans kR
       have ug:w13.heap.size<=w14.heap.size:=by have:=oO.size;rw[oN.out] at this;omega
       have yO:=zh oP;have yP:=zh r14;have zbo:=zh Qc;have zbp:=zh yM;have zbq:=zh oO
       clear ho0 oO yM hfl oP r14 Pv Qc kR jL v00 v01 v02
       go_wp2_with fail
       refine Lex.ze ?_
       have zbR:g<w14.heap.size:=Nat.lt_of_lt_of_le kU ug
       have hkk:∀ k,k<w13.heap.size->(Value.slice ua V.length uc).ownBlock≠some k->k≠g->(w14.setCell ⟨g,j*6+5,none⟩ (.slice va' (V.length+1) vc')).heap[k]? = w13.heap[k]? :=fun k hk hne hkg=>(zo hkg).trans (zbo.out k hk hne)
       have hlc:=Own.oC L us Mc.out.len
       have r15:=EL yP.out (j*6+5) (by rw[hlc];omega) (.slice va' (V.length+1) vc')
       rw[<- Own.o8 L us j hj Mc.out.len (V.take Pn++(⟨nm,mm.pub,ag⟩:Own.Vote)::V.drop Pn)] at r15
       have yQ:(Value.slice va' (V.length+1) vc').ownBlock≠some g:=fun e=>Mv yO.out yP.out (by decide) g e rfl
       have yR:(w14.setCell ⟨g,j*6+5,none⟩ (.slice va' (V.length+1) vc')).ownsRow (w4.heap.size+3) 82 3 (.slice va' (V.length+1) vc') (V.take Pn++(⟨nm,mm.pub,ag⟩:Own.Vote)::V.drop Pn).length ((V.take Pn++(⟨nm,mm.pub,ag⟩:Own.Vote)::V.drop Pn).flatMap Own.BP):=by
        rw[HNL.out]
        exact Aq yO.out (fun k hk=>zo (show k≠g from fun e=>yQ (e ▸ hk)))
       have uh:us[j]=.slice ua V.length uc:=by rw[HUE.out,<- HX.out]
       have hso:=Own.En.turn Mc.out hj (u':=.slice va' (V.length+1) vc') (nv:=V.take Pn++(⟨nm,mm.pub,ag⟩:Own.Vote)::V.drop Pn) r15 yR (fun i hi hi' hij=>Aq (Mc.out.Al i hi hi') (fun k hk=>hkk k (Own.BQ (Mc.out.Al i hi hi') k hk) (by have:=Mc.out.ne hi' hju hij k hk;rwa [uh] at this) (fun e=>Mv (Mc.out.Al i hi hi') Mc.out.row (by decide) k hk (by rw[e];rfl)))) (fun i hi' hij k hk=>by
        have hi:i<L.length:=by rw[<- Mc.out.len];exact hi'
        rcases zbp.out with h|h
        ·rw[h]
         have:=Mc.out.ne hi' hju hij k hk
         rwa [uh] at this
        ·rw[h]
         intro e
         have h1:=Own.BQ (Mc.out.Al i hi hi') k hk
         have h2:=Option.some.inj e
         have h3:=oN.out
         omega)
       have hgr:w4.heap.size+3<=g:=hgu
       have hvl:=HVL.out
       have hsz:w13.heap.size<=(w14.setCell ⟨g,j*6+5,none⟩ (.slice va' (V.length+1) vc')).heap.size:=by
        have:(w14.setCell ⟨g,j*6+5,none⟩ (.slice va' (V.length+1) vc')).heap.size=w14.heap.size:=by simp[World.setCell]
        omega
       have hbw:Below w.heap.size w (w14.setCell ⟨g,j*6+5,none⟩ (.slice va' (V.length+1) vc')):=by
        have h1:Below w.heap.size w w14:=(F13.out.under.trans (qQ.out.mono F13.out.under.size)).grown zbq.out (by have:=oN.out;have:=F13.out.under.size;omega) (fun k hk=>by have:=(hvl k hk).1;omega)
        exact h1.setCell (p:=⟨g,j*6+5,none⟩) (by show w.heap.size<=g;omega) _
       have SOT:=zh hso
       have hg5:g≠w5.heap.size:=by
        have:=Own.BQ HG5.out g rfl
        omega
       have F15:=zh (F13.out.keep hbw hsz (fun k h1 h2=>hkk k (by have:=F13.out.size;have h2:k<w.heap.size+5:=h2;have h3:w.heap.size+5<=w13.heap.size:=this;omega) (fun e=>by have:=(hvl k e).1;have h2:k<w.heap.size+5:=h2;omega) (fun e=>by have h2:k<w.heap.size+5:=h2;omega)))
       have zbr:(Value.slice ua V.length uc).ownBlock≠some NB:=fun e=>by have:=(hvl _ e).2.1;omega
       have N15:=zh (N13.out.keep (hkk NB N13.out.lt zbr (by omega)))
       have oM:=zh (show At w13 w5.heap.size 24 #[.int .i64 nx,.slice (some ⟨g,0,none⟩) L.length cap] from O13.out.at1 0 rfl);have O15:=zh (oM.out.keep (hkk w5.heap.size oM.out.lt (fun e=>(hvl _ e).2.2 rfl) (fun e=>hg5 e.symm)))
       have tZ:=zh (yK.out.keep hsz (fun k hk hl=>hkk k hl (fun e=>hk.1 (by have:=hvl k e;omega)) (fun e=>hk.1 (by omega))))
       have uf:=zh (yL.out.keep hsz (fun k hk hl=>hkk k hl (fun e=>hk.1 (by have:=hvl k e;omega)) (fun e=>hk.1 (by omega))))
       clear f5 q5 hkk r15 yR uh hso hsz hbw hvl yQ hlc
       generalize w14.setCell ⟨g,j*6+5,none⟩ (.slice va' (V.length+1) vc')=w15 at*
       obtain⟨o0,o1⟩:=O15.out.c2;obtain⟨n0,n1,n2⟩:=N15.out.c3
       obtain⟨x30,x31,Cz,C8⟩:=F15.out.GZ rfl
       obtain⟨x40,x41,x42,CY,CZ,Da⟩:=F15.out.LX rfl
       have HXN:=zh (zi n0)
       go_wp2_with fail
       refine Lex.zn (fun k=>k=NB) [1] 3 [3] ?_
       simp only[Lex.AA,zd]
       go_wp2_with fail
       refine Lex.Mid.intro (fun k hk _=>by
        have h3:k≠w.heap.size+1+1+1:=by rw[hk];omega
        rw[Ad,Ad,zo h3,zo h3]) ?_
       go_wp2_with fail
       refine Lex.zk ⟨⟨rfl,HXN.out⟩,trivial⟩ ?_
       go_wp2_with fail
       have g1:=F15.out.put 3 0 (.int .i64 nx) rfl
       have g2:=g1.put 3 1 (.slice (some ⟨g,0,none⟩) L.length cap) rfl
       have g3:=g2.put 4 0 (.int .i64 cnt) rfl
       have g4:=g3.put 4 1 (.slice sa' S.length sc') rfl
       have g5:=g4.put 4 2 (.slice ka' K1.length kc') rfl
       have G2:=g5.drew
       clear g1 g2 g3 g4 g5
       refine BH rfl rfl rfl rfl (Ab (G2.at1 3 rfl) Tryz.underlying24 rfl Ao) (Ab (G2.at1 4 rfl) Tryz.underlying38 rfl Am) ?_
       rw[HQ.out,HE.out]
       have hst:∀ k,k≠w.heap.size+1+1+1->k≠w.heap.size+1+1+1+1->((((((w15.setCell ⟨w.heap.size+1+1+1,0,none⟩ (.int .i64 nx)).setCell ⟨w.heap.size+1+1+1,1,none⟩ (.slice (some ⟨g,0,none⟩) L.length cap)).setCell ⟨w.heap.size+1+1+1+1,0,none⟩ (.int .i64 cnt)).setCell ⟨w.heap.size+1+1+1+1,1,none⟩ (.slice sa' S.length sc')).setCell ⟨w.heap.size+1+1+1+1,2,none⟩ (.slice ka' K1.length kc')).drew).heap[k]? = w15.heap[k]? :=fun k h3 h4=>by
        rw[Ad,zo h4,zo h4,zo h4,zo h3,zo h3]
       have hsz:w15.heap.size<=((((((w15.setCell ⟨w.heap.size+1+1+1,0,none⟩ (.int .i64 nx)).setCell ⟨w.heap.size+1+1+1,1,none⟩ (.slice (some ⟨g,0,none⟩) L.length cap)).setCell ⟨w.heap.size+1+1+1+1,0,none⟩ (.int .i64 cnt)).setCell ⟨w.heap.size+1+1+1+1,1,none⟩ (.slice sa' S.length sc')).setCell ⟨w.heap.size+1+1+1+1,2,none⟩ (.slice ka' K1.length kc')).drew).heap.size:=by rw[Ad];simp[World.setCell]
       refine⟨⟨_,_,_,rfl,⟨_,rfl,?_⟩,?_,?_⟩,G2.under⟩
       ·exact(SOT.out.keep (fun k hk _=>hst k (by omega) (by omega))).props
       ·exact(tZ.out.keep hsz (fun k hk _=>hst k (fun e=>hk.1 (by omega)) (fun e=>hk.1 (by omega)))).mono (fun _ _ _=>trivial)
       ·exact(uf.out.keep hsz (fun k hk _=>hst k (fun e=>hk.1 (by omega)) (fun e=>hk.1 (by omega)))).mono (fun _ _ _=>trivial)
structure LS (w:World) (gO gQ:Nat) (o:Own.Ak) (q:Own.Queue) (sa:Option Addr) (sc:Nat) (ka:Option Addr) (kc:Nat) (qa:Option Addr) (qc:Nat):Prop where
 atO:At w gO 38 #[.int .i64 o.count,.slice sa o.spaces.length sc,.slice ka o.keys.length kc]
 atQ:At w gQ 24 #[.int .i64 q.next,.slice qa q.props.length qc]
 sp:Own.AJ w (.slice sa o.spaces.length sc) o.spaces
 ks:Own.Bo w (.slice ka o.keys.length kc) o.keys
 ps:Own.A9 w (.slice qa q.props.length qc) q.props
section
variable {w w' : World} {gO gQ:Nat} {o o' : Own.Ak} {q q' : Own.Queue} {sa ka qa sa' ka' qa' : Option Addr} {sc kc qc sc' kc' qc' : Nat}
theorem LS.below (h:LS w gO gQ o q sa sc ka kc qa qc)(hb:Below w.heap.size w w'):LS w' gO gQ o q sa sc ka kc qa qc:=
 ⟨h.atO.below hb h.atO.lt,h.atQ.below hb h.atQ.lt,h.sp.below hb,h.ks.below hb,h.ps.below hb⟩
theorem LS.ne (h:LS w gO gQ o q sa sc ka kc qa qc):gO≠gQ:=h.atO.ne h.atQ (by decide)
def lsW (w:World)(gO gQ:Nat)(o:Own.Ak)(q:Own.Queue)(sa:Option Addr)(sc:Nat)(ka:Option Addr)(kc:Nat)(qa:Option Addr)(qc:Nat):World:=
 ((((w.setCell ⟨gQ,0,none⟩ (.int .i64 q.next)).setCell ⟨gQ,1,none⟩ (.slice qa q.props.length qc)).setCell ⟨gO,0,none⟩ (.int .i64 o.count)).setCell ⟨gO,1,none⟩ (.slice sa o.spaces.length sc)).setCell ⟨gO,2,none⟩ (.slice ka o.keys.length kc)
theorem LS.put (h:LS w gO gQ o q sa sc ka kc qa qc)(hs:Own.AJ w (.slice sa' o'.spaces.length sc') o'.spaces)(hk:Own.Bo w (.slice ka' o'.keys.length kc') o'.keys)(hp:Own.A9 w (.slice qa' q'.props.length qc') q'.props):
 LS (lsW w gO gQ o' q' sa' sc' ka' kc' qa' qc') gO gQ o' q' sa' sc' ka' kc' qa' qc':=by
 have hne:=h.ne
 have hq0:=h.atQ
 have hq1:=(hq0.set 0 (.int .i64 q'.next)).set 1 (.slice qa' q'.props.length qc')
 have ho1:=(h.atO.far (p:=⟨gQ,0,none⟩) (by simp;omega) (.int .i64 q'.next)).far (p:=⟨gQ,1,none⟩) (by simp;omega) (.slice qa' q'.props.length qc')
 have n0:Own.Ez w gQ:=Own.Ez.at_ hq0 rfl
 have n1:Own.Ez ((w.setCell ⟨gQ,0,none⟩ (.int .i64 q'.next)).setCell ⟨gQ,1,none⟩ (.slice qa' q'.props.length qc')) gO:=Own.Ez.at_ ho1 rfl
 have hz1:w.heap.size<=((w.setCell ⟨gQ,0,none⟩ (.int .i64 q'.next)).setCell ⟨gQ,1,none⟩ (.slice qa' q'.props.length qc')).heap.size:=by simp[World.setCell]
 have k1:∀ k,k≠gQ->((w.setCell ⟨gQ,0,none⟩ (.int .i64 q'.next)).setCell ⟨gQ,1,none⟩ (.slice qa' q'.props.length qc')).heap[k]? = w.heap[k]? :=fun k hk=>by rw[zo hk,zo hk]
 have s1:=Own.AJ.store hs n0 hz1 k1
 have s2:=Own.Bo.store hk n0 hz1 k1
 have s3:=Own.A9.store hp n0 hz1 k1
 unfold lsW
 generalize (w.setCell ⟨gQ,0,none⟩ (.int .i64 q'.next)).setCell ⟨gQ,1,none⟩ (.slice qa' q'.props.length qc')=w1 at*
 have hz2:w1.heap.size<=(((w1.setCell ⟨gO,0,none⟩ (.int .i64 o'.count)).setCell ⟨gO,1,none⟩ (.slice sa' o'.spaces.length sc')).setCell ⟨gO,2,none⟩ (.slice ka' o'.keys.length kc')).heap.size:=by simp[World.setCell]
 have k2:∀ k,k≠gO->(((w1.setCell ⟨gO,0,none⟩ (.int .i64 o'.count)).setCell ⟨gO,1,none⟩ (.slice sa' o'.spaces.length sc')).setCell ⟨gO,2,none⟩ (.slice ka' o'.keys.length kc')).heap[k]? = w1.heap[k]? :=fun k hk=>by rw[zo hk,zo hk,zo hk]
 exact⟨((ho1.set 0 _).set 1 _).set 2 _,((hq1.far (p:=⟨gO,0,none⟩) (by simp;omega) _).far (p:=⟨gO,1,none⟩) (by simp;omega) _).far (p:=⟨gO,2,none⟩) (by simp;omega) _,Own.AJ.store s1 n1 hz2 k2,Own.Bo.store s2 n1 hz2 k2,Own.A9.store s3 n1 hz2 k2⟩
theorem U0 (w:World)(gO gQ:Nat)(o:Own.Ak)(q:Own.Queue)(sa:Option Addr)(sc:Nat)(ka:Option Addr)(kc:Nat)(qa:Option Addr)(qc:Nat)(k:Nat)(h1:k≠gO)(h2:k≠gQ):(lsW w gO gQ o q sa sc ka kc qa qc).heap[k]? = w.heap[k]? :=by
 unfold lsW
 rw[zo h1,zo h1,zo h1,zo h2,zo h2]
theorem Oq (w:World)(gO gQ:Nat)(o:Own.Ak)(q:Own.Queue)(sa:Option Addr)(sc:Nat)(ka:Option Addr)(kc:Nat)(qa:Option Addr)(qc:Nat){B:Nat}(h1:B<=gO)(h2:B<=gQ):Below B w (lsW w gO gQ o q sa sc ka kc qa qc):=
 (((((Below.refl B w).setCell (p:=⟨gQ,0,none⟩) h2 _).setCell (p:=⟨gQ,1,none⟩) h2 _).setCell (p:=⟨gO,0,none⟩) h1 _).setCell (p:=⟨gO,1,none⟩) h1 _).setCell (p:=⟨gO,2,none⟩) h1 _
structure Fits (o:Own.Ak) (q:Own.Queue):Prop where
 lp:q.props.length<=1000000
 lv:∀ x∈q.props,x.Al.length<=3000000
 ls:o.spaces.length<=3000000
 lk:o.keys.length<=800000
 lm:∀ x∈o.spaces,x.members.length<=3000000
theorem LS.Gm (h:LS w gO gQ o q sa sc ka kc qa qc)(hM:Fe w)(hf:Fits o q)(id:Int)(ag:Bool)(ap:Own.AZ){n1 n2:Nat}{B:Nat}{cv pv:Value}(hc:w.ownsRow B 9 1 cv n1 (ap.sig.chains.map Value.string))(hp:w.ownsRow B 9 1 pv n2 (ap.sig.path.map Value.string))(e1:n1=ap.sig.chains.length)(e2:n2=ap.sig.path.length)
 (hal:ap.name.size<=140737488355328/\ap.sig.chains.length<=140737488355328/\ap.sig.path.length<=140737488355328) {R:Own.Queue × Own.Ak × Int} (hR:Own.Gm q o id ag ap=R):
 Calls Tryz.prog 25 #[.agg #[.int .i64 q.next,.slice qa q.props.length qc],.agg #[.int .i64 o.count,.slice sa o.spaces.length sc,.slice ka o.keys.length kc],.int .i64 id,.bool ag,.agg #[.string ap.name,.int .i64 ap.sig.index,cv,pv]] w fun e w' => ∃ sa' sc' ka' kc' qa' qc',
  e=.returned (.tuple #[.agg #[.int .i64 R.1.next,.slice qa' R.1.props.length qc'],.agg #[.int .i64 R.2.1.count,.slice sa' R.2.1.spaces.length sc',.slice ka' R.2.1.keys.length kc'],.int .i64 R.2.2])/\Own.AJ w' (.slice sa' R.2.1.spaces.length sc') R.2.1.spaces/\Own.Bo w' (.slice ka' R.2.1.keys.length kc') R.2.1.keys/\Own.A9 w' (.slice qa' R.1.props.length qc') R.1.props/\Below w.heap.size w w':=by
 subst e1 e2
 refine(RU q o id ag ap _ _ _ cv pv w hM h.ps h.sp h.ks (Ay.own hc) (Ay.own hp) (CS.own hp) hf.lp hf.lv hf.ls hf.lk hf.lm hal).mono ?_
 rintro e w' ⟨⟨qv,sv,kv,rfl,⟨pv',rfl,h1⟩,h2,h3⟩,hb⟩
 rw[hR] at h1 h2 h3 ⊢
 obtain⟨a1,c1,rfl⟩:=h1.len
 obtain⟨a2,c2,rfl⟩:=h2.len
 obtain⟨a3,c3,rfl⟩:=h3.len
 exact⟨a2,c2,a3,c3,a1,c1,rfl,h2,h3,h1,hb⟩
end
theorem LS.two {w:World}{o:Own.Ak}{q:Own.Queue}{sa ka qa:Option Addr}{sc kc qc:Nat}(hs:Own.AJ w (.slice sa o.spaces.length sc) o.spaces)(hk:Own.Bo w (.slice ka o.keys.length kc) o.keys)(hp:Own.A9 w (.slice qa q.props.length qc) q.props):
 LS ((w.alloc (.cells #[.int .i64 q.next,.slice qa q.props.length qc] 24)).alloc (.cells #[.int .i64 o.count,.slice sa o.spaces.length sc,.slice ka o.keys.length kc] 38)) (w.heap.size+1) w.heap.size o q sa sc ka kc qa qc/\Below w.heap.size w ((w.alloc (.cells #[.int .i64 q.next,.slice qa q.props.length qc] 24)).alloc (.cells #[.int .i64 o.count,.slice sa o.spaces.length sc,.slice ka o.keys.length kc] 38)):=by
 have hb:Below w.heap.size w ((w.alloc (.cells #[.int .i64 q.next,.slice qa q.props.length qc] 24)).alloc (.cells #[.int .i64 o.count,.slice sa o.spaces.length sc,.slice ka o.keys.length kc] 38)):=zb.alloc (by simp) _
 exact⟨⟨At.new1 w (.cells #[.int .i64 q.next,.slice qa q.props.length qc] 24) 38 #[.int .i64 o.count,.slice sa o.spaces.length sc,.slice ka o.keys.length kc],(At.new w 24 #[.int .i64 q.next,.slice qa q.props.length qc]).alloc (.cells #[.int .i64 o.count,.slice sa o.spaces.length sc,.slice ka o.keys.length kc] 38),hs.below hb,hk.below hb,hp.below hb⟩,hb⟩
end
section
open Go
namespace Own
theorem RY (p:ByteArray):Bf [] p=0:=rfl
def vt (b:Nat)(ag:Bool):Vote:=⟨(Av b).name,(Av b).pub,ag⟩
theorem zbs (b:Nat)(x:Bool):BI [] (vt b x)=[vt b x]:=rfl
theorem yS {a b:Nat}(h:a<b)(hb:b<8)(x y:Bool):BI [vt a x] (vt b y)=[vt a x,vt b y]:=by
 unfold BI BI
 rw[if_pos (show Ah (vt a x).name (vt b y).name=true from IY h hb)]
theorem yT {a b c:Nat}(h:a<c)(h' : b<c)(hc:c<8)(x y z:Bool):BI [vt a x,vt b y] (vt c z)=[vt a x,vt b y,vt c z]:=by
 unfold BI BI BI
 rw[if_pos (show Ah (vt a x).name (vt c z).name=true from IY h hc),if_pos (show Ah (vt b y).name (vt c z).name=true from IY h' hc)]
theorem VO {n:Nat}{th nx:Int}{K:List KeyUse}{L:List Aa}(hn:n<=8)(hK:K.length<=1000)(hL:L.length<=10)(hV:∀ p∈L,p.Al.length<=1000):Fits (Fa (Ce n th) K) ⟨nx,L⟩:=
 ⟨by show L.length ≤ _;omega,fun x hx => by have :=hV x hx;omega,by show 1 ≤ 3000000;omega,by show K.length ≤ _;omega,fun x hx => by
   have:x=Ce n th:=by simpa [Fa] using hx
   rw[this]
   show(Ey n).length<=_
   rw[IW];omega⟩
theorem RZ (K:List KeyUse)(x:KeyUse):(use K x).length<=K.length+1:=by rw[GL];exact Nf _ _ _
structure AwP (q0 q1 q2 q3:Queue) (o0 o1 o2 o3:Ak) (p m:Aa):Prop where
 o0e:o0=⟨0,[Ce 3 2],[]⟩
 sub:JM ⟨5,[]⟩ 10 3 ⟨#[97,47,98]⟩ (C9.Bn 1)=(q0,5,0)
 q0p:q0.props=[p]
 id0:0<=p.id
 id1:p.id<9223372036854775808
 pl:p.path.size<=1000000
 dl:p.digest.size<=1000000
 ok0:AY q0=true
 v1:Gm q0 o0 5 true (Cq 0 0 p true)=(q1,o1,0)
 a1:agreed q1 o1 5=false
 v2:Gm q1 o1 5 true (Cq 1 0 p true)=(q2,o2,0)
 a2:agreed q2 o2 5=true
 v3:Gm q2 o2 5 false (Cq 2 0 p false)=(q3,o3,0)
 a3:agreed q3 o3 5=false
 m13:merge q2 o2 13 5=(.none,.none,8)
 m12:merge q2 o2 12 5=(⟨6,[]⟩,m,0)
 mid:m.id=5
 wd:Gn q2 5=(⟨6,[]⟩,0)
 ex:expire q2 13=⟨6,[]⟩
 f0:Fits o0 q0
 f1:Fits o1 q1
 f2:Fits o2 q2
 f3:Fits o3 q3
theorem awP:∃ q0 q1 q2 q3 o0 o1 o2 o3 p m,AwP q0 q1 q2 q3 o0 o1 o2 o3 p m:=by
 have hp:IZ (He 5 ⟨#[97,47,98]⟩ (C9.Bn 1) 10 3):=fC (by decide) (by decide) (by decide) (by decide) (OX 1) (by decide) (by decide)
 have hsub:=VE (nx:=5) (size:=10) (window:=3) (path:=⟨#[97,47,98]⟩) (dg:=C9.Bn 1) (by decide) (by decide) (by decide) (OX 1) (by decide) (by decide)
 have Jb:(He 5 ⟨#[97,47,98]⟩ (C9.Bn 1) 10 3).id=5:=rfl
 have hpx:(He 5 ⟨#[97,47,98]⟩ (C9.Bn 1) 10 3).expires=13:=rfl
 have hpv:AL (He 5 ⟨#[97,47,98]⟩ (C9.Bn 1) 10 3) []=He 5 ⟨#[97,47,98]⟩ (C9.Bn 1) 10 3:=rfl
 have hpd:(He 5 ⟨#[97,47,98]⟩ (C9.Bn 1) 10 3).digest.size=32:=IG 1
 have hpp:(He 5 ⟨#[97,47,98]⟩ (C9.Bn 1) 10 3).path.size=3:=rfl
 generalize He 5 ⟨#[97,47,98]⟩ (C9.Bn 1) 10 3=p at*
 have hV0:=Ol.nil
 have hV1:=hV0.put (by simp) (vt 0 true) (Qa 0)
 have hM1:=(OW.nil 3).put (b:=0) (by omega) true
 rw[show(⟨(Av 0).name,(Av 0).pub,true⟩:Vote)=vt 0 true from rfl] at hM1
 rw[zbs] at hV1 hM1
 have hV2:=hV1.put (by simp) (vt 1 true) (Qa 1)
 have hM2:=hM1.put (b:=1) (by omega) true
 rw[show(⟨(Av 1).name,(Av 1).pub,true⟩:Vote)=vt 1 true from rfl] at hM2
 rw[yS (by omega) (by omega)] at hV2 hM2
 have hV3:=hV2.put (by simp) (vt 2 false) (Qa 2)
 have hM3:=hM2.put (b:=2) (by omega) false
 rw[show(⟨(Av 2).name,(Av 2).pub,false⟩:Vote)=vt 2 false from rfl] at hM3
 rw[yT (by omega) (by omega) (by omega)] at hV3 hM3
 have hK0:=Pz.nil
 have hK1:=hK0.use 0 1 (by decide) (by decide)
 have hK2:=hK1.use 1 1 (by decide) (by decide)
 have hK3:=hK2.use 2 1 (by decide) (by decide)
 have n1:Bf (use [] ⟨(Av 0).pub,1⟩) (Av 1).pub=0:=by
  rw[IX hK0.srt,if_neg (Ma (a:=0) (b:=1) (by omega) (by omega) (by omega)),RY]
 have n2:Bf (use (use [] ⟨(Av 0).pub,1⟩) ⟨(Av 1).pub,1⟩) (Av 2).pub=0:=by
  rw[IX hK1.srt,if_neg (Ma (a:=1) (b:=2) (by omega) (by omega) (by omega)),IX hK0.srt,if_neg (Ma (a:=0) (b:=2) (by omega) (by omega) (by omega)),RY]
 have l1:=RZ [] ⟨(Av 0).pub,1⟩
 have l2:=RZ (use [] ⟨(Av 0).pub,1⟩) ⟨(Av 1).pub,1⟩
 have l3:=RZ (use (use [] ⟨(Av 0).pub,1⟩) ⟨(Av 1).pub,1⟩) ⟨(Av 2).pub,1⟩
 simp only[List.length_nil] at l1
 refine⟨⟨6,[AL p []]⟩,⟨6,[AL p [vt 0 true]]⟩,⟨6,[AL p [vt 0 true,vt 1 true]]⟩,⟨6,[AL p [vt 0 true,vt 1 true,vt 2 false]]⟩,Fa (Ce 3 2) [],Fa (Ce 3 2) (use [] ⟨(Av 0).pub,1⟩),Fa (Ce 3 2) (use (use [] ⟨(Av 0).pub,1⟩) ⟨(Av 1).pub,1⟩),Fa (Ce 3 2) (use (use (use [] ⟨(Av 0).pub,1⟩) ⟨(Av 1).pub,1⟩) ⟨(Av 2).pub,1⟩),p,AL p [vt 0 true,vt 1 true],?_⟩
 refine { o0e:=rfl,sub:=by rw[hsub,hpv];rfl,q0p:=by show[AL p []]=[p];rw[hpv],id0:=by omega,id1:=by omega,pl:=by omega,dl:=by omega,ok0:=FW (by decide) (by decide) (KD hp hV0) (by show p.id<6;omega),v1:=?_,a1:=?_,v2:=?_,a2:=?_,v3:=?_,a3:=?_,m13:=?_,m12:=?_,mid:=Jb,wd:=?_,ex:=?_,f0:=?_,f1:=?_,f2:=?_,f3:=?_ }
 ·have:=ZK (n:=3) (b:=0) (i:=0) (th:=2) (nx:=6) (ag:=true) (by omega) (by decide) (by decide) hK0 hp hV0 (by simp) (by omega) (by decide) (by omega) (by omega) (Int.le_refl _)
  rw[Jb] at this
  exact this
 ·have:=Ng (n:=3) (th:=2) (nx:=6) (by omega) (by decide) (by decide) hK1 hp hV1 hM1 (by omega) (by decide)
  rw[Jb] at this
  exact this
 ·have:=ZK (n:=3) (b:=1) (i:=0) (th:=2) (nx:=6) (ag:=true) (by omega) (by decide) (by decide) hK1 hp hV1 (by simp) (by omega) (by decide) (by omega) (by omega) (by rw[n1];exact Int.le_refl _)
  rw[Jb,show(⟨(Av 1).name,(Av 1).pub,true⟩:Vote)=vt 1 true from rfl,yS (by omega) (by omega)] at this
  exact this
 ·have:=Ng (n:=3) (th:=2) (nx:=6) (by omega) (by decide) (by decide) hK2 hp hV2 hM2 (by omega) (by decide)
  rw[Jb] at this
  exact this
 ·have:=ZK (n:=3) (b:=2) (i:=0) (th:=2) (nx:=6) (ag:=false) (by omega) (by decide) (by decide) hK2 hp hV2 (by simp) (by omega) (by decide) (by omega) (by omega) (by rw[n2];exact Int.le_refl _)
  rw[Jb,show(⟨(Av 2).name,(Av 2).pub,false⟩:Vote)=vt 2 false from rfl,yT (by omega) (by omega) (by omega)] at this
  exact this
 ·have:=Ng (n:=3) (th:=2) (nx:=6) (by omega) (by decide) (by decide) hK3 hp hV3 hM3 (by omega) (by decide)
  rw[Jb] at this
  exact this
 ·have:=Uv (n:=3) (th:=2) (nx:=6) (size:=13) (by omega) (by decide) (by decide) hK2 hp hV2 hM2 (by omega) (by decide)
  rw[Jb,hpx] at this
  exact this
 ·have:=Uv (n:=3) (th:=2) (nx:=6) (size:=12) (by omega) (by decide) (by decide) hK2 hp hV2 hM2 (by omega) (by decide)
  rw[Jb,hpx] at this
  exact this
 ·have:=ZN (nx:=6) hp hV2 (by omega) (by decide)
  rw[Jb] at this
  exact this
 ·exact kr (nx:=6) hp hV2 (by omega) (by decide) (by omega)
 ·exact VO (by omega) (by simp) (by simp) (fun x hx=>by rw[List.mem_singleton.1 hx];simp[AL])
 ·exact VO (by omega) (by omega) (by simp) (fun x hx=>by rw[List.mem_singleton.1 hx];simp[AL])
 ·exact VO (by omega) (by omega) (by simp) (fun x hx=>by rw[List.mem_singleton.1 hx];simp[AL])
 ·exact VO (by omega) (by omega) (by simp) (fun x hx=>by rw[List.mem_singleton.1 hx];simp[AL])
end Own
namespace Lex
section
variable {P:Program} {ops:Array Oper} {Q:Exit->Act->World->Prop}
def VP (P:Program)(ops:Array Oper)(fl:List Nat)(m:Nat):Bool:=
 Region.noSelect ops&&
 Iw ops (fun a b=>BZ P ops a b || (decide (b<m)&&CQ P ops fl a b)) ops.size ops.size 0 0&&
 ((List.range ops.size).all fun k => match ops[k]? with
   | some o => !needs o || (List.range ops.size).all fun i=>decide (i<k) || (match ops[i]? with|some o' => (match o'.dst with|some t => !(o.looksAt ops).contains t|none=>true)|none=>true)
   | none=>true)&&
 (fl.all fun k => match ops[k]? with
   | some o=>(List.range ops.size).all fun i=>decide (i<k) || (match ops[i]? with|some o' => (match o'.dst with|some t => !(o.looksAt ops).contains t|none=>true)|none=>true)
   | none=>true)&&
 (fl.all fun k=>decide (k<m)&&match ops[k]? with|some o=>kind P o==1|none=>false)
structure OkM (P:Program) (ops:Array Oper) (fl:List Nat) (m:Nat):Prop where
 sel:∀ (j:Nat) (o:Oper) (cs:Array SelectCase) (b:Bool),ops[j]? = some o->o.op≠.select cs b
 top:∀ (b:Nat) (ob:Oper),ops[b]? = some ob->∀ e∈ob.after,Region.binds .any e=true->e.on<b
 pair:∀ b a,b<ops.size->a<b->waits ops ops.size b a=true\/BZ P ops a b=true\/(b<m/\CQ P ops fl a b=true)
 keep:∀ (k:Nat) (o:Oper),ops[k]? = some o->needs o=true\/k∈fl->∀ i,k<=i->∀ (o' : Oper),ops[i]? = some o' -> ∀ t,o'.dst=some t->t ∉ o.looksAt ops
 flm:∀ k∈fl,k<m/\∀ o,ops[k]? = some o->kind P o=1
theorem Yi {fl:List Nat}{m:Nat}(h:VP P ops fl m=true):OkM P ops fl m:=by
 simp only[VP,Bool.and_eq_true,List.all_eq_true,List.mem_range] at h
 obtain⟨⟨⟨⟨h1,h2⟩,h3⟩,h4⟩,h5⟩:=h
 refine⟨fun j o cs b hj=>Region.noSelect_spec h1 j o cs b hj,fun b ob hb e he hbi=>?_,fun b a hb ha=>?_,fun k o hk hn i hki o' hi t ht=>?_,fun k hk=>?_⟩
 ·exact(Ca h2 hb).1 e he hbi
 ·have:=(Ca h2 (Array.getElem?_eq_getElem hb)).2 a ha
  simpa using this
 ·have hkl:k<ops.size:=(Array.getElem?_eq_some_iff.1 hk).1
  have hil:i<ops.size:=(Array.getElem?_eq_some_iff.1 hi).1
  have key:((List.range ops.size).all fun i=>decide (i<k) || (match ops[i]? with|some o' => (match o'.dst with|some t => !(o.looksAt ops).contains t|none=>true)|none=>true))=true:=by
   rcases hn with hn|hn
   ·have:=h3 k hkl
    rw[hk] at this
    simpa [hn] using this
   ·have:=h4 k hn
    rw[hk] at this
    exact this
  simp only[List.all_eq_true,List.mem_range] at key
  have:=key i hil
  rw[hi] at this
  simp only[ht,Bool.or_eq_true,decide_eq_true_eq] at this
  rcases this with this|this
  ·omega
  ·simpa using this
 ·obtain⟨q1,q2⟩:=h5 k hk
  refine⟨by simpa using q1,fun o ho=>?_⟩
  rw[ho] at q2
  simpa using q2
theorem kV {fl:List Nat}{a b:Nat}(h:BZ P ops a b=true):CQ P ops fl a b=true:=by
 unfold BZ at h
 unfold CQ
 split at h
 ·rename_i oa ob ha hb
  simp only[ha,hb,Bool.and_eq_true,Bool.or_eq_true] at h ⊢
  refine⟨h.1,.inl (.inl ?_)⟩
  simpa [or_assoc] using h.2
 ·cases h
theorem fO {fl:List Nat}{a b:Nat}(h:CQ P ops fl a b=true)(ha' : a ∉ fl)(hb' : b ∉ fl):BZ P ops a b=true:=by
 unfold CQ at h
 unfold BZ
 split at h
 ·rename_i oa ob ha hb
  simp only[ha,hb,Bool.and_eq_true,Bool.or_eq_true,List.contains_iff_mem,ha',hb',and_false,or_false] at h ⊢
  refine⟨h.1,?_⟩
  simpa [or_assoc] using h.2
 ·cases h
theorem Jd {a b:Nat}{oa ob:Oper}(h:BZ P ops a b=true)(ha:ops[a]? = some oa)(hb:ops[b]? = some ob):oa.apart ops ob=true/\(kind P ob=0\/kind P oa=0\/(kind P oa=1/\(kind P ob=1\/kind P ob=2))):=by
 simp only[BZ,ha,hb,Bool.and_eq_true,Bool.or_eq_true,beq_iff_eq] at h
 exact⟨h.1,by simpa [or_assoc] using h.2⟩
section
variable {B:Nat->Prop} {w0:World} {fl:List Nat} {m:Nat}
theorem ak (hA:OkM P ops fl m){i:Nat}{rest:List Nat} : ∀ (ks:List Nat) (a:Act) (w:World),(∀ x∈ks++i::rest,x<ops.size)->(ks++i::rest).Pairwise (· < ·)->
 (∀ k∈ks,BZ P ops k i=true)->wpOps P ops (Af P ops B w0 fl Q) (ks++i::rest) a w->wpOps P ops (Af P ops B w0 fl Q) (i::(ks++rest)) a w
 | [],_,_,_,_,_,h=>h
 | k :: ks,a,w,hl,hs,hp,h => by
   have hs':=List.pairwise_cons.1 hs
   have h0:=h
   rw[List.cons_append,wpOps_cons] at h
   have h1:wpOp P ops (Af P ops B w0 fl Q) k (fun a' w' => wpOps P ops (Af P ops B w0 fl Q) (i::(ks++rest)) a' w') a w:=
    wpOp_mono (fun a' w' hh=>ak hA ks a' w' (fun x hx=>hl x (by simp at hx ⊢;right;exact hx)) hs'.2 (fun x hx=>hp x (by simp[hx])) hh) h
   have hkl:k<ops.size:=hl k (by simp)
   have hil:i<ops.size:=hl i (by simp)
   obtain⟨ok,hk⟩:∃ o,ops[k]? = some o:=⟨_,Array.getElem?_eq_getElem hkl⟩
   obtain⟨oi,hi⟩:∃ o,ops[i]? = some o:=⟨_,Array.getElem?_eq_getElem hil⟩
   obtain⟨hap,hc⟩:=Jd (hp k (by simp)) hk hi
   have h0g:wpOps P ops (Ends P ops (fun _ a w=>allIn B w0 ops a fl/\Q .normal a w)) (k::ks++i::rest) a w:=Cm (fun e a w he=>BK he) _ _ _ h0
   have h2:wpOp P ops (Af P ops B w0 fl Q) k (fun a' w' => wpOp P ops (Af P ops B w0 fl Q) i (wpOps P ops (Af P ops B w0 fl Q) (ks++rest)) a' w') a w:=
    wpOp_mono (fun a' w' hh=>by rw[wpOps_cons] at hh;exact hh) h1
   show wpOps P ops (Af P ops B w0 fl Q) (i::(k::(ks++rest))) a w
   rw[wpOps_cons]
   refine wpOp_mono (fun a' w' hh=>?_) (swap Af.BA hk hi hap (fun cs b=>hA.sel k ok cs b hk) (fun cs b=>hA.sel i oi cs b hi) ?_ h2)
   ·rw[wpOps_cons];exact hh
   ·rcases hc with hc|hc|⟨hc1,hc2⟩
    ·refine .inl (BU (l:=k::ks++i::rest) hl h0g hi hc fun hn x hx o' ho' t ht=>?_)
     by_cases hxi:i<=x
     ·exact hA.keep i oi hi (.inl hn) x hxi o' ho' t ht
     ·have hxm : x ∈ k :: ks :=by
       rcases List.mem_append.1 hx with h|h
       ·exact h
       ·rcases List.mem_cons.1 h with h|h
        ·omega
        ·have:=(List.pairwise_append.1 hs).2.1
         have:=(List.pairwise_cons.1 this).1 x h
         omega
      exact(Oper.apart_spec (Jd (hp x hxm) ho' hi).1).1 t ht
    ·refine .inr (.inl (BU (l:=k::ks++i::rest) hl h0g hk hc fun hn x hx o' ho' t ht=>?_))
     refine hA.keep k ok hk (.inl hn) x ?_ o' ho' t ht
     rcases List.mem_cons.1 hx with h|h
     ·omega
     ·have:=hs'.1 x h;omega
    ·exact .inr (.inr ⟨fun _=>CP hc1,fun _=>CJ hc2⟩)
theorem VR (hA:OkM P ops fl m){i:Nat}{oi:Oper}(hi:ops[i]? = some oi)(hip:kind P oi=0\/kind P oi=1)(him:m<=i){rest:List Nat} : ∀ (ks:List Nat) (a:Act) (w:World),(∀ x∈ks++i::rest,x<ops.size)->(ks++i::rest).Pairwise (· < ·)->
 (∀ k∈ks,BZ P ops k i=true)->wpS P ops (Af P ops B w0 fl Q) (Same B w0) m (ks++i::rest) a w->
 ∃ v,Yl P ops oi a w v w/\(kind P oi=0->∀ w2,Yl P ops oi a w2 v w2)/\(∀ w2,More w w2->Yl P ops oi a w2 v w2)/\wpS P ops (Af P ops B w0 fl Q) (Same B w0) m (ks++rest) (a.put oi.dst v) w
 | [],a,w,hl,hs,hp,h => by
   have h0:=Gw _ _ _ h
   have h0g:wpOps P ops (Ends P ops (fun _ a w=>allIn B w0 ops a fl/\Q .normal a w)) (i::rest) a w:=Cm (fun e a w he=>BK he) _ _ _ h0
   have hq:kind P oi=0->Region.wanted oi (yielded ops a.tmps)=true->Quiet P (execOp a.eval oi):=fun hc=>BU (l:=i::rest) hl h0g hi hc fun hn x hx o' ho' t ht=>hA.keep i oi hi (.inl hn) x (by
    rcases List.mem_cons.1 hx with h|h
    ·omega
    ·have:=(List.pairwise_cons.1 hs).1 x h;omega) o' ho' t ht
   have hre:Region.wanted oi (yielded ops a.tmps)=true->Reads P (execOp a.eval oi):=fun hw=>by
    rcases hip with hc|hc
    ·intro n w w' hr
     obtain⟨q1,q2,q3⟩:=hq hc hw n w w' hr
     exact⟨q1,q2,fun w2 _=>q3 w2⟩
    ·exact CP hc
   have h:wpOp P ops (Af P ops B w0 fl Q) i (fun a' w' => (i<m->Same B w0 w')/\wpS P ops (Af P ops B w0 fl Q) (Same B w0) m rest a' w') a w:=h
   obtain⟨v,w',hy,_,hK⟩:=Dy Af.BA hi (fun hw=>(hre hw).news) h
   obtain⟨rfl,hm⟩:=hy.reads hre
   exact⟨v,hy,fun hc=>(hy.quiet (hq hc)).2,hm,hK⟩
 | k :: ks,a,w,hl,hs,hp,h => by
   have hs':=List.pairwise_cons.1 hs
   obtain⟨ok,hk⟩:∃ o,ops[k]? = some o:=⟨_,Array.getElem?_eq_getElem (hl k (by simp))⟩
   obtain⟨hap,hc⟩:=Jd (hp k (by simp)) hk hi
   have hap:=Oper.apart_spec hap
   have GR:∀ cs b,oi.op≠.select cs b:=fun cs b=>hA.sel i oi cs b hi
   have Jm:∀ cs b,ok.op≠.select cs b:=fun cs b=>hA.sel k ok cs b hk
   have hds:∀ t,oi.dst=some t->ok.dst≠some t:=fun t ht hk' => hap.2.1 t hk' ht
   have hl' : ∀ x∈ks++i::rest,x<ops.size:=fun x hx=>hl x (by simp at hx ⊢;right;exact hx)
   have hp' : ∀ x∈ks,BZ P ops x i=true:=fun x hx=>hp x (by simp[hx])
   have h0g:wpOps P ops (Ends P ops (fun _ a w=>allIn B w0 ops a fl/\Q .normal a w)) (k::ks++i::rest) a w:=Cm (fun e a w he=>BK he) _ _ _ (Gw _ _ _ h)
   have h:wpOp P ops (Af P ops B w0 fl Q) k (fun a' w' => (k<m->Same B w0 w')/\wpS P ops (Af P ops B w0 fl Q) (Same B w0) m (ks++i::rest) a' w') a w:=h
   have done:∀ v,(∀ a1 w1,Rch a ok.dst a1->wpS P ops (Af P ops B w0 fl Q) (Same B w0) m (ks++i::rest) a1 w1->wpS P ops (Af P ops B w0 fl Q) (Same B w0) m (ks++rest) (a1.put oi.dst v) w1)->wpS P ops (Af P ops B w0 fl Q) (Same B w0) m (k::(ks++rest)) (a.put oi.dst v) w:=fun v hv=>by
    show wpOp P ops (Af P ops B w0 fl Q) k (fun a' w' => (k<m->Same B w0 w')/\wpS P ops (Af P ops B w0 fl Q) (Same B w0) m (ks++rest) a' w') (a.put oi.dst v) w
    exact Iu Af.BA hk Jm hap.2.2 hds h fun a1 w1 hR hh=>⟨hh.1,hv a1 w1 hR hh.2⟩
   have two:kind P oi=0->_:=fun hc0=>(show ∃ v,Yl P ops oi a w v w/\(kind P oi=0->∀ w2,Yl P ops oi a w2 v w2)/\(∀ w2,More w w2->Yl P ops oi a w2 v w2)/\wpS P ops (Af P ops B w0 fl Q) (Same B w0) m (k::(ks++rest)) (a.put oi.dst v) w by
    obtain⟨a1,w1,hR,hh⟩:=EK Af.BA hk h
    obtain⟨v,hy,hy0,_,_⟩:=VR hA hi hip him ks a1 w1 hl' hs'.2 hp' hh.2
    have he:=hR.exec (o:=oi) (ops:=ops) GR hap.1
    have hall:∀ w2,Yl P ops oi a w2 v w2:=fun w2=>(hy0 hc0 w2).same ⟨he.1.symm,he.2.symm⟩
    refine⟨v,hall w,fun _=>hall,fun w2 _=>hall w2,done v fun a2 w2 hR2 hh2=>?_⟩
    obtain⟨v2,hy2,_,_,hK2⟩:=VR hA hi hip him ks a2 w2 hl' hs'.2 hp' hh2
    have he2:=hR2.exec (o:=oi) (ops:=ops) GR hap.1
    obtain⟨rfl,_⟩:=hy2.det ((hall w2).same he2)
    exact hK2)
   have three:kind P ok=0\/kind P ok=1->_:=fun hkd=>(show ∃ v,Yl P ops oi a w v w/\(kind P oi=0->∀ w2,Yl P ops oi a w2 v w2)/\(∀ w2,More w w2->Yl P ops oi a w2 v w2)/\wpS P ops (Af P ops B w0 fl Q) (Same B w0) m (k::(ks++rest)) (a.put oi.dst v) w by
    have hre:Region.wanted ok (yielded ops a.tmps)=true->Reads P (execOp a.eval ok):=fun hw=>by
     rcases hkd with hc|hc
     ·intro n w w' hr
      obtain⟨q1,q2,q3⟩:=BU (l:=k::ks++i::rest) hl h0g hk hc (fun hn x hx o' ho' t ht=>hA.keep k ok hk (.inl hn) x (by
       rcases List.mem_cons.1 hx with h|h
       ·omega
       ·have:=hs'.1 x h;omega) o' ho' t ht) hw n w w' hr
      exact⟨q1,q2,fun w2 _=>q3 w2⟩
     ·exact CP hc
    obtain⟨vk,w1,hyk,hSk,hh⟩:=Dy Af.BA hk (fun hw=>(hre hw).news) h
    obtain⟨rfl,_⟩:=hyk.reads hre
    obtain⟨v,hy,hy0,hym,hK⟩:=VR hA hi hip him ks _ w1 hl' hs'.2 hp' hh
    have he:=(Rch.Gd a ok.dst vk).exec (o:=oi) (ops:=ops) GR hap.1
    have hek:=(Rch.Gd a oi.dst v).exec (o:=ok) (ops:=ops) Jm hap.2.2
    refine⟨v,hy.same ⟨he.1.symm,he.2.symm⟩,fun hc w2=>(hy0 hc w2).same ⟨he.1.symm,he.2.symm⟩,fun w2 hw2=>(hym w2 hw2).same ⟨he.1.symm,he.2.symm⟩,?_⟩
    show wpOp P ops (Af P ops B w0 fl Q) k (fun a' w' => (k<m->Same B w0 w')/\wpS P ops (Af P ops B w0 fl Q) (Same B w0) m (ks++rest) a' w') (a.put oi.dst v) w1
    exact Yl.mk hk (hyk.same hek) ⟨hSk,by rw[Act.put_comm a v vk hds];exact hK⟩)
   rcases hc with hc|hc|⟨hc,_⟩
   ·exact two hc
   ·exact three (.inl hc)
   ·exact three (.inr hc)
theorem kW (hA:OkM P ops fl m){i:Nat}(him:i<m){rest:List Nat} : ∀ (ks:List Nat) (a:Act) (w:World),Same B w0 w->(∀ x∈ks++i::rest,x<ops.size)->(ks++i::rest).Pairwise (· < ·)->
 (∀ k∈ks,CQ P ops fl k i=true)->wpS P ops (Af P ops B w0 fl Q) (Same B w0) m (ks++i::rest) a w->wpS P ops (Af P ops B w0 fl Q) (Same B w0) m (i::(ks++rest)) a w
 | [],_,_,_,_,_,_,h=>h
 | k :: ks,a,w,hS,hl,hs,hp,h => by
   have hsel:=hA.sel
   have hkeep:=hA.keep
   have hs':=List.pairwise_cons.1 hs
   have h0:=Gw _ _ _ h
   have hki:k<i:=hs'.1 i (by simp)
   have h:wpOp P ops (Af P ops B w0 fl Q) k (fun a' w' => (k<m->Same B w0 w')/\wpS P ops (Af P ops B w0 fl Q) (Same B w0) m (ks++i::rest) a' w') a w:=h
   have h1:wpOp P ops (Af P ops B w0 fl Q) k (fun a' w' => Same B w0 w' /\ wpS P ops (Af P ops B w0 fl Q) (Same B w0) m (i::(ks++rest)) a' w') a w:=
    wpOp_mono (fun a' w' hh=>⟨hh.1 (by omega),kW hA him ks a' w' (hh.1 (by omega)) (fun x hx=>hl x (by simp at hx ⊢;right;exact hx)) hs'.2 (fun x hx=>hp x (by simp[hx])) hh.2⟩) h
   have hkl:k<ops.size:=hl k (by simp)
   have hil:i<ops.size:=hl i (by simp)
   obtain⟨ok,hk⟩:∃ o,ops[k]? = some o:=⟨_,Array.getElem?_eq_getElem hkl⟩
   obtain⟨oi,hi⟩:∃ o,ops[i]? = some o:=⟨_,Array.getElem?_eq_getElem hil⟩
   have hpk:=hp k (by simp)
   simp only[CQ,hk,hi,Bool.and_eq_true,Bool.or_eq_true,beq_iff_eq,List.contains_iff_mem] at hpk
   obtain⟨hap,hc⟩:=hpk
   have h2:wpOp P ops (Af P ops B w0 fl Q) k (fun a' w' => Same B w0 w' /\ wpOp P ops (Af P ops B w0 fl Q) i (fun a'' w'' => Same B w0 w'' /\ wpS P ops (Af P ops B w0 fl Q) (Same B w0) m (ks++rest) a'' w'') a' w') a w:=
    wpOp_mono (fun a' w' hh=>⟨hh.1,wpOp_mono (fun a'' w'' h3=>⟨h3.1 him,h3.2⟩) (show wpOp P ops _ i (fun a'' w'' => (i<m->Same B w0 w'')/\wpS P ops _ (Same B w0) m (ks++rest) a'' w'') a' w' from hh.2)⟩) h1
   have EM:∀ x∈k::ks++i::rest,∀ o',ops[x]? = some o' -> (needs oi=true\/i∈fl)->∀ t,o'.dst=some t->t ∉ oi.looksAt ops:=fun x hx o' ho' hn t ht=>by
    by_cases hxi:i<=x
    ·exact hkeep i oi hi hn x hxi o' ho' t ht
    ·have hxm : x ∈ k :: ks :=by
      rcases List.mem_append.1 hx with h|h
      ·exact h
      ·rcases List.mem_cons.1 h with h|h
       ·omega
       ·have:=(List.pairwise_append.1 hs).2.1
        have:=(List.pairwise_cons.1 this).1 x h
        omega
     have hpx:=hp x hxm
     simp only[CQ,ho',hi,Bool.and_eq_true] at hpx
     exact(Oper.apart_spec hpx.1).1 t ht
   have EN:∀ x∈k::ks++i::rest,∀ o',ops[x]? = some o' -> (needs ok=true\/k∈fl)->∀ t,o'.dst=some t->t ∉ ok.looksAt ops:=fun x hx o' ho' hn t ht=>by
    refine hkeep k ok hk hn x ?_ o' ho' t ht
    rcases List.mem_cons.1 hx with h|h
    ·omega
    ·have:=hs'.1 x h;omega
   have h0g:wpOps P ops (Ends P ops (fun _ a w=>allIn B w0 ops a fl/\Q .normal a w)) (k::ks++i::rest) a w:=Cm (fun e a w he=>BK he) _ _ _ h0
   have h3:=gZ (S:=Same B w0) Af.BA hk hi hap (fun cs b=>hsel k ok cs b hk) (fun cs b=>hsel i oi cs b hi) hS ?_ h2
   ·show wpOp P ops _ i (fun a' w' => (i<m->Same B w0 w')/\wpS P ops _ (Same B w0) m (k::(ks++rest)) a' w') a w
    refine wpOp_mono (fun a' w' hh=>⟨fun _=>hh.1,?_⟩) h3
    show wpOp P ops _ k (fun a'' w'' => (k<m->Same B w0 w'')/\wpS P ops _ (Same B w0) m (ks++rest) a'' w'') a' w'
    exact wpOp_mono (fun a'' w'' h4=>⟨fun _=>h4.1,h4.2⟩) hh.2
   ·rcases hc with (((hc|hc)|⟨hc1,hc2⟩)|⟨hc,hm⟩)|⟨hc,hm⟩
    ·have hq:=BU (l:=k::ks++i::rest) hl h0g hi hc fun hn x hx o' ho' t ht=>EM x hx o' ho' (.inl hn) t ht
     exact .inl ⟨fun hw=>(hq hw).KI,fun hw=>(hq hw).news⟩
    ·have hq:=BU (l:=k::ks++i::rest) hl h0g hk hc fun hn x hx o' ho' t ht=>EN x hx o' ho' (.inl hn) t ht
     exact .inr (.inl ⟨fun hw=>(hq hw).KI,fun hw=>(hq hw).news⟩)
    ·exact .inr (.inr ⟨fun _=>CP hc1,fun _=>CJ hc2⟩)
    ·exact .inr (.inl ⟨Hw (l:=k::ks++i::rest) hl h0 hk hc hm fun x hx o' ho' t ht=>EN x hx o' ho' (.inr hm) t ht,fun _=>CJ (.inl hc)⟩)
    ·exact .inl ⟨Hw (l:=k::ks++i::rest) hl h0 hi hc hm fun x hx o' ho' t ht=>EM x hx o' ho' (.inr hm) t ht,fun _=>CJ (.inl hc)⟩
theorem Yj (hA:OkM P ops fl m):∀ (fuel:Nat) (l:List Nat) (listed:Array Bool) (a:Act) (w:World),l.length=fuel->listed.size=ops.size->Closed ops listed->
 l.Pairwise (· < ·)->(∀ x,x∈l↔x<ops.size/\listed.getD x false=false)->(∀ x∈l,x ∉ fl)->wpOps P ops (Af P ops B w0 fl Q) l a w->wpAny P .any ops (Af P ops B w0 fl Q) fuel listed a w
 | 0,l,listed,a,w,hlen,hsz,hcl,hs,hm,_,h => by
   have hl0:l=[]:=List.eq_nil_of_length_eq_zero hlen
   subst hl0
   refine⟨?_,h⟩
   refine List.eq_nil_iff_forall_not_mem.2 fun j hj=>?_
   obtain⟨h0,o,ho,_⟩:=mem_ready.1 hj
   have hjl:j<ops.size:=(Array.getElem?_eq_some_iff.1 ho).1
   have:=(hm j).2 ⟨hjl,getD_both h0⟩
   cases this
 | fuel + 1,l,listed,a,w,hlen,hsz,hcl,hs,hm,hnf,h => by
   have both:∀ x,x<ops.size->listed.getD x false=false->listed.getD x true=false:=fun x hx hf=>getD_in (by omega) hf
   refine⟨fun hr=>?_,fun i hi=>?_⟩
   ·exfalso
    cases l with
    | nil=>cases hlen
    | cons k l =>
      have hm0:=(hm k).1 (by simp)
      obtain⟨o,ho⟩:∃ o,ops[k]? = some o:=⟨_,Array.getElem?_eq_getElem hm0.1⟩
      have:k∈Region.ready .any ops listed:=mem_ready.2 ⟨both k hm0.1 hm0.2,o,ho,fun e he hb=>by
       have hlt:=hA.top k o ho e he hb
       cases hx:listed.getD e.on false with
       | true=>rfl
       | false =>
         have hin:=(hm e.on).2 ⟨by omega,hx⟩
         rcases List.mem_cons.1 hin with h1|h1
         ·omega
         ·have:=(List.pairwise_cons.1 hs).1 _ h1
          omega⟩
      rw[hr] at this
      cases this
   ·obtain⟨hun,oi,hoi,hall⟩:=mem_ready.1 hi
    have hil:i<ops.size:=(Array.getElem?_eq_some_iff.1 hoi).1
    have hin:i∈l:=(hm i).2 ⟨hil,getD_both hun⟩
    obtain⟨ks,rest,rfl⟩:=List.append_of_mem hin
    have hpw:=List.pairwise_append.1 hs
    have hlt:∀ x∈ks++i::rest,x<ops.size:=fun x hx=>((hm x).1 hx).1
    have hks:∀ k∈ks,BZ P ops k i=true\/(i<m/\CQ P ops fl k i=true):=fun k hk=>by
     have hki:k<i:=hpw.2.2 k hk i (by simp)
     rcases hA.pair i k hil hki with hw|hp
     ·have:=Dp hcl ops.size i k oi hoi hall hw
      have hk2:=((hm k).1 (by simp[hk])).2
      rw[hk2] at this
      cases this
     ·exact hp
    have kX:∀ k∈ks,BZ P ops k i=true:=fun k hk=>by
     rcases hks k hk with h|⟨_,h⟩
     ·exact h
     ·exact fO h (hnf k (by simp[hk])) (hnf i (by simp))
    have hfr:=ak hA ks a w hlt hs kX h
    rw[wpOps_cons] at hfr
    refine wpOp_mono (fun a' w' hh=>?_) hfr
    refine Yj hA fuel (ks++rest) _ a' w' (by simp at hlen ⊢;omega) (by simp[hsz]) ?_ ?_ ?_ (fun x hx=>hnf x (by simp at hx ⊢;rcases hx with h|h<;>simp[h])) hh
    ·intro j o ho hl e he hb
     by_cases hij:i=j
     ·subst hij
      have:o=oi:=Option.some.inj (ho.symm.trans hoi)
      subst this
      exact getD_set_true (hall e he hb)
     ·refine getD_set_true (hcl j o ho ?_ e he hb)
      rw[getD_set_ne false (by exact hij)] at hl
      exact hl
    ·exact List.pairwise_append.2 ⟨hpw.1,(List.pairwise_cons.1 hpw.2.1).2,fun x hx y hy=>hpw.2.2 x hx y (by simp[hy])⟩
    ·intro x
     have hx:=hm x
     have hne:x∈ks++rest->i≠x:=by
      intro hxm e
      subst e
      rcases List.mem_append.1 hxm with h1|h1
      ·have:=hpw.2.2 i h1 i (by simp)
       omega
      ·have:=(List.pairwise_cons.1 hpw.2.1).1 i h1
       omega
     constructor
     ·intro hxm
      have h1:=hx.1 (by simp at hxm ⊢;rcases hxm with h|h<;>simp[h])
      exact⟨h1.1,by rw[getD_set_ne false (hne hxm)];exact h1.2⟩
     ·rintro⟨h1,h2⟩
      by_cases hix:i=x
      ·subst hix
       simp[hsz,h1] at h2
      ·rw[getD_set_ne false hix] at h2
       have:=hx.2 ⟨h1,h2⟩
       simp at this ⊢
       rcases this with h|h|h
       ·exact .inl h
       ·exact absurd h.symm hix
       ·exact .inr h
theorem Yk (hA:OkM P ops fl m)(yU:∀ x∈fl,∀ i,m<=i->∀ oi,ops[i]? = some oi->kind P oi=2->False):∀ (fuel:Nat) (l:List Nat) (listed:Array Bool) (a:Act) (w:World),l.length=fuel->listed.size=ops.size->Closed ops listed->
 l.Pairwise (· < ·)->(∀ x,x∈l↔x<ops.size/\listed.getD x false=false)->((∃ x∈l,x<m)->Same B w0 w)->wpS P ops (Af P ops B w0 fl Q) (Same B w0) m l a w->wpAny P .any ops (Af P ops B w0 fl Q) fuel listed a w
 | 0,l,listed,a,w,hlen,hsz,hcl,hs,hm,_,h => by
   have hl0:l=[]:=List.eq_nil_of_length_eq_zero hlen
   subst hl0
   refine⟨?_,h⟩
   refine List.eq_nil_iff_forall_not_mem.2 fun j hj=>?_
   obtain⟨h0,o,ho,_⟩:=mem_ready.1 hj
   have hjl:j<ops.size:=(Array.getElem?_eq_some_iff.1 ho).1
   have:=(hm j).2 ⟨hjl,getD_both h0⟩
   cases this
 | fuel + 1,l,listed,a,w,hlen,hsz,hcl,hs,hm,hSl,h => by
   have both:∀ x,x<ops.size->listed.getD x false=false->listed.getD x true=false:=fun x hx hf=>getD_in (by omega) hf
   refine⟨fun hr=>?_,fun i hi=>?_⟩
   ·exfalso
    cases l with
    | nil=>cases hlen
    | cons k l =>
      have hm0:=(hm k).1 (by simp)
      obtain⟨o,ho⟩:∃ o,ops[k]? = some o:=⟨_,Array.getElem?_eq_getElem hm0.1⟩
      have:k∈Region.ready .any ops listed:=mem_ready.2 ⟨both k hm0.1 hm0.2,o,ho,fun e he hb=>by
       have hlt:=hA.top k o ho e he hb
       cases hx:listed.getD e.on false with
       | true=>rfl
       | false =>
         have hin:=(hm e.on).2 ⟨by omega,hx⟩
         rcases List.mem_cons.1 hin with h1|h1
         ·omega
         ·have:=(List.pairwise_cons.1 hs).1 _ h1
          omega⟩
      rw[hr] at this
      cases this
   ·obtain⟨hun,oi,hoi,hall⟩:=mem_ready.1 hi
    have hil:i<ops.size:=(Array.getElem?_eq_some_iff.1 hoi).1
    have hin:i∈l:=(hm i).2 ⟨hil,getD_both hun⟩
    obtain⟨ks,rest,rfl⟩:=List.append_of_mem hin
    have hpw:=List.pairwise_append.1 hs
    have hlt:∀ x∈ks++i::rest,x<ops.size:=fun x hx=>((hm x).1 hx).1
    have hks:∀ k∈ks,BZ P ops k i=true\/(i<m/\CQ P ops fl k i=true):=fun k hk=>by
     have hki:k<i:=hpw.2.2 k hk i (by simp)
     rcases hA.pair i k hil hki with hw|hp
     ·have:=Dp hcl ops.size i k oi hoi hall hw
      have hk2:=((hm k).1 (by simp[hk])).2
      rw[hk2] at this
      cases this
     ·exact hp
    have hfr:wpOp P ops (Af P ops B w0 fl Q) i (fun a' w' => (((∃ x∈ks++rest,x<m)->Same B w0 w')/\wpS P ops (Af P ops B w0 fl Q) (Same B w0) m (ks++rest) a' w')\/((∀ x∈ks++rest,x ∉ fl)/\wpOps P ops (Af P ops B w0 fl Q) (ks++rest) a' w')) a w:=by
     have hgt:∀ x∈rest,i<x:=fun x hx=>(List.pairwise_cons.1 hpw.2.1).1 x hx
     by_cases him:i<m
     ·have h4 : wpS P ops (Af P ops B w0 fl Q) (Same B w0) m (i :: (ks ++ rest)) a w :=by
       cases ks with
       | nil=>exact h
       | cons k ks =>
         exact kW hA him (k::ks) a w (hSl ⟨i,hin,him⟩) hlt hs (fun x hx=>by
          rcases hks x hx with h|⟨_,h⟩
          ·exact kV h
          ·exact h) h
      exact wpOp_mono (fun a1 w1 hh=>.inl ⟨fun _=>hh.1 him,hh.2⟩) (show wpOp P ops _ i (fun a' w' => (i<m->Same B w0 w')/\wpS P ops (Af P ops B w0 fl Q) (Same B w0) m (ks++rest) a' w') a w from h4)
     ·have kX : ∀ k ∈ ks,BZ P ops k i = true :=fun k hk => by
       rcases hks k hk with h|⟨h,_⟩
       ·exact h
       ·exact absurd h him
      by_cases hip:kind P oi=0\/kind P oi=1
      ·obtain⟨v,hy,_,_,hK⟩:=VR hA hoi hip (by omega) ks a w hlt hs kX h
       exact Yl.mk hoi hy (.inl ⟨fun⟨x,hx,hxm⟩=>hSl ⟨x,(by simp at hx ⊢;rcases hx with h|h<;>simp[h]),hxm⟩,hK⟩)
      ·have hq:=ak hA ks a w hlt hs kX (Gw _ _ _ h)
       rw[wpOps_cons] at hq
       refine wpOp_mono (fun a1 w1 hh=>.inr ⟨fun x hx hf=>?_,hh⟩) hq
       rcases List.mem_append.1 hx with h1|h1
       ·obtain⟨ox,hox⟩:∃ o,ops[x]? = some o:=⟨_,Array.getElem?_eq_getElem (hlt x (by simp[h1]))⟩
        have hk1:=(hA.flm x hf).2 ox hox
        obtain⟨_,hc⟩:=Jd (kX x h1) hox hoi
        rcases hc with hc|hc|⟨_,hc⟩
        ·exact hip (.inl hc)
        ·omega
        ·rcases hc with hc|hc
         ·exact hip (.inr hc)
         ·have h2:=(hA.flm x hf).1
          exact yU x hf i (by omega) oi hoi hc
       ·have:=hgt x h1
        have:=(hA.flm x hf).1
        omega
    refine wpOp_mono (fun a' w' hh=>?_) hfr
    rcases hh with ⟨hS',hK⟩|⟨hnf,hK⟩
    ·refine Yk hA yU fuel (ks++rest) _ a' w' (by simp at hlen ⊢;omega) (by simp[hsz]) ?_ ?_ ?_ hS' hK
     ·intro j o ho hl e he hb
      by_cases hij:i=j
      ·subst hij
       have:o=oi:=Option.some.inj (ho.symm.trans hoi)
       subst this
       exact getD_set_true (hall e he hb)
      ·refine getD_set_true (hcl j o ho ?_ e he hb)
       rw[getD_set_ne false (by exact hij)] at hl
       exact hl
     ·exact List.pairwise_append.2 ⟨hpw.1,(List.pairwise_cons.1 hpw.2.1).2,fun x hx y hy=>hpw.2.2 x hx y (by simp[hy])⟩
     ·intro x
      have hx:=hm x
      have hne:x∈ks++rest->i≠x:=by
       intro hxm e
       subst e
       rcases List.mem_append.1 hxm with h1|h1
       ·have:=hpw.2.2 i h1 i (by simp)
        omega
       ·have:=(List.pairwise_cons.1 hpw.2.1).1 i h1
        omega
      constructor
      ·intro hxm
       have h1:=hx.1 (by simp at hxm ⊢;rcases hxm with h|h<;>simp[h])
       exact⟨h1.1,by rw[getD_set_ne false (hne hxm)];exact h1.2⟩
      ·rintro⟨h1,h2⟩
       by_cases hix:i=x
       ·subst hix
        simp[hsz,h1] at h2
       ·rw[getD_set_ne false hix] at h2
        have:=hx.2 ⟨h1,h2⟩
        simp at this ⊢
        rcases this with h|h|h
        ·exact .inl h
        ·exact absurd h.symm hix
        ·exact .inr h
    ·refine Yj hA fuel (ks++rest) _ a' w' (by simp at hlen ⊢;omega) (by simp[hsz]) ?_ ?_ ?_ hnf hK
     ·intro j o ho hl e he hb
      by_cases hij:i=j
      ·subst hij
       have:o=oi:=Option.some.inj (ho.symm.trans hoi)
       subst this
       exact getD_set_true (hall e he hb)
      ·refine getD_set_true (hcl j o ho ?_ e he hb)
       rw[getD_set_ne false (by exact hij)] at hl
       exact hl
     ·exact List.pairwise_append.2 ⟨hpw.1,(List.pairwise_cons.1 hpw.2.1).2,fun x hx y hy=>hpw.2.2 x hx y (by simp[hy])⟩
     ·intro x
      have hx:=hm x
      have hne:x∈ks++rest->i≠x:=by
       intro hxm e
       subst e
       rcases List.mem_append.1 hxm with h1|h1
       ·have:=hpw.2.2 i h1 i (by simp)
        omega
       ·have:=(List.pairwise_cons.1 hpw.2.1).1 i h1
        omega
      constructor
      ·intro hxm
       have h1:=hx.1 (by simp at hxm ⊢;rcases hxm with h|h<;>simp[h])
       exact⟨h1.1,by rw[getD_set_ne false (hne hxm)];exact h1.2⟩
      ·rintro⟨h1,h2⟩
       by_cases hix:i=x
       ·subst hix
        simp[hsz,h1] at h2
       ·rw[getD_set_ne false hix] at h2
        have:=hx.2 ⟨h1,h2⟩
        simp at this ⊢
        rcases this with h|h|h
        ·exact .inl h
        ·exact absurd h.symm hix
        ·exact .inr h
theorem upM (hA:OkM P ops fl m):∀ (l:List Nat) (a:Act) (w:World),(∀ x∈l,x<ops.size)->l.Pairwise (· < ·)->((∃ x∈l,x<m)->Same B w0 w)->
 wpC P ops (Af P ops B w0 fl Q) (Same B w0) m l a w->wpS P ops (Af P ops B w0 fl Q) (Same B w0) m l a w
 | [],_,_,_,_,_,h=>h
 | i :: l,a,w,hl,hs,hS,h => by
   have h0:=PI _ _ _ h
   have hs':=List.pairwise_cons.1 hs
   obtain⟨o,hi⟩:∃ o,ops[i]? = some o:=⟨_,Array.getElem?_eq_getElem (hl i (by simp))⟩
   have h:wpOp P ops (Af P ops B w0 fl Q) i (fun a' w' => (i<m->wild P ops i=true->Same B w0 w')/\wpC P ops (Af P ops B w0 fl Q) (Same B w0) m l a' w') a w:=h
   show wpOp P ops (Af P ops B w0 fl Q) i (fun a' w' => (i<m->Same B w0 w')/\wpS P ops (Af P ops B w0 fl Q) (Same B w0) m l a' w') a w
   have Qo:∀ a' w',(i<m->Same B w0 w')->wpC P ops (Af P ops B w0 fl Q) (Same B w0) m l a' w' -> wpS P ops (Af P ops B w0 fl Q) (Same B w0) m l a' w':=fun a' w' hS' hh=>
    upM hA l a' w' (fun x hx=>hl x (by simp[hx])) hs'.2 (fun⟨x,hx,hxm⟩=>hS' (by have:=hs'.1 x hx;omega)) hh
   by_cases him:i<m
   ·have hSw:=hS ⟨i,by simp,him⟩
    by_cases hwd:wild P ops i=true
    ·exact wpOp_mono (fun a' w' hh=>⟨fun hm=>hh.1 hm hwd,Qo a' w' (fun hm=>hh.1 hm hwd) hh.2⟩) h
    ·have hn : Region.wanted o (yielded ops a.tmps) = true → Mi P (execOp a.eval o) :=by
      simp only[wild,hi,Bool.and_eq_true,bne_iff_ne,ne_eq,not_and,Classical.not_not] at hwd
      intro hw
      by_cases h0k:kind P o=0
      ·have h0g:wpOps P ops (Ends P ops (fun _ a w=>allIn B w0 ops a fl/\Q .normal a w)) (i::l) a w:=Cm (fun e a w he=>BK he) _ _ _ h0
       exact(BU hl h0g hi h0k (fun hn x hx o' ho' t ht=>hA.keep i o hi (.inl hn) x (by
        rcases List.mem_cons.1 hx with h|h
        ·omega
        ·have:=hs'.1 x h;omega) o' ho' t ht) hw).news
      ·by_cases h1k:kind P o=1
       ·exact(CP h1k).news
       ·exact FI (hwd ⟨h0k,h1k⟩)
     obtain⟨v,w',hy,hc,hh⟩:=Dy Af.BA hi hn h
     have Wz : Same B w0 w':=hSw.more (hy.more hn)
     exact Yl.mk hi hy ⟨fun _=>Wz,Qo _ _ (fun _=>Wz) hh⟩
   ·exact wpOp_mono (fun a' w' hh=>⟨fun hm=>absurd hm him,Qo a' w' (fun hm=>absurd hm him) hh.2⟩) h
end
def qR (P:Program)(ops:Array Oper)(m:Nat):Bool:=(List.range ops.size).all fun i=>decide (i<m) || (match ops[i]? with|some o=>kind P o != 2|none=>true)
theorem Sb {id:Nat}{l:List Oper}{a:Act}{w:World}(B:Nat->Prop)(fl:List Nat)(m:Nat)(cs:List Nat)(hm:P.follows .mixedOrders=true)(hA:(VP P l.toArray fl m&&qR P l.toArray m)=true)(hC:Ox P l.toArray m cs l.length 0=true)
 (h:AA P l.toArray (Af P l.toArray B w.drew fl Q) (Same B w.drew) cs l a w.drew):(Code.region id l.toArray true).wp P Q a w:=by
 rw[Bool.and_eq_true] at hA
 obtain⟨hA,hN⟩:=hA
 have hA:=Yi hA
 refine Code.wp_mono (Q:=Af P l.toArray B w.drew fl Q) (fun e a' w' he=>by obtain⟨rfl,_,_,h⟩:=he;exact h) (wp_region_any hm ?_)
 have hlt:∀ x∈List.range l.toArray.size,x<l.toArray.size:=fun x hx=>List.mem_range.1 hx
 refine Yk hA (fun x _ i hi oi hoi hk=>?_) l.toArray.size (List.range l.toArray.size) _ a _ (by simp) (by simp) ?_ List.pairwise_lt_range (fun x=>by
  constructor
  ·intro hx
   have:=List.mem_range.1 hx
   exact⟨this,by simp only[Array.getD_eq_getD_getElem?];simp at this ⊢;simp[this]⟩
  ·exact fun hx=>List.mem_range.2 hx.1) (fun _=>Same.refl _ _) ?_
 ·have hil:i<l.toArray.size:=(Array.getElem?_eq_some_iff.1 hoi).1
  have:=(List.all_eq_true.1 hN) i (List.mem_range.2 hil)
  rw[hoi] at this
  simp[hk] at this
  omega
 ·intro j o ho hl
  rw[getD_replicate_false] at hl
  cases hl
 ·refine upM hA _ _ _ hlt List.pairwise_lt_range (fun _=>Same.refl _ _) ?_
  rw[List.range_eq_range',show l.toArray.size=l.length from by simp]
  exact Kr cs l 0 a _ (by simp) hC h
end
end Lex
section
open Go
theorem Lex.zm{P:Program}{id:Nat}{l:List Oper}{Q:Exit->Act->World->Prop}{a:Act}{w:World}(B:Nat->Prop)(fl:List Nat)(m:Nat)(cs:List Nat)(h:Lex.AA P l.toArray (Lex.Af P l.toArray B w.drew fl Q) (Lex.Same B w.drew) cs l a w.drew)(hm:P.follows .mixedOrders=true:=by kernel_rfl)(hA:(Lex.VP P l.toArray fl m&&Lex.qR P l.toArray m)=true:=by kernel_rfl)(hC:Lex.Ox P l.toArray m cs l.length 0=true:=by kernel_rfl):(Code.region id l.toArray true).wp P Q a w:=Lex.Sb B fl m cs hm hA hC h
end
end
section
open Go Go.RowKit Go.Maps
namespace Own
theorem Md (b i:Nat)(p:Aa)(ag:Bool):(Cq b i p ag).sig.chains.length=67/\(Cq b i p ag).sig.path.length=1/\(Cq b i p ag).name.size=2:=by
 unfold Cq Sig.BM
 dsimp only
 refine⟨by simp,rfl,rfl⟩
end Own
theorem Ym (W:World)(n:Int)(a:Option Addr)(k c:Nat):(Instr.field 24 (.agg #[.int .i64 n,.slice a k c]) 1).run Tryz.prog W=.ok (.slice a k c) W:=by kernel_rfl
theorem Me (b i:Nat)(p:Own.Aa)(ag:Bool)(v:Value)(w:World)(hb:b<256)(hi:i<2)(h0:0<=p.id)(h1:p.id<9223372036854775808)(h2:p.path.size<=1000000)(h3:p.digest.size<=1000000)(A:Own.AZ)(hA:A=Own.Cq b i p ag){bi ii:Int}(hbi:bi=b)(hii:ii=i):
 Calls Tryz.prog 35 #[.int .u8 bi,.int .i64 ii,.agg #[.int .i64 p.id,.string p.path,.string p.digest,.int .i64 p.opened,.int .i64 p.expires,v],.bool ag] w (RO w A):=by
 rw[hA,hbi,hii]
 exact P7 b i p ag v w hb hi h0 h1 h2 h3
theorem Yn (w:World)(hM:Fe w):Calls Tryz.prog 10 #[] w fun e w' => e=.returned (.bool true)/\Below w.heap.size w w':=by
 obtain⟨q0,q1,q2,q3,o0,o1,o2,o3,p,m,h⟩:=Own.awP
 have hsp:=fun W=>RD 3 2 W (by omega)
 have hdg:=fun W=>Pp 1 W (by omega)
 have hsb:=fun W (hW:Below w.heap.size w W)=>VI ⟨5,[]⟩ 10 3 ⟨#[97,47,98]⟩ (C9.Bn 1) (.slice none 0 0) W (hM.below hW) (Ag.nil _ _) (by simp) (by simp)
 simp only[h.sub] at hsb
 have hln:q0.props.length=1:=by rw[h.q0p];rfl
 have yV:q0.props=[p]:=h.q0p
 have hso:o0.spaces=[Own.Ce 3 2]:=by rw[h.o0e]
 have hko:o0.keys=[]:=by rw[h.o0e]
 have hco:o0.count=0:=by rw[h.o0e]
 rw[<- hso] at hsp
 obtain⟨A0,hA0⟩:∃ A,A=Own.Cq 0 0 p true:=⟨_,rfl⟩
 obtain⟨A1,hA1⟩:∃ A,A=Own.Cq 1 0 p true:=⟨_,rfl⟩
 obtain⟨A2,hA2⟩:∃ A,A=Own.Cq 2 0 p false:=⟨_,rfl⟩
 have hl0:=Own.Md 0 0 p true;have hl1:=Own.Md 1 0 p true;have hl2:=Own.Md 2 0 p false
 have hv1:=h.v1;have hv2:=h.v2;have hv3:=h.v3
 rw[<- hA0] at hv1 hl0;rw[<- hA1] at hv2 hl1;rw[<- hA2] at hv3 hl2
 have HSP:=zh hsp;have HDG:=zh hdg;have HSB:=zh hsb;have HLN:=zh hln;have zbt:=zh yV;have HKO:=zh hko;have HCO:=zh hco;have HAW:=zh h;have HPF:=zh (And.intro h.id0 (And.intro h.id1 (And.intro h.pl h.dl)));have HMX:=zh hM
 have HA0:=zh hA0;have HA1:=zh hA1;have HA2:=zh hA2;have HL0:=zh hl0;have HL1:=zh hl1;have HL2:=zh hl2;have HV1:=zh hv1;have HV2:=zh hv2;have HV3:=zh hv3
 generalize C9.Bn 1=DG at HDG HSB
 clear hsp hdg hsb hln yV hso hko hco h hM hA0 hA1 hA2 hl0 hl1 hl2 hv1 hv2 hv3
 go_enter Tryz.func10,Tryz.ntmps10
 go_wp2_with fail
 refine(HSP.out _).mono ?_
 rintro e w1 ⟨sv,rfl,hS,hb1⟩
 obtain⟨sa,sc,rfl⟩:=hS.len
 have hb2:=hb1.trans (((Below.refl w1.heap.size w1).alloc (Nat.le_refl _) (.cells #[.int .i64 0,.slice sa o0.spaces.length sc,.slice none 0 0] 38)).mono hb1.size)
 obtain⟨gO,hgO⟩:∃ g,g=w1.heap.size:=⟨_,rfl⟩
 have hO2:=At.new w1 38 #[.int .i64 0,.slice sa o0.spaces.length sc,.slice none 0 0]
 have hS2:=hS.below ((Below.refl w1.heap.size w1).alloc (Nat.le_refl _) (.cells #[.int .i64 0,.slice sa o0.spaces.length sc,.slice none 0 0] 38))
 have yX:w.heap.size<=gO:=by rw[hgO];exact hb1.size
 rw[<- hgO] at hO2
 have HB2:=zh hb2;have HO2:=zh hO2;have HS2:=zh hS2;have HGO:=zh hgO
 clear hb1 hb2 hO2 hS hS2 hgO
 go_upto_region 2 with fail
 rw[<- HGO.out]
 generalize w1.alloc (.cells #[.int .i64 0,.slice sa o0.spaces.length sc,.slice none 0 0] 38)=w2 at*
 clear HGO
 go_wp2_with fail
 refine(HDG.out _).mono ?_
 rintro e w3 ⟨rfl,hb3⟩
 have HB3:=zh (HB2.out.trans (hb3.mono HB2.out.size));have HO3:=zh (HO2.out.below hb3 HO2.out.lt);have HS3:=zh (HS2.out.below hb3)
 clear hb3 HB2 HO2 HS2
 go_wp2_with fail
 refine(HSB.out _ HB3.out).mono ?_
 rintro e w4 ⟨⟨qv,rfl,qv',rfl,hpo⟩,hb4⟩
 obtain⟨qa,qc,rfl⟩:=hpo.one
 have hp4:Own.A9 w4 (.slice qa q0.props.length qc) q0.props:=hpo.props
 have SI:Below w4.heap.size w4 (w4.alloc (.cells #[.int .i64 q0.next,.slice qa q0.props.length qc] 24)):=zb
 have hb5:=hb4.trans (SI.mono hb4.size)
 have hQ5:=At.new w4 24 #[.int .i64 q0.next,.slice qa q0.props.length qc]
 have hO5:=HO3.out.below hb5 HO3.out.lt
 have hls:LS (w4.alloc (.cells #[.int .i64 q0.next,.slice qa q0.props.length qc] 24)) gO w4.heap.size o0 q0 sa sc none 0 qa qc:=
  ⟨by rw[HCO.out,HKO.out];exact hO5,hQ5,HS3.out.below hb5,by rw[HKO.out];exact Ag.nil _ _,hp4.below SI⟩
 obtain⟨gQ,hgQ⟩:∃ g,g=w4.heap.size:=⟨_,rfl⟩
 have yY:w.heap.size<=gQ:=by rw[hgQ];exact(HB3.out.trans (hb4.mono HB3.out.size)).size
 rw[<- hgQ] at hls
 have HB5:=zh (HB3.out.trans (hb5.mono HB3.out.size));have L5:=zh hls;have HGQ:=zh hgQ
 clear hp4 SI hb5 hQ5 hO5 hls hgQ hb4 hpo HB3 HO3 HS3
 go_upto_region 3 with fail
 rw[<- HGQ.out]
 generalize w4.alloc (.cells #[.int .i64 q0.next,.slice qa q0.props.length qc] 24)=w5 at*
 clear HGQ
 obtain⟨q0c,q1c⟩:=L5.out.atQ.c2
 have d1:((q0.props.length:Int) != 1)=false:=by rw[HLN.out];rfl
 have d0:0<q0.props.length:=by rw[HLN.out];omega
 have hvd:=D9 q0 (.slice qa q0.props.length qc) w5 (HMX.out.below HB5.out) L5.out.ps (by rw[HLN.out];omega) (fun x hx=>by have:=HAW.out.f0.lv x hx;omega)
 rw[HAW.out.ok0] at hvd
 have HVD:=zh hvd;clear hvd
 go_wp2_with fail
 refine HVD.out.mono ?_
 rintro e w6 ⟨rfl,hb6⟩
 have L6:=zh (L5.out.below hb6);have HB6:=zh (HB5.out.trans (hb6.mono HB5.out.size))
 clear hb6 q0c q1c L5 HB5 HVD
 obtain⟨q0c,q1c⟩:=L6.out.atQ.c2
 obtain⟨b,o',vv,hqa,hbl,e0,e1,e2,e3,e4,e5,hvv⟩:=Own.A9.cells L6.out.ps d0
 obtain⟨va,vc,rfl⟩:=hvv.len
 generalize q0.props[0].Al.length=vl at*
 clear hvv
 subst hqa
 simp only[Nat.zero_mul,Nat.add_zero,zbt.out,List.getElem_cons_zero] at e0 e1 e2 e3 e4 e5
 have hb7:Below w6.heap.size w6 (w6.alloc (.cells #[.int .i64 p.id,.string p.path,.string p.digest,.int .i64 p.opened,.int .i64 p.expires,.slice va vl vc] 46)):=zb
 have hP7:=At.new w6 46 #[.int .i64 p.id,.string p.path,.string p.digest,.int .i64 p.opened,.int .i64 p.expires,.slice va vl vc]
 obtain⟨gP,hgP⟩:∃ g,g=w6.heap.size:=⟨_,rfl⟩
 rw[<- hgP] at hP7
 have L7:=zh (L6.out.below hb7);have HB7:=zh (HB6.out.trans (hb7.mono HB6.out.size));have HP7:=zh hP7;have HGP:=zh hgP
 clear hb7 hP7 hgP L6 HB6
 go_upto_region 6 with fail
 rw[<- HGP.out]
 generalize w6.alloc (.cells #[.int .i64 p.id,.string p.path,.string p.digest,.int .i64 p.opened,.int .i64 p.expires,.slice va vl vc] 46)=w7 at*
 clear HGP q0c q1c e0 e1 e2 e3 e4 e5
 have Yo:=HPF.out.1;have Yp:=HPF.out.2.1;have Yq:=HPF.out.2.2.1;have hdl0:=HPF.out.2.2.2
 obtain⟨q0c,q1c⟩:=L7.out.atQ.c2;obtain⟨o0c,o1c,o2c⟩:=L7.out.atO.c3
 obtain⟨p0c,p1c,p2c,p3c,p4c,p5c⟩:=HP7.out.c6
 have HXQ:=zh (zi q0c)
 have HXO:=zh (zi o0c)
 have Yr:=zh (Me 0 0 p true (.slice va vl vc) w7.drew (by omega) (by omega) Yo Yp Yq hdl0 A0 HA0.out (bi:=0) (ii:=0) rfl rfl)
 clear Yo Yp Yq hdl0
 go_wp2_with fail
 refine Lex.zm (fun k=>k=gQ\/k=gO) [0,1] 5 [5] ?_
 simp only[Lex.AA,zd]
 go_wp2_with fail
 refine Yr.out.mono ?_
 rintro e zbu ⟨cv,pv,rfl,hoc,hop,hb⟩
 have hbx:Below w7.heap.size w7 zbu:=(Below.refl w7.heap.size w7).drew.trans hb
 have uj:=zh (L7.out.below hbx);have bH:=zh (HB7.out.trans (hbx.mono HB7.out.size));have kY:=zh (HP7.out.below hbx HP7.out.lt);have oQ:=zh hbx;have OC:=zh hoc;have OP:=zh hop
 clear hb hbx hoc hop q0c q1c o0c o1c o2c p0c p1c p2c p3c p4c p5c Yr
 have HVT:=zh (uj.out.Gm (HMX.out.below bH.out) HAW.out.f0 5 true A0 OC.out OP.out HL0.out.1.symm HL0.out.2.1.symm (by have h1:=HL0.out.1;have h2:=HL0.out.2.1;have h3:=HL0.out.2.2;omega) HV1.out)
 go_wp2_with fail
 refine Lex.Mid.intro (fun k _ hkl=>oQ.out.block _ hkl) ?_
 obtain⟨zc6,zc7,zc8,rfl⟩:=Ac OC.out
 obtain⟨zc9,zcA,zcB,rfl⟩:=Ac OP.out
 go_wp2_with fail
 refine HVT.out.mono ?_
 rintro e kZ ⟨lg,lq,lu,l5,l6,l7,rfl,hs,hk,hp,hb⟩
 dsimp only at hs hk hp ⊢
 have hbx:=oQ.out.trans (hb.mono oQ.out.size)
 have hlb:=uj.out.below hb
 have hlp:=hlb.put hs hk hp
 have hbw:=bH.out.trans (hb.mono bH.out.size)
 have bI:=zh (kY.out.below hb kY.out.lt);have yZ:=zh hbx;have Sc:=zh hlb;have zq:=zh hlp;have qU:=zh hbw
 clear hs hk hp hb hbx hlb hlp hbw HVT uj bH kY OC OP
 obtain⟨q0c,q1c⟩:=Sc.out.atQ.c2;obtain⟨o0c,o1c,o2c⟩:=Sc.out.atO.c3
 have q0f:=Sc.out.atQ.free 0;have q1f:=Sc.out.atQ.free 1;have o0f:=Sc.out.atO.free 0;have o1f:=Sc.out.atO.free 1;have o2f:=Sc.out.atO.free 2
 have hne:=Sc.out.ne
 have hne' : gQ≠gO:=fun e=>hne e.symm
 go_wp2_with fail
 refine Lex.zk ⟨⟨.inl rfl,HXQ.out⟩,⟨.inr rfl,HXO.out⟩,trivial⟩ ?_
 have HBc:=zh (qU.out.trans (Oq kZ gO gQ o1 q1 lg lq lu l5 l6 l7 yX yY))
 have l8:gP≠gO:=bI.out.ne Sc.out.atO (by decide)
 have l9:gP≠gQ:=bI.out.ne Sc.out.atQ (by decide)
 have HPc:=zh (show At (lsW kZ gO gQ o1 q1 lg lq lu l5 l6 l7) gP 46 #[.int .i64 p.id,.string p.path,.string p.digest,.int .i64 p.opened,.int .i64 p.expires,.slice va vl vc] by
  unfold At
  rw[U0 _ _ _ _ _ _ _ _ _ _ _ gP l8 l9]
  exact bI.out)
 clear q0c q1c o0c o1c o2c q0f q1f o0f o1f o2f hne hne' l8 l9 HXQ HXO oQ yZ Sc qU bI
 go_upto_region 7 with fail
 have hLW:((((kZ.setCell ⟨gQ,0,none⟩ (.int .i64 (q1).next)).setCell ⟨gQ,1,none⟩ (.slice l6 (q1).props.length l7)).setCell ⟨gO,0,none⟩ (.int .i64 (o1).count)).setCell ⟨gO,1,none⟩ (.slice lg (o1).spaces.length lq)).setCell ⟨gO,2,none⟩ (.slice lu (o1).keys.length l5)=lsW kZ gO gQ o1 q1 lg lq lu l5 l6 l7:=rfl
 rw[hLW]
 clear hLW
 generalize lsW kZ gO gQ o1 q1 lg lq lu l5 l6 l7=zbv at*
 have oU:=HBc;have uo:=HPc;have Lx1:=zq
 clear HBc HPc zq
 have hag:=Hl q1 o1 5 _ _ _ zbv (HMX.out.below oU.out) Lx1.out.ps Lx1.out.sp Lx1.out.ks HAW.out.f1.lp HAW.out.f1.lv (by have:=HAW.out.f1.ls;omega) (by have:=HAW.out.f1.lk;omega) (fun x hx=>by have:=HAW.out.f1.lm x hx;omega)
 rw[HAW.out.a1] at hag
 have HAG:=zh hag
 clear hag
 obtain⟨q0c,q1c⟩:=Lx1.out.atQ.c2;obtain⟨o0c,o1c,o2c⟩:=Lx1.out.atO.c3
 go_wp2_with fail
 refine HAG.out.mono ?_
 rintro e lC ⟨rfl,hb⟩
 have uq:=zh (Lx1.out.below hb);have qV:=zh (oU.out.trans (hb.mono oU.out.size));have lD:=zh (uo.out.below hb uo.out.lt)
 clear hb q0c q1c o0c o1c o2c HAG Lx1 oU uo
 go_upto_region 9 with fail
 have Yo:=HPF.out.1;have Yp:=HPF.out.2.1;have Yq:=HPF.out.2.2.1;have hdl0:=HPF.out.2.2.2
 obtain⟨q0c,q1c⟩:=uq.out.atQ.c2;obtain⟨o0c,o1c,o2c⟩:=uq.out.atO.c3
 obtain⟨p0c,p1c,p2c,p3c,p4c,p5c⟩:=lD.out.c6
 have HXQ:=zh (zi q0c)
 have HXO:=zh (zi o0c)
 have Yr:=zh (Me 1 0 p true (.slice va vl vc) lC.drew (by omega) (by omega) Yo Yp Yq hdl0 A1 HA1.out (bi:=1) (ii:=0) rfl rfl)
 clear Yo Yp Yq hdl0
 go_wp2_with fail
 refine Lex.zm (fun k=>k=gQ\/k=gO) [0,1] 5 [5] ?_
 simp only[Lex.AA,zd]
 go_wp2_with fail
 refine Yr.out.mono ?_
 rintro e zbw ⟨cv,pv,rfl,hoc,hop,hb⟩
 have hbx:Below lC.heap.size lC zbw:=(Below.refl lC.heap.size lC).drew.trans hb
 have uw:=zh (uq.out.below hbx);have bJ:=zh (qV.out.trans (hbx.mono qV.out.size));have lF:=zh (lD.out.below hbx lD.out.lt);have oV:=zh hbx;have OC:=zh hoc;have OP:=zh hop
 clear hb hbx hoc hop q0c q1c o0c o1c o2c p0c p1c p2c p3c p4c p5c Yr
 have HVT:=zh (uw.out.Gm (HMX.out.below bJ.out) HAW.out.f1 5 true A1 OC.out OP.out HL1.out.1.symm HL1.out.2.1.symm (by have h1:=HL1.out.1;have h2:=HL1.out.2.1;have h3:=HL1.out.2.2;omega) HV2.out)
 go_wp2_with fail
 refine Lex.Mid.intro (fun k _ hkl=>oV.out.block _ hkl) ?_
 obtain⟨zcC,zcD,zcE,rfl⟩:=Ac OC.out
 obtain⟨zcF,zcG,zcH,rfl⟩:=Ac OP.out
 go_wp2_with fail
 refine HVT.out.mono ?_
 rintro e lG ⟨lH,lI,lJ,lK,lM,lN,rfl,hs,hk,hp,hb⟩
 dsimp only at hs hk hp ⊢
 have hbx:=oV.out.trans (hb.mono oV.out.size)
 have hlb:=uw.out.below hb
 have hlp:=hlb.put hs hk hp
 have hbw:=bJ.out.trans (hb.mono bJ.out.size)
 have bK:=zh (lF.out.below hb lF.out.lt);have zu:=zh hbx;have Sd:=zh hlb;have zw:=zh hlp;have qW:=zh hbw
 clear hs hk hp hb hbx hlb hlp hbw HVT uw bJ lF OC OP
 obtain⟨q0c,q1c⟩:=Sd.out.atQ.c2;obtain⟨o0c,o1c,o2c⟩:=Sd.out.atO.c3
 have q0f:=Sd.out.atQ.free 0;have q1f:=Sd.out.atQ.free 1;have o0f:=Sd.out.atO.free 0;have o1f:=Sd.out.atO.free 1;have o2f:=Sd.out.atO.free 2
 have hne:=Sd.out.ne
 have hne' : gQ≠gO:=fun e=>hne e.symm
 go_wp2_with fail
 refine Lex.zk ⟨⟨.inl rfl,HXQ.out⟩,⟨.inr rfl,HXO.out⟩,trivial⟩ ?_
 have HBc:=zh (qW.out.trans (Oq lG gO gQ o2 q2 lH lI lJ lK lM lN yX yY))
 have l8:gP≠gO:=bK.out.ne Sd.out.atO (by decide)
 have l9:gP≠gQ:=bK.out.ne Sd.out.atQ (by decide)
 have HPc:=zh (show At (lsW lG gO gQ o2 q2 lH lI lJ lK lM lN) gP 46 #[.int .i64 p.id,.string p.path,.string p.digest,.int .i64 p.opened,.int .i64 p.expires,.slice va vl vc] by
  unfold At
  rw[U0 _ _ _ _ _ _ _ _ _ _ _ gP l8 l9]
  exact bK.out)
 clear q0c q1c o0c o1c o2c q0f q1f o0f o1f o2f hne hne' l8 l9 HXQ HXO oV zu Sd qW bK
 go_upto_region 10 with fail
 have hLW:((((lG.setCell ⟨gQ,0,none⟩ (.int .i64 (q2).next)).setCell ⟨gQ,1,none⟩ (.slice lM (q2).props.length lN)).setCell ⟨gO,0,none⟩ (.int .i64 (o2).count)).setCell ⟨gO,1,none⟩ (.slice lH (o2).spaces.length lI)).setCell ⟨gO,2,none⟩ (.slice lJ (o2).keys.length lK)=lsW lG gO gQ o2 q2 lH lI lJ lK lM lN:=rfl
 rw[hLW]
 clear hLW
 generalize lsW lG gO gQ o2 q2 lH lI lJ lK lM lN=zbx at*
 have oW:=HBc;have uy:=HPc;have Lx2:=zw
 clear HBc HPc zw
 have hag:=Hl q2 o2 5 _ _ _ zbx (HMX.out.below oW.out) Lx2.out.ps Lx2.out.sp Lx2.out.ks HAW.out.f2.lp HAW.out.f2.lv (by have:=HAW.out.f2.ls;omega) (by have:=HAW.out.f2.lk;omega) (fun x hx=>by have:=HAW.out.f2.lm x hx;omega)
 rw[HAW.out.a2] at hag
 have HAG:=zh hag
 clear hag
 obtain⟨q0c,q1c⟩:=Lx2.out.atQ.c2;obtain⟨o0c,o1c,o2c⟩:=Lx2.out.atO.c3
 go_wp2_with fail
 refine HAG.out.mono ?_
 rintro e au ⟨rfl,hb⟩
 have fP:=zh (Lx2.out.below hb);have bL:=zh (oW.out.trans (hb.mono oW.out.size));have lQ:=zh (uy.out.below hb uy.out.lt)
 clear hb q0c q1c o0c o1c o2c HAG Lx2 oW uy
 go_upto_region 12 with fail
 have Yo:=HPF.out.1;have Yp:=HPF.out.2.1;have Yq:=HPF.out.2.2.1;have hdl0:=HPF.out.2.2.2
 obtain⟨q0c,q1c⟩:=fP.out.atQ.c2;obtain⟨o0c,o1c,o2c⟩:=fP.out.atO.c3
 obtain⟨p0c,p1c,p2c,p3c,p4c,p5c⟩:=lQ.out.c6
 have HXQ:=zh (zi q0c)
 have HXO:=zh (zi o0c)
 have Yr:=zh (fun W' => Me 2 0 p false (.slice va vl vc) W' (by omega) (by omega) Yo Yp Yq hdl0 A2 HA2.out (bi:=2) (ii:=0) rfl rfl)
 clear Yo Yp Yq hdl0
 go_wp2_with fail
 refine Lex.Df (fun k=>k=gQ\/k=gO) [0,1] [10,11] 14 [.pure 4,.call,.call,.pure 4,.new,.new] [1,1] (by kernel_rfl) (by kernel_rfl) (by kernel_rfl) ?_
 simp only[Lex.FD,Lex.AA,zd]
 have BD:=zh (show Below au.heap.size au au.drew from(Below.refl _ _).drew)
 have ZD:=zh (show au.drew.heap.size=au.heap.size by rw[Ad])
 go_wp2_with fail
 refine Lex.Hg.intro ?_
 intro zcI hg
 have lS:=zh (BD.out.trans (hg.mono BD.out.size));have lT:=zh hg
 clear hg q0c q1c o0c o1c o2c p0c p1c p2c p3c p4c p5c
 go_wp2_with fail
 refine(Yr.out _).mono ?_
 rintro e zcJ ⟨cv,pv,rfl,hoc,hop,hb⟩
 obtain⟨zcK,zcL,zcM,rfl⟩:=Ac hoc
 obtain⟨zcN,zcO,zcP,rfl⟩:=Ac hop
 have lU:=zh (lS.out.trans (hb.mono lS.out.size));have bM:=zh (lT.out.trans (hb.mono lT.out.size));have BB:=zh hb;have OC:=zh hoc;have OP:=zh hop
 clear hb hoc hop
 go_wp2_with fail
 refine Lex.KP.intro (fun k _ hkl=>bM.out.block _ hkl) (Lex.Kept.of_below BB.out) ?_
 intro zcQ hg
 have hbc:=lU.out.trans (hg.mono lU.out.size)
 have hlc:=fP.out.below hbc
 have HVT:=zh (hlc.Gm (HMX.out.below (bL.out.trans (hbc.mono bL.out.size))) HAW.out.f2 5 false A2 (own_below OC.out hg) (own_below OP.out hg) HL2.out.1.symm HL2.out.2.1.symm (by have h1:=HL2.out.1;have h2:=HL2.out.2.1;have h3:=HL2.out.2.2;omega) HV3.out)
 have lV:=zh hbc;have lW:=zh (bM.out.trans (hg.mono bM.out.size))
 clear hbc hlc hg BB OC OP Yr lS lT
 go_wp2_with fail
 refine HVT.out.mono ?_
 rintro e zcR ⟨oZ,pq,p9,pE,pF,pG,rfl,hs,hk,hp,hb⟩
 dsimp only at hs hk hp ⊢
 have lX:=zh (lV.out.trans (hb.mono lV.out.size));have bN:=zh (lW.out.trans (hb.mono lW.out.size));have BB:=zh hb
 have HS:=zh hs;have HK:=zh hk;have HPP:=zh hp
 clear hs hk hp hb HVT lU bM
 go_wp2_with fail
 refine Lex.KP.intro (fun k _ hkl=>bN.out.block _ hkl) (Lex.Kept.of_below BB.out) ?_
 go_wp2_with fail
 refine Lex.Hg.intro ?_
 intro zby hwe
 go_wp2_with fail
 refine Lex.Ni.intro (fun zcS hg hkk _=>?_)
 have hs:=hkk.at_
 obtain⟨Tj,hgq⟩:∃ g,g=zby.heap.size:=⟨_,rfl⟩
 have zx:au.heap.size<=Tj:=by rw[hgq,<- ZD.out];exact hwe
 rw[<- hgq] at hs
 have lY:=zh (lX.out.trans (hg.mono lX.out.size));have lZ:=zh (bN.out.trans (hg.mono bN.out.size));have mg:=zh hs;have HS1:=zh (HS.out.below hg);have HK1:=zh (HK.out.below hg);have zy:=zh (HPP.out.below hg)
 rw[<- hgq]
 clear hg hkk hs hgq hwe HS HK HPP BB lV lW
 intro zbz hwh
 go_wp2_with fail
 refine Lex.Ni.intro (fun mh hg hkk _=>?_)
 have hs:=hkk.at_
 obtain⟨Tk,hgo⟩:∃ g,g=zbz.heap.size:=⟨_,rfl⟩
 have z8:au.heap.size<=Tk:=by rw[hgo,<- ZD.out];exact hwh
 rw[<- hgo] at hs
 have hlz:LS mh Tk Tj Own.Ak.none Own.Queue.none none 0 none 0 none 0:=⟨hs,mg.out.below hg mg.out.lt,Ag.nil _ _,Ag.nil _ _,Ag.nil _ _⟩
 have PD:=zh hlz
 have hlp:=hlz.put (HS1.out.below hg) (HK1.out.below hg) (zy.out.below hg)
 have hbe:=lY.out.trans (hg.mono lY.out.size)
 have hbw:=hbe.trans (Oq mh Tk Tj o3 q3 oZ pq p9 pE pF pG z8 zx)
 have mq:=zh (lZ.out.trans (hg.mono lZ.out.size));have fQ:=zh hlp;have zA:=zh (fP.out.below hbw);have zB:=zh (lQ.out.below hbw lQ.out.lt);have bO:=zh (bL.out.trans (hbw.mono bL.out.size))
 rw[<- hgo]
 clear hg hkk hs hgo hwh hlz hlp hbe hbw HS1 HK1 zy mg lY lZ lX bN
 have q0c:=PD.out.atQ.cell 0;have q1c:=PD.out.atQ.cell 1;have o0c:=PD.out.atO.cell 0;have o1c:=PD.out.atO.cell 1;have o2c:=PD.out.atO.cell 2
 simp only[List.getElem?_toArray,List.getElem?_cons_zero,List.getElem?_cons_succ,Own.Ak.none,Own.Queue.none,List.length_nil] at q0c q1c o0c o1c o2c
 have q0f:=PD.out.atQ.free 0;have q1f:=PD.out.atQ.free 1;have o0f:=PD.out.atO.free 0;have o1f:=PD.out.atO.free 1;have o2f:=PD.out.atO.free 2
 have hne:=PD.out.ne
 have hne' : Tj≠Tk:=fun e=>hne e.symm
 have hlQ:=fP.out.atQ.lt;have hlO:=fP.out.atO.lt
 go_wp2_with fail
 refine Lex.Mid.intro (fun k hk hkl=>by
  have h3:k≠Tj:=by rcases hk with hk|hk<;>omega
  rw[zo h3,zo h3]
  exact mq.out.block _ hkl) ?_
 go_wp2_with fail
 refine Lex.Mid.intro (fun k hk hkl=>by
  have h3:k≠Tj:=by rcases hk with hk|hk<;>omega
  have h4:k≠Tk:=by rcases hk with hk|hk<;>omega
  rw[zo h4,zo h4,zo h4,zo h3,zo h3]
  exact mq.out.block _ hkl) ?_
 go_wp2_with fail
 refine Lex.zk ⟨⟨.inl rfl,HXQ.out⟩,⟨.inr rfl,HXO.out⟩,trivial⟩ ?_
 clear q0c q1c o0c o1c o2c q0f q1f o0f o1f o2f hne hne' hlQ hlO HXQ HXO PD mq BD ZD
 go_upto_region 13 with fail
 have hLW:((((mh.setCell ⟨Tj,0,none⟩ (.int .i64 q3.next)).setCell ⟨Tj,1,none⟩ (.slice pF q3.props.length pG)).setCell ⟨Tk,0,none⟩ (.int .i64 o3.count)).setCell ⟨Tk,1,none⟩ (.slice oZ o3.spaces.length pq)).setCell ⟨Tk,2,none⟩ (.slice p9 o3.keys.length pE)=lsW mh Tk Tj o3 q3 oZ pq p9 pE pF pG:=rfl
 rw[hLW]
 clear hLW
 generalize lsW mh Tk Tj o3 q3 oZ pq p9 pE pF pG=wx4 at*
 have hag:=Hl q3 o3 5 _ _ _ wx4 (HMX.out.below bO.out) fQ.out.ps fQ.out.sp fQ.out.ks HAW.out.f3.lp HAW.out.f3.lv (by have:=HAW.out.f3.ls;omega) (by have:=HAW.out.f3.lk;omega) (fun x hx=>by have:=HAW.out.f3.lm x hx;omega)
 rw[HAW.out.a3] at hag
 have HAG:=zh hag
 clear hag
 obtain⟨q0c,q1c⟩:=fQ.out.atQ.c2;obtain⟨o0c,o1c,o2c⟩:=fQ.out.atO.c3
 go_wp2_with fail
 refine HAG.out.mono ?_
 rintro e w8 ⟨rfl,hb⟩
 have L8:=zh (zA.out.below hb);have HB8:=zh (bO.out.trans (hb.mono bO.out.size))
 clear hb q0c q1c o0c o1c o2c HAG fQ zA bO zB
 go_upto_region 15 with fail
 have uz:=Pf q2 o2 13 5 _ _ _ w8 (HMX.out.below HB8.out) L8.out.ps L8.out.sp L8.out.ks HAW.out.f2.lp HAW.out.f2.lv (by have:=HAW.out.f2.ls;omega) (by have:=HAW.out.f2.lk;omega) (fun x hx=>by have:=HAW.out.f2.lm x hx;omega)
 rw[HAW.out.m13] at uz
 have zC:=zh uz
 clear uz
 obtain⟨q0c,q1c⟩:=L8.out.atQ.c2;obtain⟨o0c,o1c,o2c⟩:=L8.out.atO.c3
 go_wp2_with fail
 refine zC.out.mono ?_
 rintro e w9 ⟨⟨qv9,pv9,rfl,_,_⟩,hb⟩
 have L9:=zh (L8.out.below hb);have HB9:=zh (HB8.out.trans (hb.mono HB8.out.size))
 clear hb q0c q1c o0c o1c o2c zC L8 HB8
 go_upto_region 16 with fail
 have u6:=Pf q2 o2 12 5 _ _ _ w9 (HMX.out.below HB9.out) L9.out.ps L9.out.sp L9.out.ks HAW.out.f2.lp HAW.out.f2.lv (by have:=HAW.out.f2.ls;omega) (by have:=HAW.out.f2.lk;omega) (fun x hx=>by have:=HAW.out.f2.lm x hx;omega)
 rw[HAW.out.m12] at u6
 have zF:=zh u6
 clear u6
 obtain⟨q0c,q1c⟩:=L9.out.atQ.c2;obtain⟨o0c,o1c,o2c⟩:=L9.out.atO.c3
 go_wp2_with fail
 refine zF.out.mono ?_
 rintro e w10 ⟨⟨zcT,zcU,rfl,⟨zcV,rfl,Yt⟩,zG⟩,hb⟩
 obtain⟨u7,uD,rfl⟩:=Yt.len
 obtain⟨uE,uF,rfl⟩:=zG.len
 have L10:=zh (L9.out.below hb);have Yg:=zh (HB9.out.trans (hb.mono HB9.out.size));have HMI:=zh HAW.out.mid
 dsimp only[List.length_nil]
 clear hb q0c q1c o0c o1c o2c zF L9 HB9 Yt zG
 obtain⟨mid,mpa,mdi,mop,mex,mvs⟩:=m
 dsimp only at HMI ⊢
 obtain rfl:mid=5:=HMI.out
 clear HMI
 go_upto_region 17 with fail
 have B11:=zh (show Ap w10 _ [(24,#[.int .i64 6,.slice u7 0 uD]),(46,#[.int .i64 5,.string mpa,.string mdi,.int .i64 mop,.int .i64 mex,.slice uE mvs.length uF])] from(((BL.nil w10).push 24 #[.int .i64 6,.slice u7 0 uD]).push 46 #[.int .i64 5,.string mpa,.string mdi,.int .i64 mop,.int .i64 mex,.slice uE mvs.length uF]).boxes)
 have L11:=zh (L10.out.below B11.out.under);have X5:=zh (Yg.out.trans (B11.out.under.mono Yg.out.size))
 clear L10 Yg
 generalize ((w10.alloc (.cells #[.int .i64 6,.slice u7 0 uD] 24)).alloc (.cells #[.int .i64 5,.string mpa,.string mdi,.int .i64 mop,.int .i64 mex,.slice uE mvs.length uF] 46))=w11 at*
 have hwd:=RI q2 5 _ w11 (HMX.out.below X5.out) L11.out.ps HAW.out.f2.lp HAW.out.f2.lv
 rw[HAW.out.wd] at hwd
 have HWD:=zh hwd
 clear hwd
 obtain⟨q0c,q1c⟩:=L11.out.atQ.c2
 go_wp2_with fail
 refine HWD.out.mono ?_
 rintro e w12 ⟨⟨zcW,rfl,zcX,rfl,hpo⟩,hb⟩
 obtain⟨uG,uH,rfl⟩:=hpo.one
 dsimp only[List.length_nil]
 have B12:=zh (B11.out.step hb);have L12:=zh (L11.out.below hb);have uI:=zh (X5.out.trans (hb.mono X5.out.size))
 have zbS:=B12.out.size
 clear hb q0c q1c HWD hpo L11 X5 B11
 have C13:=zh (show Ap w12 _ [(24,#[.int .i64 6,.slice uG 0 uH])] from((BL.nil w12).push 24 #[.int .i64 6,.slice uG 0 uH]).boxes)
 have B13:=zh (B12.out.step C13.out.under);have L13:=zh (L12.out.below C13.out.under);have uJ:=zh (uI.out.trans (C13.out.under.mono uI.out.size))
 clear L12 uI B12
 go_upto_region 18 with fail
 generalize (w12.alloc (.cells #[.int .i64 6,.slice uG 0 uH] 24))=w13 at*
 have hex:=Vx q2 13 _ w13 (HMX.out.below uJ.out) L13.out.ps HAW.out.f2.lp HAW.out.f2.lv
 rw[HAW.out.ex] at hex
 have HEX:=zh hex
 clear hex
 obtain⟨q0c,q1c⟩:=L13.out.atQ.c2
 obtain⟨x00,x01⟩:=B13.out.Dw rfl
 have x10:w13.cell? ⟨w10.heap.size+1,0,none⟩=some (.int .i64 5):=B13.out.cell 1 0 rfl rfl
 obtain⟨y00,y01⟩:=C13.out.Dw rfl
 go_wp2_with fail
 refine HEX.out.mono ?_
 rintro e w14 ⟨⟨zcY,rfl,zcZ,rfl,hpo⟩,hb⟩
 obtain⟨zda,zdb,rfl⟩:=hpo.one
 dsimp only[List.length_nil]
 have zb0:=zh (uJ.out.trans (hb.mono uJ.out.size))
 clear hb hpo
 go_wp2_with fail
 rw[Ym]
 go_wp2_with fail
 go_ret
 exact⟨rfl,zb0.out⟩
theorem VT (D:Nat)(a c:Bool)(w:World):(Op.equalIn (D+1) 4 (.bool a) (.bool c)).run Tryz.prog w=.ok (a==c) w:=by
 rw[Op.equalIn]
 simp[Tryz.underlying4]
theorem Yu (D:Nat)(a c:Int)(w:World):(Op.equalIn (D+1) 3 (.int .i64 a) (.int .i64 c)).run Tryz.prog w=.ok (a==c) w:=by
 rw[Op.equalIn]
 simp[Tryz.underlying3]
theorem Nt (a:ByteArray):(a==a)=true:=by rw[ZT];simp
theorem PE (a b:ByteArray)(w:World):(binOp .neq 73 (.agg #[.string a,.string b]) (.agg #[.string a,.string b])).run Tryz.prog w=.ok (.bool false) w:=by
 have h2:(Op.equal 73 (.agg #[.string a,.string b]) (.agg #[.string a,.string b])).run Tryz.prog w=.ok ((a==a)&&(b==b)) w:=Kk 9998 a b a b w
 rw[Nt,Nt] at h2
 simp[binOp,h2,Result.andThen]
theorem Tn (a b:ByteArray)(c:Bool)(w:World):(binOp .neq 82 (.agg #[.string a,.string b,.bool c]) (.agg #[.string a,.string b,.bool c])).run Tryz.prog w=.ok (.bool false) w:=by
 have hs:Tryz.prog.stoodInHeld 82=false:=by kernel_rfl
 have e1:=DF 9998 a a w
 have e2:=DF 9998 b b w
 have e3:=VT 9998 c c w
 have s1:∀ w,(sizeOf 9).run Tryz.prog w=.ok 1 w:=fun w=>by kernel_rfl
 have s2:∀ w,(isAgg 9).run Tryz.prog w=.ok false w:=fun w=>by kernel_rfl
 have s3:∀ w,(sizeOf 4).run Tryz.prog w=.ok 1 w:=fun w=>by kernel_rfl
 have s4:∀ w,(isAgg 4).run Tryz.prog w=.ok false w:=fun w=>by kernel_rfl
 have h2:(Op.equal 82 (.agg #[.string a,.string b,.bool c]) (.agg #[.string a,.string b,.bool c])).run Tryz.prog w=.ok true w:=by
  show(Op.equalIn (9998+2) 82 _ _).run Tryz.prog w=_
  rw[Nt] at e1 e2
  rw[Op.equalIn]
  simp[Tryz.underlying82,hs,part,e1,e2,e3,s1,s2,s3,s4,Result.andThen]
 simp[binOp,h2,Result.andThen]
theorem VU (a:ByteArray)(c:Int)(w:World):(binOp .neq 91 (.agg #[.string a,.int .i64 c]) (.agg #[.string a,.int .i64 c])).run Tryz.prog w=.ok (.bool false) w:=by
 have hs:Tryz.prog.stoodInHeld 91=false:=by kernel_rfl
 have e1:=DF 9998 a a w
 have e3:=Yu 9998 c c w
 have s1:∀ w,(sizeOf 9).run Tryz.prog w=.ok 1 w:=fun w=>by kernel_rfl
 have s2:∀ w,(isAgg 9).run Tryz.prog w=.ok false w:=fun w=>by kernel_rfl
 have s3:∀ w,(sizeOf 3).run Tryz.prog w=.ok 1 w:=fun w=>by kernel_rfl
 have s4:∀ w,(isAgg 3).run Tryz.prog w=.ok false w:=fun w=>by kernel_rfl
 have h2:(Op.equal 91 (.agg #[.string a,.int .i64 c]) (.agg #[.string a,.int .i64 c])).run Tryz.prog w=.ok true w:=by
  show(Op.equalIn (9998+2) 91 _ _).run Tryz.prog w=_
  rw[Nt] at e1
  rw[Op.equalIn]
  simp[Tryz.underlying91,hs,part,e1,e3,s1,s2,s3,s4,Result.andThen]
 simp[binOp,h2,Result.andThen]
theorem VW (p:Own.Aa)(v1 v2:Value)(w:World)(h1:Own.Br w v1 p.Al)(h2:Own.Br w v2 p.Al)(hl:p.Al.length<=140737488355328):
 Calls Tryz.prog 32 #[.agg #[.int .i64 p.id,.string p.path,.string p.digest,.int .i64 p.opened,.int .i64 p.expires,v1],.agg #[.int .i64 p.id,.string p.path,.string p.digest,.int .i64 p.opened,.int .i64 p.expires,v2]] w fun e w' => e=.returned (.bool true)/\Below w.heap.size w w':=by
 obtain⟨id,pa,di,op,ex,l⟩:=p
 dsimp only at*
 obtain⟨a1,c1,rfl⟩:=h1.len
 obtain⟨a2,c2,rfl⟩:=h2.len
 have F1:=zh (show Ap w _ [(46,#[.int .i64 id,.string pa,.string di,.int .i64 op,.int .i64 ex,.slice a1 l.length c1]),(46,#[.int .i64 id,.string pa,.string di,.int .i64 op,.int .i64 ex,.slice a2 l.length c2])] from(((BL.nil w).push 46 #[.int .i64 id,.string pa,.string di,.int .i64 op,.int .i64 ex,.slice a1 l.length c1]).push 46 #[.int .i64 id,.string pa,.string di,.int .i64 op,.int .i64 ex,.slice a2 l.length c2]).boxes)
 have x00:((w.alloc (.cells #[.int .i64 id,.string pa,.string di,.int .i64 op,.int .i64 ex,.slice a1 l.length c1] 46)).alloc (.cells #[.int .i64 id,.string pa,.string di,.int .i64 op,.int .i64 ex,.slice a2 l.length c2] 46)).cell? ⟨w.heap.size,0,none⟩=some (.int .i64 id):=F1.out.cell 0 0 rfl rfl
 have x01:((w.alloc (.cells #[.int .i64 id,.string pa,.string di,.int .i64 op,.int .i64 ex,.slice a1 l.length c1] 46)).alloc (.cells #[.int .i64 id,.string pa,.string di,.int .i64 op,.int .i64 ex,.slice a2 l.length c2] 46)).cell? ⟨w.heap.size,1,none⟩=some (.string pa):=F1.out.cell 0 1 rfl rfl
 have x02:((w.alloc (.cells #[.int .i64 id,.string pa,.string di,.int .i64 op,.int .i64 ex,.slice a1 l.length c1] 46)).alloc (.cells #[.int .i64 id,.string pa,.string di,.int .i64 op,.int .i64 ex,.slice a2 l.length c2] 46)).cell? ⟨w.heap.size,2,none⟩=some (.string di):=F1.out.cell 0 2 rfl rfl
 have x03:((w.alloc (.cells #[.int .i64 id,.string pa,.string di,.int .i64 op,.int .i64 ex,.slice a1 l.length c1] 46)).alloc (.cells #[.int .i64 id,.string pa,.string di,.int .i64 op,.int .i64 ex,.slice a2 l.length c2] 46)).cell? ⟨w.heap.size,3,none⟩=some (.int .i64 op):=F1.out.cell 0 3 rfl rfl
 have x04:((w.alloc (.cells #[.int .i64 id,.string pa,.string di,.int .i64 op,.int .i64 ex,.slice a1 l.length c1] 46)).alloc (.cells #[.int .i64 id,.string pa,.string di,.int .i64 op,.int .i64 ex,.slice a2 l.length c2] 46)).cell? ⟨w.heap.size,4,none⟩=some (.int .i64 ex):=F1.out.cell 0 4 rfl rfl
 have x05:((w.alloc (.cells #[.int .i64 id,.string pa,.string di,.int .i64 op,.int .i64 ex,.slice a1 l.length c1] 46)).alloc (.cells #[.int .i64 id,.string pa,.string di,.int .i64 op,.int .i64 ex,.slice a2 l.length c2] 46)).cell? ⟨w.heap.size,5,none⟩=some (.slice a1 l.length c1):=F1.out.cell 0 5 rfl rfl
 have x10:((w.alloc (.cells #[.int .i64 id,.string pa,.string di,.int .i64 op,.int .i64 ex,.slice a1 l.length c1] 46)).alloc (.cells #[.int .i64 id,.string pa,.string di,.int .i64 op,.int .i64 ex,.slice a2 l.length c2] 46)).cell? ⟨w.heap.size+1,0,none⟩=some (.int .i64 id):=F1.out.cell 1 0 rfl rfl
 have x11:((w.alloc (.cells #[.int .i64 id,.string pa,.string di,.int .i64 op,.int .i64 ex,.slice a1 l.length c1] 46)).alloc (.cells #[.int .i64 id,.string pa,.string di,.int .i64 op,.int .i64 ex,.slice a2 l.length c2] 46)).cell? ⟨w.heap.size+1,1,none⟩=some (.string pa):=F1.out.cell 1 1 rfl rfl
 have x12:((w.alloc (.cells #[.int .i64 id,.string pa,.string di,.int .i64 op,.int .i64 ex,.slice a1 l.length c1] 46)).alloc (.cells #[.int .i64 id,.string pa,.string di,.int .i64 op,.int .i64 ex,.slice a2 l.length c2] 46)).cell? ⟨w.heap.size+1,2,none⟩=some (.string di):=F1.out.cell 1 2 rfl rfl
 have x13:((w.alloc (.cells #[.int .i64 id,.string pa,.string di,.int .i64 op,.int .i64 ex,.slice a1 l.length c1] 46)).alloc (.cells #[.int .i64 id,.string pa,.string di,.int .i64 op,.int .i64 ex,.slice a2 l.length c2] 46)).cell? ⟨w.heap.size+1,3,none⟩=some (.int .i64 op):=F1.out.cell 1 3 rfl rfl
 have x14:((w.alloc (.cells #[.int .i64 id,.string pa,.string di,.int .i64 op,.int .i64 ex,.slice a1 l.length c1] 46)).alloc (.cells #[.int .i64 id,.string pa,.string di,.int .i64 op,.int .i64 ex,.slice a2 l.length c2] 46)).cell? ⟨w.heap.size+1,4,none⟩=some (.int .i64 ex):=F1.out.cell 1 4 rfl rfl
 have x15:((w.alloc (.cells #[.int .i64 id,.string pa,.string di,.int .i64 op,.int .i64 ex,.slice a1 l.length c1] 46)).alloc (.cells #[.int .i64 id,.string pa,.string di,.int .i64 op,.int .i64 ex,.slice a2 l.length c2] 46)).cell? ⟨w.heap.size+1,5,none⟩=some (.slice a2 l.length c2):=F1.out.cell 1 5 rfl rfl
 have H1:=zh h1;have H2:=zh h2
 clear h1 h2
 go_enter Tryz.func32,Tryz.ntmps32
 go_wp2_with fail
 generalize ((w.alloc (.cells #[.int .i64 id,.string pa,.string di,.int .i64 op,.int .i64 ex,.slice a1 l.length c1] 46)).alloc (.cells #[.int .i64 id,.string pa,.string di,.int .i64 op,.int .i64 ex,.slice a2 l.length c2] 46))=w1 at*
 go_loopw [5] (fun i wr=>∃ k:Nat,k<=l.length/\i=.int .i64 k/\Below w1.heap.size w1 wr) (fun i _=>l.length-(intOf i).toNat)
 case atStart=>exact⟨0,by omega,rfl,Below.refl _ _⟩
 case round=>
  obtain⟨k,hk,rfl,hb⟩:=hrel
  have HBW:=zh hb;have FR:=zh (F1.out.step hb)
  clear hb
  (try clear x00);(try clear x01);(try clear x02);(try clear x03);(try clear x04);(try clear x05);(try clear x10);(try clear x11);(try clear x12);(try clear x13);(try clear x14);(try clear x15)
  have x05:wr.cell? ⟨w.heap.size,5,none⟩=some (.slice a1 l.length c1):=FR.out.cell 0 5 rfl rfl
  have x15:wr.cell? ⟨w.heap.size+1,5,none⟩=some (.slice a2 l.length c2):=FR.out.cell 1 5 rfl rfl
  by_cases hlt:k<l.length
  case neg=>
   have dk:decide ((k:Int)<l.length)=false:=zf
   go_wp2_with fail
   go_ret
   exact⟨rfl,FR.out.under⟩
  have dk:decide ((k:Int)<l.length)=true:=zt
  obtain⟨b,o,ha,hbl,e0,e1,e2⟩:=Own.Br.cells (H1.out.below FR.out.under) hlt
  obtain⟨b',o',ha',Py,e0',e1',e2'⟩:=Own.Br.cells (H2.out.below FR.out.under) hlt
  subst ha
  subst ha'
  obtain⟨x,hx⟩:∃ x,x=l[k]:=⟨_,rfl⟩
  rw[<- hx] at e0 e1 e2 e0' e1' e2'
  obtain⟨n,pu,ag⟩:=x
  dsimp only at e0 e1 e2 e0' e1' e2'
  have hne:=Tn n pu ag
  clear hx
  go_wp2_with fail
  go_quiet (fail)
  go_wp2_with fail
  go_round
  case measure=>simp[intOf];omega
  case rel=>exact⟨k+1,by omega,by go_num,below_drewN HBW.out nq⟩
theorem Yv (q:Own.Queue)(v1 v2:Value)(w:World)(h1:Own.A9 w v1 q.props)(h2:Own.A9 w v2 q.props)(hl:q.props.length<=140737488355328)(hv:∀ p∈q.props,p.Al.length<=140737488355328):
 Calls Tryz.prog 18 #[.agg #[.int .i64 q.next,v1],.agg #[.int .i64 q.next,v2]] w fun e w' => e=.returned (.bool true)/\Below w.heap.size w w':=by
 obtain⟨nx,l⟩:=q
 dsimp only at*
 obtain⟨a1,c1,rfl⟩:=h1.len
 obtain⟨a2,c2,rfl⟩:=h2.len
 have F1:=zh (show Ap w _ [(24,#[.int .i64 nx,.slice a1 l.length c1]),(24,#[.int .i64 nx,.slice a2 l.length c2])] from(((BL.nil w).push 24 #[.int .i64 nx,.slice a1 l.length c1]).push 24 #[.int .i64 nx,.slice a2 l.length c2]).boxes)
 have x00:((w.alloc (.cells #[.int .i64 nx,.slice a1 l.length c1] 24)).alloc (.cells #[.int .i64 nx,.slice a2 l.length c2] 24)).cell? ⟨w.heap.size,0,none⟩=some (.int .i64 nx):=F1.out.cell 0 0 rfl rfl
 have x01:((w.alloc (.cells #[.int .i64 nx,.slice a1 l.length c1] 24)).alloc (.cells #[.int .i64 nx,.slice a2 l.length c2] 24)).cell? ⟨w.heap.size,1,none⟩=some (.slice a1 l.length c1):=F1.out.cell 0 1 rfl rfl
 have x10:((w.alloc (.cells #[.int .i64 nx,.slice a1 l.length c1] 24)).alloc (.cells #[.int .i64 nx,.slice a2 l.length c2] 24)).cell? ⟨w.heap.size+1,0,none⟩=some (.int .i64 nx):=F1.out.cell 1 0 rfl rfl
 have x11:((w.alloc (.cells #[.int .i64 nx,.slice a1 l.length c1] 24)).alloc (.cells #[.int .i64 nx,.slice a2 l.length c2] 24)).cell? ⟨w.heap.size+1,1,none⟩=some (.slice a2 l.length c2):=F1.out.cell 1 1 rfl rfl
 have H1:=zh h1;have H2:=zh h2;have HV:=zh hv
 clear h1 h2 hv
 go_enter Tryz.func18,Tryz.ntmps18
 go_wp2_with fail
 generalize ((w.alloc (.cells #[.int .i64 nx,.slice a1 l.length c1] 24)).alloc (.cells #[.int .i64 nx,.slice a2 l.length c2] 24))=w1 at*
 go_loopw [5] (fun i wr=>∃ k:Nat,k<=l.length/\i=.int .i64 k/\Below w1.heap.size w1 wr) (fun i _=>l.length-(intOf i).toNat)
 case atStart=>exact⟨0,by omega,rfl,Below.refl _ _⟩
 case round=>
  obtain⟨k,hk,rfl,hb⟩:=hrel
  have HBW:=zh hb;have FR:=zh (F1.out.step hb)
  clear hb
  (try clear x00);(try clear x01);(try clear x10);(try clear x11)
  have x01:wr.cell? ⟨w.heap.size,1,none⟩=some (.slice a1 l.length c1):=FR.out.cell 0 1 rfl rfl
  have x11:wr.cell? ⟨w.heap.size+1,1,none⟩=some (.slice a2 l.length c2):=FR.out.cell 1 1 rfl rfl
  by_cases hlt:k<l.length
  case neg=>
   have dk:decide ((k:Int)<l.length)=false:=zf
   go_wp2_with fail
   go_ret
   exact⟨rfl,FR.out.under⟩
  have dk:decide ((k:Int)<l.length)=true:=zt
  obtain⟨b,o,u,ha,hbl,e0,e1,e2,e3,e4,e5,hu⟩:=Own.A9.cells (H1.out.below FR.out.under) hlt
  obtain⟨b',o',u',ha',Py,e0',e1',e2',e3',e4',e5',hu'⟩:=Own.A9.cells (H2.out.below FR.out.under) hlt
  subst ha
  subst ha'
  have hvl:=HV.out l[k] (List.getElem_mem hlt)
  obtain⟨x,hx⟩:∃ x,x=l[k]:=⟨_,rfl⟩
  rw[<- hx] at e0 e1 e2 e3 e4 e0' e1' e2' e3' e4' hu hu' hvl
  have hsp:=VW x u u' wr.drew (hu.below (Below.refl _ _).drew) (hu'.below (Below.refl _ _).drew) hvl
  have HSP:=zh hsp
  clear hx hsp hu hu'
  go_wp2_with fail
  refine Lex.zl ?_
  go_wp2_with fail
  refine HSP.out.mono ?_
  rintro e w2 ⟨rfl,hb⟩
  have HB2:=zh (HBW.out.trans (((Below.refl wr.heap.size wr).drew.trans hb).mono HBW.out.size))
  clear hb
  go_wp2_with fail
  refine Lex.ze ?_
  go_wp2_with fail
  go_round
  case measure=>simp[intOf];omega
  case rel=>exact⟨k+1,by omega,by go_num,HB2.out⟩
theorem VX (s:Own.Space)(v1 v2:Value)(w:World)(h1:Own.Ar w v1 s.members)(h2:Own.Ar w v2 s.members)(hl:s.members.length<=140737488355328):
 Calls Tryz.prog 71 #[.agg #[.string s.pre,v1,.int .i64 s.threshold],.agg #[.string s.pre,v2,.int .i64 s.threshold]] w fun e w' => e=.returned (.bool true)/\Below w.heap.size w w':=by
 obtain⟨pre,l,th⟩:=s
 dsimp only at*
 obtain⟨a1,c1,rfl⟩:=h1.len
 obtain⟨a2,c2,rfl⟩:=h2.len
 have F1:=zh (show Ap w _ [(70,#[.string pre,.slice a1 l.length c1,.int .i64 th]),(70,#[.string pre,.slice a2 l.length c2,.int .i64 th])] from(((BL.nil w).push 70 #[.string pre,.slice a1 l.length c1,.int .i64 th]).push 70 #[.string pre,.slice a2 l.length c2,.int .i64 th]).boxes)
 have x00:((w.alloc (.cells #[.string pre,.slice a1 l.length c1,.int .i64 th] 70)).alloc (.cells #[.string pre,.slice a2 l.length c2,.int .i64 th] 70)).cell? ⟨w.heap.size,0,none⟩=some (.string pre):=F1.out.cell 0 0 rfl rfl
 have x01:((w.alloc (.cells #[.string pre,.slice a1 l.length c1,.int .i64 th] 70)).alloc (.cells #[.string pre,.slice a2 l.length c2,.int .i64 th] 70)).cell? ⟨w.heap.size,1,none⟩=some (.slice a1 l.length c1):=F1.out.cell 0 1 rfl rfl
 have x02:((w.alloc (.cells #[.string pre,.slice a1 l.length c1,.int .i64 th] 70)).alloc (.cells #[.string pre,.slice a2 l.length c2,.int .i64 th] 70)).cell? ⟨w.heap.size,2,none⟩=some (.int .i64 th):=F1.out.cell 0 2 rfl rfl
 have x10:((w.alloc (.cells #[.string pre,.slice a1 l.length c1,.int .i64 th] 70)).alloc (.cells #[.string pre,.slice a2 l.length c2,.int .i64 th] 70)).cell? ⟨w.heap.size+1,0,none⟩=some (.string pre):=F1.out.cell 1 0 rfl rfl
 have x11:((w.alloc (.cells #[.string pre,.slice a1 l.length c1,.int .i64 th] 70)).alloc (.cells #[.string pre,.slice a2 l.length c2,.int .i64 th] 70)).cell? ⟨w.heap.size+1,1,none⟩=some (.slice a2 l.length c2):=F1.out.cell 1 1 rfl rfl
 have x12:((w.alloc (.cells #[.string pre,.slice a1 l.length c1,.int .i64 th] 70)).alloc (.cells #[.string pre,.slice a2 l.length c2,.int .i64 th] 70)).cell? ⟨w.heap.size+1,2,none⟩=some (.int .i64 th):=F1.out.cell 1 2 rfl rfl
 have H1:=zh h1;have H2:=zh h2
 clear h1 h2
 go_enter Tryz.func71,Tryz.ntmps71
 go_wp2_with fail
 generalize ((w.alloc (.cells #[.string pre,.slice a1 l.length c1,.int .i64 th] 70)).alloc (.cells #[.string pre,.slice a2 l.length c2,.int .i64 th] 70))=w1 at*
 go_loopw [5] (fun i wr=>∃ k:Nat,k<=l.length/\i=.int .i64 k/\Below w1.heap.size w1 wr) (fun i _=>l.length-(intOf i).toNat)
 case atStart=>exact⟨0,by omega,rfl,Below.refl _ _⟩
 case round=>
  obtain⟨k,hk,rfl,hb⟩:=hrel
  have HBW:=zh hb;have FR:=zh (F1.out.step hb)
  clear hb
  (try clear x00);(try clear x01);(try clear x02);(try clear x10);(try clear x11);(try clear x12)
  have x01:wr.cell? ⟨w.heap.size,1,none⟩=some (.slice a1 l.length c1):=FR.out.cell 0 1 rfl rfl
  have x11:wr.cell? ⟨w.heap.size+1,1,none⟩=some (.slice a2 l.length c2):=FR.out.cell 1 1 rfl rfl
  by_cases hlt:k<l.length
  case neg=>
   have dk:decide ((k:Int)<l.length)=false:=zf
   go_wp2_with fail
   go_ret
   exact⟨rfl,FR.out.under⟩
  have dk:decide ((k:Int)<l.length)=true:=zt
  obtain⟨b,o,ha,hbl,e0,e1⟩:=Own.Ar.cells (H1.out.below FR.out.under) hlt
  obtain⟨b',o',ha',Py,e0',e1'⟩:=Own.Ar.cells (H2.out.below FR.out.under) hlt
  subst ha
  subst ha'
  obtain⟨x,hx⟩:∃ x,x=l[k]:=⟨_,rfl⟩
  rw[<- hx] at e0 e1 e0' e1'
  obtain⟨n,pu⟩:=x
  dsimp only at e0 e1 e0' e1'
  have hne:=PE n pu
  clear hx
  go_wp2_with fail
  go_quiet (fail)
  go_wp2_with fail
  go_round
  case measure=>simp[intOf];omega
  case rel=>exact⟨k+1,by omega,by go_num,below_drewN HBW.out nq⟩
theorem Yw (q:Own.Ak)(v1 v2 k1 k2:Value)(w:World)(h1:Own.AJ w v1 q.spaces)(h2:Own.AJ w v2 q.spaces)(g1:Own.Bo w k1 q.keys)(g2:Own.Bo w k2 q.keys)(hl:q.spaces.length<=140737488355328)(hk:q.keys.length<=140737488355328)(hv:∀ p∈q.spaces,p.members.length<=140737488355328):
 Calls Tryz.prog 27 #[.agg #[.int .i64 q.count,v1,k1],.agg #[.int .i64 q.count,v2,k2]] w fun e w' => e=.returned (.bool true)/\Below w.heap.size w w':=by
 obtain⟨nx,l,K⟩:=q
 dsimp only at*
 obtain⟨a1,c1,rfl⟩:=h1.len
 obtain⟨a2,c2,rfl⟩:=h2.len
 obtain⟨b1,d1,rfl⟩:=g1.len
 obtain⟨b2,d2,rfl⟩:=g2.len
 have F1:=zh (show Ap w _ [(38,#[.int .i64 nx,.slice a1 l.length c1,.slice b1 K.length d1]),(38,#[.int .i64 nx,.slice a2 l.length c2,.slice b2 K.length d2])] from(((BL.nil w).push 38 #[.int .i64 nx,.slice a1 l.length c1,.slice b1 K.length d1]).push 38 #[.int .i64 nx,.slice a2 l.length c2,.slice b2 K.length d2]).boxes)
 have x00:((w.alloc (.cells #[.int .i64 nx,.slice a1 l.length c1,.slice b1 K.length d1] 38)).alloc (.cells #[.int .i64 nx,.slice a2 l.length c2,.slice b2 K.length d2] 38)).cell? ⟨w.heap.size,0,none⟩=some (.int .i64 nx):=F1.out.cell 0 0 rfl rfl
 have x01:((w.alloc (.cells #[.int .i64 nx,.slice a1 l.length c1,.slice b1 K.length d1] 38)).alloc (.cells #[.int .i64 nx,.slice a2 l.length c2,.slice b2 K.length d2] 38)).cell? ⟨w.heap.size,1,none⟩=some (.slice a1 l.length c1):=F1.out.cell 0 1 rfl rfl
 have x02:((w.alloc (.cells #[.int .i64 nx,.slice a1 l.length c1,.slice b1 K.length d1] 38)).alloc (.cells #[.int .i64 nx,.slice a2 l.length c2,.slice b2 K.length d2] 38)).cell? ⟨w.heap.size,2,none⟩=some (.slice b1 K.length d1):=F1.out.cell 0 2 rfl rfl
 have x10:((w.alloc (.cells #[.int .i64 nx,.slice a1 l.length c1,.slice b1 K.length d1] 38)).alloc (.cells #[.int .i64 nx,.slice a2 l.length c2,.slice b2 K.length d2] 38)).cell? ⟨w.heap.size+1,0,none⟩=some (.int .i64 nx):=F1.out.cell 1 0 rfl rfl
 have x11:((w.alloc (.cells #[.int .i64 nx,.slice a1 l.length c1,.slice b1 K.length d1] 38)).alloc (.cells #[.int .i64 nx,.slice a2 l.length c2,.slice b2 K.length d2] 38)).cell? ⟨w.heap.size+1,1,none⟩=some (.slice a2 l.length c2):=F1.out.cell 1 1 rfl rfl
 have x12:((w.alloc (.cells #[.int .i64 nx,.slice a1 l.length c1,.slice b1 K.length d1] 38)).alloc (.cells #[.int .i64 nx,.slice a2 l.length c2,.slice b2 K.length d2] 38)).cell? ⟨w.heap.size+1,2,none⟩=some (.slice b2 K.length d2):=F1.out.cell 1 2 rfl rfl
 have H1:=zh h1;have H2:=zh h2;have HV:=zh hv;have G1:=zh g1;have G2:=zh g2
 clear h1 h2 hv g1 g2
 go_enter Tryz.func27,Tryz.ntmps27
 go_wp2_with fail
 generalize ((w.alloc (.cells #[.int .i64 nx,.slice a1 l.length c1,.slice b1 K.length d1] 38)).alloc (.cells #[.int .i64 nx,.slice a2 l.length c2,.slice b2 K.length d2] 38))=w1 at*
 go_loopw [5] (fun i wr=>∃ k:Nat,k<=l.length/\i=.int .i64 k/\Below w1.heap.size w1 wr) (fun i _=>l.length-(intOf i).toNat)
 case atStart=>exact⟨0,by omega,rfl,Below.refl _ _⟩
 case round=>
  obtain⟨k,hk,rfl,hb⟩:=hrel
  have HBW:=zh hb;have FR:=zh (F1.out.step hb)
  clear hb
  (try clear x00);(try clear x01);(try clear x02);(try clear x10);(try clear x11);(try clear x12)
  have x01:wr.cell? ⟨w.heap.size,1,none⟩=some (.slice a1 l.length c1):=FR.out.cell 0 1 rfl rfl
  have x11:wr.cell? ⟨w.heap.size+1,1,none⟩=some (.slice a2 l.length c2):=FR.out.cell 1 1 rfl rfl
  by_cases hlt:k<l.length
  case neg=>
   have dk:decide ((k:Int)<l.length)=false:=zf
   go_wp2_with fail
   clear HBW
   (try clear x00);(try clear x01);(try clear x02);(try clear x10);(try clear x11);(try clear x12)
   obtain⟨w2,hw2⟩:∃ w2,w2=wr:=⟨_,rfl⟩
   rw[<- hw2] at FR ⊢
   clear hw2
   have F2:=FR
   clear FR
   go_loopw [6] (fun i wr=>∃ k:Nat,k<=K.length/\i=.int .i64 k/\Below w2.heap.size w2 wr) (fun i _=>K.length-(intOf i).toNat)
   case atStart=>exact⟨0,by omega,rfl,Below.refl _ _⟩
   case round=>
    obtain⟨j,hj,rfl,hb⟩:=hrel
    have HBW:=zh hb;have FR:=zh (F2.out.step hb)
    clear hb
    have x02:wr.cell? ⟨w.heap.size,2,none⟩=some (.slice b1 K.length d1):=FR.out.cell 0 2 rfl rfl
    have x12:wr.cell? ⟨w.heap.size+1,2,none⟩=some (.slice b2 K.length d2):=FR.out.cell 1 2 rfl rfl
    by_cases hlj:j<K.length
    case neg=>
     have dj:decide ((j:Int)<K.length)=false:=zf
     go_wp2_with fail
     go_ret
     exact⟨rfl,FR.out.under⟩
    have dj:decide ((j:Int)<K.length)=true:=zt
    obtain⟨b,o,ha,hbl,e0,e1⟩:=Own.Bo.cells (G1.out.below FR.out.under) hlj
    obtain⟨b',o',ha',Py,e0',e1'⟩:=Own.Bo.cells (G2.out.below FR.out.under) hlj
    subst ha
    subst ha'
    obtain⟨x,hx⟩:∃ x,x=K[j]:=⟨_,rfl⟩
    rw[<- hx] at e0 e1 e0' e1'
    obtain⟨n,pu⟩:=x
    dsimp only at e0 e1 e0' e1'
    have hne:=VU n pu
    clear hx
    go_wp2_with fail
    go_quiet (fail)
    go_wp2_with fail
    go_round
    case measure=>simp[intOf];omega
    case rel=>exact⟨j+1,by omega,by go_num,below_drewN HBW.out nq⟩
  have dk:decide ((k:Int)<l.length)=true:=zt
  obtain⟨b,o,u,ha,hbl,e0,e1,e2,hu⟩:=Own.AJ.cells (H1.out.below FR.out.under) hlt
  obtain⟨b',o',u',ha',Py,e0',e1',e2',hu'⟩:=Own.AJ.cells (H2.out.below FR.out.under) hlt
  subst ha
  subst ha'
  have hvl:=HV.out l[k] (List.getElem_mem hlt)
  obtain⟨x,hx⟩:∃ x,x=l[k]:=⟨_,rfl⟩
  rw[<- hx] at e0 e2 e0' e2' hu hu' hvl
  have hsp:=VX x u u' wr.drew (hu.below (Below.refl _ _).drew) (hu'.below (Below.refl _ _).drew) hvl
  have HSP:=zh hsp
  clear hx hsp hu hu'
  go_wp2_with fail
  refine Lex.zl ?_
  go_wp2_with fail
  refine HSP.out.mono ?_
  rintro e w2 ⟨rfl,hb⟩
  have HB2:=zh (HBW.out.trans (((Below.refl wr.heap.size wr).drew.trans hb).mono HBW.out.size))
  clear hb
  go_wp2_with fail
  refine Lex.ze ?_
  go_wp2_with fail
  go_round
  case measure=>simp[intOf];omega
  case rel=>exact⟨k+1,by omega,by go_num,HB2.out⟩
namespace Own
theorem Gl (css:List (List Value))(h:∀ cs∈css,cs.length=6):css.flatten.length=css.length*6:=by
 induction css with
 | nil=>rfl
 | cons x css ih =>
   rw[List.flatten_cons,List.length_append,ih (fun cs hc=>h cs (List.mem_cons_of_mem _ hc)),h x List.mem_cons_self,List.length_cons]
   omega
theorem Yx (a0 a1 a2 a3 a4 a5:Value):∀ (css:List (List Value)) (j:Nat) (_:j<css.length) (_:∀ cs∈css,cs.length=6),
 (css.set j [a0,a1,a2,a3,a4,a5]).flatten=(((((css.flatten.set (j*6) a0).set (j*6+1) a1).set (j*6+2) a2).set (j*6+3) a3).set (j*6+4) a4).set (j*6+5) a5
 | [],j,hj,_=>by cases hj
 | x :: css,0,_,h => by
   have hx:=h x List.mem_cons_self
   match x,hx with
   | [b0,b1,b2,b3,b4,b5],_=>rfl
 | x :: css,j + 1,hj,h => by
   have ih:=Yx a0 a1 a2 a3 a4 a5 css j (by simpa using hj) (fun cs hc=>h cs (List.mem_cons_of_mem _ hc))
   have hx:=h x List.mem_cons_self
   show(x::css.set j [a0,a1,a2,a3,a4,a5]).flatten=_
   rw[List.flatten_cons,List.flatten_cons,ih,List.set_append_right _ _ (by omega),List.set_append_right _ _ (by omega),List.set_append_right _ _ (by omega),List.set_append_right _ _ (by omega),List.set_append_right _ _ (by omega),List.set_append_right _ _ (by omega),hx,
    show(j+1)*6-6=j*6 by omega,show(j+1)*6+1-6=j*6+1 by omega,show(j+1)*6+2-6=j*6+2 by omega,show(j+1)*6+3-6=j*6+3 by omega,show(j+1)*6+4-6=j*6+4 by omega,show(j+1)*6+5-6=j*6+5 by omega]
def Tp (w:World)(g j:Nat)(x:Aa)(u:Value):World:=
 (((((w.setCell ⟨g,j*6,none⟩ (.int .i64 x.id)).setCell ⟨g,j*6+1,none⟩ (.string x.path)).setCell ⟨g,j*6+2,none⟩ (.string x.digest)).setCell ⟨g,j*6+3,none⟩ (.int .i64 x.opened)).setCell ⟨g,j*6+4,none⟩ (.int .i64 x.expires)).setCell ⟨g,j*6+5,none⟩ u
theorem Mf (w:World)(g j:Nat)(x:Aa)(u:Value)(k:Nat)(h:k≠g):(Tp w g j x u).heap[k]? = w.heap[k]? :=by
 unfold Tp
 rw[zo h,zo h,zo h,zo h,zo h,zo h]
theorem Ot (w:World)(g j:Nat)(x:Aa)(u:Value):(Tp w g j x u).heap.size=w.heap.size:=by simp[Tp,World.setCell]
theorem av (w:World)(g j:Nat)(x:Aa)(u:Value)(B:Nat)(h:B<=g):Below B w (Tp w g j x u):=
 ((((((Below.refl B w).setCell (p:=⟨g,j*6,none⟩) h _).setCell (p:=⟨g,j*6+1,none⟩) h _).setCell (p:=⟨g,j*6+2,none⟩) h _).setCell (p:=⟨g,j*6+3,none⟩) h _).setCell (p:=⟨g,j*6+4,none⟩) h _).setCell (p:=⟨g,j*6+5,none⟩) h _
theorem Cc.set {B g cap:Nat}{w:World}{L:List Aa}(h:Cc B w (.slice (some ⟨g,0,none⟩) L.length cap) L){j:Nat}(hj:j<L.length)(x:Aa)(u:Value)(hu:Ag 3 Jj (fun k=>k≠g) w u x.Al):
 A9 (Tp w g j x u) (.slice (some ⟨g,0,none⟩) L.length cap) (L.set j x):=by
 obtain⟨css,h1,h2,h3⟩:=h
 have h6:∀ cs∈css,cs.length=6:=fun cs hc=>by
  obtain⟨i,hi,rfl⟩:=List.mem_iff_getElem.1 hc
  exact(h3 i (by omega) hi).1
 have hlen:=Gl css h6
 rw[h1] at hlen
 have hrow:(Tp w g j x u).ownsRow B 46 6 (.slice (some ⟨g,0,none⟩) L.length cap) L.length (css.set j [.int .i64 x.id,.string x.path,.string x.digest,.int .i64 x.opened,.int .i64 x.expires,u]).flatten:=by
  rw[Yx _ _ _ _ _ _ css j (by omega) h6]
  unfold Tp
  exact EL (EL (EL (EL (EL (EL h2 _ (by omega) _) _ (by simp only[List.length_set];omega) _) _ (by simp only[List.length_set];omega) _) _ (by simp only[List.length_set];omega) _) _ (by simp only[List.length_set];omega) _) _ (by simp only[List.length_set];omega) _
 refine Ag.PX (Bz.own hrow) (by simp) (by simp[h1]) (fun _ _=>trivial) (fun i hi hi' => ?_)
 simp only[List.length_set] at hi hi'
 by_cases hji:j=i
 ·subst hji
  rw[List.getElem_set_self,List.getElem_set_self]
  exact⟨rfl,u,rfl,(hu.keep (by rw[Ot];exact Nat.le_refl _) (fun k hF _=>Mf w g j x u k hF)).mono (fun _ _ _=>trivial)⟩
 ·rw[List.getElem_set_ne hji,List.getElem_set_ne hji]
  obtain⟨h4,u',h5,h7⟩:=h3 i hi hi'
  exact⟨h4,u',h5,(h7.keep (by rw[Ot];exact Nat.le_refl _) (fun k hF _=>Mf w g j x u k (fun e=>hF.2.2 (by rw[e];rfl)))).mono (fun _ _ _=>trivial)⟩
def Kl (nm:ByteArray)(M:List Member):List Member:=M.filter fun m=>decide (m.name=nm)
theorem fT (nm:ByteArray)(M:List Member)(k:Nat)(hk:k<M.length):Kl nm (M.take (k+1))=if M[k].name=nm then Kl nm (M.take k)++[M[k]] else Kl nm (M.take k):=by
 unfold Kl
 rw[List.take_succ_eq_append_getElem hk,List.filter_append]
 by_cases h:M[k].name=nm<;>simp[h]
theorem fU (nm:ByteArray)(M:List Member):find (Kl nm M) nm=find M nm:=by
 unfold find Kl
 rw[List.find?_filter]
 congr 1
 funext m
 simp
theorem fV (nm:ByteArray)(M:List Member):(Kl nm M)[0]? = find M nm:=by
 unfold find Kl
 rw[<- List.head?_eq_getElem?,List.head?_filter]
theorem mD (nm:ByteArray)(M:List Member):(Kl nm M).length<=M.length:=List.length_filter_le _ _
theorem Yy (o:Ak)(pre:ByteArray)(M:List Member)(th:Int)(msg:ByteArray)(a:AZ):
 FY ⟨pre,Kl a.name M,1⟩ msg o.keys [a]=match Fw o ⟨pre,M,th⟩ msg a with|.error c=>.error c|.ok x=>.ok x.2:=by
 unfold FY Fw Ik
 dsimp only
 rw[fU]
 cases find M a.name with
 | none=>rfl
 | some m =>
   dsimp only
   rw[if_neg (by simp)]
   cases Sig.verify m.pub msg a.sig with
   | false=>rfl
   | true =>
     by_cases hi:a.sig.index<Bf o.keys m.pub
     ·simp[hi]
     ·simp[hi,Ik]
theorem mE {o:Ak}{pre:ByteArray}{M:List Member}{th:Int}{msg:ByteArray}{a:AZ}{m:Member}{K:List KeyUse}(h:Fw o ⟨pre,M,th⟩ msg a=.ok (m,K)):(Kl a.name M)[0]? = some m:=by
 rw[fV]
 unfold Fw at h
 dsimp only at h
 cases hf:find M a.name with
 | none=>rw[hf] at h;cases h
 | some m' =>
   rw[hf] at h
   dsimp only at h
   split at h
   ·split at h
    ·cases h
    ·cases h;rfl
   ·cases h
end Own
end
end Go.Proofs.YtnijhlphcjjpbaaGreatDoor
