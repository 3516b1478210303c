/- The program's reviews: the proposals that are kept. -/
import Derived.Test.YtnijhlphcjjpbaaGreatDoorShkVo5
set_option linter.unusedVariables false
set_option linter.unusedSimpArgs false
set_option maxRecDepth 100000
set_option maxHeartbeats 8000000
namespace Go.Proofs.YtnijhlphcjjpbaaGreatDoor
section
open Go Go.RowKit Go.Maps
namespace Own
def Cc (B:Nat)(w:World)(v:Value)(L:List Aa):Prop:=
 ∃ css:List (List Value),css.length=L.length/\w.ownsRow B 46 6 v L.length css.flatten/\∀ i (hi:i<L.length) (hi' : i<css.length),css[i].length=6/\Lc (fun k=>B<=k/\k<w.heap.size/\v.ownBlock≠some k) w css[i] L[i]
theorem Cc.nil (B:Nat)(w:World):Cc B w (.slice none 0 0) []:=⟨[],rfl,⟨rfl,.inl ⟨rfl,rfl⟩⟩,fun i hi=>absurd hi (by simp)⟩
theorem BQ {w:World}{base n size:Nat}{e:TypeId}{v:Value}{xs:List Value}(h:w.ownsRow base e size v n xs):∀ k,v.ownBlock=some k->k<w.heap.size:=by
 intro k hk
 obtain⟨_,⟨rfl,_⟩|⟨g,cap,cur,rfl,hg,hc,_⟩⟩:=h
 ·cases hk
 ·have : g = k :=by
   have hk' : some g=some k:=hk
   exact Option.some.inj hk'
  subst this
  exact(show At w g e cur from hc).lt
theorem Cc.keep {B:Nat}{w w' : World}{v:Value}{L:List Aa}(h:Cc B w v L)(hs:w.heap.size<=w'.heap.size)(hk:∀ k,B<=k->k<w.heap.size->w'.heap[k]? = w.heap[k]?):Cc B w' v L:=by
 obtain⟨css,h1,h2,h3⟩:=h
 refine⟨css,h1,Aq h2 (fun k e=>hk k (Az h2 k e) (BQ h2 k e)),fun i hi hi' => ?_⟩
 obtain⟨h4,u,h5,h6⟩:=h3 i hi hi'
 exact⟨h4,u,h5,(h6.keep hs (fun k hF hl=>hk k hF.1 hl)).mono (fun k hF _=>⟨hF.1,by omega,hF.2.2⟩)⟩
theorem Cc.below {B:Nat}{w w' : World}{v:Value}{L:List Aa}(h:Cc B w v L)(hb:Below w.heap.size w w'):Cc B w' v L:=h.keep hb.size fun k _ hl=>hb.block k hl
theorem Cc.one {B:Nat}{w:World}{v:Value}{L:List Aa}(h:Cc B w v L):∃ a c,v=.slice a L.length c:=by
 obtain⟨css,h1,h2,h3⟩:=h
 obtain⟨a,m,c,rfl⟩:=Ac h2
 obtain rfl:=Bt h2
 exact⟨a,c,rfl⟩
theorem Cc.list {B:Nat}{w:World}{v:Value}{L:List Aa}{F:Nat->Prop}(h:Cc B w v L)(hF:∀ k,B<=k->k<w.heap.size->F k):Ag 6 Lc F w v L:=by
 obtain⟨css,h1,h2,h3⟩:=h
 refine Ag.PX (Bz.own h2) rfl h1 (fun k e=>hF k (Az h2 k e) (BQ h2 k e)) (fun i hi hi' => ?_)
 obtain⟨h4,u,h5,h6⟩:=h3 i hi hi'
 exact⟨h4,u,h5,h6.mono (fun k hk _=>hF k hk.1 hk.2.1)⟩
theorem Cc.push {B:Nat}{w w' : World}{v v' : Value}{L:List Aa}{x:Aa}{u:Value}{css:List (List Value)}(h1:css.length=L.length)(hv:w.ownsRow B 46 6 v L.length css.flatten)
 (h3:∀ i (hi:i<L.length) (hi' : i<css.length),css[i].length=6/\Lc (fun k=>B<=k/\k<w.heap.size/\v.ownBlock≠some k) w css[i] L[i]) (hu:Ag 3 Jj (fun k=>B<=k/\k<w.heap.size/\v.ownBlock≠some k) w u x.Al)
 (hv' : w'.ownsRow B 46 6 v' (L.length+1) (css.flatten++[.int .i64 x.id,.string x.path,.string x.digest,.int .i64 x.opened,.int .i64 x.expires,u])) (hg:w.grownBy w' v.ownBlock) (ho:v'.ownBlock=v.ownBlock\/v'.ownBlock=some w.heap.size):Cc B w' v' (L++[x]):=by
 have hsz:w.heap.size<=w'.heap.size:=hg.size
 have hkp:∀ k,B<=k/\k<w.heap.size/\v.ownBlock≠some k->k<w.heap.size->w'.heap[k]? = w.heap[k]? :=fun k hF hl=>hg.block k hl (fun e=>hF.2.2 e.symm)
 have hF:∀ k,B<=k/\k<w.heap.size/\v.ownBlock≠some k->k<w'.heap.size->B<=k/\k<w'.heap.size/\v'.ownBlock≠some k:=fun k hF hl=>⟨hF.1,hl,by
  rcases ho with ho|ho
  ·rw[ho];exact hF.2.2
  ·rw[ho];intro e;have:=Option.some.inj e;omega⟩
 refine⟨css++[[.int .i64 x.id,.string x.path,.string x.digest,.int .i64 x.opened,.int .i64 x.expires,u]],by simp[h1],?_,fun i hi hi' => ?_⟩
 ·rw[List.flatten_append,List.length_append]
  simpa using hv'
 ·by_cases hl:i<L.length
  ·obtain⟨h4,u',h5,h6⟩:=h3 i hl (by omega)
   rw[List.getElem_append_left (by omega),List.getElem_append_left hl]
   exact⟨h4,u',h5,(h6.keep hsz hkp).mono hF⟩
  ·have e:i=L.length:=by simp at hi;omega
   subst e
   rw[List.getElem_append_right (by omega),List.getElem_append_right (by omega)]
   simp only[h1,Nat.sub_self,List.getElem_cons_zero]
   exact⟨rfl,u,rfl,(hu.keep hsz hkp).mono hF⟩
end Own
theorem Ao:(Tryz.prog.info? 24).map (·.size)=some 2:=by kernel_rfl
theorem IU (g:Nat)(lb:Array Value)(eg:∀ args w,(callFunc g args).run Tryz.prog w=.ok (.enter g args) w)(p:Own.Aa->Bool)(n:Int)(pv:Value)(l:List Own.Aa)(w:World)(hP:Own.A9 w pv l)(hl:l.length<=1000000)(hlv:∀ x∈l,x.Al.length<=3000000)
 (hp:∀ (W:World) (x:Own.Aa) (u:Value),Below w.heap.size w W->Calls Tryz.prog g (#[.agg #[.int .i64 x.id,.string x.path,.string x.digest,.int .i64 x.opened,.int .i64 x.expires,u]]++lb) W fun e w' => e=.returned (.bool (p x))/\Below W.heap.size W w'):
 Calls Tryz.prog 42 #[.agg #[.int .i64 n,pv],.func (.func g) #[] lb] w fun e w' => (∃ v',e=.returned (.agg #[.int .i64 n,v'])/\Own.Cc (w.heap.size+3) w' v' (l.filter p))/\Below w.heap.size w w':=by
 obtain⟨a,c,rfl⟩:=hP.len
 have hb1:Below w.heap.size w (((w.alloc (.cells #[.int .i64 n,.slice a l.length c] 24)).alloc (.cells #[.int .i64 0,.slice none 0 0] 24)).alloc (.cells #[.int .i64 n,.slice none 0 0] 24)):=(zb.alloc (by simp) _).alloc (by simp;omega) _
 have a1:=(At.new1 w (.cells #[.int .i64 n,.slice a l.length c] 24) 24 #[.int .i64 0,.slice none 0 0]).alloc (.cells #[.int .i64 n,.slice none 0 0] 24)
 have a2:At (((w.alloc (.cells #[.int .i64 n,.slice a l.length c] 24)).alloc (.cells #[.int .i64 0,.slice none 0 0] 24)).alloc (.cells #[.int .i64 n,.slice none 0 0] 24)) (w.heap.size+1+1) 24 #[.int .i64 n,.slice none 0 0]:=by
  have:=At.new1 (w.alloc (.cells #[.int .i64 n,.slice a l.length c] 24)) (.cells #[.int .i64 0,.slice none 0 0] 24) 24 #[.int .i64 n,.slice none 0 0]
  rwa [World.size_alloc] at this
 have a0:=((At.new w 24 #[.int .i64 n,.slice a l.length c]).alloc (.cells #[.int .i64 0,.slice none 0 0] 24)).alloc (.cells #[.int .i64 n,.slice none 0 0] 24)
 have hz1:(((w.alloc (.cells #[.int .i64 n,.slice a l.length c] 24)).alloc (.cells #[.int .i64 0,.slice none 0 0] 24)).alloc (.cells #[.int .i64 n,.slice none 0 0] 24)).heap.size=w.heap.size+3:=by simp
 have c1:=a0.cell 1
 simp only[zg] at c1
 have HP:=zh hp;have HL:=zh hP;have HB1:=zh hb1;have HA1:=zh a1;have HA2:=zh a2;have HLV:=zh hlv;have HZ1:=zh hz1
 clear hp hP hb1 a0 a1 a2 hlv hz1
 go_enter Tryz.func42,Tryz.ntmps42
 go_upto_region 2 with fail
 generalize ((w.alloc (.cells #[.int .i64 n,.slice a l.length c] 24)).alloc (.cells #[.int .i64 0,.slice none 0 0] 24)).alloc (.cells #[.int .i64 n,.slice none 0 0] 24)=w1 at*
 go_wp2_with fail
 clear c1
 have hz1:=Nat.le_of_eq HZ1.out.symm
 go_loopw [14] (fun i wr=>∃ (k:Nat) (v:Value),k<=l.length/\i=.int .i64 k/\At wr (w.heap.size+1) 24 #[.int .i64 0,.slice none 0 0]/\At wr (w.heap.size+1+1) 24 #[.int .i64 n,v]/\Own.Cc (w.heap.size+3) wr v ((l.take k).filter p)/\Below w.heap.size w wr/\w.heap.size+3<=wr.heap.size) (fun i _=>l.length-(intOf i).toNat)
 case atStart=>exact⟨0,_,by omega,rfl,HA1.out,HA2.out,Own.Cc.nil _ _,HB1.out,hz1⟩
 case round=>
  obtain⟨k,v,hk,rfl,hra,hoa,hpo,hbw,hsz⟩:=hrel
  obtain⟨va,vc,rfl⟩:=hpo.one
  have HRA:=zh hra;have HOA:=zh hoa;have HPO:=zh hpo;have HBW:=zh hbw
  have c0:=hoa.cell 0;have c1:=hoa.cell 1
  have r0:=hra.cell 0;have r1:=hra.cell 1;have r2:=hra.free 0;have r3:=hra.free 1
  simp only[zg] at c0 c1 r0 r1
  clear hra hoa
  by_cases hlt:k<l.length
  case neg=>
   have hke:k=l.length:=by omega
   have dk:decide ((k:Int)<l.length)=false:=zf
   rw[hke,List.take_length] at hpo
   have xQ:=zh hpo
   obtain⟨M,hM⟩:∃ M,M=(List.filter p (List.take k l)).length:=⟨_,rfl⟩
   have hM2:M=(List.filter p l).length:=by rw[hM,hke,List.take_length]
   rw[<- hM] at c1
   rw[<- hM2] at xQ
   clear hke hpo hbw HPO hM hM2
   go_wp2_with fail
   have F2:=(HRA.out.set 0 (.int .i64 n)).set 1 (.slice va M vc)
   refine Es rfl rfl (Ab F2 Tryz.underlying24 rfl Ao) ⟨⟨_,rfl,?_⟩,?_⟩
   ·exact xQ.out.keep (by simp [World.setCell]) (fun k hk _ => by
     have hk1:k≠w.heap.size+1:=by omega
     rw[zo hk1,zo hk1])
   ·exact(HBW.out.setCell (p:=⟨w.heap.size+1,0,none⟩) (by simp) _).setCell (p:=⟨w.heap.size+1,1,none⟩) (by simp) _
  have dk:decide ((k:Int)<l.length)=true:=zt
  obtain⟨M,hM⟩:∃ M,M=(List.filter p (List.take k l)).length:=⟨_,rfl⟩
  have hM1:M<=1000000:=by
   rw[hM]
   have:=List.length_filter_le p (List.take k l)
   have h2:(List.take k l).length=k:=by rw[List.length_take];omega
   omega
  have htk:(l.take (k+1)).filter p=(l.take k).filter p++(if p l[k]=true then [l[k]] else []):=by
   have e:List.filter p [l[k]]=if p l[k]=true then [l[k]] else []:=by cases h:p l[k]<;>simp[h]
   rw[List.take_succ_eq_append_getElem hlt,List.filter_append,e]
  obtain⟨L,hL⟩:∃ L,L=(l.take k).filter p:=⟨_,rfl⟩
  rw[<- hL] at hM htk hpo HPO HOA c1
  rw[<- hM] at hpo HPO HOA c1
  obtain⟨b,o,u,ha,hbl,e0,e1,e2,e3,e4,e5,huv⟩:=Own.A9.cells (HL.out.below hbw) hlt
  subst ha
  have hlk:=HLV.out l[k] (List.getElem_mem hlt)
  obtain⟨x,hx⟩:∃ x,x=l[k]:=⟨_,rfl⟩
  rw[<- hx] at htk e0 e1 e2 e3 e4 huv hlk
  obtain⟨ua,uc,rfl⟩:=huv.len
  have hb5:Below wr.heap.size wr (wr.alloc (.cells #[.int .i64 x.id,.string x.path,.string x.digest,.int .i64 x.opened,.int .i64 x.expires,.slice ua x.Al.length uc] 46)):=zb
  have hn5:=At.new wr 46 #[.int .i64 x.id,.string x.path,.string x.digest,.int .i64 x.opened,.int .i64 x.expires,.slice ua x.Al.length uc]
  have hcall:=HP.out (wr.alloc (.cells #[.int .i64 x.id,.string x.path,.string x.digest,.int .i64 x.opened,.int .i64 x.expires,.slice ua x.Al.length uc] 46)) x (.slice ua x.Al.length uc) (hbw.trans (hb5.mono hbw.size))
  have hcp:=fun W (hW:Below wr.heap.size wr W)=>IQ x (.slice ua x.Al.length uc) W (huv.below hW) hlk
  have HCP:=zh hcp;have HB5:=zh hb5;have HN5:=zh hn5;have HTK:=zh htk
  obtain⟨pid,ppa,pdi,pop,pex,pvs⟩:=x
  dsimp only at e0 e1 e2 e3 e4 hcall HCP HB5 HN5
  obtain⟨ND,hND⟩:∃ ND:Own.Aa,ND=⟨pid,ppa,pdi,pop,pex,pvs⟩:=⟨_,rfl⟩
  rw[<- hND] at hcall hx HTK
  have HMM:=zh hM
  clear hb5 hn5 hcp htk hpo hbw huv hL hM r0 r1 r2 r3 c0 c1
  cases hq:p ND with
  | false =>
    rw[hq] at hcall
    go_wp2_with (go_at_fn g;refine hcall.mono ?_;rintro e w6 ⟨rfl,hb6⟩)
    go_round
    case measure=>simp[intOf];omega
    case rel=>
     have DT:=HB5.out.trans (hb6.mono HB5.out.size)
     have KL:(l.take (k+1)).filter p=L:=by rw[HTK.out,hq];simp
     refine⟨k+1,.slice va M vc,by omega,by go_num,HRA.out.below DT HRA.out.lt,HOA.out.below DT HOA.out.lt,?_,HBW.out.trans (DT.mono HBW.out.size),Nat.le_trans hsz DT.size⟩
     rw[KL]
     exact HPO.out.below DT
  | true =>
    rw[hq] at hcall
    go_wp2_with (go_at_fn g;refine hcall.mono ?_;rintro e w6 ⟨rfl,hb6⟩)
    have DT:=HB5.out.trans (hb6.mono HB5.out.size)
    have n6:=HN5.out.below hb6 HN5.out.lt
    have o6:=HOA.out.below DT HOA.out.lt
    have r6:=HRA.out.below DT HRA.out.lt
    have p6:=HPO.out.below DT
    have g0:=n6.cell 0;have g1:=n6.cell 1;have g2:=n6.cell 2;have g3:=n6.cell 3;have g4:=n6.cell 4;have g5:=n6.cell 5
    have c1:=o6.cell 1
    simp only[zg] at g0 g1 g2 g3 g4 g5 c1
    have hcp:=HCP.out w6.drew DT.drew
    have HC6:=zh hcp;have O6:=zh o6;have R6:=zh r6;have P6:=zh p6;have B6:=zh (HBW.out.trans (DT.mono HBW.out.size))
    have hs6:=Nat.le_trans hsz DT.size
    have hol:=o6.lt
    clear hcp n6 o6 r6 p6 DT hb6 HCP HN5 HB5 hcall HOA HRA HPO HBW
    go_wp2_with fail
    refine Lex.zn (fun j=>j=w.heap.size+1+1) [1] 5 [4] ?_
    simp only[Lex.AA,zd]
    go_wp2_with fail
    refine HC6.out.mono ?_
    rintro e w7 ⟨v',rfl,hov,hb7⟩
    obtain⟨va',vm',vc',rfl⟩:=Ac hov
    have FM : Below w6.heap.size w6 w7:=(Below.refl w6.heap.size w6).drew.trans hb7
    have o7:=O6.out.below FM hol
    have c7:=o7.cell 1;have f7:=o7.free 1
    simp only[zg] at c7
    have HB7:=zh FM;have HOV:=zh hov;have O7:=zh o7
    clear hb7 FM hov o7 g0 g1 g2 g3 g4 g5
    go_wp2_with fail
    refine Lex.Mid.intro (fun j hj _=>by rw[hj];exact HB7.out.block _ hol) ?_
    have Jp:Below w7.heap.size w7 (w7.alloc (.cells #[.int .i64 pid,.string ppa,.string pdi,.int .i64 pop,.int .i64 pex,.slice va' vm' vc'] 46)):=zb
    have hrw:=(Bv w7 46 #[.int .i64 pid,.string ppa,.string pdi,.int .i64 pop,.int .i64 pex,.slice va' vm' vc'] 6 1 1 rfl)
    have hob:∀ k,(Value.slice va M vc).ownBlock=some k->k<w6.heap.size:=by
     obtain⟨_,_,q2,_⟩:=P6.out
     exact Own.BQ q2
    have hu7:Ag 3 Own.Jj (fun k=>w.heap.size+3<=k/\k<w7.heap.size/\(Value.slice va M vc).ownBlock≠some k) w7 (.slice va' vm' vc') pvs:=
     Ck (enc:=Own.BP) (fun _=>rfl) (fun _=>rfl) (Bz.own HOV.out) rfl (fun j hj=>by
      have h1:w6.heap.size<=j:=Az HOV.out j hj
      exact⟨by omega,Own.BQ HOV.out j hj,fun e=>by have:=hob j e;omega⟩)
    have hu8:Ag 3 Own.Jj (fun k=>w.heap.size+3<=k/\k<(w7.alloc (.cells #[.int .i64 pid,.string ppa,.string pdi,.int .i64 pop,.int .i64 pex,.slice va' vm' vc'] 46)).heap.size/\(Value.slice va M vc).ownBlock≠some k) (w7.alloc (.cells #[.int .i64 pid,.string ppa,.string pdi,.int .i64 pop,.int .i64 pex,.slice va' vm' vc'] 46)) (.slice va' vm' vc') pvs:=(hu7.below Jp).mono (fun k hk hl=>⟨hk.1,hl,hk.2.2⟩)
    have p8:=(P6.out.below HB7.out).below Jp
    obtain⟨css,h1,h2,h3⟩:=p8
    have H1:=zh h1;have H2:=zh h2;have H3:=zh h3;have HU:=zh hu8;have HRW:=zh hrw;have zck:=zh Jp
    have hLM:L.length<=1000000:=by have:=HMM.out;omega
    have h67:=HB7.out.size
    have B8:=zh ((B6.out.trans (HB7.out.mono B6.out.size)).trans (Jp.mono (by have:=B6.out.size;omega)))
    have R8:=zh ((R6.out.below HB7.out R6.out.lt).below Jp (by have:=R6.out.lt;omega));have O8:=zh (O7.out.below Jp O7.out.lt)
    clear h1 h2 h3 hu8 hu7 hrw Jp hob
    go_wp2_with (at_builtin;go_must (refine Ai K9 rfl _ _ rfl (w.heap.size+3) L.length (.slice va M vc) css.flatten rfl H2.out (.slice (some ⟨w7.heap.size,0,none⟩) 1 1) 1 [.int .i64 pid,.string ppa,.string pdi,.int .i64 pop,.int .i64 pex,.slice va' vm' vc'] rfl HRW.out (by intro u hu;simp at hu;rcases hu with rfl|rfl|rfl|rfl|rfl|rfl<;>rfl) (by omega) (by omega) (by rw[World.size_alloc];omega) ?_);intro v9 w9 ho9 hg9 hw9;obtain⟨ya,ym,yc,rfl⟩:=Ac ho9;have HP9:=zh (Own.Cc.push (x:=⟨pid,ppa,pdi,pop,pex,pvs⟩) H1.out H2.out H3.out HU.out ho9 hg9 hw9);have HB9:=zh (Bc B8.out B8.out.size (BG H2.out (by omega)) hg9);have O9:=zh (O8.out.keep (hg9.block _ O8.out.lt (fun e=>by have:=Az H2.out _ e.symm;omega)));have R9:=zh (R8.out.keep (hg9.block _ R8.out.lt (fun e=>by have:=Az H2.out _ e.symm;omega)));have hs9:=hg9.size;have c9:=O9.out.cell 1;have f9:=O9.out.free 1;clear ho9 hg9 hw9)
    refine Lex.zk ⟨⟨rfl,zi c1⟩,trivial⟩ ?_
    go_wp2_with fail
    refine⟨⟨k+1,_,by omega,by go_num,R9.out.far (p:=⟨w.heap.size+1+1,1,none⟩) (by simp) _,O9.out.set 1 (.slice ya ym yc),?_,HB9.out.setCell (p:=⟨w.heap.size+1+1,1,none⟩) (by show w.heap.size<=w.heap.size+1+1;omega) _,?_⟩,by simp[intOf];omega⟩
    ·have KL:(l.take (k+1)).filter p=L++[⟨pid,ppa,pdi,pop,pex,pvs⟩]:=by rw[HTK.out,hq,if_pos rfl,hND]
     rw[KL]
     exact HP9.out.keep (by simp[World.setCell]) (fun k hk _=>zo (by show k≠w.heap.size+1+1;omega))
    ·have:(w9.setCell ⟨w.heap.size+1+1,1,none⟩ (.slice ya ym yc)).heap.size=w9.heap.size:=by simp[World.setCell]
     rw[this]
     rw[World.size_alloc] at hs9
     omega
namespace Own
theorem Cc.base {B B' : Nat}{w:World}{v:Value}{L:List Aa}(h:Cc B w v L)(hb:B' <= B):Cc B' w v L:=by
 obtain⟨css,h1,h2,h3⟩:=h
 refine⟨css,h1,BG h2 hb,fun i hi hi' => ?_⟩
 obtain⟨h4,u,h5,h6⟩:=h3 i hi hi'
 exact⟨h4,u,h5,h6.mono (fun k hk _=>⟨by omega,hk.2⟩)⟩
def sW (w:World)(q:Queue)(qv:Value)(w' : World):Prop:=∃ v',qv=.agg #[.int .i64 q.next,v']/\Cc w.heap.size w' v' q.props
end Own
theorem Px (x:Own.Aa)(u:Value)(g:Nat)(id:Int)(w:World)(hc:w.cell? ⟨g,0,none⟩=some (.int .i64 id)):
 Calls Tryz.prog 48 (#[.agg #[.int .i64 x.id,.string x.path,.string x.digest,.int .i64 x.opened,.int .i64 x.expires,u]]++#[.pointer (some ⟨g,0,none⟩)]) w fun e w' => e=.returned (.bool (!decide (x.id=id)))/\Below w.heap.size w w':=by
 obtain⟨i0,q1,q2,q3,i4,q5⟩:=x
 dsimp only
 obtain⟨R,hR0⟩:∃ R,R=(!decide (i0=id)):=⟨_,rfl⟩
 rw[<- hR0]
 have hR:R=(!(i0==id)):=hR0
 clear hR0
 have hb1:Below w.heap.size w (w.alloc (.cells #[.int .i64 i0,.string q1,.string q2,.int .i64 q3,.int .i64 i4,u] 46)):=zb
 have q:=(hb1.cell (p:=⟨g,0,none⟩) (block_lt hc)).trans hc
 have HB:=zh hb1;have HR:=zh hR
 clear hb1 hc hR
 show Calls Tryz.prog 48 #[.agg #[.int .i64 i0,.string q1,.string q2,.int .i64 q3,.int .i64 i4,u],.pointer (some ⟨g,0,none⟩)] w _
 go_enter Tryz.func48,Tryz.ntmps48
 go_wp2_with fail
 go_ret
 exact⟨by rw[HR.out];rfl,HB.out⟩
theorem Vw (x:Own.Aa)(u:Value)(g:Nat)(id:Int)(w:World)(hc:w.cell? ⟨g,0,none⟩=some (.int .i64 id)):
 Calls Tryz.prog 73 (#[.agg #[.int .i64 x.id,.string x.path,.string x.digest,.int .i64 x.opened,.int .i64 x.expires,u]]++#[.pointer (some ⟨g,0,none⟩)]) w fun e w' => e=.returned (.bool (!decide (x.id=id)))/\Below w.heap.size w w':=by
 obtain⟨i0,q1,q2,q3,i4,q5⟩:=x
 dsimp only
 obtain⟨R,hR0⟩:∃ R,R=(!decide (i0=id)):=⟨_,rfl⟩
 rw[<- hR0]
 have hR:R=(!(i0==id)):=hR0
 clear hR0
 have hb1:Below w.heap.size w (w.alloc (.cells #[.int .i64 i0,.string q1,.string q2,.int .i64 q3,.int .i64 i4,u] 46)):=zb
 have q:=(hb1.cell (p:=⟨g,0,none⟩) (block_lt hc)).trans hc
 have HB:=zh hb1;have HR:=zh hR
 clear hb1 hc hR
 show Calls Tryz.prog 73 #[.agg #[.int .i64 i0,.string q1,.string q2,.int .i64 q3,.int .i64 i4,u],.pointer (some ⟨g,0,none⟩)] w _
 go_enter Tryz.func73,Tryz.ntmps73
 go_wp2_with fail
 go_ret
 exact⟨by rw[HR.out];rfl,HB.out⟩
theorem SX (x:Own.Aa)(u:Value)(g:Nat)(id:Int)(w:World)(hc:w.cell? ⟨g,0,none⟩=some (.int .i64 id)):
 Calls Tryz.prog 53 (#[.agg #[.int .i64 x.id,.string x.path,.string x.digest,.int .i64 x.opened,.int .i64 x.expires,u]]++#[.pointer (some ⟨g,0,none⟩)]) w fun e w' => e=.returned (.bool (decide (id<x.expires)))/\Below w.heap.size w w':=by
 obtain⟨i0,q1,q2,q3,i4,q5⟩:=x
 dsimp only
 obtain⟨R,hR0⟩:∃ R,R=(decide (id<i4)):=⟨_,rfl⟩
 rw[<- hR0]
 have hR:R=(decide (id<i4)):=hR0
 clear hR0
 have hb1:Below w.heap.size w (w.alloc (.cells #[.int .i64 i0,.string q1,.string q2,.int .i64 q3,.int .i64 i4,u] 46)):=zb
 have q:=(hb1.cell (p:=⟨g,0,none⟩) (block_lt hc)).trans hc
 have HB:=zh hb1;have HR:=zh hR
 clear hb1 hc hR
 show Calls Tryz.prog 53 #[.agg #[.int .i64 i0,.string q1,.string q2,.int .i64 q3,.int .i64 i4,u],.pointer (some ⟨g,0,none⟩)] w _
 go_enter Tryz.func53,Tryz.ntmps53
 go_wp2_with fail
 go_ret
 exact⟨by rw[HR.out];rfl,HB.out⟩
theorem Vx (q:Own.Queue)(size:Int)(pv:Value)(w:World)(hM:Fe w)(hP:Own.A9 w pv q.props)(hls:q.props.length<=1000000)(hlm:∀ p∈q.props,p.Al.length<=3000000):
 Calls Tryz.prog 19 #[.agg #[.int .i64 q.next,pv],.int .i64 size] w fun e w' => (∃ qv,e=.returned qv/\Own.sW w (Own.expire q size) qv w')/\Below w.heap.size w w':=by
 obtain⟨R,hR⟩:∃ R,R=Own.expire q size:=⟨_,rfl⟩
 rw[<- hR]
 unfold Own.expire at hR
 obtain⟨a,c,rfl⟩:=hP.len
 obtain⟨nx,L⟩:=q
 dsimp only at*
 have hb1:Below w.heap.size w (((w.alloc (.cells #[.int .i64 nx,.slice a L.length c] 24)).alloc (.cells #[.int .i64 size] 3)).alloc (.cells #[.int .i64 0,.slice none 0 0] 24)):=(zb.alloc (by simp) _).alloc (by simp;omega) _
 have a0:=((At.new w 24 #[.int .i64 nx,.slice a L.length c]).alloc (.cells #[.int .i64 size] 3)).alloc (.cells #[.int .i64 0,.slice none 0 0] 24)
 have a1:=(At.new1 w (.cells #[.int .i64 nx,.slice a L.length c] 24) 3 #[.int .i64 size]).alloc (.cells #[.int .i64 0,.slice none 0 0] 24)
 have a2:At (((w.alloc (.cells #[.int .i64 nx,.slice a L.length c] 24)).alloc (.cells #[.int .i64 size] 3)).alloc (.cells #[.int .i64 0,.slice none 0 0] 24)) (w.heap.size+1+1) 24 #[.int .i64 0,.slice none 0 0]:=by
  have:=At.new1 (w.alloc (.cells #[.int .i64 nx,.slice a L.length c] 24)) (.cells #[.int .i64 size] 3) 24 #[.int .i64 0,.slice none 0 0]
  rwa [World.size_alloc] at this
 have hz1:w.heap.size+3<=(((w.alloc (.cells #[.int .i64 nx,.slice a L.length c] 24)).alloc (.cells #[.int .i64 size] 3)).alloc (.cells #[.int .i64 0,.slice none 0 0] 24)).heap.size:=by simp
 obtain⟨c0,c1⟩:=a0.c2
 have hval:=D9 ⟨nx,L⟩ (.slice a L.length c) _ (hM.below hb1) (hP.below hb1) (by show L.length<=_;omega) (fun p hp=>by have:=hlm p hp;omega)
 have HV:=zh hval;have HP:=zh (hP.below hb1);have HB:=zh hb1;have HA0:=zh a0;have HA1:=zh a1;have HA2:=zh a2;have HLM:=zh hlm;have HR:=zh hR
 clear hval hP hM hb1 a0 a1 a2 hlm hR
 go_enter Tryz.func19,Tryz.ntmps19
 go_wp2_with fail
 generalize ((w.alloc (.cells #[.int .i64 nx,.slice a L.length c] 24)).alloc (.cells #[.int .i64 size] 3)).alloc (.cells #[.int .i64 0,.slice none 0 0] 24)=w1 at*
 refine HV.out.mono ?_
 rintro e w2 ⟨rfl,hb2⟩
 have a0:=HA0.out.below hb2 (by omega);have a1:=HA1.out.below hb2 (by omega);have a2:=HA2.out.below hb2 (by omega)
 have x0:=a0.cell 0;have x1:=a0.cell 1
 have r0:=a2.cell 0;have r1:=a2.cell 1;have r2:=a2.free 0;have r3:=a2.free 1
 have z0:=a1.cell 0
 simp only[zg] at x0 x1 r0 r1 z0
 have hP2:=HP.out.below hb2
 have hB2:=HB.out.trans (hb2.mono HB.out.size)
 have hs2:w.heap.size+3<=w2.heap.size:=Nat.le_trans hz1 hb2.size
 have fq:=zh a2;have HB2:=zh hB2
 have hkp:=IU 53 #[.pointer (some ⟨w.heap.size+1,0,none⟩)] (by intros;rfl) (fun p:Own.Aa=>decide (size<p.expires)) nx _ L w2 hP2 hls HLM.out (fun W x u hb=>SX x u _ size W ((hb.cell (p:=⟨w.heap.size+1,0,none⟩) a1.lt).trans z0))
 have HKP:=zh hkp
 clear hP2 hB2 hb2 a0 a1 a2 z0 c0 c1 hkp HV HP HB HA0 HA1 HA2
 cases hq:Own.AY ⟨nx,L⟩ with
 | false =>
   have e:R=Own.Queue.none:=by rw[HR.out,hq];rfl
   have HE:=zh e;clear e
   go_wp2_with fail
   have F2:=(fq.out.set 0 (.int .i64 0)).set 1 (.slice none 0 0)
   refine Es rfl rfl (Ab F2 Tryz.underlying24 rfl Ao) ⟨⟨_,rfl,?_⟩,?_⟩
   ·rw[HE.out];exact⟨_,rfl,Own.Cc.nil _ _⟩
   ·exact(HB2.out.setCell (p:=⟨w.heap.size+1+1,0,none⟩) (by show w.heap.size<=w.heap.size+1+1;omega) _).setCell (p:=⟨w.heap.size+1+1,1,none⟩) (by show w.heap.size<=w.heap.size+1+1;omega) _
 | true =>
   have e:R=⟨nx,L.filter fun p=>decide (size<p.expires)⟩:=by rw[HR.out,hq];rfl
   have HE:=zh e;clear e
   clear r0 r1 r2 r3
   go_wp2_with fail
   refine HKP.out.mono ?_
   rintro e w3 ⟨⟨v',rfl,hpo⟩,hb3⟩
   obtain⟨va,vc,rfl⟩:=hpo.one
   obtain⟨M,hM⟩:∃ M,M=(L.filter fun p=>decide (size<p.expires)).length:=⟨_,rfl⟩
   rw[<- hM] at hpo ⊢
   have a3:=fq.out.below hb3 (by omega)
   have r0:=a3.cell 0;have r1:=a3.cell 1;have r2:=a3.free 0;have r3:=a3.free 1
   simp only[zg] at r0 r1
   have HA3:=zh a3;have HPO:=zh hpo;have HB3:=zh (HB2.out.trans (hb3.mono HB2.out.size))
   clear a3 hpo hb3 hM
   go_wp2_with fail
   have F2:=(HA3.out.set 0 (.int .i64 nx)).set 1 (.slice va M vc)
   refine Es rfl rfl (Ab F2 Tryz.underlying24 rfl Ao) ⟨⟨_,rfl,?_⟩,?_⟩
   ·rw[HE.out]
    refine⟨_,rfl,Own.Cc.base (B:=w2.heap.size+3) (HPO.out.keep (by simp[World.setCell]) (fun k hk _=>?_)) (by omega)⟩
    have hk1:k≠w.heap.size+1+1:=by omega
    rw[zo hk1,zo hk1]
   ·exact(HB3.out.setCell (p:=⟨w.heap.size+1+1,0,none⟩) (by show w.heap.size<=w.heap.size+1+1;omega) _).setCell (p:=⟨w.heap.size+1+1,1,none⟩) (by show w.heap.size<=w.heap.size+1+1;omega) _
theorem Ap.keep {w0 w w' : World}{bs:List (TypeId × Array Value)}(h:Ap w0 w bs)(hu:Below w0.heap.size w0 w')(hs:w.heap.size<=w'.heap.size)(hk:∀ k,w0.heap.size<=k->k<w0.heap.size+bs.length->w'.heap[k]? = w.heap[k]?):Ap w0 w' bs:=
 ⟨Nat.le_trans h.size hs,hu,fun i t cs hi=>(h.at_ i t cs hi).keep (hk _ (by omega) (by have:=(List.getElem?_eq_some_iff.1 hi).1;omega))⟩
theorem Ap.far {w0 w w' : World}{bs:List (TypeId × Array Value)}(h:Ap w0 w bs){O:Nat}(hO:w0.heap.size+bs.length<=O){row:Option Nat}(hr:∀ k,row=some k->O<=k)(hg:w.grownBy w' row):Ap w0 w' bs:=by
 refine h.keep (h.under.grown hg h.under.size (fun k hk=>by have:=hr k hk;omega)) hg.size (fun k _ hk=>hg.block k (by have:=h.size;omega) (fun e=>by have:=hr k e.symm;omega))
namespace Own
def EY (x:Aa)(v:Value):List Value:=[.int .i64 x.id,.string x.path,.string x.digest,.int .i64 x.opened,.int .i64 x.expires,v]
theorem Cc.ready {B:Nat}{wr w7:World}{v:Value}{L:List Aa}(h:Cc B wr v L)(hb:Below wr.heap.size wr w7)(hB:B<=wr.heap.size)(x:Aa)(v' : Value)(ho:w7.ownsRow wr.heap.size 82 3 v' x.Al.length (x.Al.flatMap BP)):
 ∃ css:List (List Value),(w7.alloc (.cells (EY x v').toArray 46)).ownsRow B 46 6 v L.length css.flatten/\∀ v9 w9,w9.ownsRow B 46 6 v9 (L.length+1) (css.flatten++EY x v')->(w7.alloc (.cells (EY x v').toArray 46)).grownBy w9 v.ownBlock->(v9.ownBlock=v.ownBlock\/v9.ownBlock=some (w7.alloc (.cells (EY x v').toArray 46)).heap.size)->Cc B w9 v9 (L++[x]):=by
 have Jp:Below w7.heap.size w7 (w7.alloc (.cells (EY x v').toArray 46)):=zb
 have hob:∀ k,v.ownBlock=some k->k<wr.heap.size:=by
  obtain⟨_,_,q2,_⟩:=h
  exact BQ q2
 have hu7:Ag 3 Jj (fun k=>B<=k/\k<w7.heap.size/\v.ownBlock≠some k) w7 v' x.Al:=
  Ck (enc:=BP) (fun _=>rfl) (fun _=>rfl) (Bz.own ho) rfl (fun j hj=>by
   have h1:wr.heap.size<=j:=Az ho j hj
   exact⟨by omega,BQ ho j hj,fun e=>by have:=hob j e;omega⟩)
 have hu8:=(hu7.below Jp).mono (G:=fun k=>B<=k/\k<(w7.alloc (.cells (EY x v').toArray 46)).heap.size/\v.ownBlock≠some k) (fun k hk hl=>⟨hk.1,hl,hk.2.2⟩)
 obtain⟨css,h1,h2,h3⟩:=(h.below hb).below Jp
 exact⟨css,h2,fun v9 w9 q1 q2 q3=>Cc.push (x:=x) h1 h2 h3 hu8 q1 q2 q3⟩
def EZ {α : Type} : Int->List α -> List α
 | _,[]=>[]
 | at_,x::l=>if at_=0 then EZ (at_-1) l else x::EZ (at_-1) l
theorem Ry {α : Type}(x : α):∀ (l:List α) (a:Int),EZ a (l++[x])=EZ a l++(if a=l.length then [] else [x])
 | [],a => by
   show(if a=0 then EZ (a-1) [] else x::EZ (a-1) [])=[]++_
   rw[List.nil_append]
   rfl
 | y :: l,a => by
   have ih:=Ry x l (a-1)
   show(if a=0 then EZ (a-1) (l++[x]) else y::EZ (a-1) (l++[x]))=(if a=0 then EZ (a-1) l else y::EZ (a-1) l)++_
   rw[ih]
   have e:(a-1=(l.length:Int))=(a=((y::l).length:Int)):=by rw[List.length_cons];apply propext;constructor<;>intro h<;>omega
   simp only[e]
   split<;>rfl
theorem Uq {α : Type} : ∀ (l:List α) (a:Int),a<0->EZ a l=l
 | [],_,_=>rfl
 | x :: l,a,h => by
   show(if a=0 then _ else _)=_
   rw[if_neg (by omega),Uq l (a-1) (by omega)]
theorem Ur {α : Type} : ∀ (l:List α) (a:Int),(EZ a l).length<=l.length
 | [],_=>Nat.le_refl _
 | x :: l,a => by
   have ih:=Ur l (a-1)
   show(if a=0 then _ else _:List α).length<=_
   split
   ·rw[List.length_cons];omega
   ·rw[List.length_cons,List.length_cons];omega
end Own
theorem Fz (p:Own.Aa)(v:Value)(w:World)(h:Own.Br w v p.Al)(hl:p.Al.length<=3000000):
 Calls Tryz.prog 46 #[.agg #[.int .i64 p.id,.string p.path,.string p.digest,.int .i64 p.opened,.int .i64 p.expires,v]] w fun e w' => ∃ v',e=.returned (.agg #[.int .i64 p.id,.string p.path,.string p.digest,.int .i64 p.opened,.int .i64 p.expires,v'])/\w'.ownsRow w.heap.size 82 3 v' p.Al.length (p.Al.flatMap Own.BP)/\Below w.heap.size w w':=by
 obtain⟨id,pa,di,op,ex,l⟩:=p
 dsimp only at*
 obtain⟨a,c,rfl⟩:=h.len
 have F1:=zh (show Ap w _ [(46,#[.int .i64 id,.string pa,.string di,.int .i64 op,.int .i64 ex,.slice a l.length c]),(46,#[.int .i64 0,.string ⟨#[]⟩,.string ⟨#[]⟩,.int .i64 0,.int .i64 0,.slice none 0 0])] from(((BL.nil w).push 46 #[.int .i64 id,.string pa,.string di,.int .i64 op,.int .i64 ex,.slice a l.length c]).push 46 #[.int .i64 0,.string ⟨#[]⟩,.string ⟨#[]⟩,.int .i64 0,.int .i64 0,.slice none 0 0]).boxes)
 have H:=zh (h.below F1.out.under)
 have hz:((w.alloc (.cells #[.int .i64 id,.string pa,.string di,.int .i64 op,.int .i64 ex,.slice a l.length c] 46)).alloc (.cells #[.int .i64 0,.string ⟨#[]⟩,.string ⟨#[]⟩,.int .i64 0,.int .i64 0,.slice none 0 0] 46)).heap.size=w.heap.size+2:=by simp
 clear h
 go_enter Tryz.func46,Tryz.ntmps46
 go_upto_region 1 with fail
 generalize (w.alloc (.cells #[.int .i64 id,.string pa,.string di,.int .i64 op,.int .i64 ex,.slice a l.length c] 46)).alloc (.cells #[.int .i64 0,.string ⟨#[]⟩,.string ⟨#[]⟩,.int .i64 0,.int .i64 0,.slice none 0 0] 46)=w1 at*
 obtain⟨x00,x01,x02,x03,x04,x05⟩:=F1.out.MP rfl
 have hb2:Below w1.heap.size w1 (w1.alloc (.cells #[] 82)):=zb
 have HO:=zh (ES w1 82 3 w1.heap.size (Nat.le_refl _));have H2:=zh (Own.Br.rows (H.out.below hb2));have HB2:=zh hb2;have F2:=zh (F1.out.step hb2);have HZ:=zh hz
 clear hb2 hz
 (try clear x00);(try clear x01);(try clear x02);(try clear x03);(try clear x04);(try clear x05)
 have x00:(w1.alloc (.cells #[] 82)).cell? ⟨w.heap.size,0,none⟩=some (.int .i64 id):=F2.out.cell 0 0 rfl rfl
 have x01:(w1.alloc (.cells #[] 82)).cell? ⟨w.heap.size,1,none⟩=some (.string pa):=F2.out.cell 0 1 rfl rfl
 have x02:(w1.alloc (.cells #[] 82)).cell? ⟨w.heap.size,2,none⟩=some (.string di):=F2.out.cell 0 2 rfl rfl
 have x03:(w1.alloc (.cells #[] 82)).cell? ⟨w.heap.size,3,none⟩=some (.int .i64 op):=F2.out.cell 0 3 rfl rfl
 have x04:(w1.alloc (.cells #[] 82)).cell? ⟨w.heap.size,4,none⟩=some (.int .i64 ex):=F2.out.cell 0 4 rfl rfl
 have x05:(w1.alloc (.cells #[] 82)).cell? ⟨w.heap.size,5,none⟩=some (.slice a l.length c):=F2.out.cell 0 5 rfl rfl
 go_wp2_with (at_builtin;go_must (refine Ai Dk rfl _ _ rfl w1.heap.size 0 _ [] rfl HO.out (.slice a l.length c) l.length _ rfl H2.out (Own.jq l) (by omega) (by omega) HB2.out.size ?_);intro v5 w5 ho5 hg5 _;rw[Nat.zero_add,List.nil_append] at ho5;obtain⟨va,vm,vc,rfl⟩:=Ac ho5;have HO5:=zh ho5;have F5:=zh (F2.out.far (O:=w1.heap.size) (by have:=HZ.out;show w.heap.size+2<=w1.heap.size;omega) (Az HO.out) hg5);clear ho5 hg5;have y00:w5.cell? ⟨w.heap.size,0,none⟩=some (.int .i64 id):=F5.out.cell 0 0 rfl rfl;have zaQ:w5.frozen? ⟨w.heap.size,0,none⟩=false:=F5.out.free 0 0 rfl;have y01:w5.cell? ⟨w.heap.size,1,none⟩=some (.string pa):=F5.out.cell 0 1 rfl rfl;have zaR:w5.frozen? ⟨w.heap.size,1,none⟩=false:=F5.out.free 0 1 rfl;have y02:w5.cell? ⟨w.heap.size,2,none⟩=some (.string di):=F5.out.cell 0 2 rfl rfl;have zaS:w5.frozen? ⟨w.heap.size,2,none⟩=false:=F5.out.free 0 2 rfl;have y03:w5.cell? ⟨w.heap.size,3,none⟩=some (.int .i64 op):=F5.out.cell 0 3 rfl rfl;have zcl:w5.frozen? ⟨w.heap.size,3,none⟩=false:=F5.out.free 0 3 rfl;have y04:w5.cell? ⟨w.heap.size,4,none⟩=some (.int .i64 ex):=F5.out.cell 0 4 rfl rfl;have zcm:w5.frozen? ⟨w.heap.size,4,none⟩=false:=F5.out.free 0 4 rfl;have y05:w5.cell? ⟨w.heap.size,5,none⟩=some (.slice a l.length c):=F5.out.cell 0 5 rfl rfl;have zcn:w5.frozen? ⟨w.heap.size,5,none⟩=false:=F5.out.free 0 5 rfl;have y10:w5.cell? ⟨w.heap.size+1,0,none⟩=some (.int .i64 0):=F5.out.cell 1 0 rfl rfl;have zco:w5.frozen? ⟨w.heap.size+1,0,none⟩=false:=F5.out.free 1 0 rfl;have y11:w5.cell? ⟨w.heap.size+1,1,none⟩=some (.string ⟨#[]⟩):=F5.out.cell 1 1 rfl rfl;have zcp:w5.frozen? ⟨w.heap.size+1,1,none⟩=false:=F5.out.free 1 1 rfl;have y12:w5.cell? ⟨w.heap.size+1,2,none⟩=some (.string ⟨#[]⟩):=F5.out.cell 1 2 rfl rfl;have zcq:w5.frozen? ⟨w.heap.size+1,2,none⟩=false:=F5.out.free 1 2 rfl;have y13:w5.cell? ⟨w.heap.size+1,3,none⟩=some (.int .i64 0):=F5.out.cell 1 3 rfl rfl;have zcr:w5.frozen? ⟨w.heap.size+1,3,none⟩=false:=F5.out.free 1 3 rfl;have y14:w5.cell? ⟨w.heap.size+1,4,none⟩=some (.int .i64 0):=F5.out.cell 1 4 rfl rfl;have zcs:w5.frozen? ⟨w.heap.size+1,4,none⟩=false:=F5.out.free 1 4 rfl;have y15:w5.cell? ⟨w.heap.size+1,5,none⟩=some (.slice none 0 0):=F5.out.cell 1 5 rfl rfl;have zct:w5.frozen? ⟨w.heap.size+1,5,none⟩=false:=F5.out.free 1 5 rfl)
 (try clear x00);(try clear x01);(try clear x02);(try clear x03);(try clear x04);(try clear x05)
 have G2:=(((((((F5.out.put 0 5 (.slice va vm vc) rfl).put 1 0 (.int .i64 id) rfl).put 1 1 (.string pa) rfl).put 1 2 (.string di) rfl).put 1 3 (.int .i64 op) rfl).put 1 4 (.int .i64 ex) rfl).put 1 5 (.slice va vm vc) rfl)
 refine Es rfl rfl (Ab (G2.at1 1 rfl) Tryz.underlying46 rfl Cu) ⟨_,rfl,?_,G2.under⟩
 have hz:=HZ.out
 refine BG (Aq HO5.out (fun k hk=>?_)) (by omega)
 have k0:=Az HO5.out k hk
 have k1:k≠w.heap.size:=by omega
 have k2:k≠w.heap.size+1:=by omega
 rw[zo k2,zo k2,zo k2,zo k2,zo k2,zo k2]
 exact zo (by show k≠w.heap.size+0;omega)
theorem Rz (nx at_:Int)(pv:Value)(l:List Own.Aa)(w:World)(hP:Own.A9 w pv l)(hl:l.length<=1000000)(hlv:∀ x∈l,x.Al.length<=3000000):
 Calls Tryz.prog 50 #[.agg #[.int .i64 nx,pv],.int .i64 at_] w fun e w' => (∃ v',e=.returned (.agg #[.int .i64 nx,v'])/\Own.Cc w.heap.size w' v' (Own.EZ at_ l))/\Below w.heap.size w w':=by
 obtain⟨a,c,rfl⟩:=hP.len
 have F1:=zh (show Ap w _ [(24,#[.int .i64 nx,.slice a l.length c]),(24,#[.int .i64 0,.slice none 0 0]),(24,#[.int .i64 nx,.slice none 0 0])] from((((BL.nil w).push 24 #[.int .i64 nx,.slice a l.length c]).push 24 #[.int .i64 0,.slice none 0 0]).push 24 #[.int .i64 nx,.slice none 0 0]).boxes)
 have HL:=zh hP;have HLV:=zh hlv
 clear hP hlv
 have x00:(((w.alloc (.cells #[.int .i64 nx,.slice a l.length c] 24)).alloc (.cells #[.int .i64 0,.slice none 0 0] 24)).alloc (.cells #[.int .i64 nx,.slice none 0 0] 24)).cell? ⟨w.heap.size,0,none⟩=some (.int .i64 nx):=F1.out.cell 0 0 rfl rfl
 have x01:(((w.alloc (.cells #[.int .i64 nx,.slice a l.length c] 24)).alloc (.cells #[.int .i64 0,.slice none 0 0] 24)).alloc (.cells #[.int .i64 nx,.slice none 0 0] 24)).cell? ⟨w.heap.size,1,none⟩=some (.slice a l.length c):=F1.out.cell 0 1 rfl rfl
 go_enter Tryz.func50,Tryz.ntmps50
 go_upto_region 2 with fail
 generalize (((w.alloc (.cells #[.int .i64 nx,.slice a l.length c] 24)).alloc (.cells #[.int .i64 0,.slice none 0 0] 24)).alloc (.cells #[.int .i64 nx,.slice none 0 0] 24))=w1 at*
 go_wp2_with fail
 (try clear x00);(try clear x01)
 go_loopw [6] (fun i wr=>∃ (k:Nat) (v:Value),k<=l.length/\i=.int .i64 k/\Ap w wr [(24,#[.int .i64 nx,.slice a l.length c]),(24,#[.int .i64 0,.slice none 0 0]),(24,#[.int .i64 nx,v])]/\Own.Cc (w.heap.size+3) wr v (Own.EZ at_ (l.take k))) (fun i _=>l.length-(intOf i).toNat)
 case atStart=>exact⟨0,_,by omega,rfl,F1.out,Own.Cc.nil _ _⟩
 case round=>
  obtain⟨k,v,hk,rfl,hbx,hpo⟩:=hrel
  obtain⟨L,hL⟩:∃ L,L=Own.EZ at_ (l.take k):=⟨_,rfl⟩
  rw[<- hL] at hpo
  have hLM:L.length<=1000000:=by
   rw[hL]
   have:=Own.Ur (l.take k) at_
   rw[List.length_take] at this
   omega
  obtain⟨va,vc,rfl⟩:=hpo.one
  have G1:=zh hbx;have HPO:=zh hpo
  clear hbx hpo
  obtain⟨x00,x01⟩:=G1.out.Dw rfl
  obtain⟨x10,x11,Vy,Vz⟩:=G1.out.wF rfl
  obtain⟨x20,x21,Ke,Kg⟩:=G1.out.nX rfl
  by_cases hlt:k<l.length
  case neg=>
   have hke:k=l.length:=by omega
   have dk:decide ((k:Int)<l.length)=false:=zf
   have HL2:=zh (show L=Own.EZ at_ l by rw[hL,hke,List.take_length])
   clear hke hL
   go_wp2_with fail
   have G2:=((G1.out.put 1 0 (.int .i64 nx) rfl).put 1 1 (.slice va L.length vc) rfl)
   refine Es rfl rfl (Ab (G2.at1 1 rfl) Tryz.underlying24 rfl Ao) ⟨⟨_,rfl,?_⟩,G2.under⟩
   rw[<- HL2.out]
   exact(HPO.out.keep (by simp[World.setCell]) (fun k hk _=>by
    have hk1:k≠w.heap.size+1:=by omega
    rw[zo hk1,zo hk1])).base (by omega)
  have dk:decide ((k:Int)<l.length)=true:=zt
  have htk:Own.EZ at_ (l.take (k+1))=L++(if at_=(k:Int) then [] else [l[k]]):=by
   rw[List.take_succ_eq_append_getElem hlt,Own.Ry,<- hL,List.length_take,Nat.min_eq_left (by omega)]
  have HTK:=zh htk
  clear hL htk
  by_cases hat:(k:Int)=at_
  ·have da:((k:Int)==at_)=true:=beq_iff_eq.2 hat
   have HAT:=zh hat;clear hat
   go_wp2_with fail
   refine⟨⟨k+1,_,by omega,by go_num,G1.out,?_⟩,by simp[intOf];omega⟩
   rw[HTK.out,if_pos HAT.out.symm,List.append_nil]
   exact HPO.out
  ·have da:((k:Int)==at_)=false:=beq_eq_false_iff_ne.2 hat
   have HAT:=zh hat;clear hat
   obtain⟨b,o,u,ha,hbl,e0,e1,e2,e3,e4,e5,huv⟩:=Own.A9.cells (HL.out.below G1.out.under) hlt
   subst ha
   have hlk:=HLV.out l[k] (List.getElem_mem hlt)
   obtain⟨x,hx⟩:∃ x,x=l[k]:=⟨_,rfl⟩
   rw[<- hx] at e0 e1 e2 e3 e4 huv hlk
   obtain⟨ua,uc,rfl⟩:=huv.len
   have hcp:=Fz x (.slice ua x.Al.length uc) wr.drew (huv.below (Below.refl _ _).drew) hlk
   have HCP:=zh hcp;have HX:=zh hx
   obtain⟨pid,ppa,pdi,pop,pex,pvs⟩:=x
   dsimp only at e0 e1 e2 e3 e4 HCP
   have hol:w.heap.size+1+1<wr.heap.size:=G1.out.lt (i:=2) (by show 2<3;omega)
   have hwz:w.heap.size+3<=wr.heap.size:=G1.out.size
   have HXS:=zh (zi x21)
   clear hx hcp huv hlk
   go_wp2_with fail
   refine Lex.zn (fun j=>j=w.heap.size+1+1) [1] 9 [8] ?_
   simp only[Lex.AA,zd]
   go_wp2_with fail
   refine HCP.out.mono ?_
   rintro e w7 ⟨v',rfl,hov,hb7⟩
   rw[Ad] at hov
   obtain⟨va',vm',vc',rfl⟩:=Ac hov
   have FM : Below wr.heap.size wr w7:=(Below.refl wr.heap.size wr).drew.trans hb7
   have G7:=zh (G1.out.step FM);have HB7:=zh FM;have HOV:=zh hov
   (try clear x00);(try clear x01);(try clear x10 x11 Vy Vz);(try clear x20 x21 Ke Kg)
   obtain⟨x20,x21,Ke,Kg⟩:=G7.out.nX rfl
   clear hb7 FM hov e0 e1 e2 e3 e4 e5 HCP
   go_wp2_with fail
   refine Lex.Mid.intro (fun j hj _=>by rw[hj];exact HB7.out.block _ hol) ?_
   have hrw:=(Bv w7 46 #[.int .i64 pid,.string ppa,.string pdi,.int .i64 pop,.int .i64 pex,.slice va' vm' vc'] 6 1 1 rfl)
   obtain⟨css,q1,q2⟩:=Own.Cc.ready HPO.out HB7.out hwz ⟨pid,ppa,pdi,pop,pex,pvs⟩ (.slice va' vm' vc') HOV.out
   simp only[Own.EY] at q1 q2
   have Jp:Below w7.heap.size w7 (w7.alloc (.cells #[.int .i64 pid,.string ppa,.string pdi,.int .i64 pop,.int .i64 pex,.slice va' vm' vc'] 46)):=zb
   have h67:=HB7.out.size
   have Q1:=zh q1;have Q2:=zh q2;have HRW:=zh hrw;have G8:=zh (G7.out.step Jp)
   clear q1 q2 hrw Jp
   go_wp2_with (at_builtin;go_must (refine Ai K9 rfl _ _ rfl (w.heap.size+3) L.length (.slice va L.length vc) css.flatten rfl Q1.out (.slice (some ⟨w7.heap.size,0,none⟩) 1 1) 1 [.int .i64 pid,.string ppa,.string pdi,.int .i64 pop,.int .i64 pex,.slice va' vm' vc'] rfl HRW.out (by intro u hu;simp at hu;rcases hu with rfl|rfl|rfl|rfl|rfl|rfl<;>rfl) (by omega) (by omega) (by rw[World.size_alloc];omega) ?_);intro v9 w9 ho9 hg9 hw9;obtain⟨ya,ym,yc,rfl⟩:=Ac ho9;have HP9:=zh (Q2.out _ _ ho9 hg9 hw9);have G9:=zh (G8.out.far (Nat.le_refl _) (Az Q1.out) hg9);have y20:w9.cell? ⟨w.heap.size+1+1,0,none⟩=some (.int .i64 nx):=G9.out.cell 2 0 rfl rfl;have zaT:w9.frozen? ⟨w.heap.size+1+1,0,none⟩=false:=G9.out.free 2 0 rfl;have y21:w9.cell? ⟨w.heap.size+1+1,1,none⟩=some (.slice va L.length vc):=G9.out.cell 2 1 rfl rfl;have zaU:w9.frozen? ⟨w.heap.size+1+1,1,none⟩=false:=G9.out.free 2 1 rfl;clear ho9 hg9 hw9)
   refine Lex.zk ⟨⟨rfl,HXS.out⟩,trivial⟩ ?_
   go_wp2_with fail
   refine⟨⟨k+1,.slice ya ym yc,by omega,by go_num,G9.out.put 2 1 (.slice ya ym yc) rfl,?_⟩,by simp[intOf];omega⟩
   rw[HTK.out,if_neg (fun e=>HAT.out e.symm),<- HX.out]
   exact HP9.out.keep (by simp[World.setCell]) (fun k hk _=>zo (by show k≠w.heap.size+1+1;omega))
namespace Own
theorem R7 {α : Type}{ok : α -> Bool}{lt : α -> α -> Bool}(ht:∀ x y z,lt x y=true->lt y z=true->lt x z=true):∀ (l:List α) (p:Option α),Aj ok lt p l=true->(∀ y,p=some y->∀ x∈l,lt y x=true)/\l.Pairwise fun x y=>lt x y=true
 | [],_,_=>⟨fun _ _ x hx=>(by cases hx),List.Pairwise.nil⟩
 | x :: l,p,h => by
   have h' : ((ok x&&(match p with|none=>true|some y=>lt y x))&&Aj ok lt (some x) l)=true:=by cases p<;>exact h
   rw[Bool.and_eq_true,Bool.and_eq_true] at h'
   obtain⟨⟨_,h1⟩,h2⟩:=h'
   obtain⟨h3,h4⟩:=R7 ht l (some x) h2
   refine⟨fun y hy z hz=>?_,List.pairwise_cons.2 ⟨h3 x rfl,h4⟩⟩
   subst hy
   rcases List.mem_cons.1 hz with rfl|hz
   ·exact h1
   ·exact ht _ _ _ h1 (h3 x rfl z hz)
theorem Us {q:Queue}(h:AY q=true):q.props.Pairwise fun x y=>x.id<y.id:=by
 unfold AY at h
 rw[Bool.and_eq_true] at h
 exact(R7 (lt:=fun x y:Aa=>decide (x.id<y.id)) (fun x y z h1 h2=>decide_eq_true (Int.lt_trans (of_decide_eq_true h1) (of_decide_eq_true h2))) _ none h.2).2.imp of_decide_eq_true
end Own
theorem MX (v:Value)(s:Own.Space)(w:World)(h:Own.Ar w v s.members)(hl:s.members.length<=140737488355328)(hp:s.pre.size<=140737488355328):
 Calls Tryz.prog 102 #[.agg #[.string s.pre,v,.int .i64 s.threshold]] w fun e w' => e=.returned (.bool (Own.AO s))/\Below w.heap.size w w':=by
 obtain⟨R,hR⟩:∃ R,R=Own.AO s:=⟨_,rfl⟩
 rw[<- hR]
 unfold Own.AO at hR
 obtain⟨a,c,rfl⟩:=h.len
 have F1:=zh (show Ap w _ [(70,#[.string s.pre,.slice a s.members.length c,.int .i64 s.threshold])] from((BL.nil w).push 70 #[.string s.pre,.slice a s.members.length c,.int .i64 s.threshold]).boxes)
 have HR:=zh hR;have HL:=zh h
 clear hR h
 have x00:(w.alloc (.cells #[.string s.pre,.slice a s.members.length c,.int .i64 s.threshold] 70)).cell? ⟨w.heap.size,0,none⟩=some (.string s.pre):=F1.out.cell 0 0 rfl rfl
 have x01:(w.alloc (.cells #[.string s.pre,.slice a s.members.length c,.int .i64 s.threshold] 70)).cell? ⟨w.heap.size,1,none⟩=some (.slice a s.members.length c):=F1.out.cell 0 1 rfl rfl
 have x02:(w.alloc (.cells #[.string s.pre,.slice a s.members.length c,.int .i64 s.threshold] 70)).cell? ⟨w.heap.size,2,none⟩=some (.int .i64 s.threshold):=F1.out.cell 0 2 rfl rfl
 go_enter Tryz.func102,Tryz.ntmps102
 go_wp2_with fail
 generalize w.alloc (.cells #[.string s.pre,.slice a s.members.length c,.int .i64 s.threshold] 70)=w1 at*
 refine(Ct s.pre w1 (by omega)).mono ?_
 rintro e w2 ⟨rfl,rfl⟩
 cases hp:Own.Bp s.pre with
 | false =>
   have e:R=false:=by rw[HR.out,hp];rfl
   have HE:=zh e;clear e
   go_wp2_with fail
   go_ret
   exact⟨by rw[HE.out];rfl,F1.out.under⟩
 | true=>
 go_wp2_with fail
 refine(KM _ s.members w2 (HL.out.below F1.out.under) hl).mono ?_
 rintro e w3 ⟨rfl,hb3⟩
 have F3:=zh (F1.out.step hb3)
 clear hb3
 (try clear x00);(try clear x01);(try clear x02)
 obtain⟨x00,x01,x02⟩:=F3.out.Jo rfl
 cases hm:Own.Cv s.members with
 | false =>
   have e:R=false:=by rw[HR.out,hm];simp
   have HE:=zh e;clear e
   go_wp2_with fail
   go_ret
   exact⟨by rw[HE.out];rfl,F3.out.under⟩
 | true=>
 have e:R=(decide (1<=s.threshold)&&decide (s.threshold<=s.members.length)):=by rw[HR.out,hp,hm];simp
 have HE:=zh e;clear e
 by_cases h1:1<=s.threshold
 ·have d1:decide (1<=s.threshold)=true:=decide_eq_true h1
  have e:R=decide (s.threshold<=s.members.length):=by rw[HE.out,d1];rfl
  have HE2:=zh e;clear e
  go_wp2_with fail
  go_ret
  exact⟨by rw[HE2.out];rfl,F3.out.under⟩
 ·have d1:decide (1<=s.threshold)=false:=decide_eq_false h1
  have e:R=false:=by rw[HE.out,d1];rfl
  have HE2:=zh e;clear e
  go_wp2_with fail
  go_ret
  exact⟨by rw[HE2.out];rfl,F3.out.under⟩
theorem MZ (o:Own.Ak)(sv kv:Value)(w:World)(hS:Own.AJ w sv o.spaces)(hK:Own.Bo w kv o.keys)(hls:o.spaces.length<=140737488355328)(hlk:o.keys.length<=140737488355328)(hlm:∀ s∈o.spaces,s.members.length<=140737488355328/\s.pre.size<=140737488355328):
 Calls Tryz.prog 67 #[.agg #[.int .i64 o.count,sv,kv]] w fun e w' => e=.returned (.bool (Own.AQ o))/\Below w.heap.size w w':=by
 obtain⟨R,hR⟩:∃ R,R=Own.AQ o:=⟨_,rfl⟩
 rw[<- hR]
 unfold Own.AQ Own.late at hR
 obtain⟨sa,sc,rfl⟩:=hS.len
 obtain⟨ka,kc,rfl⟩:=hK.len
 obtain⟨cnt,S,K⟩:=o
 dsimp only at*
 have ha:=At.new w 38 #[.int .i64 cnt,.slice sa S.length sc,.slice ka K.length kc]
 have hb1:Below w.heap.size w (w.alloc (.cells #[.int .i64 cnt,.slice sa S.length sc,.slice ka K.length kc] 38)):=zb
 have HR:=zh hR;have HS:=zh (hS.below hb1);have HK:=zh (hK.below hb1);have HB:=zh hb1;have HA:=zh ha;have HLM:=zh hlm
 have c0:=ha.cell 0;have c1:=ha.cell 1;have c2:=ha.cell 2
 simp only[zg] at c0 c1 c2
 clear hR hS hK ha hb1 hlm
 go_enter Tryz.func67,Tryz.ntmps67
 by_cases h1:0<=cnt
 case neg=>
  have d1:decide (cnt<0)=true:=zt
  have e:R=false:=by rw[HR.out,decide_eq_false h1];rfl
  have HE:=zh e;clear e
  go_wp2_with fail
  go_ret
  exact⟨by rw[HE.out];rfl,HB.out⟩
 have d1:decide (cnt<0)=false:=zf
 by_cases h2:cnt<=1099511627776
 case neg=>
  have d2:decide (1099511627776<cnt)=true:=zt
  have e:R=false:=by rw[HR.out,decide_eq_false h2];simp
  have HE:=zh e;clear e
  go_wp2_with fail
  go_ret
  exact⟨by rw[HE.out];rfl,HB.out⟩
 have d2:decide (1099511627776<cnt)=false:=zf
 by_cases h3:S.length<=64
 case neg=>
  have d3:decide ((64:Int)<S.length)=true:=zt
  have e:R=false:=by rw[HR.out,decide_eq_false h3];simp
  have HE:=zh e;clear e
  go_wp2_with fail
  go_ret
  exact⟨by rw[HE.out];rfl,HB.out⟩
 have d3:decide ((64:Int)<S.length)=false:=zf
 have e:R=(Own.Aj Own.AO (fun x y=>Own.Ah x.pre y.pre) none S&&Own.Aj Own.Cy (fun x y=>Own.Ah x.pub y.pub) none K):=by
  rw[HR.out,decide_eq_true h1,decide_eq_true h2,decide_eq_true h3];simp
 have HR2:=zh e;clear e HR
 go_wp2_with fail
 generalize w.alloc (.cells #[.int .i64 cnt,.slice sa S.length sc,.slice ka K.length kc] 38)=w1 at*
 clear d1 d2 d3 h1 h2
 go_loopw [3] (fun i wr=>∃ k:Nat,k<=S.length/\i=.int .i64 k/\Own.Aj Own.AO (fun x y=>Own.Ah x.pre y.pre) none (S.take k)=true/\Below w1.heap.size w1 wr) (fun i _=>S.length-(intOf i).toNat)
 case atStart=>exact⟨0,by omega,rfl,rfl,Below.refl _ _⟩
 case round=>
  obtain⟨k,hk,rfl,hok,hb⟩:=hrel
  have HOK:=zh hok;have HBW:=zh hb
  have hz1:=HA.out.lt
  have hbs:=hb.size
  have ha2:=HA.out.below hb hz1
  obtain⟨c0,c1,c2⟩:=ha2.c3
  clear ha2
  by_cases hlt:k<S.length
  case neg=>
   have hke:k=S.length:=by omega
   have dk:decide ((k:Int)<S.length)=false:=zf
   have e:R=Own.Aj Own.Cy (fun x y=>Own.Ah x.pub y.pub) none K:=by
    rw[HR2.out]
    rw[hke,List.take_length] at hok
    rw[hok,Bool.true_and]
   have HR3:=zh e
   have HKW:=zh (HK.out.below hb)
   have HB2:=zh (HB.out.trans (hb.mono HB.out.size))
   have HA2:=zh (HA.out.below hb hz1)
   clear e hok hke hb HR2 HK HB HA HOK HBW HS
   go_wp2_with fail
   have hzw:w.heap.size<wr.heap.size:=by omega
   clear dk
   obtain⟨w5,hw5⟩:∃ w5,w5=wr:=⟨_,rfl⟩
   subst hw5
   go_loopw [4] (fun i wr=>∃ j:Nat,j<=K.length/\i=.int .i64 j/\Own.Aj Own.Cy (fun x y=>Own.Ah x.pub y.pub) none (K.take j)=true/\Below w5.heap.size w5 wr) (fun i _=>K.length-(intOf i).toNat)
   case atStart=>exact⟨0,by omega,rfl,rfl,Below.refl _ _⟩
   case round=>
    obtain⟨j,hj,rfl,hok,hb⟩:=hrel
    have HBX:=zh hb
    have ha2:=HA2.out.below hb hzw
    obtain⟨c0,c1,c2⟩:=ha2.c3
    clear ha2
    by_cases hlt:j<K.length
    case neg=>
     have hje:j=K.length:=by omega
     have dk:decide ((j:Int)<K.length)=false:=zf
     have e:R=true:=by rw[HR3.out,<- hok,hje,List.take_length]
     have HE:=zh e;clear e hok hb hje
     go_wp2_with fail
     go_ret
     exact⟨by rw[HE.out];rfl,HB2.out.trans (HBX.out.mono HB2.out.size)⟩
    have dk:decide ((j:Int)<K.length)=true:=zt
    have hra:R=((Own.Cy K[j]&&Own.ahead (fun x y=>Own.Ah x.pub y.pub) (K.take j).getLast? K[j])&&Own.Aj Own.Cy (fun x y=>Own.Ah x.pub y.pub) (some K[j]) (K.drop (j+1))):=by rw[HR3.out,Own.D7 _ _ K j hlt,hok,Bool.true_and]
    have htk:Own.Aj Own.Cy (fun x y=>Own.Ah x.pub y.pub) none (K.take (j+1))=(Own.Cy K[j]&&Own.ahead (fun x y=>Own.Ah x.pub y.pub) (K.take j).getLast? K[j]):=by rw[Own.CV _ _ K j hlt,hok,Bool.true_and]
    have hlk:=HKW.out.below hb
    obtain⟨b,o,ha,hbl,e0,e1⟩:=Own.Bo.cells hlk hlt
    have BR:∀ i,j=i+1->∃ x:Own.KeyUse,wr.cell? ⟨b,o+i*2,none⟩=some (.string x.pub)/\(K.take j).getLast? = some x:=by
     intro i hi
     obtain⟨b',o',ha',_,e0,_⟩:=Own.Bo.cells hlk (i:=i) (by omega)
     rw[ha] at ha'
     cases ha'
     have hg:=Own.getLast_take K i (by omega)
     rw[<- hi] at hg
     exact⟨_,e0,hg⟩
    subst ha
    obtain⟨ku,hku⟩:∃ x,x=K[j]:=⟨_,rfl⟩
    rw[<- hku] at hra htk e0 e1
    obtain⟨rest,hrest⟩:∃ x,x=Own.Aj Own.Cy (fun x y=>Own.Ah x.pub y.pub) (some ku) (K.drop (j+1)):=⟨_,rfl⟩
    rw[<- hrest] at hra
    obtain⟨pb,nx⟩:=ku
    have hkk:Own.Cy ⟨pb,nx⟩=(Sig.Bw pb&&decide (0<=nx)&&decide (nx<=2^(pb.get! 32).toNat)):=rfl
    rw[hkk] at hra htk
    dsimp only at hra htk e0 e1
    have hb5:Below w5.heap.size w5 (wr.alloc (.cells #[.string pb,.int .i64 nx] 91)).drew:=(hb.alloc hb.size _).drew
    have ha5:=((HA2.out.below hb hzw).alloc (.cells #[.string pb,.int .i64 nx] 91)).drew
    have b2:=ha5.cell 2
    simp only[zg] at b2
    have Du:=zh BR;have HB5:=zh hb5
    clear hok hb hlk BR hb5 ha5 hrest hku hkk HKW
    cases hp:Sig.Bw pb with
    | false =>
      have e:R=false:=by rw[hra,hp];rfl
      have HE:=zh e;clear e hra htk
      go_wp2_with fail
      refine Lex.zl ?_
      go_wp2_with fail
      refine(Bb pb _).mono ?_
      rintro e2 w2 ⟨rfl,rfl⟩
      rw[hp]
      go_wp2_with fail
      refine Lex.ze ?_
      go_wp2_with fail
      go_ret
      exact⟨by rw[HE.out];rfl,HB2.out.trans (HB5.out.mono HB2.out.size)⟩
    | true=>
    rw[hp,Bool.true_and] at hra htk
    have h33:pb.size=33:=of_decide_eq_true (Bool.and_eq_true_iff.1 hp).1
    have h6:(pb.get! 32).toNat<=6:=of_decide_eq_true (Bool.and_eq_true_iff.1 hp).2
    have h32:32<pb.size:=by omega
    have hg:pb.get! 32=pb[32]:=getElem!_pos pb.data 32 h32
    rw[hg] at h6 hra htk
    obtain⟨N,hN⟩:∃ N:Nat,N=2^pb[32].toNat:=⟨_,rfl⟩
    have rC:N<=64:=by
     rw[hN]
     exact Nat.le_trans (Nat.pow_le_pow_right (by omega) h6) (by decide)
    have hNN:((2:Int)^pb[32].toNat)=(N:Int):=by rw[hN];exact(Int.natCast_pow 2 _).symm
    have hsh:wrap64 ((2:Int)^pb[32].toNat)=(N:Int):=by
     rw[hNN]
     unfold wrap64
     omega
    rw[hNN] at hra htk
    have H33:=zh h33;have HHP:=zh hp;have HSH:=zh hsh
    clear hN hNN hg h33 hp hsh
    have dsz:((pb.size:Int)==33)=true:=by rw[beq_iff_eq];have:=H33.out;omega
    by_cases n1:0<=nx
    case neg=>
     have dn1:decide (nx<0)=true:=zt
     have e:R=false:=by rw[hra,decide_eq_false n1];rfl
     have HE:=zh e;clear e hra htk
     go_wp2_with fail
     refine Lex.zl ?_
     go_wp2_with fail
     refine(Bb pb _).mono ?_
     rintro e2 w2 ⟨rfl,rfl⟩
     rw[HHP.out]
     go_wp2_with (rw[HSH.out])
     refine Lex.ze ?_
     go_wp2_with fail
     go_ret
     exact⟨by rw[HE.out];rfl,HB2.out.trans (HB5.out.mono HB2.out.size)⟩
    have dn1:decide (nx<0)=false:=zf
    rw[decide_eq_true n1,Bool.true_and] at hra htk
    by_cases n2:nx<=(N:Int)
    case neg=>
     have dn2:decide ((N:Int)<nx)=true:=zt
     have e:R=false:=by rw[hra,decide_eq_false n2];rfl
     have HE:=zh e;clear e hra htk n1 n2
     go_wp2_with fail
     refine Lex.zl ?_
     go_wp2_with fail
     refine(Bb pb _).mono ?_
     rintro e2 w2 ⟨rfl,rfl⟩
     rw[HHP.out]
     go_wp2_with (rw[HSH.out])
     refine Lex.ze ?_
     go_wp2_with fail
     go_ret
     exact⟨by rw[HE.out];rfl,HB2.out.trans (HB5.out.mono HB2.out.size)⟩
    have dn2:decide ((N:Int)<nx)=false:=zf
    rw[decide_eq_true n2,Bool.true_and] at hra htk
    rcases Nat.eq_zero_or_pos j with hj0|hjp
    ·have hl0:(K.take j).getLast? = none:=by rw[hj0];rfl
     rw[hl0] at htk
     have HT:=zh htk
     have HJ0:=zh hj0
     have dz:decide ((0:Int)<(j:Int))=false:=zf
     have dz' : decide (0<j)=false:=zf
     clear hl0 hra htk hj0
     go_wp2_with fail
     refine Lex.zl ?_
     go_wp2_with fail
     refine(Bb pb _).mono ?_
     rintro e2 w2 ⟨rfl,rfl⟩
     rw[HHP.out]
     go_wp2_with (rw[HSH.out])
     refine Lex.ze ?_
     go_wp2_with fail
     exact⟨⟨j+1,by omega,by go_num,HT.out,HB5.out⟩,by simp[intOf];omega⟩
    ·obtain⟨i,hi⟩:∃ i,j=i+1:=⟨j-1,by omega⟩
     obtain⟨x,f0,hx⟩:=Du.out i hi
     rw[hx] at hra htk
     have Cr:R=(Own.Ah x.pub pb&&rest):=hra
     have Cn:Own.Aj Own.Cy (fun x y=>Own.Ah x.pub y.pub) none (K.take (j+1))=Own.Ah x.pub pb:=htk
     unfold Own.Ah at Cr
     have dz:decide ((0:Int)<(j:Int))=true:=zt
     have dz' : decide (0<j)=true:=zt
     have ek:(j:Int)-1=(i:Int):=by omega
     have hjl:i<K.length:=by omega
     have f1:(wr.alloc (.cells #[.string pb,.int .i64 nx] 91)).cell? ⟨b,o+i*2,none⟩=some (.string x.pub):=(((Below.refl wr.heap.size wr).alloc (Nat.le_refl _) _).cell (p:=⟨b,o+i*2,none⟩) hbl).trans f0
     cases hlb:Op.bytesLess x.pub.toList pb.toList with
     | false =>
       have e:R=false:=by rw[Cr,hlb];rfl
       have HE:=zh e;clear e hra htk Cr Cn hx f0 hi
       go_wp2_with fail
       refine Lex.zl ?_
       go_wp2_with fail
       refine(Bb pb _).mono ?_
       rintro e2 w2 ⟨rfl,rfl⟩
       rw[HHP.out]
       go_wp2_with (rw[HSH.out])
       refine Lex.ze ?_
       go_wp2_with fail
       go_ret
       exact⟨by rw[HE.out];rfl,HB2.out.trans (HB5.out.mono HB2.out.size)⟩
     | true =>
       have Xr:Own.Aj Own.Cy (fun x y=>Own.Ah x.pub y.pub) none (K.take (j+1))=true:=by rw[Cn];exact hlb
       have HT:=zh Xr
       clear hra htk Cr Cn Xr hx f0 hi
       go_wp2_with fail
       refine Lex.zl ?_
       go_wp2_with fail
       refine(Bb pb _).mono ?_
       rintro e2 w2 ⟨rfl,rfl⟩
       rw[HHP.out]
       go_wp2_with (rw[HSH.out])
       refine Lex.ze ?_
       go_wp2_with fail
       exact⟨⟨j+1,by omega,by go_num,HT.out,HB5.out⟩,by simp[intOf];omega⟩
  have dk:decide ((k:Int)<S.length)=true:=zt
  have hra:R=(((Own.AO S[k]&&Own.ahead (fun x y=>Own.Ah x.pre y.pre) (S.take k).getLast? S[k])&&Own.Aj Own.AO (fun x y=>Own.Ah x.pre y.pre) (some S[k]) (S.drop (k+1)))&&Own.Aj Own.Cy (fun x y=>Own.Ah x.pub y.pub) none K):=by rw[HR2.out,Own.D7 _ _ S k hlt,hok,Bool.true_and]
  have htk:Own.Aj Own.AO (fun x y=>Own.Ah x.pre y.pre) none (S.take (k+1))=(Own.AO S[k]&&Own.ahead (fun x y=>Own.Ah x.pre y.pre) (S.take k).getLast? S[k]):=by rw[Own.CV _ _ S k hlt,hok,Bool.true_and]
  have hlk:=HS.out.below hb
  obtain⟨b,o,mv,ha,hbl,e0,e1,e2,hmv⟩:=Own.AJ.cells hlk hlt
  have BR:∀ i,k=i+1->∃ x:Own.Space,wr.cell? ⟨b,o+i*3,none⟩=some (.string x.pre)/\(S.take k).getLast? = some x:=by
   intro i hi
   obtain⟨b',o',_,ha',_,e0,_⟩:=Own.AJ.cells hlk (i:=i) (by omega)
   rw[ha] at ha'
   cases ha'
   have hg:=Own.getLast_take S i (by omega)
   rw[<- hi] at hg
   exact⟨_,e0,hg⟩
  subst ha
  have hml:=HLM.out S[k] (List.getElem_mem hlt)
  obtain⟨sp,hsp⟩:∃ x,x=S[k]:=⟨_,rfl⟩
  rw[<- hsp] at hra htk e0 e2 hmv hml
  obtain⟨rest,hrest⟩:∃ x,x=(Own.Aj Own.AO (fun x y=>Own.Ah x.pre y.pre) (some sp) (S.drop (k+1))&&Own.Aj Own.Cy (fun x y=>Own.Ah x.pub y.pub) none K):=⟨_,rfl⟩
  rw[Bool.and_assoc,<- hrest] at hra
  obtain⟨ma,mc,rfl⟩:=hmv.len
  have DT:Below wr.heap.size wr wr.drew:=(Below.refl _ _).drew
  have Rh:=MX (.slice ma sp.members.length mc) sp wr.drew (hmv.below DT) hml.1 hml.2
  have LU:=zh Rh;have Du:=zh BR;have EW:=zh DT
  have hbr:=hb
  clear hok hb hlk BR DT Rh hrest hsp hmv
  cases hs:Own.AO sp with
  | false =>
    have e:R=false:=by rw[hra,hs];rfl
    have HE:=zh e;clear e hra htk
    go_wp2_with fail
    refine Lex.zl ?_
    go_wp2_with fail
    refine LU.out.mono ?_
    rintro e2 w7 ⟨rfl,hb7⟩
    rw[hs]
    have HB7:=zh (HB.out.trans ((hbr.trans ((EW.out.trans (hb7.mono EW.out.size)).mono hbr.size)).mono HB.out.size));clear hb7 hbr
    go_wp2_with fail
    refine Lex.ze ?_
    go_wp2_with fail
    go_ret
    exact⟨by rw[HE.out];rfl,HB7.out⟩
  | true=>
  rw[hs,Bool.true_and] at hra htk
  have HHS:=zh hs;clear hs
  rcases Nat.eq_zero_or_pos k with hk0|hkp
  ·have hl0:(S.take k).getLast? = none:=by rw[hk0];rfl
   rw[hl0] at htk
   have Ri : Own.Aj Own.AO (fun x y=>Own.Ah x.pre y.pre) none (S.take (k+1))=true:=htk
   have HT:=zh Ri
   have HK0:=zh hk0
   have dz:decide ((0:Int)<(k:Int))=false:=zf
   have dz' : decide (0<k)=false:=zf
   clear hl0 hra htk Ri hk0
   go_wp2_with fail
   refine Lex.zl ?_
   go_wp2_with fail
   refine LU.out.mono ?_
   rintro e3 w7 ⟨rfl,hb7⟩
   rw[HHS.out]
   have Kh:=EW.out.trans (hb7.mono EW.out.size)
   have g1:=((HA.out.below (hbr.trans (Kh.mono hbr.size)) hz1)).cell 1
   have g0:=(Kh.cell (p:=⟨b,o+k*3,none⟩) hbl).trans e0
   simp only[zg] at g1
   try have f1:=(Kh.cell (p:=⟨b,o+i*3,none⟩) hbl).trans F0.out
   have HB7:=zh (hbr.trans (Kh.mono hbr.size));clear hb7 Kh hbr
   go_wp2_with fail
   refine Lex.ze ?_
   go_wp2_with fail
   exact⟨⟨k+1,by omega,by go_num,HT.out,HB7.out⟩,by simp[intOf];omega⟩
  ·obtain⟨i,hi⟩:∃ i,k=i+1:=⟨k-1,by omega⟩
   obtain⟨x,f0,hx⟩:=Du.out i hi
   rw[hx] at hra htk
   have Cr:R=(Own.Ah x.pre sp.pre&&rest):=hra
   have Cn:Own.Aj Own.AO (fun x y=>Own.Ah x.pre y.pre) none (S.take (k+1))=Own.Ah x.pre sp.pre:=htk
   have dz:decide ((0:Int)<(k:Int))=true:=zt
   have dz' : decide (0<k)=true:=zt
   have ek:(k:Int)-1=(i:Int):=by omega
   have hjl:i<S.length:=by omega
   have F0:=zh f0
   cases hlb:Own.Ah x.pre sp.pre with
   | false =>
     have e:R=false:=by rw[Cr,hlb];rfl
     have HE:=zh e
     have jm : Op.bytesLess x.pre.toList sp.pre.toList=false:=hlb
     clear e hra htk Cr Cn hx f0 hi hlb
     go_wp2_with fail
     refine Lex.zl ?_
     go_wp2_with fail
     refine LU.out.mono ?_
     rintro e3 w7 ⟨rfl,hb7⟩
     rw[HHS.out]
     have Kh:=EW.out.trans (hb7.mono EW.out.size)
     have g1:=((HA.out.below (hbr.trans (Kh.mono hbr.size)) hz1)).cell 1
     have g0:=(Kh.cell (p:=⟨b,o+k*3,none⟩) hbl).trans e0
     simp only[zg] at g1
     try have f1:=(Kh.cell (p:=⟨b,o+i*3,none⟩) hbl).trans F0.out
     have HB7:=zh (hbr.trans (Kh.mono hbr.size));clear hb7 Kh hbr
     go_wp2_with fail
     refine Lex.ze ?_
     go_wp2_with fail
     go_ret
     exact⟨by rw[HE.out];rfl,HB.out.trans (HB7.out.mono HB.out.size)⟩
   | true =>
     rw[hlb] at Cn
     have HT:=zh Cn
     have jm : Op.bytesLess x.pre.toList sp.pre.toList=true:=hlb
     clear hra htk Cr Cn hx f0 hi hlb
     go_wp2_with fail
     refine Lex.zl ?_
     go_wp2_with fail
     refine LU.out.mono ?_
     rintro e3 w7 ⟨rfl,hb7⟩
     rw[HHS.out]
     have Kh:=EW.out.trans (hb7.mono EW.out.size)
     have g1:=((HA.out.below (hbr.trans (Kh.mono hbr.size)) hz1)).cell 1
     have g0:=(Kh.cell (p:=⟨b,o+k*3,none⟩) hbl).trans e0
     simp only[zg] at g1
     try have f1:=(Kh.cell (p:=⟨b,o+i*3,none⟩) hbl).trans F0.out
     have HB7:=zh (hbr.trans (Kh.mono hbr.size));clear hb7 Kh hbr
     go_wp2_with fail
     refine Lex.ze ?_
     go_wp2_with fail
     exact⟨⟨k+1,by omega,by go_num,HT.out,HB7.out⟩,by simp[intOf];omega⟩
theorem Ki (p:Own.Aa)(ag:Bool)(v:Value)(w:World)(h0:0<=p.id)(h1:p.id<9223372036854775808)(h2:p.path.size<=1000000)(h3:p.digest.size<=1000000):
 Calls Tryz.prog 24 #[.agg #[.int .i64 p.id,.string p.path,.string p.digest,.int .i64 p.opened,.int .i64 p.expires,v],.bool ag] w fun e w' => e=.returned (.string (Own.AX p ag))/\Below w.heap.size w w':=by
 obtain⟨R,hR⟩:∃ R,R=Own.AX p ag:=⟨_,rfl⟩
 rw[<- hR]
 unfold Own.AX at hR
 obtain⟨id,pa,di,op,ex,vs⟩:=p
 dsimp only at*
 obtain⟨n,rfl⟩:∃ n:Nat,id=(n:Int):=⟨id.toNat,by omega⟩
 rw[Int.toNat_natCast] at hR
 have F1:=zh (show Ap w _ [(46,#[.int .i64 (n:Int),.string pa,.string di,.int .i64 op,.int .i64 ex,v])] from((BL.nil w).push 46 #[.int .i64 (n:Int),.string pa,.string di,.int .i64 op,.int .i64 ex,v]).boxes)
 have H1:=zh h1;have H2:=zh h2;have H3:=zh h3;have HR:=zh hR
 clear hR h0 h1 h2 h3
 have x00:(w.alloc (.cells #[.int .i64 (n:Int),.string pa,.string di,.int .i64 op,.int .i64 ex,v] 46)).cell? ⟨w.heap.size,0,none⟩=some (.int .i64 (n:Int)):=F1.out.cell 0 0 rfl rfl
 go_enter Tryz.func24,Tryz.ntmps24
 go_wp2_with fail
 generalize (w.alloc (.cells #[.int .i64 (n:Int),.string pa,.string di,.int .i64 op,.int .i64 ex,v] 46))=w1 at*
 refine(Oz n w1 (by have:=H1.out;omega)).mono ?_
 rintro e w2 ⟨rfl,hb2⟩
 have F2:=zh (F1.out.step hb2)
 (try clear x00)
 have x01:w2.cell? ⟨w.heap.size,1,none⟩=some (.string pa):=F2.out.cell 0 1 rfl rfl
 have x02:w2.cell? ⟨w.heap.size,2,none⟩=some (.string di):=F2.out.cell 0 2 rfl rfl
 obtain⟨U,hU⟩:∃ U,U=Cod.uns n:=⟨_,rfl⟩
 rw[<- hU]
 have zU:U.size<=10:=by rw[hU];exact Cod.BS n
 have HU:=zh hU;clear hU hb2
 go_wp2_with fail
 refine Lex.zn (fun j=>j=w.heap.size) [6] 8 [4,4] ?_
 simp only[Lex.AA,zd]
 go_wp2_with fail
 refine(Oy pa _ (by have:=H2.out;omega)).mono ?_
 rintro e w3 ⟨rfl,hb3⟩
 have HB3:=zh (show Below w2.heap.size w2 w3 from(Below.refl w2.heap.size w2).drew.trans hb3)
 have F3:=zh (F2.out.step HB3.out)
 have hlt:w.heap.size<w2.heap.size:=F2.out.lt (i:=0) (by show 0<1;omega)
 have HXS:=zh (zi x02)
 (try clear x00);(try clear x01);(try clear x02)
 have x02:w3.cell? ⟨w.heap.size,2,none⟩=some (.string di):=F3.out.cell 0 2 rfl rfl
 clear hb3
 obtain⟨TP,hTP⟩:∃ x,x=Cod.text pa:=⟨_,rfl⟩
 rw[<- hTP]
 have zP:TP.size<=1000010:=by rw[hTP];show(Cod.uns pa.size++pa).size<=_;rw[ByteArray.size_append];have:=Cod.BS pa.size;have:=H2.out;omega
 have HTP:=zh hTP;clear hTP
 go_wp2_with fail
 refine Lex.Mid.intro (fun j hj _=>by rw[hj];exact HB3.out.block _ hlt) ?_
 go_wp2_with fail
 refine(Oy di _ (by have:=H3.out;omega)).mono ?_
 rintro e w4 ⟨rfl,hb4⟩
 have HB4:=zh (show Below w2.heap.size w2 w4 from HB3.out.trans (hb4.mono HB3.out.size))
 have F4:=zh (F2.out.step HB4.out)
 clear hb4
 obtain⟨TD,hTD⟩:∃ x,x=Cod.text di:=⟨_,rfl⟩
 rw[<- hTD]
 have zD:TD.size<=1000010:=by rw[hTD];show(Cod.uns di.size++di).size<=_;rw[ByteArray.size_append];have:=Cod.BS di.size;have:=H3.out;omega
 have HTD:=zh hTD;clear hTD
 go_wp2_with fail
 refine Lex.Mid.intro (fun j hj _=>by rw[hj];exact HB4.out.block _ hlt) ?_
 go_wp2_with fail
 refine Lex.zk ⟨⟨rfl,HXS.out⟩,trivial⟩ ?_
 cases ag with
 | true =>
   obtain⟨T,hT⟩:∃ T:ByteArray,T=⟨#[13]⟩:=⟨_,rfl⟩
   have zT:T.size=1:=by rw[hT];rfl
   have HT:=zh hT
   go_upto_region 4 with fail
   rw[<- hT]
   clear hT
   go_wp2_with fail
   go_ret
   refine⟨?_,F4.out.under⟩
   rw[HR.out,HT.out,HU.out,HTP.out,HTD.out]
   unfold Sig.b1
   rw[ByteArray.append_assoc,ByteArray.append_assoc,ByteArray.append_assoc]
   rfl
 | false =>
   obtain⟨T,hT⟩:∃ T:ByteArray,T=⟨#[14]⟩:=⟨_,rfl⟩
   have zT:T.size=1:=by rw[hT];rfl
   have HT:=zh hT
   go_upto_region 5 with fail
   rw[<- hT]
   clear hT
   go_wp2_with fail
   go_ret
   refine⟨?_,F4.out.under⟩
   rw[HR.out,HT.out,HU.out,HTP.out,HTD.out]
   unfold Sig.b1
   rw[ByteArray.append_assoc,ByteArray.append_assoc,ByteArray.append_assoc]
   rfl
theorem Og (pre:ByteArray)(th:Int)(v:Value)(l:List Own.Member)(w:World)(h:Own.Ar w v l)(hl:l.length<=3000000):
 Calls Tryz.prog 105 #[.agg #[.string pre,v,.int .i64 th]] w fun e w' => ∃ v',e=.returned (.agg #[.string pre,v',.int .i64 th])/\w'.ownsRow w.heap.size 73 2 v' l.length (l.flatMap Own.Ie)/\Below w.heap.size w w':=by
 obtain⟨a,c,rfl⟩:=h.len
 have F1:=zh (show Ap w _ [(70,#[.string pre,.slice a l.length c,.int .i64 th]),(70,#[.string ⟨#[]⟩,.slice none 0 0,.int .i64 0])] from(((BL.nil w).push 70 #[.string pre,.slice a l.length c,.int .i64 th]).push 70 #[.string ⟨#[]⟩,.slice none 0 0,.int .i64 0]).boxes)
 have H:=zh (h.below F1.out.under)
 have hz:((w.alloc (.cells #[.string pre,.slice a l.length c,.int .i64 th] 70)).alloc (.cells #[.string ⟨#[]⟩,.slice none 0 0,.int .i64 0] 70)).heap.size=w.heap.size+2:=by simp
 clear h
 go_enter Tryz.func105,Tryz.ntmps105
 go_upto_region 1 with fail
 generalize (w.alloc (.cells #[.string pre,.slice a l.length c,.int .i64 th] 70)).alloc (.cells #[.string ⟨#[]⟩,.slice none 0 0,.int .i64 0] 70)=w1 at*
 obtain⟨x00,x01,x02⟩:=F1.out.Jo rfl
 have HX0:=zh (zi x00)
 have HX1:=zh (zi x01)
 have HX2:=zh (zi x02)
 have hb2:Below w1.heap.size w1 (w1.drew.alloc (.cells #[] 73)):=(Below.refl w1.heap.size w1).drew.alloc (Nat.le_refl _) _
 have ho:=ES w1.drew 73 2 w1.heap.size (by rw[Ad];exact Nat.le_refl _)
 rw[Ad] at ho
 have HO:=zh ho;have H2:=zh (Own.Ar.rows (H.out.below hb2));have HB2:=zh hb2;have F2:=zh (F1.out.step hb2);have HZ:=zh hz
 clear hb2 hz ho
 have F3:=zh (F1.out.step ((Below.refl w1.heap.size w1).alloc (Nat.le_refl _) (.cells #[] 73)))
 have y00:(w1.alloc (.cells #[] 73)).cell? ⟨w.heap.size,0,none⟩=some (.string pre):=F3.out.cell 0 0 rfl rfl
 have y01:(w1.alloc (.cells #[] 73)).cell? ⟨w.heap.size,1,none⟩=some (.slice a l.length c):=F3.out.cell 0 1 rfl rfl
 have y02:(w1.alloc (.cells #[] 73)).cell? ⟨w.heap.size,2,none⟩=some (.int .i64 th):=F3.out.cell 0 2 rfl rfl
 refine Lex.zn (fun j=>j=w.heap.size) [1,4,7] 8 [6] ?_
 simp only[Lex.AA,zd]
 go_wp2_with (at_builtin;go_must (refine Ai GD rfl _ _ rfl w1.heap.size 0 _ [] rfl HO.out (.slice a l.length c) l.length _ rfl H2.out (Own.jo l) (by omega) (by omega) HB2.out.size ?_);intro v5 w5 ho5 hg5 _;rw[Nat.zero_add,List.nil_append] at ho5;obtain⟨va,vm,vc,rfl⟩:=Ac ho5;have HO5:=zh ho5;have F5:=zh (F2.out.far (O:=w1.heap.size) (by have:=HZ.out;show w.heap.size+2<=w1.heap.size;omega) (Az HO.out) hg5);have HG5:=zh hg5;clear ho5 hg5;have z00:w5.cell? ⟨w.heap.size,0,none⟩=some (.string pre):=F5.out.cell 0 0 rfl rfl;have z01:w5.cell? ⟨w.heap.size,1,none⟩=some (.slice a l.length c):=F5.out.cell 0 1 rfl rfl;have z02:w5.cell? ⟨w.heap.size,2,none⟩=some (.int .i64 th):=F5.out.cell 0 2 rfl rfl;have z10:w5.cell? ⟨w.heap.size+1,0,none⟩=some (.string ⟨#[]⟩):=F5.out.cell 1 0 rfl rfl;have zaV:w5.frozen? ⟨w.heap.size+1,0,none⟩=false:=F5.out.free 1 0 rfl;have z11:w5.cell? ⟨w.heap.size+1,1,none⟩=some (.slice none 0 0):=F5.out.cell 1 1 rfl rfl;have zaW:w5.frozen? ⟨w.heap.size+1,1,none⟩=false:=F5.out.free 1 1 rfl;have z12:w5.cell? ⟨w.heap.size+1,2,none⟩=some (.int .i64 0):=F5.out.cell 1 2 rfl rfl;have zaX:w5.frozen? ⟨w.heap.size+1,2,none⟩=false:=F5.out.free 1 2 rfl)
 have hlt:w.heap.size<w1.heap.size:=F1.out.lt (i:=0) (by show 0<2;omega)
 have hb5:w5.heap[w.heap.size]? = w1.heap[w.heap.size]? :=by
  have h1:=HG5.out.block w.heap.size (Nat.lt_of_lt_of_le hlt HB2.out.size) (fun e=>by have:=Az HO.out _ e.symm;omega)
  rw[h1]
  exact HB2.out.block _ hlt
 have HB5:=zh hb5;clear hb5
 refine Lex.Mid.intro (fun j hj _=>by rw[hj];exact HB5.out) ?_
 go_wp2_with fail
 refine Lex.zk ⟨⟨rfl,HX0.out⟩,⟨rfl,HX1.out⟩,⟨rfl,HX2.out⟩,trivial⟩ ?_
 go_wp2_with fail
 (try clear x00 x01 x02)
 have G2:=(((F5.out.put 1 0 (.string pre) rfl).put 1 1 (.slice va vm vc) rfl).put 1 2 (.int .i64 th) rfl)
 refine Es rfl rfl (Ab (G2.at1 1 rfl) Tryz.underlying70 rfl Dc) ⟨_,rfl,?_,G2.under⟩
 have hz:=HZ.out
 refine BG (Aq HO5.out (fun k hk=>?_)) (by omega)
 have k0:=Az HO5.out k hk
 have k2:k≠w.heap.size+1:=by omega
 rw[zo k2,zo k2,zo k2]
theorem Oh (o:Own.Ak)(s:ByteArray)(sv kv:Value)(w:World)(hS:Own.AJ w sv o.spaces)(hK:Own.Bo w kv o.keys)(hls:o.spaces.length<=140737488355328)(hlk:o.keys.length<=140737488355328)(hlm:∀ x∈o.spaces,x.members.length<=140737488355328/\x.pre.size<=140737488355000)(hs:s.size<=140737488355328):
 Calls Tryz.prog 68 #[.agg #[.int .i64 o.count,sv,kv],.string s] w (Gq w (Own.authority o s)):=by
 obtain⟨R,hR⟩:∃ R,R=Gq w (Own.authority o s):=⟨_,rfl⟩
 rw[<- hR]
 obtain⟨A,hA⟩:∃ A,A=Own.authority o s:=⟨_,rfl⟩
 rw[<- hA] at hR
 unfold Own.authority at hA
 have HR:=zh hR;clear hR
 obtain⟨sa,sc,rfl⟩:=hS.len
 obtain⟨ka,kc,rfl⟩:=hK.len
 have hval:=fun W (hW:Below w.heap.size w W)=>MZ o _ _ W (hS.below hW) (hK.below hW) hls hlk (fun x hx=>by have:=hlm x hx;omega)
 obtain⟨OKb,oh⟩:∃ b,b=Own.AQ o:=⟨_,rfl⟩
 simp only[<- oh] at hval hA
 have hmem:OKb=true->o.spaces.length<=64/\∀ x∈o.spaces,x.pre.size<=64/\x.members.length<=8:=fun h=>by
  rw[h] at oh
  have:=Own.OK.of oh.symm
  exact⟨this.ls,fun x hx=>⟨(Own.Vn.of (this.sp x hx)).pre,(Own.Vn.of (this.sp x hx)).len⟩⟩
 obtain⟨cnt,S,K⟩:=o
 dsimp only at*
 have F1:=zh (show Ap w _ [(38,#[.int .i64 cnt,.slice sa S.length sc,.slice ka K.length kc]),(70,#[.string ⟨#[]⟩,.slice none 0 0,.int .i64 0])] from(((BL.nil w).push 38 #[.int .i64 cnt,.slice sa S.length sc,.slice ka K.length kc]).push 70 #[.string ⟨#[]⟩,.slice none 0 0,.int .i64 0]).boxes)
 have HS:=zh hS;have xR:=zh (hval _ F1.out.under);have HM:=zh hmem;have HA:=zh hA
 clear hS hK hval oh hmem hlm hA
 have x00:((w.alloc (.cells #[.int .i64 cnt,.slice sa S.length sc,.slice ka K.length kc] 38)).alloc (.cells #[.string ⟨#[]⟩,.slice none 0 0,.int .i64 0] 70)).cell? ⟨w.heap.size,0,none⟩=some (.int .i64 cnt):=F1.out.cell 0 0 rfl rfl
 have x01:((w.alloc (.cells #[.int .i64 cnt,.slice sa S.length sc,.slice ka K.length kc] 38)).alloc (.cells #[.string ⟨#[]⟩,.slice none 0 0,.int .i64 0] 70)).cell? ⟨w.heap.size,1,none⟩=some (.slice sa S.length sc):=F1.out.cell 0 1 rfl rfl
 have x02:((w.alloc (.cells #[.int .i64 cnt,.slice sa S.length sc,.slice ka K.length kc] 38)).alloc (.cells #[.string ⟨#[]⟩,.slice none 0 0,.int .i64 0] 70)).cell? ⟨w.heap.size,2,none⟩=some (.slice ka K.length kc):=F1.out.cell 0 2 rfl rfl
 go_enter Tryz.func68,Tryz.ntmps68
 go_wp2_with fail
 generalize ((w.alloc (.cells #[.int .i64 cnt,.slice sa S.length sc,.slice ka K.length kc] 38)).alloc (.cells #[.string ⟨#[]⟩,.slice none 0 0,.int .i64 0] 70))=w1 at*
 refine xR.out.mono ?_
 rintro e w2 ⟨rfl,hb2⟩
 have F2:=zh (F1.out.step hb2)
 (try clear x00);(try clear x01);(try clear x02)
 obtain⟨x00,x01,x02⟩:=F2.out.Jo rfl
 obtain⟨x10,x11,x12,Vy,Vz,jP⟩:=F2.out.rW rfl
 clear hb2 xR F1
 cases OKb with
 | false =>
   have e:A=none:=by rw[HA.out];rfl
   have HE:=zh e;clear e
   go_wp2_with fail
   have G2:=(((F2.out.put 1 0 (.string ⟨#[]⟩) rfl).put 1 1 (.slice none 0 0) rfl).put 1 2 (.int .i64 0) rfl)
   rw[HR.out,HE.out]
   refine Bu rfl rfl rfl (Ab (G2.at1 1 rfl) Tryz.underlying70 rfl Dc) ⟨rfl,G2.under⟩
 | true=>
 have hpa:=Ct s w2 (by omega)
 have HPA:=zh hpa;clear hpa
 cases hp:Own.Bp s with
 | false =>
   have e:A=none:=by rw[HA.out,hp];rfl
   have HE:=zh e;clear e
   go_wp2_with fail
   refine HPA.out.mono ?_
   rintro e w3 ⟨rfl,rfl⟩
   rw[hp]
   go_wp2_with fail
   have G2:=(((F2.out.put 1 0 (.string ⟨#[]⟩) rfl).put 1 1 (.slice none 0 0) rfl).put 1 2 (.int .i64 0) rfl)
   rw[HR.out,HE.out]
   refine Bu rfl rfl rfl (Ab (G2.at1 1 rfl) Tryz.underlying70 rfl Dc) ⟨rfl,G2.under⟩
 | true=>
 obtain⟨zcu,hmm⟩:=HM.out rfl
 have HP:=zh hmm
 obtain⟨B,hB⟩:∃ B:List Own.Space->Option Own.Space,B=Own.ET s none:=⟨_,rfl⟩
 have hB0:B []=none:=by rw[hB];rfl
 have hBs:∀ k (hk:k<S.length),B (S.take (k+1))=Own.GH s (B (S.take k)) S[k]:=fun k hk=>by rw[hB];exact Own.Rk s S k hk
 have hAB:A=B S:=by rw[HA.out,hp,hB];rfl
 have HBS:=zh hBs;have HAB:=zh hAB
 clear hmm hBs hAB HA HM hB
 go_wp2_with fail
 refine HPA.out.mono ?_
 rintro e w3 ⟨rfl,rfl⟩
 rw[hp]
 go_wp2_with fail
 (try clear x00);(try clear x01);(try clear x02);(try clear x10 x11 x12 Vy Vz jP)
 go_loopw [6,7] (fun r i wr=>∃ k:Nat,k<=S.length/\i=.int .i64 k/\(∃ b,r=.int .i64 b/\Own.Zv S (B (S.take k)) b)/\Ap w wr [(38,#[.int .i64 cnt,.slice sa S.length sc,.slice ka K.length kc]),(70,#[.string ⟨#[]⟩,.slice none 0 0,.int .i64 0])]) (fun _ i _=>S.length-(intOf i).toNat)
 case atStart=>exact⟨0,by omega,rfl,⟨-1,rfl,.inl ⟨rfl,hB0⟩⟩,F2.out⟩
 case round=>
  obtain⟨k,hk,rfl,⟨bi,rfl,hbi⟩,hbx⟩:=hrel
  have G1:=zh hbx;clear hbx F2
  obtain⟨x00,x01,x02⟩:=G1.out.Jo rfl
  obtain⟨x10,x11,x12,Vy,Vz,jP⟩:=G1.out.rW rfl
  have HSW:=zh (HS.out.below G1.out.under)
  by_cases hlt:k<S.length
  case neg=>
   have hke:k=S.length:=by omega
   have dk:decide ((k:Int)<S.length)=false:=zf
   rw[hke,List.take_length,<- HAB.out] at hbi
   clear hke HBS HAB
   rcases hbi with ⟨rfl,h2⟩|⟨j,rfl,hj,h2⟩
   ·have HE:=zh h2;clear h2
    go_wp2_with fail
    have G2:=(((G1.out.put 1 0 (.string ⟨#[]⟩) rfl).put 1 1 (.slice none 0 0) rfl).put 1 2 (.int .i64 0) rfl)
    rw[HR.out,HE.out]
    refine Bu rfl rfl rfl (Ab (G2.at1 1 rfl) Tryz.underlying70 rfl Dc) ⟨rfl,G2.under⟩
   ·have dj:decide ((j:Int)<0)=false:=zf
    have HE:=zh h2;clear h2
    obtain⟨b,o,mv,ha,hbl,e0,e1,e2,hmv⟩:=Own.AJ.cells HSW.out hj
    subst ha
    have hp8:=(HP.out S[j] (List.getElem_mem hj)).2
    obtain⟨x,hx⟩:∃ x,x=S[j]:=⟨_,rfl⟩
    rw[<- hx] at e0 e2 hmv hp8 HE
    obtain⟨pre,M,th⟩:=x
    dsimp only at e0 e2 hmv hp8
    have HC:=zh (Og pre th mv M wr hmv (by omega))
    obtain⟨ma,mc,rfl⟩:=hmv.len
    clear hx hmv
    go_wp2_with fail
    refine HC.out.mono ?_
    rintro e w4 ⟨v',rfl,hov,hb4⟩
    obtain⟨va,vm,vc,rfl⟩:=Ac hov
    have G4:=zh (G1.out.step hb4);have HOV:=zh hov
    have hz3:w.heap.size+2<=wr.heap.size:=G1.out.size
    (try clear x00);(try clear x01);(try clear x02);(try clear x10 x11 x12 Vy Vz jP)
    obtain⟨x10,x11,x12,Vy,Vz,jP⟩:=G4.out.rW rfl
    clear hov hb4 e0 e1 e2
    go_wp2_with fail
    have G2:=(((G4.out.put 1 0 (.string pre) rfl).put 1 1 (.slice va vm vc) rfl).put 1 2 (.int .i64 th) rfl)
    rw[HR.out,HE.out]
    refine Bu rfl rfl rfl (Ab (G2.at1 1 rfl) Tryz.underlying70 rfl Dc) ⟨⟨_,rfl,?_⟩,G2.under⟩
    refine BG (Aq HOV.out (fun k hk=>?_)) (by omega)
    have k0:=Az HOV.out k hk
    have k2:k≠w.heap.size+1:=by omega
    rw[zo k2,zo k2,zo k2]
  have dk:decide ((k:Int)<S.length)=true:=zt
  obtain⟨b,o,mv,ha,hbl,e0,_,_,_⟩:=Own.AJ.cells HSW.out hlt
  have hpk:=(HP.out S[k] (List.getElem_mem hlt)).1
  have hst:=HBS.out k hlt
  have BR:∀ j (hj:j<S.length),wr.cell? ⟨b,o+j*3,none⟩=some (.string S[j].pre):=by
   intro j hj
   obtain⟨b',o',_,ha',_,e0,_⟩:=Own.AJ.cells HSW.out hj
   rw[ha] at ha'
   cases ha'
   exact e0
  subst ha
  obtain⟨pre,hpre⟩:∃ x,x=S[k].pre:=⟨_,rfl⟩
  rw[<- hpre] at e0 hpk
  have LW:=zh hpre;have HST:=zh hst;have HBI:=zh hbi;have Du:=zh BR;have G2:=zh G1.out.drew
  have Rl:=zh (fun W=>Rn s pre W (by omega) (by omega))
  clear BR hpre hst hbi
  cases hbg:Own.belongs s pre with
  | false =>
    have hn:B (S.take (k+1))=B (S.take k):=by rw[HST.out];unfold Own.GH;rw[<- LW.out,hbg];rfl
    have HN:=zh hn
    clear hn
    go_wp2_with fail
    refine Lex.zl ?_
    go_wp2_with fail
    refine(Rl.out _).mono ?_
    rintro e3 w7 ⟨rfl,rfl⟩
    rw[hbg]
    go_wp2_with fail
    refine Lex.ze ?_
    go_wp2_with fail
    exact⟨⟨k+1,by omega,by go_num,⟨bi,rfl,by rw[HN.out];exact HBI.out⟩,G2.out⟩,by simp[intOf];omega⟩
  | true=>
  rcases HBI.out with ⟨h1,h2⟩|⟨j,h1,hj,h2⟩
  ·have hn:B (S.take (k+1))=some S[k]:=by rw[HST.out,h2];unfold Own.GH;rw[<- LW.out,hbg];rfl
   have HN:=zh hn
   subst h1
   clear hn h2
   go_wp2_with fail
   refine Lex.zl ?_
   go_wp2_with fail
   refine(Rl.out _).mono ?_
   rintro e3 w7 ⟨rfl,rfl⟩
   rw[hbg]
   go_wp2_with fail
   refine Lex.ze ?_
   go_wp2_with fail
   exact⟨⟨k+1,by omega,by go_num,⟨k,rfl,.inr ⟨k,rfl,hlt,HN.out⟩⟩,G2.out⟩,by simp[intOf];omega⟩
  ·have g0:=Du.out j hj
   obtain⟨pn,hpn⟩:∃ x,x=S[j].pre:=⟨_,rfl⟩
   rw[<- hpn] at g0
   have hn:B (S.take (k+1))=if decide (pn.size<pre.size) then some S[k] else some S[j]:=by
    rw[HST.out,h2,hpn,LW.out];unfold Own.GH;rw[<- LW.out,hbg,LW.out];rfl
   have HN:=zh hn
   subst h1
   have dj:decide ((j:Int)<0)=false:=zf
   clear hn h2 hpn
   by_cases hlg:pn.size<pre.size
   ·have dl:decide ((pn.size:Int)<(pre.size:Int))=true:=zt
    have dl' : decide (pn.size<pre.size)=true:=decide_eq_true hlg
    go_wp2_with fail
    refine Lex.zl ?_
    go_wp2_with fail
    refine(Rl.out _).mono ?_
    rintro e3 w7 ⟨rfl,rfl⟩
    rw[hbg]
    go_wp2_with fail
    refine Lex.ze ?_
    go_wp2_with fail
    exact⟨⟨k+1,by omega,by go_num,⟨k,rfl,.inr ⟨k,rfl,hlt,by rw[HN.out,dl'];rfl⟩⟩,G2.out⟩,by simp[intOf];omega⟩
   ·have dl:decide ((pn.size:Int)<(pre.size:Int))=false:=zf
    have dl' : decide (pn.size<pre.size)=false:=decide_eq_false hlg
    go_wp2_with fail
    refine Lex.zl ?_
    go_wp2_with fail
    refine(Rl.out _).mono ?_
    rintro e3 w7 ⟨rfl,rfl⟩
    rw[hbg]
    go_wp2_with fail
    refine Lex.ze ?_
    go_wp2_with fail
    exact⟨⟨k+1,by omega,by go_num,⟨j,rfl,.inr ⟨j,rfl,hj,by rw[HN.out,dl'];rfl⟩⟩,G2.out⟩,by simp[intOf];omega⟩
namespace Own
def DR {α : Type}(f : α -> ByteArray)(x : α)(l:List α)(k:Nat)(d:Bool)(L:List α):Prop:=
 (d=false/\k<=posB f (f x) l/\L=l.take k)\/(d=true/\posB f (f x) l<k/\L=l.take (posB f (f x) l)++x::(l.take k).drop (posB f (f x) l+if Dl f (f x) l then 1 else 0))
theorem DR.len {α : Type}{f : α -> ByteArray}{x : α}{l L:List α}{k:Nat}{d:Bool}(h:DR f x l k d L):L.length<=l.length+1:=by
 have:=II (f:=f) (f x) l
 rcases h with ⟨_,h1,rfl⟩|⟨_,h1,rfl⟩
 ·rw[List.length_take];omega
 ·rw[List.length_append,List.length_take,List.length_cons,List.length_drop,List.length_take]
  omega
section
variable {α : Type} {f : α -> ByteArray} {x : α} {l L:List α} {k:Nat}
theorem DR.zero:DR f x l 0 false []:=.inl ⟨rfl,Nat.zero_le _,rfl⟩
theorem DR.less (h:DR f x l k false L)(hs:Srt f l)(hk:k<l.length)(hl:Ah (f l[k]) (f x)=true):f l[k]≠f x/\DR f x l (k+1) false (L++[l[k]]):=by
 refine⟨fun e=>(by rw[e,Ev] at hl;cases hl),?_⟩
 rcases h with ⟨_,h1,rfl⟩|⟨h,_⟩
 ·refine .inl ⟨rfl,?_,by rw[List.take_succ_eq_append_getElem hk]⟩
  by_cases hp:posB f (f x) l<=k
  ·have:=hs.ge (f x) k hp hk
   rw[hl] at this
   cases this
  ·omega
 ·cases h
theorem DR.place (h:DR f x l k false L)(hk:k<l.length)(hl:Ah (f l[k]) (f x)=false):(f l[k]=f x->DR f x l (k+1) true (L++[x]))/\(f l[k]≠f x->DR f x l (k+1) true (L++[x]++[l[k]])):=by
 rcases h with ⟨_,h1,rfl⟩|⟨h,_⟩
 ·have hp : posB f (f x) l = k :=by
   by_cases hp:k<posB f (f x) l
   ·have:=Ob (f:=f) (f x) l k hp hk
    rw[hl] at this
    cases this
   ·omega
  have hh:Dl f (f x) l=decide (f l[k]=f x):=by
   unfold Dl
   rw[hp,List.getElem?_eq_getElem hk]
  refine⟨fun e=>.inr ⟨rfl,by omega,?_⟩,fun e=>.inr ⟨rfl,by omega,?_⟩⟩
  ·rw[hh,decide_eq_true e,hp,if_pos rfl,List.drop_of_length_le (by rw[List.length_take];omega)]
  ·rw[hh,decide_eq_false e,hp,if_neg Bool.false_ne_true,Nat.add_zero,List.take_succ_eq_append_getElem hk,List.drop_append,List.drop_of_length_le (by rw[List.length_take];omega),List.length_take,Nat.min_eq_left (by omega),Nat.sub_self]
   simp
 ·cases h
theorem DR.done (h:DR f x l k true L)(hs:Srt f l)(hk:k<l.length):f l[k]≠f x/\DR f x l (k+1) true (L++[l[k]]):=by
 rcases h with ⟨h,_⟩|⟨_,h1,rfl⟩
 ·cases h
 ·refine⟨fun e=>?_,.inr ⟨rfl,by omega,?_⟩⟩
  ·have h2:=hs.ge (f x) (posB f (f x) l) (Nat.le_refl _) (by omega)
   have h3:=(List.pairwise_iff_getElem.1 hs) (posB f (f x) l) k (by omega) hk h1
   rw[e,h2] at h3
   cases h3
  ·have hz : posB f (f x) l + (if Dl f (f x) l then 1 else 0) ≤ (l.take k).length :=by
    rw[List.length_take]
    split<;>omega
   rw[List.take_succ_eq_append_getElem hk,List.drop_append_of_le_length hz]
   simp
theorem DR.end_ (h:DR f x l l.length false L):L++[x]=DY f x l:=by
 rcases h with ⟨_,h1,rfl⟩|⟨h,_⟩
 ·have h2:=II (f:=f) (f x) l
  have e:posB f (f x) l=l.length:=by omega
  have hh:Dl f (f x) l=false:=by
   unfold Dl
   rw[e,List.getElem?_eq_none (Nat.le_refl _)]
  rw[GK,hh,e,if_neg Bool.false_ne_true,Nat.add_zero,List.drop_length]
 ·cases h
theorem DR.XF (h:DR f x l l.length true L):L=DY f x l:=by
 rcases h with ⟨h,_⟩|⟨_,h1,rfl⟩
 ·cases h
 ·rw[GK,List.take_length]
end
end Own
theorem Own.XG (x:Own.Vote):∀ u∈Own.BP x,u.oneCell' = true:=by
 intro u hu
 simp[Own.BP] at hu
 rcases hu with rfl|rfl|rfl<;>rfl
theorem Own.XH (x:Own.KeyUse):∀ u∈Own.Co x,u.oneCell' = true:=by
 intro u hu
 simp[Own.Co] at hu
 rcases hu with rfl|rfl<;>rfl
theorem ZC (v:Value)(l:List Own.Vote)(x:Own.Vote)(w:World)(h:Own.Br w v l)(hs:Own.Srt Own.Vote.name l)(hl:l.length<=1000000):
 Calls Tryz.prog 70 #[v,.agg (Own.BP x).toArray] w fun e w' => ∃ v',e=.returned v' /\ w'.ownsRow w.heap.size 82 3 v' (Own.DY Own.Vote.name x l).length ((Own.DY Own.Vote.name x l).flatMap Own.BP)/\Below w.heap.size w w':=by
 obtain⟨PA,hPA⟩:∃ PA:Nat->Bool->List Own.Vote->Prop,PA=Own.DR Own.Vote.name x l:=⟨_,rfl⟩
 have pz:PA 0 false []:=by rw[hPA];exact Own.DR.zero
 have jQ:∀ k d L,PA k d L->L.length<=l.length+1:=fun k d L hp=>by rw[hPA] at hp;exact hp.len
 have XI:∀ k L (hk:k<l.length),PA k false L->Own.Ah (Own.Vote.name l[k]) (Own.Vote.name x)=true->Own.Vote.name l[k]≠Own.Vote.name x/\PA (k+1) false (L++[l[k]]):=fun k L hk hp hlb=>by rw[hPA] at hp ⊢;exact hp.less hs hk hlb
 have RA:∀ k L (hk:k<l.length),PA k false L->Own.Ah (Own.Vote.name l[k]) (Own.Vote.name x)=false->(Own.Vote.name l[k]=Own.Vote.name x->PA (k+1) true (L++[x]))/\(Own.Vote.name l[k]≠Own.Vote.name x->PA (k+1) true (L++[x]++[l[k]])):=fun k L hk hp hlb=>by rw[hPA] at hp ⊢;exact hp.place hk hlb
 have XJ:∀ k L (hk:k<l.length),PA k true L->Own.Vote.name l[k]≠Own.Vote.name x/\PA (k+1) true (L++[l[k]]):=fun k L hk hp=>by rw[hPA] at hp ⊢;exact hp.done hs hk
 have pend:∀ L,PA l.length false L->L++[x]=Own.DY Own.Vote.name x l:=fun L hp=>by rw[hPA] at hp;exact hp.end_
 have RB:∀ L,PA l.length true L->L=Own.DY Own.Vote.name x l:=fun L hp=>by rw[hPA] at hp;exact hp.XF
 obtain⟨R,hR⟩:∃ R,R=Own.DY Own.Vote.name x l:=⟨_,rfl⟩
 rw[<- hR]
 simp only[<- hR] at pend RB
 have sZ:=zh jQ;have jR:=zh XI;have ZE:=zh RA;have jS:=zh XJ;have tq:=zh pend;have jT:=zh RB;have PZ:=zh pz
 clear jQ XI RA XJ pend RB pz hPA hR
 obtain⟨a,c,rfl⟩:=h.len
 have HL:=zh h;clear h
 obtain⟨X,hX⟩:∃ X,X=x:=⟨_,rfl⟩
 rw[<- hX]
 obtain⟨xn,xp,xa⟩:=X
 have HX:=zh hX;have HXF:=zh (congrArg Own.Vote.name hX)
 dsimp only[Own.BP] at HXF ⊢
 clear hX
 have F1:=zh (show Ap w _ [(82,#[.string xn,.string xp,.bool xa])] from((BL.nil w).push 82 #[.string xn,.string xp,.bool xa]).boxes)
 show Calls Tryz.prog 70 #[.slice a l.length c,.agg #[.string xn,.string xp,.bool xa]] w _
 go_enter Tryz.func70,Tryz.ntmps70
 go_wp2_with fail
 generalize (w.alloc (.cells #[.string xn,.string xp,.bool xa] 82))=w1 at*
 go_loopw [5,6,7] (fun ov dv i wr=>∃ (k:Nat) (d:Bool) (L:List Own.Vote) (v:Value),k<=l.length/\i=.int .i64 k/\dv=.bool d/\ov=v/\PA k d L/\wr.ownsRow (w.heap.size+1) 82 3 v L.length (L.flatMap Own.BP)/\Ap w wr [(82,#[.string xn,.string xp,.bool xa])]) (fun _ _ i _=>l.length-(intOf i).toNat)
 case atStart=>exact⟨0,false,[],_,by omega,rfl,rfl,rfl,PZ.out,⟨rfl,.inl ⟨rfl,rfl⟩⟩,F1.out⟩
 case round=>
  obtain⟨k,d,L,v,hk,rfl,rfl,rfl,hpa,hown,hbx⟩:=hrel
  have hLM:=sZ.out k d L hpa
  obtain⟨va,vm,vc,rfl⟩:=Ac hown
  obtain rfl:=Bt hown
  have HO:=zh hown;have G1:=zh hbx;have HPA:=zh hpa
  clear hown hbx hpa F1
  obtain⟨x00,x01,x02⟩:=G1.out.Jo rfl
  by_cases hlt:k<l.length
  case neg=>
   have hke:k=l.length:=by omega
   have dk:decide ((k:Int)<l.length)=false:=zf
   cases d with
   | true =>
     have hR:=jT.out L (hke ▸ HPA.out)
     have HR:=zh hR;clear hR hke
     go_wp2_with fail
     go_ret
     refine⟨_,rfl,?_,G1.out.under⟩
     rw[<- HR.out]
     exact BG HO.out (by omega)
   | false =>
     have hR:=tq.out L (hke ▸ HPA.out)
     have HR:=zh hR;clear hR hke
     have hb8:Below wr.heap.size wr (wr.alloc (.cells #[.string xn,.string xp,.bool xa] 82)):=zb
     have hrw:=Bv wr 82 #[.string xn,.string xp,.bool xa] 3 1 1 rfl
     have hwz:w.heap.size+1<=(wr.alloc (.cells #[.string xn,.string xp,.bool xa] 82)).heap.size:=Nat.le_trans G1.out.size hb8.size
     have HRW:=zh hrw;have HO8:=zh (own_below HO.out hb8);have G8:=zh (G1.out.step hb8);have HUP:=zh (Az HO.out);have HWZ:=zh hwz
     clear hb8 hrw hwz
     go_wp2_with
      (at_builtin;go_must (refine Ai Dk rfl _ _ rfl (w.heap.size+1) L.length (.slice va L.length vc) (L.flatMap Own.BP) rfl HO8.out (.slice (some ⟨wr.heap.size,0,none⟩) 1 1) 1 (Own.BP (⟨xn,xp,xa⟩:Own.Vote)) rfl HRW.out (Own.XG (⟨xn,xp,xa⟩:Own.Vote)) (by omega) (by omega) HWZ.out ?_);intro v9 w9 ho9 hg9 hw9;obtain⟨ya,ym,yc,rfl⟩:=Ac ho9;have HO9:=zh (show w9.ownsRow (w.heap.size+1) 82 3 (.slice ya ym yc) (L++[(⟨xn,xp,xa⟩:Own.Vote)]).length ((L++[(⟨xn,xp,xa⟩:Own.Vote)]).flatMap Own.BP) by rw[List.length_append,List.flatMap_append];simpa using ho9);have G9:=zh (G8.out.far (O:=w.heap.size+1) (Nat.le_refl _) HUP.out hg9);clear ho9 hg9 hw9)
     go_ret
     refine⟨_,rfl,?_,G9.out.under⟩
     rw[<- HR.out,<- HX.out]
     exact BG HO9.out (by omega)
  have dk:decide ((k:Int)<l.length)=true:=zt
  obtain⟨b,o,ha,hbl,e0,e1,e2⟩:=Own.Br.cells (HL.out.below G1.out.under) hlt
  subst ha
  have V3:=jR.out k L hlt;have hpl:=ZE.out k L hlt;have hdn:=jS.out k L hlt
  obtain⟨y,hy⟩:∃ y,y=l[k]:=⟨_,rfl⟩
  simp only[<- hy,<- HXF.out] at V3 hpl hdn
  simp only[<- hy] at e0 e1 e2
  obtain⟨yn,yp,ya'⟩:=y
  dsimp only at e0 e1 e2 V3 hpl hdn
  have HY:=zh hy;have tu:=zh V3;have HPL:=zh hpl;have HDN:=zh hdn
  clear V3 hpl hdn hy
  cases d with
  | true =>
    obtain⟨hne,hnx⟩:=HDN.out HPA.out
    have hq:(yn.toList==xn.toList)=false:=by rw[bytes_beq];exact decide_eq_false hne
    have HNX:=zh hnx;clear hne hnx
    go_wp2_with fail
    refine Lex.zl ?_
    go_wp2_with fail
    refine Lex.ze ?_
    (try clear x00 x01 x02)
    have G5:=zh G1.out.drew
    have HO5:=zh (Aq (w':=wr.drew) HO.out (fun k _=>by rw[Ad]))
    have hbd:Below wr.heap.size wr wr.drew:=(Below.refl _ _).drew
    replace e0:=(hbd.cell (p:=⟨b,o+k*3,none⟩) hbl).trans e0
    replace e1:=(hbd.cell (p:=⟨b,o+k*3+1,none⟩) hbl).trans e1
    replace e2:=(hbd.cell (p:=⟨b,o+k*3+2,none⟩) hbl).trans e2
    replace hbl:b<wr.drew.heap.size:=by rw[Ad];exact hbl
    clear hbd
    generalize wr.drew=w5 at*
    obtain⟨x00,x01,x02⟩:=G5.out.Jo rfl
    go_wp2_with fail
    refine Lex.zl ?_
    go_wp2_with fail
    refine Lex.ze ?_
    (try clear x00 x01 x02)
    have G6:=zh G5.out.drew
    have HO6:=zh (Aq (w':=w5.drew) HO5.out (fun k _=>by rw[Ad]))
    have hbd:Below w5.heap.size w5 w5.drew:=(Below.refl _ _).drew
    replace e0:=(hbd.cell (p:=⟨b,o+k*3,none⟩) hbl).trans e0
    replace e1:=(hbd.cell (p:=⟨b,o+k*3+1,none⟩) hbl).trans e1
    replace e2:=(hbd.cell (p:=⟨b,o+k*3+2,none⟩) hbl).trans e2
    replace hbl:b<w5.drew.heap.size:=by rw[Ad];exact hbl
    clear hbd
    generalize w5.drew=w6 at*
    obtain⟨x00,x01,x02⟩:=G6.out.Jo rfl
    have hb8:Below w6.heap.size w6 (w6.alloc (.cells #[.string yn,.string yp,.bool ya'] 82)):=zb
    have hrw:=Bv w6 82 #[.string yn,.string yp,.bool ya'] 3 1 1 rfl
    have hwz:w.heap.size+1<=(w6.alloc (.cells #[.string yn,.string yp,.bool ya'] 82)).heap.size:=Nat.le_trans G6.out.size hb8.size
    have HRW:=zh hrw;have HO8:=zh (own_below HO6.out hb8);have G8:=zh (G6.out.step hb8);have HUP:=zh (Az HO6.out);have HWZ:=zh hwz
    clear hb8 hrw hwz
    go_wp2_with
     (at_builtin;go_must (refine Ai Dk rfl _ _ rfl (w.heap.size+1) L.length (.slice va L.length vc) (L.flatMap Own.BP) rfl HO8.out (.slice (some ⟨w6.heap.size,0,none⟩) 1 1) 1 (Own.BP (⟨yn,yp,ya'⟩:Own.Vote)) rfl HRW.out (Own.XG (⟨yn,yp,ya'⟩:Own.Vote)) (by omega) (by omega) HWZ.out ?_);intro v9 w9 ho9 hg9 hw9;obtain⟨ya,ym,yc,rfl⟩:=Ac ho9;have HO9:=zh (show w9.ownsRow (w.heap.size+1) 82 3 (.slice ya ym yc) (L++[(⟨yn,yp,ya'⟩:Own.Vote)]).length ((L++[(⟨yn,yp,ya'⟩:Own.Vote)]).flatMap Own.BP) by rw[List.length_append,List.flatMap_append];simpa using ho9);have G9:=zh (G8.out.far (O:=w.heap.size+1) (Nat.le_refl _) HUP.out hg9);clear ho9 hg9 hw9)
    exact⟨⟨k+1,true,_,_,by omega,by go_num,rfl,rfl,HNX.out,HO9.out,G9.out⟩,by simp[intOf];omega⟩
  | false =>
    cases hlb:Op.bytesLess yn.toList xn.toList with
    | true =>
      obtain⟨hne,hnx⟩:=tu.out HPA.out hlb
      have hq:(yn.toList==xn.toList)=false:=by rw[bytes_beq];exact decide_eq_false hne
      have HNX:=zh hnx;clear hne hnx
      go_wp2_with fail
      refine Lex.zl ?_
      go_wp2_with fail
      refine Lex.ze ?_
      (try clear x00 x01 x02)
      have G5:=zh G1.out.drew
      have HO5:=zh (Aq (w':=wr.drew) HO.out (fun k _=>by rw[Ad]))
      have hbd:Below wr.heap.size wr wr.drew:=(Below.refl _ _).drew
      replace e0:=(hbd.cell (p:=⟨b,o+k*3,none⟩) hbl).trans e0
      replace e1:=(hbd.cell (p:=⟨b,o+k*3+1,none⟩) hbl).trans e1
      replace e2:=(hbd.cell (p:=⟨b,o+k*3+2,none⟩) hbl).trans e2
      replace hbl:b<wr.drew.heap.size:=by rw[Ad];exact hbl
      clear hbd
      generalize wr.drew=w5 at*
      obtain⟨x00,x01,x02⟩:=G5.out.Jo rfl
      go_wp2_with fail
      refine Lex.zl ?_
      go_wp2_with fail
      refine Lex.ze ?_
      (try clear x00 x01 x02)
      have G6:=zh G5.out.drew
      have HO6:=zh (Aq (w':=w5.drew) HO5.out (fun k _=>by rw[Ad]))
      have hbd:Below w5.heap.size w5 w5.drew:=(Below.refl _ _).drew
      replace e0:=(hbd.cell (p:=⟨b,o+k*3,none⟩) hbl).trans e0
      replace e1:=(hbd.cell (p:=⟨b,o+k*3+1,none⟩) hbl).trans e1
      replace e2:=(hbd.cell (p:=⟨b,o+k*3+2,none⟩) hbl).trans e2
      replace hbl:b<w5.drew.heap.size:=by rw[Ad];exact hbl
      clear hbd
      generalize w5.drew=w6 at*
      obtain⟨x00,x01,x02⟩:=G6.out.Jo rfl
      have hb8:Below w6.heap.size w6 (w6.alloc (.cells #[.string yn,.string yp,.bool ya'] 82)):=zb
      have hrw:=Bv w6 82 #[.string yn,.string yp,.bool ya'] 3 1 1 rfl
      have hwz:w.heap.size+1<=(w6.alloc (.cells #[.string yn,.string yp,.bool ya'] 82)).heap.size:=Nat.le_trans G6.out.size hb8.size
      have HRW:=zh hrw;have HO8:=zh (own_below HO6.out hb8);have G8:=zh (G6.out.step hb8);have HUP:=zh (Az HO6.out);have HWZ:=zh hwz
      clear hb8 hrw hwz
      go_wp2_with
       (at_builtin;go_must (refine Ai Dk rfl _ _ rfl (w.heap.size+1) L.length (.slice va L.length vc) (L.flatMap Own.BP) rfl HO8.out (.slice (some ⟨w6.heap.size,0,none⟩) 1 1) 1 (Own.BP (⟨yn,yp,ya'⟩:Own.Vote)) rfl HRW.out (Own.XG (⟨yn,yp,ya'⟩:Own.Vote)) (by omega) (by omega) HWZ.out ?_);intro v9 w9 ho9 hg9 hw9;obtain⟨ya,ym,yc,rfl⟩:=Ac ho9;have HO9:=zh (show w9.ownsRow (w.heap.size+1) 82 3 (.slice ya ym yc) (L++[(⟨yn,yp,ya'⟩:Own.Vote)]).length ((L++[(⟨yn,yp,ya'⟩:Own.Vote)]).flatMap Own.BP) by rw[List.length_append,List.flatMap_append];simpa using ho9);have G9:=zh (G8.out.far (O:=w.heap.size+1) (Nat.le_refl _) HUP.out hg9);clear ho9 hg9 hw9)
      exact⟨⟨k+1,false,_,_,by omega,by go_num,rfl,rfl,HNX.out,HO9.out,G9.out⟩,by simp[intOf];omega⟩
    | false =>
      obtain⟨h1,h2⟩:=HPL.out HPA.out hlb
      rw[<- HX.out] at h1 h2
      have HH1:=zh h1;have HH2:=zh h2
      clear h1 h2
      go_wp2_with fail
      refine Lex.zl ?_
      go_wp2_with fail
      refine Lex.ze ?_
      (try clear x00 x01 x02)
      have G5:=zh G1.out.drew
      have HO5:=zh (Aq (w':=wr.drew) HO.out (fun k _=>by rw[Ad]))
      have hbd:Below wr.heap.size wr wr.drew:=(Below.refl _ _).drew
      replace e0:=(hbd.cell (p:=⟨b,o+k*3,none⟩) hbl).trans e0
      replace e1:=(hbd.cell (p:=⟨b,o+k*3+1,none⟩) hbl).trans e1
      replace e2:=(hbd.cell (p:=⟨b,o+k*3+2,none⟩) hbl).trans e2
      replace hbl:b<wr.drew.heap.size:=by rw[Ad];exact hbl
      clear hbd
      generalize wr.drew=w5 at*
      obtain⟨x00,x01,x02⟩:=G5.out.Jo rfl
      have hb8:Below w5.heap.size w5 (w5.alloc (.cells #[.string xn,.string xp,.bool xa] 82)):=zb
      have hrw:=Bv w5 82 #[.string xn,.string xp,.bool xa] 3 1 1 rfl
      have hwz:w.heap.size+1<=(w5.alloc (.cells #[.string xn,.string xp,.bool xa] 82)).heap.size:=Nat.le_trans G5.out.size hb8.size
      have HRW:=zh hrw;have HO8:=zh (own_below HO5.out hb8);have G8:=zh (G5.out.step hb8);have HUP:=zh (Az HO5.out);have HWZ:=zh hwz
      clear hb8 hrw hwz
      have HG8:=G8
      go_upto_region 9 with
       (at_builtin;go_must (refine Ai Dk rfl _ _ rfl (w.heap.size+1) L.length (.slice va L.length vc) (L.flatMap Own.BP) rfl HO8.out (.slice (some ⟨w5.heap.size,0,none⟩) 1 1) 1 (Own.BP (⟨xn,xp,xa⟩:Own.Vote)) rfl HRW.out (Own.XG (⟨xn,xp,xa⟩:Own.Vote)) (by omega) (by omega) HWZ.out ?_);intro v9 w9 ho9 hg9 hw9;obtain⟨ya,ym,yc,rfl⟩:=Ac ho9;have HO9:=zh (show w9.ownsRow (w.heap.size+1) 82 3 (.slice ya ym yc) (L++[(⟨xn,xp,xa⟩:Own.Vote)]).length ((L++[(⟨xn,xp,xa⟩:Own.Vote)]).flatMap Own.BP) by rw[List.length_append,List.flatMap_append];simpa using ho9);have G9:=zh (G8.out.far (O:=w.heap.size+1) (Nat.le_refl _) HUP.out hg9);clear ho9 hg9 hw9)
      obtain⟨L2,hL2⟩:∃ L2,L2=L++[(⟨xn,xp,xa⟩:Own.Vote)]:=⟨_,rfl⟩
      rw[<- hL2] at HO9 HH1 HH2
      have zaY:L2.length<=1000002:=by rw[hL2,List.length_append];show L.length+1<=_;omega
      have hyl:=Bt HO9.out
      subst hyl
      clear hL2
      obtain⟨b',o',ha,Py,f0,f1,f2⟩:=Own.Br.cells (HL.out.below G9.out.under) hlt
      cases ha
      clear e0 e1 e2 hbl
      rename_i hbl
      have hbl:=Py
      rw[<- HY.out] at f0 f1 f2
      dsimp only at f0 f1 f2
      (try clear x00 x01 x02)
      obtain⟨x00,x01,x02⟩:=G9.out.Jo rfl
      have e0:=f0;have e1:=f1;have e2:=f2
      clear f0 f1 f2 Py
      by_cases hq:yn=xn
      ·have hqq:(yn.toList==xn.toList)=true:=by rw[bytes_beq];exact decide_eq_true hq
       have HNX:=zh (HH1.out hq);clear hq
       go_wp2_with fail
       refine Lex.zl ?_
       go_wp2_with fail
       refine Lex.ze ?_
       (try clear x00 x01 x02)
       have G10:=zh G9.out.drew
       have V5:=zh (Aq (w':=w9.drew) HO9.out (fun k _=>by rw[Ad]))
       have hbd:Below w9.heap.size w9 w9.drew:=(Below.refl _ _).drew
       replace e0:=(hbd.cell (p:=⟨b,o+k*3,none⟩) hbl).trans e0
       replace e1:=(hbd.cell (p:=⟨b,o+k*3+1,none⟩) hbl).trans e1
       replace e2:=(hbd.cell (p:=⟨b,o+k*3+2,none⟩) hbl).trans e2
       replace hbl:b<w9.drew.heap.size:=by rw[Ad];exact hbl
       clear hbd
       generalize w9.drew=w10 at*
       obtain⟨x00,x01,x02⟩:=G10.out.Jo rfl
       go_wp2_with fail
       exact⟨⟨k+1,true,_,_,by omega,by go_num,rfl,rfl,HNX.out,V5.out,G10.out⟩,by simp[intOf];omega⟩
      ·have hqq:(yn.toList==xn.toList)=false:=by rw[bytes_beq];exact decide_eq_false hq
       have HNX:=zh (HH2.out hq);clear hq
       go_wp2_with fail
       refine Lex.zl ?_
       go_wp2_with fail
       refine Lex.ze ?_
       (try clear x00 x01 x02)
       have G10:=zh G9.out.drew
       have V5:=zh (Aq (w':=w9.drew) HO9.out (fun k _=>by rw[Ad]))
       have hbd:Below w9.heap.size w9 w9.drew:=(Below.refl _ _).drew
       replace e0:=(hbd.cell (p:=⟨b,o+k*3,none⟩) hbl).trans e0
       replace e1:=(hbd.cell (p:=⟨b,o+k*3+1,none⟩) hbl).trans e1
       replace e2:=(hbd.cell (p:=⟨b,o+k*3+2,none⟩) hbl).trans e2
       replace hbl:b<w9.drew.heap.size:=by rw[Ad];exact hbl
       clear hbd
       generalize w9.drew=w10 at*
       obtain⟨x00,x01,x02⟩:=G10.out.Jo rfl
       have hb8:Below w10.heap.size w10 (w10.alloc (.cells #[.string yn,.string yp,.bool ya'] 82)):=zb
       have hrw:=Bv w10 82 #[.string yn,.string yp,.bool ya'] 3 1 1 rfl
       have hwz:w.heap.size+1<=(w10.alloc (.cells #[.string yn,.string yp,.bool ya'] 82)).heap.size:=Nat.le_trans G10.out.size hb8.size
       have HRW:=zh hrw;have HO8:=zh (own_below V5.out hb8);have G8:=zh (G10.out.step hb8);have HUP:=zh (Az V5.out);have HWZ:=zh hwz
       clear hb8 hrw hwz
       go_wp2_with
        (at_builtin;go_must (refine Ai Dk rfl _ _ rfl (w.heap.size+1) L2.length (.slice ya L2.length yc) (L2.flatMap Own.BP) rfl HO8.out (.slice (some ⟨w10.heap.size,0,none⟩) 1 1) 1 (Own.BP (⟨yn,yp,ya'⟩:Own.Vote)) rfl HRW.out (Own.XG (⟨yn,yp,ya'⟩:Own.Vote)) (by omega) (by omega) HWZ.out ?_);intro v11 w11 ho9 hg9 hw9;obtain⟨za,zm,zc,rfl⟩:=Ac ho9;have eU:=zh (show w11.ownsRow (w.heap.size+1) 82 3 (.slice za zm zc) (L2++[(⟨yn,yp,ya'⟩:Own.Vote)]).length ((L2++[(⟨yn,yp,ya'⟩:Own.Vote)]).flatMap Own.BP) by rw[List.length_append,List.flatMap_append];simpa using ho9);have G11:=zh (G8.out.far (O:=w.heap.size+1) (Nat.le_refl _) HUP.out hg9);clear ho9 hg9 hw9)
       exact⟨⟨k+1,true,_,_,by omega,by go_num,rfl,rfl,HNX.out,eU.out,G11.out⟩,by simp[intOf];omega⟩
theorem ZF (v:Value)(l:List Own.KeyUse)(x:Own.KeyUse)(w:World)(h:Own.Bo w v l)(hs:Own.Srt Own.KeyUse.pub l)(hl:l.length<=1000000):
 Calls Tryz.prog 109 #[v,.agg (Own.Co x).toArray] w fun e w' => ∃ v',e=.returned v' /\ w'.ownsRow w.heap.size 91 2 v' (Own.DY Own.KeyUse.pub x l).length ((Own.DY Own.KeyUse.pub x l).flatMap Own.Co)/\Below w.heap.size w w':=by
 obtain⟨PA,hPA⟩:∃ PA:Nat->Bool->List Own.KeyUse->Prop,PA=Own.DR Own.KeyUse.pub x l:=⟨_,rfl⟩
 have pz:PA 0 false []:=by rw[hPA];exact Own.DR.zero
 have jQ:∀ k d L,PA k d L->L.length<=l.length+1:=fun k d L hp=>by rw[hPA] at hp;exact hp.len
 have XI:∀ k L (hk:k<l.length),PA k false L->Own.Ah (Own.KeyUse.pub l[k]) (Own.KeyUse.pub x)=true->Own.KeyUse.pub l[k]≠Own.KeyUse.pub x/\PA (k+1) false (L++[l[k]]):=fun k L hk hp hlb=>by rw[hPA] at hp ⊢;exact hp.less hs hk hlb
 have RA:∀ k L (hk:k<l.length),PA k false L->Own.Ah (Own.KeyUse.pub l[k]) (Own.KeyUse.pub x)=false->(Own.KeyUse.pub l[k]=Own.KeyUse.pub x->PA (k+1) true (L++[x]))/\(Own.KeyUse.pub l[k]≠Own.KeyUse.pub x->PA (k+1) true (L++[x]++[l[k]])):=fun k L hk hp hlb=>by rw[hPA] at hp ⊢;exact hp.place hk hlb
 have XJ:∀ k L (hk:k<l.length),PA k true L->Own.KeyUse.pub l[k]≠Own.KeyUse.pub x/\PA (k+1) true (L++[l[k]]):=fun k L hk hp=>by rw[hPA] at hp ⊢;exact hp.done hs hk
 have pend:∀ L,PA l.length false L->L++[x]=Own.DY Own.KeyUse.pub x l:=fun L hp=>by rw[hPA] at hp;exact hp.end_
 have RB:∀ L,PA l.length true L->L=Own.DY Own.KeyUse.pub x l:=fun L hp=>by rw[hPA] at hp;exact hp.XF
 obtain⟨R,hR⟩:∃ R,R=Own.DY Own.KeyUse.pub x l:=⟨_,rfl⟩
 rw[<- hR]
 simp only[<- hR] at pend RB
 have sZ:=zh jQ;have jR:=zh XI;have ZE:=zh RA;have jS:=zh XJ;have tq:=zh pend;have jT:=zh RB;have PZ:=zh pz
 clear jQ XI RA XJ pend RB pz hPA hR
 obtain⟨a,c,rfl⟩:=h.len
 have HL:=zh h;clear h
 obtain⟨X,hX⟩:∃ X,X=x:=⟨_,rfl⟩
 rw[<- hX]
 obtain⟨xn,xp⟩:=X
 have HX:=zh hX;have HXF:=zh (congrArg Own.KeyUse.pub hX)
 dsimp only[Own.Co] at HXF ⊢
 clear hX
 have F1:=zh (show Ap w _ [(91,#[.string xn,.int .i64 xp])] from((BL.nil w).push 91 #[.string xn,.int .i64 xp]).boxes)
 show Calls Tryz.prog 109 #[.slice a l.length c,.agg #[.string xn,.int .i64 xp]] w _
 go_enter Tryz.func109,Tryz.ntmps109
 go_wp2_with fail
 generalize (w.alloc (.cells #[.string xn,.int .i64 xp] 91))=w1 at*
 go_loopw [5,6,7] (fun ov dv i wr=>∃ (k:Nat) (d:Bool) (L:List Own.KeyUse) (v:Value),k<=l.length/\i=.int .i64 k/\dv=.bool d/\ov=v/\PA k d L/\wr.ownsRow (w.heap.size+1) 91 2 v L.length (L.flatMap Own.Co)/\Ap w wr [(91,#[.string xn,.int .i64 xp])]) (fun _ _ i _=>l.length-(intOf i).toNat)
 case atStart=>exact⟨0,false,[],_,by omega,rfl,rfl,rfl,PZ.out,⟨rfl,.inl ⟨rfl,rfl⟩⟩,F1.out⟩
 case round=>
  obtain⟨k,d,L,v,hk,rfl,rfl,rfl,hpa,hown,hbx⟩:=hrel
  have hLM:=sZ.out k d L hpa
  obtain⟨va,vm,vc,rfl⟩:=Ac hown
  obtain rfl:=Bt hown
  have HO:=zh hown;have G1:=zh hbx;have HPA:=zh hpa
  clear hown hbx hpa F1
  obtain⟨x00,x01⟩:=G1.out.Dw rfl
  by_cases hlt:k<l.length
  case neg=>
   have hke:k=l.length:=by omega
   have dk:decide ((k:Int)<l.length)=false:=zf
   cases d with
   | true =>
     have hR:=jT.out L (hke ▸ HPA.out)
     have HR:=zh hR;clear hR hke
     go_wp2_with fail
     go_ret
     refine⟨_,rfl,?_,G1.out.under⟩
     rw[<- HR.out]
     exact BG HO.out (by omega)
   | false =>
     have hR:=tq.out L (hke ▸ HPA.out)
     have HR:=zh hR;clear hR hke
     have hb8:Below wr.heap.size wr (wr.alloc (.cells #[.string xn,.int .i64 xp] 91)):=zb
     have hrw:=Bv wr 91 #[.string xn,.int .i64 xp] 2 1 1 rfl
     have hwz:w.heap.size+1<=(wr.alloc (.cells #[.string xn,.int .i64 xp] 91)).heap.size:=Nat.le_trans G1.out.size hb8.size
     have HRW:=zh hrw;have HO8:=zh (own_below HO.out hb8);have G8:=zh (G1.out.step hb8);have HUP:=zh (Az HO.out);have HWZ:=zh hwz
     clear hb8 hrw hwz
     go_wp2_with
      (at_builtin;go_must (refine Ai DX rfl _ _ rfl (w.heap.size+1) L.length (.slice va L.length vc) (L.flatMap Own.Co) rfl HO8.out (.slice (some ⟨wr.heap.size,0,none⟩) 1 1) 1 (Own.Co (⟨xn,xp⟩:Own.KeyUse)) rfl HRW.out (Own.XH (⟨xn,xp⟩:Own.KeyUse)) (by omega) (by omega) HWZ.out ?_);intro v9 w9 ho9 hg9 hw9;obtain⟨ya,ym,yc,rfl⟩:=Ac ho9;have HO9:=zh (show w9.ownsRow (w.heap.size+1) 91 2 (.slice ya ym yc) (L++[(⟨xn,xp⟩:Own.KeyUse)]).length ((L++[(⟨xn,xp⟩:Own.KeyUse)]).flatMap Own.Co) by rw[List.length_append,List.flatMap_append];simpa using ho9);have G9:=zh (G8.out.far (O:=w.heap.size+1) (Nat.le_refl _) HUP.out hg9);clear ho9 hg9 hw9)
     go_ret
     refine⟨_,rfl,?_,G9.out.under⟩
     rw[<- HR.out,<- HX.out]
     exact BG HO9.out (by omega)
  have dk:decide ((k:Int)<l.length)=true:=zt
  obtain⟨b,o,ha,hbl,e0,e1⟩:=Own.Bo.cells (HL.out.below G1.out.under) hlt
  subst ha
  have V3:=jR.out k L hlt;have hpl:=ZE.out k L hlt;have hdn:=jS.out k L hlt
  obtain⟨y,hy⟩:∃ y,y=l[k]:=⟨_,rfl⟩
  simp only[<- hy,<- HXF.out] at V3 hpl hdn
  simp only[<- hy] at e0 e1
  obtain⟨yn,yp⟩:=y
  dsimp only at e0 e1 V3 hpl hdn
  have HY:=zh hy;have tu:=zh V3;have HPL:=zh hpl;have HDN:=zh hdn
  clear V3 hpl hdn hy
  cases d with
  | true =>
    obtain⟨hne,hnx⟩:=HDN.out HPA.out
    have hq:(yn.toList==xn.toList)=false:=by rw[bytes_beq];exact decide_eq_false hne
    have HNX:=zh hnx;clear hne hnx
    go_wp2_with fail
    refine Lex.zl ?_
    go_wp2_with fail
    refine Lex.ze ?_
    (try clear x00 x01)
    have G5:=zh G1.out.drew
    have HO5:=zh (Aq (w':=wr.drew) HO.out (fun k _=>by rw[Ad]))
    have hbd:Below wr.heap.size wr wr.drew:=(Below.refl _ _).drew
    replace e0:=(hbd.cell (p:=⟨b,o+k*2,none⟩) hbl).trans e0
    replace e1:=(hbd.cell (p:=⟨b,o+k*2+1,none⟩) hbl).trans e1
    replace hbl:b<wr.drew.heap.size:=by rw[Ad];exact hbl
    clear hbd
    generalize wr.drew=w5 at*
    obtain⟨x00,x01⟩:=G5.out.Dw rfl
    go_wp2_with fail
    refine Lex.zl ?_
    go_wp2_with fail
    refine Lex.ze ?_
    (try clear x00 x01)
    have G6:=zh G5.out.drew
    have HO6:=zh (Aq (w':=w5.drew) HO5.out (fun k _=>by rw[Ad]))
    have hbd:Below w5.heap.size w5 w5.drew:=(Below.refl _ _).drew
    replace e0:=(hbd.cell (p:=⟨b,o+k*2,none⟩) hbl).trans e0
    replace e1:=(hbd.cell (p:=⟨b,o+k*2+1,none⟩) hbl).trans e1
    replace hbl:b<w5.drew.heap.size:=by rw[Ad];exact hbl
    clear hbd
    generalize w5.drew=w6 at*
    obtain⟨x00,x01⟩:=G6.out.Dw rfl
    have hb8:Below w6.heap.size w6 (w6.alloc (.cells #[.string yn,.int .i64 yp] 91)):=zb
    have hrw:=Bv w6 91 #[.string yn,.int .i64 yp] 2 1 1 rfl
    have hwz:w.heap.size+1<=(w6.alloc (.cells #[.string yn,.int .i64 yp] 91)).heap.size:=Nat.le_trans G6.out.size hb8.size
    have HRW:=zh hrw;have HO8:=zh (own_below HO6.out hb8);have G8:=zh (G6.out.step hb8);have HUP:=zh (Az HO6.out);have HWZ:=zh hwz
    clear hb8 hrw hwz
    go_wp2_with
     (at_builtin;go_must (refine Ai DX rfl _ _ rfl (w.heap.size+1) L.length (.slice va L.length vc) (L.flatMap Own.Co) rfl HO8.out (.slice (some ⟨w6.heap.size,0,none⟩) 1 1) 1 (Own.Co (⟨yn,yp⟩:Own.KeyUse)) rfl HRW.out (Own.XH (⟨yn,yp⟩:Own.KeyUse)) (by omega) (by omega) HWZ.out ?_);intro v9 w9 ho9 hg9 hw9;obtain⟨ya,ym,yc,rfl⟩:=Ac ho9;have HO9:=zh (show w9.ownsRow (w.heap.size+1) 91 2 (.slice ya ym yc) (L++[(⟨yn,yp⟩:Own.KeyUse)]).length ((L++[(⟨yn,yp⟩:Own.KeyUse)]).flatMap Own.Co) by rw[List.length_append,List.flatMap_append];simpa using ho9);have G9:=zh (G8.out.far (O:=w.heap.size+1) (Nat.le_refl _) HUP.out hg9);clear ho9 hg9 hw9)
    exact⟨⟨k+1,true,_,_,by omega,by go_num,rfl,rfl,HNX.out,HO9.out,G9.out⟩,by simp[intOf];omega⟩
  | false =>
    cases hlb:Op.bytesLess yn.toList xn.toList with
    | true =>
      obtain⟨hne,hnx⟩:=tu.out HPA.out hlb
      have hq:(yn.toList==xn.toList)=false:=by rw[bytes_beq];exact decide_eq_false hne
      have HNX:=zh hnx;clear hne hnx
      go_wp2_with fail
      refine Lex.zl ?_
      go_wp2_with fail
      refine Lex.ze ?_
      (try clear x00 x01)
      have G5:=zh G1.out.drew
      have HO5:=zh (Aq (w':=wr.drew) HO.out (fun k _=>by rw[Ad]))
      have hbd:Below wr.heap.size wr wr.drew:=(Below.refl _ _).drew
      replace e0:=(hbd.cell (p:=⟨b,o+k*2,none⟩) hbl).trans e0
      replace e1:=(hbd.cell (p:=⟨b,o+k*2+1,none⟩) hbl).trans e1
      replace hbl:b<wr.drew.heap.size:=by rw[Ad];exact hbl
      clear hbd
      generalize wr.drew=w5 at*
      obtain⟨x00,x01⟩:=G5.out.Dw rfl
      go_wp2_with fail
      refine Lex.zl ?_
      go_wp2_with fail
      refine Lex.ze ?_
      (try clear x00 x01)
      have G6:=zh G5.out.drew
      have HO6:=zh (Aq (w':=w5.drew) HO5.out (fun k _=>by rw[Ad]))
      have hbd:Below w5.heap.size w5 w5.drew:=(Below.refl _ _).drew
      replace e0:=(hbd.cell (p:=⟨b,o+k*2,none⟩) hbl).trans e0
      replace e1:=(hbd.cell (p:=⟨b,o+k*2+1,none⟩) hbl).trans e1
      replace hbl:b<w5.drew.heap.size:=by rw[Ad];exact hbl
      clear hbd
      generalize w5.drew=w6 at*
      obtain⟨x00,x01⟩:=G6.out.Dw rfl
      have hb8:Below w6.heap.size w6 (w6.alloc (.cells #[.string yn,.int .i64 yp] 91)):=zb
      have hrw:=Bv w6 91 #[.string yn,.int .i64 yp] 2 1 1 rfl
      have hwz:w.heap.size+1<=(w6.alloc (.cells #[.string yn,.int .i64 yp] 91)).heap.size:=Nat.le_trans G6.out.size hb8.size
      have HRW:=zh hrw;have HO8:=zh (own_below HO6.out hb8);have G8:=zh (G6.out.step hb8);have HUP:=zh (Az HO6.out);have HWZ:=zh hwz
      clear hb8 hrw hwz
      go_wp2_with
       (at_builtin;go_must (refine Ai DX rfl _ _ rfl (w.heap.size+1) L.length (.slice va L.length vc) (L.flatMap Own.Co) rfl HO8.out (.slice (some ⟨w6.heap.size,0,none⟩) 1 1) 1 (Own.Co (⟨yn,yp⟩:Own.KeyUse)) rfl HRW.out (Own.XH (⟨yn,yp⟩:Own.KeyUse)) (by omega) (by omega) HWZ.out ?_);intro v9 w9 ho9 hg9 hw9;obtain⟨ya,ym,yc,rfl⟩:=Ac ho9;have HO9:=zh (show w9.ownsRow (w.heap.size+1) 91 2 (.slice ya ym yc) (L++[(⟨yn,yp⟩:Own.KeyUse)]).length ((L++[(⟨yn,yp⟩:Own.KeyUse)]).flatMap Own.Co) by rw[List.length_append,List.flatMap_append];simpa using ho9);have G9:=zh (G8.out.far (O:=w.heap.size+1) (Nat.le_refl _) HUP.out hg9);clear ho9 hg9 hw9)
      exact⟨⟨k+1,false,_,_,by omega,by go_num,rfl,rfl,HNX.out,HO9.out,G9.out⟩,by simp[intOf];omega⟩
    | false =>
      obtain⟨h1,h2⟩:=HPL.out HPA.out hlb
      rw[<- HX.out] at h1 h2
      have HH1:=zh h1;have HH2:=zh h2
      clear h1 h2
      go_wp2_with fail
      refine Lex.zl ?_
      go_wp2_with fail
      refine Lex.ze ?_
      (try clear x00 x01)
      have G5:=zh G1.out.drew
      have HO5:=zh (Aq (w':=wr.drew) HO.out (fun k _=>by rw[Ad]))
      have hbd:Below wr.heap.size wr wr.drew:=(Below.refl _ _).drew
      replace e0:=(hbd.cell (p:=⟨b,o+k*2,none⟩) hbl).trans e0
      replace e1:=(hbd.cell (p:=⟨b,o+k*2+1,none⟩) hbl).trans e1
      replace hbl:b<wr.drew.heap.size:=by rw[Ad];exact hbl
      clear hbd
      generalize wr.drew=w5 at*
      obtain⟨x00,x01⟩:=G5.out.Dw rfl
      have hb8:Below w5.heap.size w5 (w5.alloc (.cells #[.string xn,.int .i64 xp] 91)):=zb
      have hrw:=Bv w5 91 #[.string xn,.int .i64 xp] 2 1 1 rfl
      have hwz:w.heap.size+1<=(w5.alloc (.cells #[.string xn,.int .i64 xp] 91)).heap.size:=Nat.le_trans G5.out.size hb8.size
      have HRW:=zh hrw;have HO8:=zh (own_below HO5.out hb8);have G8:=zh (G5.out.step hb8);have HUP:=zh (Az HO5.out);have HWZ:=zh hwz
      clear hb8 hrw hwz
      have HG8:=G8
      go_upto_region 9 with
       (at_builtin;go_must (refine Ai DX rfl _ _ rfl (w.heap.size+1) L.length (.slice va L.length vc) (L.flatMap Own.Co) rfl HO8.out (.slice (some ⟨w5.heap.size,0,none⟩) 1 1) 1 (Own.Co (⟨xn,xp⟩:Own.KeyUse)) rfl HRW.out (Own.XH (⟨xn,xp⟩:Own.KeyUse)) (by omega) (by omega) HWZ.out ?_);intro v9 w9 ho9 hg9 hw9;obtain⟨ya,ym,yc,rfl⟩:=Ac ho9;have HO9:=zh (show w9.ownsRow (w.heap.size+1) 91 2 (.slice ya ym yc) (L++[(⟨xn,xp⟩:Own.KeyUse)]).length ((L++[(⟨xn,xp⟩:Own.KeyUse)]).flatMap Own.Co) by rw[List.length_append,List.flatMap_append];simpa using ho9);have G9:=zh (G8.out.far (O:=w.heap.size+1) (Nat.le_refl _) HUP.out hg9);clear ho9 hg9 hw9)
      obtain⟨L2,hL2⟩:∃ L2,L2=L++[(⟨xn,xp⟩:Own.KeyUse)]:=⟨_,rfl⟩
      rw[<- hL2] at HO9 HH1 HH2
      have zaY:L2.length<=1000002:=by rw[hL2,List.length_append];show L.length+1<=_;omega
      have hyl:=Bt HO9.out
      subst hyl
      clear hL2
      obtain⟨b',o',ha,Py,f0,f1⟩:=Own.Bo.cells (HL.out.below G9.out.under) hlt
      cases ha
      clear e0 e1 hbl
      rename_i hbl
      have hbl:=Py
      rw[<- HY.out] at f0 f1
      dsimp only at f0 f1
      (try clear x00 x01)
      obtain⟨x00,x01⟩:=G9.out.Dw rfl
      have e0:=f0;have e1:=f1
      clear f0 f1 Py
      by_cases hq:yn=xn
      ·have hqq:(yn.toList==xn.toList)=true:=by rw[bytes_beq];exact decide_eq_true hq
       have HNX:=zh (HH1.out hq);clear hq
       go_wp2_with fail
       refine Lex.zl ?_
       go_wp2_with fail
       refine Lex.ze ?_
       (try clear x00 x01)
       have G10:=zh G9.out.drew
       have V5:=zh (Aq (w':=w9.drew) HO9.out (fun k _=>by rw[Ad]))
       have hbd:Below w9.heap.size w9 w9.drew:=(Below.refl _ _).drew
       replace e0:=(hbd.cell (p:=⟨b,o+k*2,none⟩) hbl).trans e0
       replace e1:=(hbd.cell (p:=⟨b,o+k*2+1,none⟩) hbl).trans e1
       replace hbl:b<w9.drew.heap.size:=by rw[Ad];exact hbl
       clear hbd
       generalize w9.drew=w10 at*
       obtain⟨x00,x01⟩:=G10.out.Dw rfl
       go_wp2_with fail
       exact⟨⟨k+1,true,_,_,by omega,by go_num,rfl,rfl,HNX.out,V5.out,G10.out⟩,by simp[intOf];omega⟩
      ·have hqq:(yn.toList==xn.toList)=false:=by rw[bytes_beq];exact decide_eq_false hq
       have HNX:=zh (HH2.out hq);clear hq
       go_wp2_with fail
       refine Lex.zl ?_
       go_wp2_with fail
       refine Lex.ze ?_
       (try clear x00 x01)
       have G10:=zh G9.out.drew
       have V5:=zh (Aq (w':=w9.drew) HO9.out (fun k _=>by rw[Ad]))
       have hbd:Below w9.heap.size w9 w9.drew:=(Below.refl _ _).drew
       replace e0:=(hbd.cell (p:=⟨b,o+k*2,none⟩) hbl).trans e0
       replace e1:=(hbd.cell (p:=⟨b,o+k*2+1,none⟩) hbl).trans e1
       replace hbl:b<w9.drew.heap.size:=by rw[Ad];exact hbl
       clear hbd
       generalize w9.drew=w10 at*
       obtain⟨x00,x01⟩:=G10.out.Dw rfl
       have hb8:Below w10.heap.size w10 (w10.alloc (.cells #[.string yn,.int .i64 yp] 91)):=zb
       have hrw:=Bv w10 91 #[.string yn,.int .i64 yp] 2 1 1 rfl
       have hwz:w.heap.size+1<=(w10.alloc (.cells #[.string yn,.int .i64 yp] 91)).heap.size:=Nat.le_trans G10.out.size hb8.size
       have HRW:=zh hrw;have HO8:=zh (own_below V5.out hb8);have G8:=zh (G10.out.step hb8);have HUP:=zh (Az V5.out);have HWZ:=zh hwz
       clear hb8 hrw hwz
       go_wp2_with
        (at_builtin;go_must (refine Ai DX rfl _ _ rfl (w.heap.size+1) L2.length (.slice ya L2.length yc) (L2.flatMap Own.Co) rfl HO8.out (.slice (some ⟨w10.heap.size,0,none⟩) 1 1) 1 (Own.Co (⟨yn,yp⟩:Own.KeyUse)) rfl HRW.out (Own.XH (⟨yn,yp⟩:Own.KeyUse)) (by omega) (by omega) HWZ.out ?_);intro v11 w11 ho9 hg9 hw9;obtain⟨za,zm,zc,rfl⟩:=Ac ho9;have eU:=zh (show w11.ownsRow (w.heap.size+1) 91 2 (.slice za zm zc) (L2++[(⟨yn,yp⟩:Own.KeyUse)]).length ((L2++[(⟨yn,yp⟩:Own.KeyUse)]).flatMap Own.Co) by rw[List.length_append,List.flatMap_append];simpa using ho9);have G11:=zh (G8.out.far (O:=w.heap.size+1) (Nat.le_refl _) HUP.out hg9);clear ho9 hg9 hw9)
       exact⟨⟨k+1,true,_,_,by omega,by go_num,rfl,rfl,HNX.out,eU.out,G11.out⟩,by simp[intOf];omega⟩
end
section
open Go Go.RowKit Go.Maps
namespace Own
def Ey (n:Nat):List Member:=(List.range n).map Av
def Ce (n:Nat)(th:Int):Space:=⟨⟨#[97]⟩,Ey n,th⟩
theorem XK (n:Nat):Ey (n+1)=Ey n++[Av n]:=by
 unfold Ey
 rw[List.range_succ,List.map_append]
 rfl
theorem IW (n:Nat):(Ey n).length=n:=by
 unfold Ey
 rw[List.length_map,List.length_range]
end Own
theorem RD (n:Nat)(th:Int)(w:World)(hn:n<=256):
 Calls Tryz.prog 33 #[.int .i64 n,.int .i64 th] w fun e w' => ∃ sv,e=.returned (.agg #[.int .i64 0,sv,.slice none 0 0])/\Own.AJ w' sv [Own.Ce n th]/\Below w.heap.size w w':=by
 have F1:=zh (show Ap w _ [(38,#[.int .i64 0,.slice none 0 0,.slice none 0 0]),(70,#[.string ⟨#[97]⟩,.slice none 0 0,.int .i64 th])] from(((BL.nil w).push 38 #[.int .i64 0,.slice none 0 0,.slice none 0 0]).push 70 #[.string ⟨#[97]⟩,.slice none 0 0,.int .i64 th]).boxes)
 obtain⟨MS,hMS⟩:∃ MS,MS=Own.Ey:=⟨_,rfl⟩
 obtain⟨MM,hMM⟩:∃ MM,MM=Own.Av:=⟨_,rfl⟩
 have hsu:∀ k,MS (k+1)=MS k++[MM k]:=fun k=>by rw[hMS,hMM];exact Own.XK k
 have hln:∀ k,(MS k).length=k:=fun k=>by rw[hMS];exact Own.IW k
 have hz:MS 0=[]:=by rw[hMS];rfl
 have hmb:∀ (k:Nat) W,k<256->Calls Tryz.prog 37 #[.int .u8 k] W fun e w' => e=.returned (.agg #[.string (MM k).name,.string (MM k).pub])/\Below W.heap.size W w':=fun k W hk=>by rw[hMM];exact Jl k W hk
 have HMS:=zh hMS;have HSU:=zh hsu;have HLN:=zh hln;have HMZ:=zh hz;have HMB:=zh hmb
 clear hMS hMM hsu hln hz hmb
 go_enter Tryz.func33,Tryz.ntmps33
 go_upto_region 2 with fail
 generalize ((w.alloc (.cells #[.int .i64 0,.slice none 0 0,.slice none 0 0] 38)).alloc (.cells #[.string ⟨#[97]⟩,.slice none 0 0,.int .i64 th] 70))=w1 at*
 go_wp2_with fail
 go_loopw [10] (fun i wr=>∃ (k:Nat) (v:Value),k<=n/\i=.int .i64 k/\wr.ownsRow (w.heap.size+2) 73 2 v (MS k).length ((MS k).flatMap Own.Ie)/\Ap w wr [(38,#[.int .i64 0,.slice none 0 0,.slice none 0 0]),(70,#[.string ⟨#[97]⟩,v,.int .i64 th])]) (fun i _=>n-(intOf i).toNat)
 case atStart=>exact⟨0,_,by omega,rfl,by rw[HMZ.out];exact⟨rfl,.inl ⟨rfl,rfl⟩⟩,F1.out⟩
 case round=>
  obtain⟨k,v,hk,rfl,hown,hbx⟩:=hrel
  obtain⟨va,vm,vc,rfl⟩:=Ac hown
  obtain rfl:=Bt hown
  have HO:=zh hown;have G1:=zh hbx
  clear hown hbx F1
  by_cases hlt:k<n
  case neg=>
   have hke:k=n:=by omega
   have dk:decide ((k:Int)<n)=false:=zf
   subst hke
   have F2:=zh (G1.out.step ((Below.refl wr.heap.size wr).alloc (Nat.le_refl _) (.cells #[.string ⟨#[97]⟩,.slice va (MS k).length vc,.int .i64 th] 70)))
   have hup:=Az HO.out
   have hwz:w.heap.size+2<=wr.heap.size:=G1.out.size
   have HUP:=zh hup;have HWZ:=zh hwz;clear hup hwz
   have y00:(wr.alloc (.cells #[.string ⟨#[97]⟩,.slice va (MS k).length vc,.int .i64 th] 70)).cell? ⟨w.heap.size,0,none⟩=some (.int .i64 0):=F2.out.cell 0 0 rfl rfl
   have zaQ:(wr.alloc (.cells #[.string ⟨#[97]⟩,.slice va (MS k).length vc,.int .i64 th] 70)).frozen? ⟨w.heap.size,0,none⟩=false:=F2.out.free 0 0 rfl
   have y01:(wr.alloc (.cells #[.string ⟨#[97]⟩,.slice va (MS k).length vc,.int .i64 th] 70)).cell? ⟨w.heap.size,1,none⟩=some (.slice none 0 0):=F2.out.cell 0 1 rfl rfl
   have zaR:(wr.alloc (.cells #[.string ⟨#[97]⟩,.slice va (MS k).length vc,.int .i64 th] 70)).frozen? ⟨w.heap.size,1,none⟩=false:=F2.out.free 0 1 rfl
   have y02:(wr.alloc (.cells #[.string ⟨#[97]⟩,.slice va (MS k).length vc,.int .i64 th] 70)).cell? ⟨w.heap.size,2,none⟩=some (.slice none 0 0):=F2.out.cell 0 2 rfl rfl
   have zaS:(wr.alloc (.cells #[.string ⟨#[97]⟩,.slice va (MS k).length vc,.int .i64 th] 70)).frozen? ⟨w.heap.size,2,none⟩=false:=F2.out.free 0 2 rfl
   obtain⟨x10,x11,x12⟩:=G1.out.JU rfl
   go_wp2_with fail
   have G2:=((F2.out.put 0 0 (.int .i64 0) rfl).put 0 1 (.slice (some ⟨wr.heap.size,0,none⟩) 1 1) rfl).put 0 2 (.slice none 0 0) rfl
   refine Es rfl rfl (Ab (G2.at1 0 rfl) Tryz.underlying38 rfl Am) ⟨_,rfl,?_,G2.under⟩
   have hwz:=HWZ.out
   have hns:=At.new wr 70 #[.string ⟨#[97]⟩,.slice va (MS k).length vc,.int .i64 th]
   have hn4:=((hns.far (p:=⟨w.heap.size,0,none⟩) (by simp;omega) (.int .i64 0)).far (p:=⟨w.heap.size,1,none⟩) (by simp;omega) (.slice (some ⟨wr.heap.size,0,none⟩) 1 1)).far (p:=⟨w.heap.size,2,none⟩) (by simp;omega) (.slice none 0 0)
   obtain⟨e0,e1,e2⟩:=hn4.c3
   have h8:=own_below HO.out ((Below.refl wr.heap.size wr).alloc (Nat.le_refl _) (.cells #[.string ⟨#[97]⟩,.slice va (MS k).length vc,.int .i64 th] 70))
   refine⟨some ⟨wr.heap.size,0,none⟩,1,rfl,.inr ⟨wr.heap.size,0,rfl,trivial,hn4.lt,fun i hi=>?_⟩⟩
   have hi0:i=0:=by simpa using hi
   subst hi0
   refine⟨[.string ⟨#[97]⟩,.slice va (MS k).length vc,.int .i64 th],rfl,?_,.slice va (MS k).length vc,rfl,?_⟩
   ·intro j u hj
    match j,hj with
    | 0,hj=>cases hj;exact e0
    | 1,hj=>cases hj;exact e1
    | 2,hj=>cases hj;exact e2
    | j+3,hj=>simp at hj
   ·have h4 :=Aq (w' :=(((wr.alloc (.cells #[.string ⟨#[97]⟩,.slice va (MS k).length vc,.int .i64 th] 70)).setCell ⟨w.heap.size,0,none⟩ (.int .i64 0)).setCell ⟨w.heap.size,1,none⟩ (.slice (some ⟨wr.heap.size,0,none⟩) 1 1)).setCell ⟨w.heap.size,2,none⟩ (.slice none 0 0)) h8 (fun j hj => by
     have h1:=Az h8 j hj
     have h2:j≠w.heap.size:=by omega
     rw[zo h2,zo h2,zo h2])
    show Ag 2 Own.Cb Own.IE _ _ (Own.Ey k)
    rw[<- HMS.out]
    exact Ck (enc:=Own.Ie) (fun _=>rfl) (fun _=>rfl) (Bz.own h4) rfl (fun _ _=>trivial)
  have dk:decide ((k:Int)<n)=true:=zt
  obtain⟨x10,x11,x12⟩:=G1.out.JU rfl
  go_wp2_with fail
  refine Lex.zn (fun j=>j=w.heap.size+1) [1] 6 [5] ?_
  simp only[Lex.AA,zd]
  go_wp2_with fail
  have HX1:=zh (zi x11)
  refine(HMB.out k _ (by omega)).mono ?_
  rintro e w5 ⟨rfl,hb5⟩
  obtain⟨M,hM⟩:∃ M,M=MM k:=⟨_,rfl⟩
  rw[<- hM]
  obtain⟨mn,mp⟩:=M
  have HM:=zh hM
  have hb6:Below wr.heap.size wr w5:=(Below.refl wr.heap.size wr).drew.trans hb5
  have hb8:Below w5.heap.size w5 (w5.alloc (.cells #[.string mn,.string mp] 73)):=zb
  have HB8:=zh (hb6.trans (hb8.mono hb6.size))
  have hrw:=Bv w5 73 #[.string mn,.string mp] 2 1 1 rfl
  have hwz:w.heap.size+2<=(w5.alloc (.cells #[.string mn,.string mp] 73)).heap.size:=Nat.le_trans G1.out.size HB8.out.size
  have HRW:=zh hrw;have HO8:=zh (own_below HO.out HB8.out);have G8:=zh (G1.out.step HB8.out);have HUP:=zh (Az HO.out);have HWZ:=zh hwz
  have hkm:(MS k).length<=256:=by rw[HLN.out k];omega
  have HOB:=zh (G1.out.lt (i:=1) (by show 1<2;omega))
  have HB6:=zh hb6
  clear hb5 hb6 hb8 hrw hwz hM
  go_wp2_with fail
  refine Lex.Mid.intro (fun j hj _=>by rw[hj];exact HB6.out.block _ HOB.out) ?_
  go_wp2_with (at_builtin;go_must (refine Ai GD rfl _ _ rfl (w.heap.size+2) (MS k).length (.slice va (MS k).length vc) ((MS k).flatMap Own.Ie) rfl HO8.out (.slice (some ⟨w5.heap.size,0,none⟩) 1 1) 1 [.string mn,.string mp] rfl HRW.out (by intro u hu;simp at hu;rcases hu with rfl|rfl<;>rfl) (by omega) (by omega) HWZ.out ?_);intro v9 w9 ho9 hg9 hw9;obtain⟨ya,ym,yc,rfl⟩:=Ac ho9;have HO9:=zh ho9;have HG9:=zh hg9;have G9:=zh (G8.out.far (O:=w.heap.size+2) (Nat.le_refl _) HUP.out hg9);have z10:w9.cell? ⟨w.heap.size+1,0,none⟩=some (.string ⟨#[97]⟩):=G9.out.cell 1 0 rfl rfl;have zaV:w9.frozen? ⟨w.heap.size+1,0,none⟩=false:=G9.out.free 1 0 rfl;have z11:w9.cell? ⟨w.heap.size+1,1,none⟩=some (.slice va (MS k).length vc):=G9.out.cell 1 1 rfl rfl;have zaW:w9.frozen? ⟨w.heap.size+1,1,none⟩=false:=G9.out.free 1 1 rfl;have z12:w9.cell? ⟨w.heap.size+1,2,none⟩=some (.int .i64 th):=G9.out.cell 1 2 rfl rfl;have zaX:w9.frozen? ⟨w.heap.size+1,2,none⟩=false:=G9.out.free 1 2 rfl;clear ho9 hg9 hw9)
  refine Lex.zk ⟨⟨rfl,HX1.out⟩,trivial⟩ ?_
  go_wp2_with fail
  have hm1:MS (k+1)=MS k++[(⟨mn,mp⟩:Own.Member)]:=by rw[HSU.out k,HM.out]
  refine⟨⟨k+1,.slice ya ym yc,by omega,by go_num,?_,G9.out.put 1 1 _ rfl⟩,by simp[intOf];omega⟩
  rw[hm1]
  have h9:w9.ownsRow (w.heap.size+2) 73 2 (.slice ya ym yc) (MS k++[(⟨mn,mp⟩:Own.Member)]).length ((MS k++[(⟨mn,mp⟩:Own.Member)]).flatMap Own.Ie):=by
   rw[List.length_append,List.flatMap_append]
   simpa [Own.Ie] using HO9.out
  exact Aq h9 (fun j hj=>zo (by have:=Az h9 j hj;show j≠w.heap.size+1;omega))
end
section
open Go
namespace C9
def FC (f:Nat->Nat):Nat->Nat->Nat
 | _,0=>0
 | s,n+1=>f s+18446744073709551616*FC f (s+1) n
theorem XL (f:Nat->Nat):∀ (n s:Nat),FC f s n=Ae n fun i=>f (s+i)
 | 0,_=>rfl
 | n + 1,s => by
   have e:Ae (n+1) (fun i=>f (s+i))=f s+18446744073709551616*Ae n (fun i=>f (s+1+i)):=by
    show f (s+0)+18446744073709551616*Ae n (fun i=>f (s+(i+1)))=_
    congr 3
    funext i
    rw[Nat.add_assoc,Nat.add_comm 1 i]
   rw[e,<- XL f n (s+1)]
   rfl
def V6 (v:V)(k:V->V):V:=force v.a fun a=>force v.b fun b=>force v.c fun c=>force v.d fun d=>force v.e fun e=>force v.f fun f=>force v.g fun g=>force v.h fun h=>k ⟨a,b,c,d,e,f,g,h⟩
theorem Ut (v:V)(k:V->V):V6 v k=k v:=by
 unfold V6
 simp only[force_eq]
def sJ (i:Nat):Nat:=i%12%6
def kJ (i:Nat):Nat:=i%12/6
def cJ (i:Nat):Nat:=i/12
def om (M O:Nat):V:=La M O (IVP O) (FC (fun i=>wd4 2 (sJ i) (sJ i) (sJ i)) 0 804) (FC (fun i=>wd4 (sJ i) (sJ i) (sJ i) (sJ i)) 0 804) (FC (fun i=>wd4 (sJ i) (sJ i) (sJ i) (sJ i)) 0 804) (FC (fun i=>wd4 (sJ i) (sJ i) (sJ i) (sJ i)) 0 804) (FC (fun i=>wd4 (sJ i) (sJ i) (sJ i) (sJ i)) 0 804) (FC (fun i=>wd4 (sJ i) (sJ i) (sJ i) (sJ i)) 0 804) (FC (fun i=>wd4 (sJ i) (sJ i) (sJ i) (sJ i)) 0 804) (FC (fun i=>wd4 (sJ i) (sJ i) (sJ i) (sJ i)) 0 804) (FC (fun i=>wd4 (sJ i) (kJ i) (cJ i) 128) 0 804) 0 0 0 0 0 0 (O*280)
def tC (k:V->Bool):Bool:=force (FC (fun _=>4294967295) 0 804) fun M=>force (FC (fun _=>1) 0 804) fun O=>force (FC (fun i=>wd4 3 (kJ i) (cJ i) 0) 0 804) fun B=>
 let v:=(List.range' 0 15).foldl (fun v q=>V6 v fun v=>Xi M O B q v) (om M O)
 force v.a fun a=>force v.b fun b=>force v.c fun c=>force v.d fun d=>force v.e fun e=>force v.f fun f=>force v.g fun g=>force v.h fun h=>k ⟨a,b,c,d,e,f,g,h⟩
def lane (i P:Nat):Nat:=(P >>> (64*i))%18446744073709551616
def V7 (G g:Nat)(R:V):List Nat:=(List.range 67).flatMap fun c=>R.list.map (lane (c*G+g))
def shW:Nat->List Nat->List Nat
 | t,[]=>[wd4 t 128 0 0]
 | t,w::ws=>(t*16777216+w/256)::shW (w%256) ws
def Na (ws:List Nat):List Nat:=shW 0 ws++[0,0,0,0,0,0,17160]
def Nb (ws:List Nat):List Nat:=shW 1 ws++[0,0,0,0,0,0,0,0,0,0,0,0,0,0,520]
def Oi:List Nat->(List Nat->V)->V
 | [],k=>k []
 | x::l,k=>force x fun x=>Oi l fun l=>k (x::l)
def Uu:Nat->V->List Nat->V
 | 0,v,_=>v
 | n+1,v,ws=>V6 (cmp v ws) fun v=>Uu n v (ws.drop 16)
def OQ (R:V)(g:Nat):V:=Oi (Na (V7 12 g R)) fun ws=>Uu 34 IVN ws
def XM (R:V)(s:Nat):V:=Oi (Nb ((OQ R s).list++(OQ R (6+s)).list)) fun ws=>Uu 2 IVN ws
def diffs:List Nat->Bool
 | []=>true
 | x::l=>(l.all fun y => !Nat.beq x y)&&diffs l
theorem ZG:tC (fun R=>diffs ((List.range 6).map fun s=>(XM R s).a))=true:=by decide +kernel
end C9
namespace C9
theorem DL:∀ (n i:Nat) (f:Nat->Nat),D f->i<n->lane i (Ae n f)=f i
 | 0,_,_,_,h=>by cases h
 | n + 1,0,f,hf,_ => by
   unfold lane
   show((f 0+18446744073709551616*_) >>> (64*0))%_=_
   rw[Nat.mul_zero,Nat.shiftRight_zero,Nat.add_mul_mod_self_left]
   exact Nat.mod_eq_of_lt (hf 0)
 | n + 1,i + 1,f,hf,h => by
   have ih:=DL n i (fun i=>f (i+1)) (fun i=>hf _) (by omega)
   unfold lane at ih ⊢
   show((f 0+18446744073709551616*Ae n (fun i=>f (i+1))) >>> (64*(i+1)))%_=f (i+1)
   rw[show 64*(i+1)=64+64*i by omega,Nat.shiftRight_add]
   have e:(f 0+18446744073709551616*Ae n (fun i=>f (i+1))) >>> 64=Ae n (fun i=>f (i+1)):=by
    rw[Nat.shiftRight_eq_div_pow,show(2:Nat)^64=18446744073709551616 by decide,Nat.add_mul_div_left _ _ (by decide),Nat.div_eq_of_lt (hf 0),Nat.zero_add]
   rw[e]
   exact ih
theorem XO (u:VF)(hu:u.ok)(g:Nat)(hg:g<12):V7 12 g (u.pack 804)=(List.range 67).flatMap fun c=>(u.at (c*12+g)).list:=by
 unfold V7
 rw[List.flatMap_def,List.flatMap_def]
 congr 1
 refine List.map_congr_left fun c hc=>?_
 have hc:=List.mem_range.1 hc
 have hl:c*12+g<804:=by omega
 unfold VF.pack V.list VF.at
 simp only[List.map_cons,List.map_nil]
 rw[DL 804 _ _ hu.a.d hl,DL 804 _ _ hu.b.d hl,DL 804 _ _ hu.c.d hl,DL 804 _ _ hu.d.d hl,DL 804 _ _ hu.e.d hl,DL 804 _ _ hu.f.d hl,DL 804 _ _ hu.g.d hl,DL 804 _ _ hu.h.d hl]
theorem Kj:∀ (ws:List Nat) (t:Nat),t<256->(∀ w∈ws,w<4294967296)->(shW t ws).flatMap BN=t.toUInt8::(ws.flatMap BN++[128,0,0])
 | [],t,ht,_ => by
   unfold shW
   rw[List.flatMap_cons,List.flatMap_nil,List.append_nil,QX ht (show 128<256 by omega) (show 0<256 by omega) (show 0<256 by omega)]
   rfl
 | w :: ws,t,ht,hw => by
   have h1:=hw w List.mem_cons_self
   have ih:=Kj ws (w%256) (Nat.mod_lt _ (by omega)) (fun x hx=>hw x (List.mem_cons_of_mem _ hx))
   unfold shW
   rw[List.flatMap_cons,ih,List.flatMap_cons]
   have e:BN (t*16777216+w/256)=[t.toUInt8,(w/16777216).toUInt8,(w/65536%256).toUInt8,(w/256%256).toUInt8]:=by
    unfold BN
    rw[show(t*16777216+w/256)/16777216=t by omega,show(t*16777216+w/256)/65536%256=w/16777216 by omega,show(t*16777216+w/256)/256%256=w/65536%256 by omega,show(t*16777216+w/256)%256=w/256%256 by omega]
   rw[e]
   simp[BN]
theorem V8:∀ (ws:List Nat) (t:Nat),(shW t ws).length=ws.length+1
 | [],_=>rfl
 | w :: ws,t => by
   unfold shW
   rw[List.length_cons,V8 ws,List.length_cons]
theorem ZH:∀ (ws:List Nat) (t:Nat),t<256->(∀ w∈ws,w<4294967296)->∀ x∈shW t ws,x<4294967296
 | [],t,ht,_,x,hx => by
   have:x=wd4 t 128 0 0:=by simpa [shW] using hx
   rw[this]
   exact JK ht (by omega) (by omega) (by omega)
 | w :: ws,t,ht,hw,x,hx => by
   have h1:=hw w List.mem_cons_self
   unfold shW at hx
   rcases List.mem_cons.1 hx with rfl|hx
   ·omega
   ·exact ZH ws _ (Nat.mod_lt _ (by omega)) (fun y hy=>hw y (List.mem_cons_of_mem _ hy)) x hx
theorem Nc:∀ (n:Nat) (v:V) (ws:List Nat),Uu n v ws=Ia n v ws:=by
 intro n
 induction n with
 | zero=>intro v ws;rw[Uu,Ia]
 | succ n ih=>intro v ws;rw[Uu,Ut,ih,Ia]
theorem Ii:∀ (l:List Nat) (k:List Nat->V),Oi l k=k l
 | [],k=>by rw[Oi]
 | x::l,k=>by rw[Oi,force_eq,Ii l]
theorem XP:∀ l:List ByteArray,(Cod.cat l).data.toList=l.flatMap fun x=>x.data.toList
 | []=>rfl
 | x::l=>by rw[Cod.cat,Sha.Bh,XP l,List.flatMap_cons]
theorem fu {α : Type}(f : α -> List Nat)(l:List α):(l.flatMap f).flatMap BN=l.flatMap fun x=>(f x).flatMap BN:=List.flatMap_assoc
def Oj (u:VF):Prop:=∀ i,i<804->u.at i=JL (wd4 3 (kJ i) (cJ i) 0) 15 0 (cmp IVN (IC (sJ i) (kJ i) (cJ i)))
theorem jU (s key:Nat)(hs:s<6)(hk:key<2)(u:VF)(hu:u.ok)(hu2:Oj u):(Sig.leaf (Bn s) key).data.toList=(OQ (u.pack 804) (key*6+s)).list.flatMap BN:=by
 have hg:key*6+s<12:=by omega
 obtain⟨ws,hws⟩:∃ ws,ws=V7 12 (key*6+s) (u.pack 804):=⟨_,rfl⟩
 have hw:=hws
 rw[XO u hu _ hg] at hw
 have hlt:∀ w∈ws,w<4294967296:=fun w hm=>by
  rw[hw] at hm
  obtain⟨c,_,hm⟩:=List.mem_flatMap.1 hm
  exact Vi (hu.at _) w hm
 have hlen:ws.length=536:=by
  rw[hw,List.length_flatMap]
  have:(List.range 67).map (fun c=>(u.at (c*12+(key*6+s))).list.length)=List.replicate 67 8:=by
   rw[List.eq_replicate_iff]
   refine⟨by simp,fun b hb=>?_⟩
   obtain⟨c,_,rfl⟩:=List.mem_map.1 hb
   rfl
  rw[this]
  rfl
 have hm:(Sig.b1 0++Cod.cat ((List.range 67).map fun c=>Sig.chain key c 0 15 (Sig.secret (Bn s) key c))).data.toList=0::ws.flatMap BN:=by
  have key2:((List.range 67).map fun c=>Sig.chain key c 0 15 (Sig.secret (Bn s) key c)).flatMap (fun x=>x.data.toList)=(List.range 67).flatMap fun c=>((u.at (c*12+(key*6+s))).list).flatMap BN:=by
   rw[List.flatMap_map,List.flatMap_def,List.flatMap_def]
   congr 1
   refine List.map_congr_left fun c hc=>?_
   have hc:=List.mem_range.1 hc
   have e1:sJ (c*12+(key*6+s))=s:=by unfold sJ;omega
   have e2:kJ (c*12+(key*6+s))=key:=by unfold kJ;omega
   have e3:cJ (c*12+(key*6+s))=c:=by unfold cJ;omega
   rw[hu2 _ (by omega),e1,e2,e3]
   exact(bn key c (by omega) (by omega) 15 0 _ _ (Zn _ _) (jg s key c (by omega) (by omega) (by omega)) (by omega)).1
  rw[Sha.Bh,XP,hw,fu,key2]
  rfl
 have hz:(Sig.b1 0++Cod.cat ((List.range 67).map fun c=>Sig.chain key c 0 15 (Sig.secret (Bn s) key c))).size=2145:=by
  rw[<- Sha.BJ,hm,List.length_cons,Gl,hlen]
 unfold Sig.leaf Sig.Fb OQ
 rw[Ii,Nc,<- hws]
 refine bg _ (Na ws) 34 ?_ ?_ ?_
 ·rw[Sha.Bh,hm,MH _ 2145 hz]
  unfold Na
  rw[List.flatMap_append,Kj ws 0 (by omega) hlt]
  simp only[List.cons_append,List.append_assoc]
  rfl
 ·unfold Na
  rw[List.length_append,V8,hlen]
  rfl
 ·intro w hmem
  unfold Na at hmem
  rcases List.mem_append.1 hmem with h|h
  ·exact ZH ws 0 (by omega) hlt w h
  ·simp only[List.mem_cons,List.not_mem_nil,or_false] at h
   rcases h with rfl|rfl|rfl|rfl|rfl|rfl|rfl<;>simp
theorem XQ (R:V)(g:Nat):Vok (OQ R g):=by
 unfold OQ
 rw[Ii,Nc]
 exact JJ _ _ _ Vh
theorem jV (s:Nat)(hs:s<6)(u:VF)(hu:u.ok)(hu2:Oj u):(Sig.root (Sig.leaves (Bn s) 2)).data.toList=(XM (u.pack 804) s).list.flatMap BN:=by
 have h0:=jU s 0 hs (by omega) u hu hu2
 have h1:=jU s 1 hs (by omega) u hu hu2
 rw[Nat.zero_mul,Nat.zero_add] at h0
 rw[Nat.one_mul] at h1
 have hl:Sig.leaves (Bn s) 2=[Sig.leaf (Bn s) 0,Sig.leaf (Bn s) 1]:=rfl
 rw[hl,Sig.Qu _ _ (Sig.ED _ _) (Sig.ED _ _)]
 obtain⟨ws,hws⟩:∃ ws,ws=(OQ (u.pack 804) s).list++(OQ (u.pack 804) (6+s)).list:=⟨_,rfl⟩
 have hlt:∀ w∈ws,w<4294967296:=fun w hm=>by
  rw[hws] at hm
  rcases List.mem_append.1 hm with hm|hm
  ·exact Vi (XQ _ _) w hm
  ·exact Vi (XQ _ _) w hm
 have hlen:ws.length=16:=by rw[hws,List.length_append];rfl
 have hm:(Sig.b1 1++Sig.leaf (Bn s) 0++Sig.leaf (Bn s) 1).data.toList=1::ws.flatMap BN:=by
  rw[Sha.Bh,Sha.Bh,h0,h1,hws,List.flatMap_append]
  rfl
 have hz:(Sig.b1 1++Sig.leaf (Bn s) 0++Sig.leaf (Bn s) 1).size=65:=by
  rw[<- Sha.BJ,hm,List.length_cons,Gl,hlen]
 unfold XM
 rw[Ii,Nc,<- hws]
 refine bg _ (Nb ws) 2 ?_ ?_ ?_
 ·rw[Sha.Bh,hm,MH _ 65 hz]
  unfold Nb
  rw[List.flatMap_append,Kj ws 1 (by omega) hlt]
  simp only[List.cons_append,List.append_assoc]
  rfl
 ·unfold Nb
  rw[List.length_append,V8,hlen]
  rfl
 ·intro w hmem
  unfold Nb at hmem
  rcases List.mem_append.1 hmem with h|h
  ·exact ZH ws 1 (by omega) hlt w h
  ·simp only[List.mem_cons,List.not_mem_nil,or_false] at h
   rcases h with rfl|rfl|rfl|rfl|rfl|rfl|rfl|rfl|rfl|rfl|rfl|rfl|rfl|rfl|rfl<;>simp
end C9
namespace C9
theorem ZI (n:Nat)(f:Nat->Nat):FC f 0 n=Ae n f:=by
 rw[XL]
 congr 1
 funext i
 rw[Nat.zero_add]
def bnd (f:Nat->Nat)(i:Nat):Nat:=if i<804 then f i else 0
theorem OT:∀ (n:Nat) (f g:Nat->Nat),(∀ i,i<n->f i=g i)->Ae n f=Ae n g
 | 0,_,_,_=>rfl
 | n + 1,f,g,h => by
   have ih:=OT n (fun i=>f (i+1)) (fun i=>g (i+1)) (fun i hi=>h (i+1) (by omega))
   unfold Ae
   rw[h 0 (by omega),ih]
theorem V9 (f:Nat->Nat):FC f 0 804=Ae 804 (bnd f):=by
 rw[ZI]
 exact OT 804 _ _ (fun i hi=>by unfold bnd;rw[if_pos hi])
theorem jW {f:Nat->Nat}(h:∀ i,i<804->f i<4294967296):W (bnd f):=fun i=>by
 unfold bnd
 split
 ·exact h i (by assumption)
 ·simp
theorem VD {f:Nat->Nat}{i:Nat}(h:i<804):bnd f i=f i:=by unfold bnd;rw[if_pos h]
theorem OU (i:Nat):sJ i<256:=by unfold sJ;omega
theorem qL (i:Nat):kJ i<256:=by unfold kJ;omega
theorem qM {i:Nat}(h:i<804):cJ i<256:=by unfold cJ;omega
theorem jX:∃ u:VF,u.ok/\om (mask 804) (ones 804)=u.pack 804/\∀ i,i<804->u.at i=cmp IVN (IC (sJ i) (kJ i) (cJ i)):=by
 have w2:W (bnd fun i=>wd4 2 (sJ i) (sJ i) (sJ i)):=jW fun i _=>JK (by omega) (OU i) (OU i) (OU i)
 have ws:W (bnd fun i=>wd4 (sJ i) (sJ i) (sJ i) (sJ i)):=jW fun i _=>JK (OU i) (OU i) (OU i) (OU i)
 have w8:W (bnd fun i=>wd4 (sJ i) (kJ i) (cJ i) 128):=jW fun i h=>JK (OU i) (qL i) (qM h) (by omega)
 have w0:W fun _=>0:=fun _=>by simp
 obtain⟨u,h1,h2,h3⟩:=TU 804 VF.iv qB _ _ _ _ _ _ _ _ _ (fun _=>0) (fun _=>0) (fun _=>0) (fun _=>0) (fun _=>0) (fun _=>0) (fun _=>280) w2 ws ws ws ws ws ws ws w8 w0 w0 w0 w0 w0 w0 (fun _=>by simp)
 have e3:Ae 804 (fun _=>280)=ones 804*280:=(EF 804 280).symm
 rw[e3,NW,<- bq] at h2
 refine⟨u,h1,?_,fun i hi=>?_⟩
 ·unfold om
  rw[V9,V9,V9]
  exact h2
 ·rw[h3,VD hi,VD hi,VD hi]
  unfold cmp IC
  rfl
theorem jY:∃ u:VF,u.ok/\Oj u/\∀ k,tC k=k (u.pack 804):=by
 obtain⟨u0,h1,h2,h3⟩:=jX
 have hb:∀ i,bnd (fun i=>wd4 3 (kJ i) (cJ i) 0) i+(0+15)<4294967296:=fun i=>by
  unfold bnd
  split
  ·rename_i h
   have:=qM h
   have:=qL i
   show wd4 3 (kJ i) (cJ i) 0+(0+15)<4294967296
   unfold wd4
   omega
  ·simp
 obtain⟨u,g1,g2,g3⟩:=Zp 804 (bnd fun i=>wd4 3 (kJ i) (cJ i) 0) 15 0 u0 h1 hb
 refine⟨u,g1,fun i hi=>?_,fun k=>?_⟩
 ·rw[g3,VD hi,h3 i hi]
 ·unfold tC
  simp only[force_eq,Ut]
  rw[V9 (fun i=>wd4 3 (kJ i) (cJ i) 0),ZI 804 (fun _=>4294967295),ZI 804 (fun _=>1)]
  show k _=_
  have e:(List.range' 0 15).foldl (fun v q=>Xi (mask 804) (ones 804) (Ae 804 (bnd fun i=>wd4 3 (kJ i) (cJ i) 0)) q v) (om (mask 804) (ones 804))=u.pack 804:=by
   rw[h2]
   exact g2
  unfold mask ones at e
  rw[e]
theorem XR:∀ (l:List Nat),diffs l=true->∀ i j (hi:i<l.length) (hj:j<l.length),i<j->l[i]≠l[j]
 | [],_,i,j,hi,_,_=>by cases hi
 | x :: l,h,i,j,hi,hj,hij => by
   unfold diffs at h
   rw[Bool.and_eq_true] at h
   cases i with
   | zero =>
     cases j with
     | zero=>omega
     | succ j =>
       have hj2:j<l.length:=by simpa using hj
       have:=List.all_eq_true.1 h.1 l[j] (List.getElem_mem hj2)
       intro e
       have e:x=l[j]:=e
       rw[<- e] at this
       simp at this
   | succ i =>
     cases j with
     | zero=>omega
     | succ j=>exact XR l h.2 i j (by simpa using hi) (by simpa using hj) (by omega)
theorem fA {x y:Nat}(hx:x<4294967296)(hy:y<4294967296)(h:BN x=BN y):x=y:=by
 unfold BN at h
 simp only[List.cons.injEq,and_true] at h
 obtain⟨h1,h2,h3,h4⟩:=h
 have n8:∀ n:Nat,n<256->(n.toUInt8).toNat=n:=fun n hn=>by simp[Nat.mod_eq_of_lt hn]
 have e1:=congrArg UInt8.toNat h1;have e2:=congrArg UInt8.toNat h2;have e3:=congrArg UInt8.toNat h3;have e4:=congrArg UInt8.toNat h4
 rw[n8 _ (by omega),n8 _ (by omega)] at e1 e2 e3 e4
 omega
theorem XT (R:V)(s:Nat):Vok (XM R s):=by
 unfold XM
 rw[Ii,Nc]
 exact JJ _ _ _ Vh
theorem Ma {s t:Nat}(hs:s<6)(ht:t<6)(h:s≠t):Sig.Eo (Bn s)≠Sig.Eo (Bn t):=by
 have key:∀ s t,s<t->t<6->Sig.Eo (Bn s)≠Sig.Eo (Bn t):=by
  intro s t hst ht e
  obtain⟨u,h1,h2,h3⟩:=jY
  have hd:=ZG
  rw[h3] at hd
  have hne:=XR _ hd s t (by simp;omega) (by simp;omega) hst
  simp only[List.getElem_map,List.getElem_range] at hne
  have e2:Sig.root (Sig.leaves (Bn s) 2)=Sig.root (Sig.leaves (Bn t) 2):=by
   rw[<- Sig.LA,<- Sig.LA,e]
  have e3:=congrArg (fun x:ByteArray=>x.data.toList) e2
  rw[jV s (by omega) u h1 h2,jV t ht u h1 h2] at e3
  have e4:=congrArg (List.take 4) e3
  refine hne (fA (XT _ _).a (XT _ _).a ?_)
  have q:∀ v:V,(v.list.flatMap BN).take 4=BN v.a:=fun v=>by
   unfold V.list
   rw[List.flatMap_cons,List.take_append_of_le_length (by rw[Ei];exact Nat.le_refl _),List.take_of_length_le (by rw[Ei];exact Nat.le_refl _)]
  rwa [q,q] at e4
 rcases Nat.lt_or_ge s t with hst|hge
 ·exact key s t hst ht
 ·exact fun e=>key t s (by omega) hs e.symm
end C9
namespace Own
/-! ### chains in order -/
theorem RF {α : Type}{ok : α -> Bool}{f : α -> ByteArray} : ∀ {l:List α} {p:Option α},(∀ x∈l,ok x=true)->Srt f l->(∀ q,p=some q->∀ x∈l,Ah (f q) (f x)=true)->Aj ok (fun x y=>Ah (f x) (f y)) p l=true
 | [],_,_,_,_=>rfl
 | x :: l,p,ho,hs,hp => by
   have hs':=List.pairwise_cons.1 hs
   have ih:=RF (p:=some x) (fun y hy=>ho y (List.mem_cons_of_mem _ hy)) hs'.2 (fun q hq y hy=>by cases hq;exact hs'.1 y hy)
   unfold Aj
   rw[ho x List.mem_cons_self,ih]
   cases p with
   | none=>rfl
   | some q=>simp only[hp q rfl x List.mem_cons_self,Bool.and_self]
theorem IX:∀ {K:List KeyUse},Srt KeyUse.pub K->∀ (x:KeyUse) (p:ByteArray),Bf (use K x) p=if x.pub=p then x.next else Bf K p
 | [],_,x,p => by
   unfold use Bf
   by_cases h:x.pub=p
   ·rw[if_pos h];simp[h]
   ·rw[if_neg h];simp[h]
 | k :: K,hs,x,p => by
   have hs':=List.pairwise_cons.1 hs
   have OV:∀ (y:KeyUse) (l:List KeyUse),Bf (y::l) p=if y.pub=p then y.next else Bf l p:=fun y l=>by
    unfold Bf
    by_cases h:y.pub=p
    ·rw[if_pos h];simp[h]
    ·rw[if_neg h];simp[h]
   unfold use
   by_cases h1:Ah k.pub x.pub=true
   ·rw[if_pos h1,OV,OV,IX hs'.2 x p]
    by_cases hk:k.pub=p
    ·rw[if_pos hk,if_pos hk]
     rw[if_neg (fun hx=>by rw[hk,hx,Ev] at h1;cases h1)]
    ·rw[if_neg hk,if_neg hk]
   ·rw[if_neg h1]
    by_cases h2:k.pub=x.pub
    ·rw[if_pos h2,OV,OV]
     by_cases hx:x.pub=p
     ·rw[if_pos hx,if_pos hx]
     ·rw[if_neg hx,if_neg hx,if_neg (by rw[h2];exact hx)]
    ·rw[if_neg h2,OV]
/-! ### the space -/
structure Pz (K:List KeyUse):Prop where
 srt:Srt KeyUse.pub K
 ok:∀ k∈K,Cy k=true
theorem Pz.nil:Pz []:=⟨List.Pairwise.nil,fun k hk=>by cases hk⟩
theorem oo (b:Nat):(Av b).pub=Sig.Eo (C9.Bn b):=by unfold Av;rfl
theorem ZJ (S:ByteArray)(i:Nat)(m:ByteArray):(Sig.BM S i m).index=(i:Int):=by unfold Sig.BM;rfl
theorem jZ (b:Nat):Sig.Bw (Av b).pub=true:=by
 show Sig.Bw (Sig.Eo _)=true
 unfold Sig.Bw
 rw[Sig.Qv,Sig.I6]
 decide
theorem Pz.use {K:List KeyUse}(h:Pz K)(b:Nat)(n:Int)(h0:0<=n)(h2:n<=2):Pz (use K ⟨(Av b).pub,n⟩):=by
 rw[GL]
 refine⟨h.srt.put _,fun k hk=>?_⟩
 rcases JW _ _ _ hk with rfl|hk
 ·unfold Cy
  rw[jZ,show((Av b).pub.get! 32)=1 from Sig.I6 _]
  have e:(2:Int)^(1:UInt8).toNat=2:=by decide
  rw[e]
  simp only[Bool.true_and,Bool.and_eq_true,decide_eq_true_eq]
  exact⟨h0,h2⟩
 ·exact h.ok k hk
theorem IY {a b:Nat}(h:a<b)(hb:b<8):Ah (Av a).name (Av b).name=true:=by
 have:∀ b,b<8->∀ a,a<b->Ah (⟨#[109,(97+a%8).toUInt8]⟩:ByteArray) ⟨#[109,(97+b%8).toUInt8]⟩=true:=by decide +kernel
 exact this b hb a h
theorem oq {a b:Nat}(ha:a<8)(hb:b<8)(h:a≠b):(Av a).name≠(Av b).name:=by
 intro e
 rcases Nat.lt_or_gt_of_ne h with h|h
 ·have:=IY h hb
  rw[e,Ev] at this;cases this
 ·have:=IY h ha
  rw[e,Ev] at this;cases this
theorem Ma {a b:Nat}(ha:a<6)(hb:b<6)(h:a≠b):(Av a).pub≠(Av b).pub:=C9.Ma ha hb h
theorem Qa (b:Nat):Bq (Av b).name=true:=rfl
theorem kg (pre:List Member)(b:Nat)(h1:∀ x∈pre,x.pub≠(Av b).pub)(h2:∀ x,pre.getLast? = some x->Ah x.name (Av b).name=true):Bj pre (Av b)=true:=by
 unfold Bj
 rw[Qa,jZ]
 have e:(pre.any fun x=>decide (x.pub=(Av b).pub))=false:=List.any_eq_false.2 fun x hx=>by simpa using h1 x hx
 rw[e]
 cases hl:pre.getLast? with
 | none=>rfl
 | some x=>simp only[h2 x hl];rfl
theorem ou {n:Nat}(h1:1<=n)(h2:n<=3):Cv (Ey n)=true:=by
 have e:∀ n,n<=3->Aw [] (Ey n)=true:=by
  intro n hn
  have a0:Bj [] (Av 0)=true:=kg _ _ (fun x hx=>by cases hx) (fun x hx=>by cases hx)
  have a1:Bj [Av 0] (Av 1)=true:=kg _ _ (fun x hx=>by
   rw[List.mem_singleton.1 hx];exact Ma (by omega) (by omega) (by omega)) (fun x hx=>by cases hx;exact IY (by omega) (by omega))
  have a2:Bj [Av 0,Av 1] (Av 2)=true:=kg _ _ (fun x hx=>by
   simp only[List.mem_cons,List.not_mem_nil,or_false] at hx
   rcases hx with rfl|rfl<;>exact Ma (by omega) (by omega) (by omega)) (fun x hx=>by cases hx;exact IY (by omega) (by omega))
  match n,hn with
  | 0,_=>rfl
  | 1,_=>show(Bj [] (Av 0)&&true)=true;rw[a0];rfl
  | 2,_=>show(Bj [] (Av 0)&&(Bj [Av 0] (Av 1)&&true))=true;rw[a0,a1];rfl
  | 3,_=>show(Bj [] (Av 0)&&(Bj [Av 0] (Av 1)&&(Bj [Av 0,Av 1] (Av 2)&&true)))=true;rw[a0,a1,a2];rfl
 unfold Cv
 rw[IW,e n h2]
 simp only[Bool.and_true,Bool.and_eq_true,decide_eq_true_eq]
 omega
theorem RG {n:Nat}{th:Int}(h1:1<=n)(h2:n<=3)(h3:1<=th)(h4:th<=n):AO (Ce n th)=true:=by
 unfold AO Ce
 dsimp only
 rw[ou h1 h2,IW,show Bp ⟨#[97]⟩=true by decide]
 simp only[Bool.true_and,Bool.and_eq_true,decide_eq_true_eq]
 exact⟨h3,h4⟩
def Fa (s:Space)(K:List KeyUse):Ak:=⟨0,[s],K⟩
theorem RH {s:Space}{K:List KeyUse}(hs:AO s=true)(hK:Pz K):AQ (Fa s K)=true:=by
 unfold AQ Fa
 have e1:Aj AO (fun x y=>Ah x.pre y.pre) none [s]=true:=by simp[Aj,hs]
 have e2:Aj Cy (fun x y=>Ah x.pub y.pub) none K=true:=RF hK.ok hK.srt (fun q hq=>by cases hq)
 dsimp only
 rw[e1,e2]
 rfl
theorem ko {s:Space}{K:List KeyUse}(hs:AO s=true)(hp:s.pre=⟨#[97]⟩)(hK:Pz K){p:ByteArray}(h1:Bp p=true)(h2:belongs p ⟨#[97]⟩=true):authority (Fa s K) p=some s:=by
 unfold authority
 rw[RH hs hK,h1]
 show ET p none [s]=some s
 unfold ET
 rw[hp,h2]
 rfl
theorem tF {n b:Nat}(hb:b<n)(hn:n<=8):find (Ey n) (Av b).name=some (Av b):=by
 unfold find
 rw[List.find?_eq_some_iff_append]
 refine⟨by simp,(List.range b).map Av,((List.range' (b+1) (n-b-1)).map Av),?_,fun x hx=>?_⟩
 ·unfold Ey
  rw[<- List.map_cons,<- List.map_append]
  congr 1
  rw[List.range_eq_range',List.range_eq_range']
  have e:n=b+(n-b):=by omega
  conv=>lhs;rw[e,<- List.range'_append_1]
  congr 1
  have e2:n-b=(n-b-1)+1:=by omega
  rw[e2,List.range'_succ]
  simp
 ·obtain⟨c,hc,rfl⟩:=List.mem_map.1 hx
  have:=List.mem_range.1 hc
  simpa using oq (by omega) (by omega) (by omega:c≠b)
/-! ### a queue of one proposal -/
theorem FW {nx:Int}{p:Aa}(h0:0<=nx)(h1:nx<=1099511627776)(hp:Bg p=true)(h:p.id<nx):AY ⟨nx,[p]⟩=true:=by
 unfold AY late
 dsimp only
 have e:Aj (fun p=>Bg p&&decide (p.id<nx)) (fun x y=>decide (x.id<y.id)) none [p]=true:=by simp[Aj,hp,h]
 rw[e]
 simp only[Bool.and_true,Bool.and_eq_true,decide_eq_true_eq]
 exact⟨⟨h0,h1⟩,by show 1<=64;omega⟩
structure Ol (V:List Vote):Prop where
 srt:Srt Vote.name V
 ok:∀ v∈V,Bq v.name=true
 len:V.length<=1000
theorem Ol.nil:Ol []:=⟨List.Pairwise.nil,(fun v hv=>by cases hv),by simp⟩
theorem Nf {α : Type}(f : α -> ByteArray)(x : α):∀ l:List α,(DY f x l).length<=l.length+1
 | []=>Nat.le_refl _
 | y :: l => by
   unfold DY
   split
   ·have:=Nf f x l
    simp only[List.length_cons];omega
   ·split<;>simp
theorem Ol.put {V:List Vote}(h:Ol V)(hl:V.length<1000)(x:Vote)(hx:Bq x.name=true):Ol (BI V x):=by
 rw[CW]
 refine⟨h.srt.put _,fun v hv=>?_,by have:=Nf Vote.name x V;omega⟩
 rcases JW _ _ _ hv with rfl|hv
 ·exact hx
 ·exact h.ok v hv
structure IZ (p:Aa):Prop where
 id0:0<=p.id
 id1:p.id<1099511627776
 path:Bp p.path=true
 bel:belongs p.path ⟨#[97]⟩=true
 dig:Sig.digest p.digest=true
 op:0<=p.opened/\p.opened<=late/\p.opened<p.expires/\p.expires<=p.opened+256
def AL (p:Aa)(V:List Vote):Aa :={ p with Al:=V }
theorem KD {p:Aa}(h:IZ p){V:List Vote}(hV:Ol V):Bg (AL p V)=true:=by
 unfold Bg AL
 have e:Aj (fun v=>Bq v.name) (fun x y=>Ah x.name y.name) none V=true:=RF (f:=Vote.name) hV.ok hV.srt (fun q hq=>by cases hq)
 dsimp only
 rw[e,h.path,h.dig]
 have:=h.op
 have:=h.id0
 have:=hV.len
 simp only[Bool.and_true,Bool.true_and,Bool.and_eq_true,decide_eq_true_eq]
 omega
theorem fB (p:Aa)(V:List Vote)(ag:Bool):AX (AL p V) ag=AX p ag:=rfl
def Cq (b:Nat)(i:Nat)(p:Aa)(ag:Bool):AZ:=⟨(Av b).name,Sig.BM (C9.Bn b) i (AX p ag)⟩
theorem ZK {n b i:Nat}{th nx:Int}{K:List KeyUse}{p:Aa}{V:List Vote}{ag:Bool}(h1:n<=3)(h3:1<=th)(h4:th<=n)(hK:Pz K)(hp:IZ p)(hV:Ol V)(hVl:V.length<1000)(hnx:p.id<nx)(hnx2:nx<=1099511627776)(hb:b<n)(hi:i<2)(hu:Bf K (Av b).pub<=i):
 Gm ⟨nx,[AL p V]⟩ (Fa (Ce n th) K) p.id ag (Cq b i p ag)=(⟨nx,[AL p (BI V ⟨(Av b).name,(Av b).pub,ag⟩)]⟩,Fa (Ce n th) (use K ⟨(Av b).pub,(i:Int)+1⟩),0):=by
 have hn1:1<=n:=by omega
 have hsp:=RG hn1 h1 h3 h4
 have hq:AY ⟨nx,[AL p V]⟩=true:=FW (by have:=hp.id0;omega) hnx2 (KD hp hV) hnx
 have hf:Ej [AL p V] p.id=some (AL p V):=by simp[Ej,AL]
 have hpl:=Nf Vote.name ⟨(Av b).name,(Av b).pub,ag⟩ V
 unfold Gm
 rw[hq,RH hsp hK]
 dsimp only
 rw[if_neg (by decide),hf]
 dsimp only
 rw[ko hsp rfl hK (show Bp (AL p V).path=true from hp.path) hp.bel]
 have hv:Sig.verify (Av b).pub (AX p ag) (Sig.BM (C9.Bn b) i (AX p ag))=true:=by rw[oo];exact Sig.WC (C9.Bn b) i hi (AX p ag)
 have hx:=ZJ (C9.Bn b) i (AX p ag)
 unfold Cq
 generalize Sig.BM (C9.Bn b) i (AX p ag)=sg at*
 have hfm:find (Ce n th).members (Av b).name=some (Av b):=tF hb (by omega)
 dsimp only
 rw[hfm]
 dsimp only
 rw[fB,hv,if_neg (fun h=>by cases h),hx,if_neg (show ¬ (i:Int)<Bf (Fa (Ce n th) K).keys (Av b).pub from Int.not_lt.2 hu)]
 rw[if_neg (show ¬ 1024<(BI (AL p V).Al ⟨(Av b).name,(Av b).pub,ag⟩).length by rw[CW];show ¬ 1024<(DY Vote.name ⟨(Av b).name,(Av b).pub,ag⟩ V).length;omega)]
 have e:MK [AL p V] { AL p V with Al:=BI (AL p V).Al ⟨(Av b).name,(Av b).pub,ag⟩ } = [AL p (BI V ⟨(Av b).name,(Av b).pub,ag⟩)]:=by
  simp[MK,AL]
 rw[e]
 rfl
/-! ### What is agreed -/
theorem ZL {s:Space}{nx:Int}{K:List KeyUse}{p:Aa}{V:List Vote}(hs:AO s=true)(hpre:s.pre=⟨#[97]⟩)(hK:Pz K)(hp:IZ p)(hV:Ol V)(hnx:p.id<nx)(hnx2:nx<=1099511627776):
 agreed ⟨nx,[AL p V]⟩ (Fa s K) p.id=((V.filter (counts s)).all (·.agrees)&&decide (s.threshold<=((V.filter (counts s)).length:Int))):=by
 have hq:AY ⟨nx,[AL p V]⟩=true:=FW (by have:=hp.id0;omega) hnx2 (KD hp hV) hnx
 have hf:Ej [AL p V] p.id=some (AL p V):=by simp[Ej,AL]
 unfold agreed
 rw[hq,RH hs hK]
 dsimp only
 rw[hf]
 show(true&&DK (AL p V) (Fa s K))=_
 unfold DK
 rw[ko hs hpre hK (show Bp (AL p V).path=true from hp.path) hp.bel]
 rfl
def OW (n:Nat)(V:List Vote):Prop:=∀ v∈V,∃ b,b<n/\v.name=(Av b).name/\v.pub=(Av b).pub
theorem OW.nil (n:Nat):OW n []:=fun v hv=>by cases hv
theorem OW.put {n:Nat}{V:List Vote}(h:OW n V){b:Nat}(hb:b<n)(ag:Bool):OW n (BI V ⟨(Av b).name,(Av b).pub,ag⟩):=fun v hv=>by
 rw[CW] at hv
 rcases JW _ _ _ hv with rfl|hv
 ·exact⟨b,hb,rfl,rfl⟩
 ·exact h v hv
theorem ZM {n:Nat}{th:Int}{v:Vote}(h:∃ b,b<n/\v.name=(Av b).name/\v.pub=(Av b).pub):counts (Ce n th) v=true:=by
 obtain⟨b,hb,h1,h2⟩:=h
 unfold counts Ce Ey
 rw[List.any_eq_true]
 exact⟨Av b,List.mem_map.2 ⟨b,List.mem_range.2 hb,rfl⟩,by simp[h1,h2]⟩
theorem Ng {n:Nat}{th nx:Int}{K:List KeyUse}{p:Aa}{V:List Vote}(h1:n<=3)(h3:1<=th)(h4:th<=n)(hK:Pz K)(hp:IZ p)(hV:Ol V)(hM:OW n V)(hnx:p.id<nx)(hnx2:nx<=1099511627776):
 agreed ⟨nx,[AL p V]⟩ (Fa (Ce n th) K) p.id=(V.all (·.agrees)&&decide (th<=(V.length:Int))):=by
 rw[ZL (RG (by omega) h1 h3 h4) rfl hK hp hV hnx hnx2]
 have e:V.filter (counts (Ce n th))=V:=List.filter_eq_self.2 fun v hv=>ZM (hM v hv)
 rw[e]
 rfl
theorem Uv {n:Nat}{th nx size:Int}{K:List KeyUse}{p:Aa}{V:List Vote}(h1:n<=3)(h3:1<=th)(h4:th<=n)(hK:Pz K)(hp:IZ p)(hV:Ol V)(hM:OW n V)(hnx:p.id<nx)(hnx2:nx<=1099511627776):
 merge ⟨nx,[AL p V]⟩ (Fa (Ce n th) K) size p.id=if p.expires<=size then (.none,.none,8) else if (V.all (·.agrees)&&decide (th<=(V.length:Int)))=false then (.none,.none,20) else (⟨nx,[]⟩,AL p V,0):=by
 have hsp:=RG (show 1<=n by omega) h1 h3 h4
 have hq:AY ⟨nx,[AL p V]⟩=true:=FW (by have:=hp.id0;omega) hnx2 (KD hp hV) hnx
 have hf:Ej [AL p V] p.id=some (AL p V):=by simp[Ej,AL]
 have ha:=Ng h1 h3 h4 hK hp hV hM hnx hnx2
 unfold agreed at ha
 rw[hq,RH hsp hK] at ha
 dsimp only at ha
 rw[hf] at ha
 have ha' : DK (AL p V) (Fa (Ce n th) K)=(V.all (·.agrees)&&decide (th<=(V.length:Int))):=ha
 unfold merge
 rw[hq,RH hsp hK]
 dsimp only
 rw[if_neg (by decide),hf]
 dsimp only
 rw[ha']
 have e:without ⟨nx,[AL p V]⟩ p.id=⟨nx,[]⟩:=by simp[without,AL]
 rw[e]
 rfl
theorem ZN {nx:Int}{p:Aa}{V:List Vote}(hp:IZ p)(hV:Ol V)(hnx:p.id<nx)(hnx2:nx<=1099511627776):Gn ⟨nx,[AL p V]⟩ p.id=(⟨nx,[]⟩,0):=by
 have hq:AY ⟨nx,[AL p V]⟩=true:=FW (by have:=hp.id0;omega) hnx2 (KD hp hV) hnx
 have hf:Ej [AL p V] p.id=some (AL p V):=by simp[Ej,AL]
 have e:without ⟨nx,[AL p V]⟩ p.id=⟨nx,[]⟩:=by simp[without,AL]
 unfold Gn
 rw[hq]
 dsimp only
 rw[hf,e]
 rfl
theorem kr {nx size:Int}{p:Aa}{V:List Vote}(hp:IZ p)(hV:Ol V)(hnx:p.id<nx)(hnx2:nx<=1099511627776)(he:p.expires<=size):expire ⟨nx,[AL p V]⟩ size=⟨nx,[]⟩:=by
 have hq:AY ⟨nx,[AL p V]⟩=true:=FW (by have:=hp.id0;omega) hnx2 (KD hp hV) hnx
 unfold expire
 rw[hq,if_neg (by decide)]
 have:decide (size<(AL p V).expires)=false:=decide_eq_false (by show ¬ size<p.expires;omega)
 simp[List.filter_cons,this]
def He (id:Int)(path dg:ByteArray)(size window:Int):Aa:=⟨id,path,dg,size,size+window,[]⟩
theorem fC {id size window:Int}{path dg:ByteArray}(h0:0<=id)(h1:id<1099511627776)(hp:Bp path=true)(hb:belongs path ⟨#[97]⟩=true)(hd:Sig.digest dg=true)(hs:0<=size/\size<=late)(hw:1<=window/\window<=256):IZ (He id path dg size window):=
 ⟨h0,h1,hp,hb,hd,hs.1,hs.2,by show size<size+window;omega,by show size+window<=size+256;omega⟩
theorem OX (b:Nat):Sig.digest (C9.Bn b)=true:=decide_eq_true (IG b)
theorem VE {nx size window:Int}{path dg:ByteArray}(h0:0<=nx)(h1:nx<1099511627776)(hp:Bp path=true)(hd:Sig.digest dg=true)(hs:0<=size/\size<=late)(hw:1<=window/\window<=256):
 JM ⟨nx,[]⟩ size window path dg=(⟨nx+1,[He nx path dg size window]⟩,nx,0):=by
 have hq:AY ⟨nx,[]⟩=true:=by
  unfold AY late
  simp only[Aj,List.length_nil,Bool.and_true,Bool.and_eq_true,decide_eq_true_eq]
  omega
 unfold JM
 rw[hq,hp,hd,if_neg (by decide),if_neg (by have:=hs;have:=hw;omega),if_neg (by decide),if_neg (by decide),if_neg (by simp),if_neg (by simp[late];omega)]
 rfl
end Own
end
section
open Go Go.RowKit Go.Maps
namespace Own
theorem Idx.find {α : Type}{p : α -> Bool}{l:List α}{i:Int}(h:Idx p l i):(i<0/\l.find? p=none)\/∃ j:Nat,∃ hj:j<l.length,i=(j:Int)/\l.find? p=some l[j]:=by
 rcases h with ⟨rfl,h1,_⟩|⟨j,hj,rfl,h1,h2,h3⟩
 ·exact .inl ⟨by omega,h1⟩
 ·exact .inr ⟨j,hj,rfl,h1⟩
end Own
theorem RI (q:Own.Queue)(id:Int)(pv:Value)(w:World)(hM:Fe w)(hP:Own.A9 w pv q.props)(hls:q.props.length<=1000000)(hlm:∀ p∈q.props,p.Al.length<=3000000):
 Calls Tryz.prog 14 #[.agg #[.int .i64 q.next,pv],.int .i64 id] w fun e w' => (∃ qv,e=.returned (.tuple #[qv,.int .i64 (Own.Gn q id).2])/\Own.sW w (Own.Gn q id).1 qv w')/\Below w.heap.size w w':=by
 obtain⟨R,hR⟩:∃ R,R=Own.Gn q id:=⟨_,rfl⟩
 rw[<- hR]
 unfold Own.Gn at hR
 obtain⟨a,c,rfl⟩:=hP.len
 obtain⟨nx,L⟩:=q
 dsimp only at*
 have hb1:Below w.heap.size w (((w.alloc (.cells #[.int .i64 nx,.slice a L.length c] 24)).alloc (.cells #[.int .i64 id] 3)).alloc (.cells #[.int .i64 0,.slice none 0 0] 24)):=(zb.alloc (by simp) _).alloc (by simp;omega) _
 have a0:=((At.new w 24 #[.int .i64 nx,.slice a L.length c]).alloc (.cells #[.int .i64 id] 3)).alloc (.cells #[.int .i64 0,.slice none 0 0] 24)
 have a1:=(At.new1 w (.cells #[.int .i64 nx,.slice a L.length c] 24) 3 #[.int .i64 id]).alloc (.cells #[.int .i64 0,.slice none 0 0] 24)
 have a2:At (((w.alloc (.cells #[.int .i64 nx,.slice a L.length c] 24)).alloc (.cells #[.int .i64 id] 3)).alloc (.cells #[.int .i64 0,.slice none 0 0] 24)) (w.heap.size+1+1) 24 #[.int .i64 0,.slice none 0 0]:=by
  have:=At.new1 (w.alloc (.cells #[.int .i64 nx,.slice a L.length c] 24)) (.cells #[.int .i64 id] 3) 24 #[.int .i64 0,.slice none 0 0]
  rwa [World.size_alloc] at this
 have hz1:w.heap.size+3<=(((w.alloc (.cells #[.int .i64 nx,.slice a L.length c] 24)).alloc (.cells #[.int .i64 id] 3)).alloc (.cells #[.int .i64 0,.slice none 0 0] 24)).heap.size:=by simp
 obtain⟨c0,c1⟩:=a0.c2
 have hval:=D9 ⟨nx,L⟩ (.slice a L.length c) _ (hM.below hb1) (hP.below hb1) (by show L.length<=_;omega) (fun p hp=>by have:=hlm p hp;omega)
 have HV:=zh hval;have HP:=zh (hP.below hb1);have HB:=zh hb1;have HA0:=zh a0;have HA1:=zh a1;have HA2:=zh a2;have HLM:=zh hlm;have HR:=zh hR
 clear hval hP hM hb1 a0 a1 a2 hlm hR
 go_enter Tryz.func14,Tryz.ntmps14
 go_wp2_with fail
 generalize ((w.alloc (.cells #[.int .i64 nx,.slice a L.length c] 24)).alloc (.cells #[.int .i64 id] 3)).alloc (.cells #[.int .i64 0,.slice none 0 0] 24)=w1 at*
 refine HV.out.mono ?_
 rintro e w2 ⟨rfl,hb2⟩
 have a0:=HA0.out.below hb2 (by omega);have a1:=HA1.out.below hb2 (by omega);have a2:=HA2.out.below hb2 (by omega)
 have x0:=a0.cell 0;have x1:=a0.cell 1
 have r0:=a2.cell 0;have r1:=a2.cell 1;have r2:=a2.free 0;have r3:=a2.free 1
 have z0:=a1.cell 0
 simp only[zg] at x0 x1 r0 r1 z0
 have hP2:=HP.out.below hb2
 have hB2:=HB.out.trans (hb2.mono HB.out.size)
 have hs2:w.heap.size+3<=w2.heap.size:=Nat.le_trans hz1 hb2.size
 have xS:=zh a0;have xU:=zh a1;have fq:=zh a2;have HB2:=zh hB2
 have hfd:=IL nx id _ L w2 hP2 (by omega)
 have HFD:=zh hfd;have HP2:=zh hP2
 clear hP2 hB2 hb2 a0 a1 a2 c0 c1 hfd HV HP HB HA0 HA1 HA2
 cases hq:Own.AY ⟨nx,L⟩ with
 | false =>
   have e:R=(Own.Queue.none,1):=by rw[HR.out,hq];rfl
   have HE:=zh e;clear e
   go_wp2_with fail
   have F2:=(fq.out.set 0 (.int .i64 0)).set 1 (.slice none 0 0)
   refine Bu rfl rfl rfl (Ab F2 Tryz.underlying24 rfl Ao) ⟨⟨.agg #[.int .i64 0,.slice none 0 0],?_,?_⟩,?_⟩
   ·rw[HE.out];rfl
   ·rw[HE.out];exact⟨_,rfl,Own.Cc.nil _ _⟩
   ·exact(HB2.out.setCell (p:=⟨w.heap.size+1+1,0,none⟩) (by show w.heap.size<=w.heap.size+1+1;omega) _).setCell (p:=⟨w.heap.size+1+1,1,none⟩) (by show w.heap.size<=w.heap.size+1+1;omega) _
 | true =>
   have e:R=if (Own.Ej L id).isNone=true then (Own.Queue.none,6) else (Own.without ⟨nx,L⟩ id,0):=by rw[HR.out,hq];rfl
   have HE:=zh e;clear e
   clear r0 r1 r2 r3
   go_wp2_with fail
   refine HFD.out.mono ?_
   rintro e w3 ⟨⟨i,rfl,hi⟩,hb3⟩
   have a0:=xS.out.below hb3 (by omega);have a1:=xU.out.below hb3 (by omega);have a2:=fq.out.below hb3 (by omega)
   have y0:=a0.cell 0;have y1:=a0.cell 1
   have r0:=a2.cell 0;have r1:=a2.cell 1;have r2:=a2.free 0;have r3:=a2.free 1
   have u0:=a1.cell 0
   simp only[zg] at y0 y1 r0 r1 u0
   have hkp:=IU 48 #[.pointer (some ⟨w.heap.size+1,0,none⟩)] (by intros;rfl) (fun p:Own.Aa => !decide (p.id=id)) nx _ L w3 (HP2.out.below hb3) hls HLM.out (fun W x u hb=>Px x u _ id W ((hb.cell (p:=⟨w.heap.size+1,0,none⟩) a1.lt).trans u0))
   have HKP:=zh hkp;have xW:=zh a2;have HB3:=zh (HB2.out.trans (hb3.mono HB2.out.size))
   have hs3:=Nat.le_trans hs2 hb3.size
   have hfi:(i<0/\Own.Ej L id=none)\/∃ j:Nat,∃ hj:j<L.length,i=(j:Int)/\Own.Ej L id=some L[j]:=hi.find
   clear hkp a0 a1 a2 hb3 hi fq xU xS HB2 x0 x1 z0 u0
   rcases hfi with ⟨hi,hn⟩|⟨j,hj,rfl,hn⟩
   ·have di:decide (i<0)=true:=decide_eq_true hi
    have e:R=(Own.Queue.none,6):=by rw[HE.out,hn];rfl
    have HE2:=zh e;clear e
    go_wp2_with fail
    have F2:=(xW.out.set 0 (.int .i64 0)).set 1 (.slice none 0 0)
    refine Bu rfl rfl rfl (Ab F2 Tryz.underlying24 rfl Ao) ⟨⟨.agg #[.int .i64 0,.slice none 0 0],?_,?_⟩,?_⟩
    ·rw[HE2.out];rfl
    ·rw[HE2.out];exact⟨_,rfl,Own.Cc.nil _ _⟩
    ·exact(HB3.out.setCell (p:=⟨w.heap.size+1+1,0,none⟩) (by show w.heap.size<=w.heap.size+1+1;omega) _).setCell (p:=⟨w.heap.size+1+1,1,none⟩) (by show w.heap.size<=w.heap.size+1+1;omega) _
   ·have di:decide ((j:Int)<0)=false:=zf
    have e:R=(⟨nx,L.filter fun p => !decide (p.id=id)⟩,0):=by rw[HE.out,hn];rfl
    have HE2:=zh e;clear e
    clear r0 r1 r2 r3
    go_wp2_with fail
    refine HKP.out.mono ?_
    rintro e w4 ⟨⟨v',rfl,hpo⟩,hb4⟩
    obtain⟨va,vc,rfl⟩:=hpo.one
    obtain⟨M,hM⟩:∃ M,M=(L.filter fun p => !decide (p.id=id)).length:=⟨_,rfl⟩
    rw[<- hM] at hpo ⊢
    have a3:=xW.out.below hb4 (by omega)
    have r0:=a3.cell 0;have r1:=a3.cell 1;have r2:=a3.free 0;have r3:=a3.free 1
    simp only[zg] at r0 r1
    have HA3:=zh a3;have HPO:=zh hpo;have HB4:=zh (HB3.out.trans (hb4.mono HB3.out.size))
    clear a3 hpo hb4 hM
    go_wp2_with fail
    have F2:=(HA3.out.set 0 (.int .i64 nx)).set 1 (.slice va M vc)
    refine Bu rfl rfl rfl (Ab F2 Tryz.underlying24 rfl Ao) ⟨⟨.agg #[.int .i64 nx,.slice va M vc],?_,?_⟩,?_⟩
    ·rw[HE2.out];rfl
    ·rw[HE2.out]
     refine⟨_,rfl,Own.Cc.base (B:=w3.heap.size+3) (HPO.out.keep (by simp[World.setCell]) (fun k hk _=>?_)) (by omega)⟩
     have hk1:k≠w.heap.size+1+1:=by omega
     rw[zo hk1,zo hk1]
    ·exact(HB4.out.setCell (p:=⟨w.heap.size+1+1,0,none⟩) (by show w.heap.size<=w.heap.size+1+1;omega) _).setCell (p:=⟨w.heap.size+1+1,1,none⟩) (by show w.heap.size<=w.heap.size+1+1;omega) _
theorem Hf (p:Own.Aa)(ag:Bool)(v:Value)(w:World)(h0:0<=p.id)(h1:p.id<9223372036854775808)(h2:p.path.size<=1000000)(h3:p.digest.size<=1000000):
 Calls Tryz.prog 23 #[.agg #[.int .i64 p.id,.string p.path,.string p.digest,.int .i64 p.opened,.int .i64 p.expires,v],.bool ag] w fun e w' => e=.returned (.string (Own.AX p ag))/\Below w.heap.size w w':=by
 obtain⟨R,hR⟩:∃ R,R=Own.AX p ag:=⟨_,rfl⟩
 rw[<- hR]
 unfold Own.AX at hR
 obtain⟨id,pa,di,op,ex,vs⟩:=p
 dsimp only at*
 obtain⟨n,rfl⟩:∃ n:Nat,id=(n:Int):=⟨id.toNat,by omega⟩
 rw[Int.toNat_natCast] at hR
 have a0:=At.new w 46 #[.int .i64 (n:Int),.string pa,.string di,.int .i64 op,.int .i64 ex,v]
 have hb1:Below w.heap.size w (w.alloc (.cells #[.int .i64 (n:Int),.string pa,.string di,.int .i64 op,.int .i64 ex,v] 46)):=zb
 have c0:=a0.cell 0;have c1:=a0.cell 1
 simp only[zg] at c0 c1
 have HA:=zh a0;have HB:=zh hb1;have HR:=zh hR
 have H1:=zh h1;have H2:=zh h2;have H3:=zh h3
 clear hR a0 hb1 h0 h1 h2 h3
 go_enter Tryz.func23,Tryz.ntmps23
 cases ag with
 | true =>
   go_upto_region 4 with fail
   obtain⟨T,hT⟩:∃ T:ByteArray,T=⟨#[13]⟩:=⟨_,rfl⟩
   rw[<- hT]
   have zT:T.size=1:=by rw[hT];rfl
   have HT:=zh hT;clear hT
   generalize w.alloc (.cells #[.int .i64 (n:Int),.string pa,.string di,.int .i64 op,.int .i64 ex,v] 46)=w1 at*
   go_wp2_with fail
   refine(NC n w1 (by have:=H1.out;omega)).mono ?_
   rintro e w2 ⟨rfl,hb2⟩
   have a2:=HA.out.below hb2 HA.out.lt
   have q1:=a2.cell 1;have q2:=a2.cell 2
   simp only[zg] at q1 q2
   have HA2:=zh a2;have HB2:=zh (HB.out.trans (hb2.mono HB.out.size))
   clear a2 hb2 c0 c1
   obtain⟨U,hU⟩:∃ U,U=Cod.uns n:=⟨_,rfl⟩
   rw[<- hU]
   have zU:U.size<=10:=by rw[hU];exact Cod.BS n
   have HU:=zh hU;clear hU
   go_wp2_with fail
   refine Lex.zn (fun j=>j=w.heap.size) [8] 10 [6,4] ?_
   simp only[Lex.AA,zd]
   go_wp2_with fail
   refine(Ku pa _ (by have:=H2.out;omega)).mono ?_
   rintro e w3 ⟨rfl,hb3⟩
   have Jw : Below w2.heap.size w2 w3:=(Below.refl w2.heap.size w2).drew.trans hb3
   have a3:=HA2.out.below Jw HA2.out.lt
   have p2:=a3.cell 2
   simp only[zg] at p2
   have HB3:=zh Jw;have HA3:=zh a3
   clear hb3 Jw a3
   obtain⟨TP,hTP⟩:∃ x,x=Cod.text pa:=⟨_,rfl⟩
   rw[<- hTP]
   have zP:TP.size<=1000010:=by rw[hTP];show(Cod.uns pa.size++pa).size<=_;rw[ByteArray.size_append];have:=Cod.BS pa.size;have:=H2.out;omega
   have HTP:=zh hTP;clear hTP
   go_wp2_with fail
   refine Lex.Mid.intro (fun j hj _=>by rw[hj];exact HB3.out.block _ HA2.out.lt) ?_
   go_wp2_with fail
   refine(Ku di _ (by have:=H3.out;omega)).mono ?_
   rintro e w4 ⟨rfl,hb4⟩
   have kC : Below w2.heap.size w2 w4:=HB3.out.trans (hb4.mono HB3.out.size)
   have HB4:=zh kC
   clear hb4 kC
   obtain⟨TD,hTD⟩:∃ x,x=Cod.text di:=⟨_,rfl⟩
   rw[<- hTD]
   have zD:TD.size<=1000010:=by rw[hTD];show(Cod.uns di.size++di).size<=_;rw[ByteArray.size_append];have:=Cod.BS di.size;have:=H3.out;omega
   have HTD:=zh hTD;clear hTD
   go_wp2_with fail
   refine Lex.Mid.intro (fun j hj _=>by rw[hj];exact HB4.out.block _ HA2.out.lt) ?_
   go_wp2_with fail
   refine Lex.zk ⟨⟨rfl,zi q2⟩,trivial⟩ ?_
   go_wp2_with fail
   go_ret
   refine⟨?_,HB2.out.trans (HB4.out.mono HB2.out.size)⟩
   rw[HR.out,HT.out,HU.out,HTP.out,HTD.out]
   rfl
 | false =>
   go_upto_region 4 with fail
   obtain⟨T,hT⟩:∃ T:ByteArray,T=⟨#[14]⟩:=⟨_,rfl⟩
   rw[<- hT]
   have zT:T.size=1:=by rw[hT];rfl
   have HT:=zh hT;clear hT
   generalize w.alloc (.cells #[.int .i64 (n:Int),.string pa,.string di,.int .i64 op,.int .i64 ex,v] 46)=w1 at*
   go_wp2_with fail
   refine(NC n w1 (by have:=H1.out;omega)).mono ?_
   rintro e w2 ⟨rfl,hb2⟩
   have a2:=HA.out.below hb2 HA.out.lt
   have q1:=a2.cell 1;have q2:=a2.cell 2
   simp only[zg] at q1 q2
   have HA2:=zh a2;have HB2:=zh (HB.out.trans (hb2.mono HB.out.size))
   clear a2 hb2 c0 c1
   obtain⟨U,hU⟩:∃ U,U=Cod.uns n:=⟨_,rfl⟩
   rw[<- hU]
   have zU:U.size<=10:=by rw[hU];exact Cod.BS n
   have HU:=zh hU;clear hU
   go_wp2_with fail
   refine Lex.zn (fun j=>j=w.heap.size) [8] 10 [6,4] ?_
   simp only[Lex.AA,zd]
   go_wp2_with fail
   refine(Ku pa _ (by have:=H2.out;omega)).mono ?_
   rintro e w3 ⟨rfl,hb3⟩
   have Jw : Below w2.heap.size w2 w3:=(Below.refl w2.heap.size w2).drew.trans hb3
   have a3:=HA2.out.below Jw HA2.out.lt
   have p2:=a3.cell 2
   simp only[zg] at p2
   have HB3:=zh Jw;have HA3:=zh a3
   clear hb3 Jw a3
   obtain⟨TP,hTP⟩:∃ x,x=Cod.text pa:=⟨_,rfl⟩
   rw[<- hTP]
   have zP:TP.size<=1000010:=by rw[hTP];show(Cod.uns pa.size++pa).size<=_;rw[ByteArray.size_append];have:=Cod.BS pa.size;have:=H2.out;omega
   have HTP:=zh hTP;clear hTP
   go_wp2_with fail
   refine Lex.Mid.intro (fun j hj _=>by rw[hj];exact HB3.out.block _ HA2.out.lt) ?_
   go_wp2_with fail
   refine(Ku di _ (by have:=H3.out;omega)).mono ?_
   rintro e w4 ⟨rfl,hb4⟩
   have kC : Below w2.heap.size w2 w4:=HB3.out.trans (hb4.mono HB3.out.size)
   have HB4:=zh kC
   clear hb4 kC
   obtain⟨TD,hTD⟩:∃ x,x=Cod.text di:=⟨_,rfl⟩
   rw[<- hTD]
   have zD:TD.size<=1000010:=by rw[hTD];show(Cod.uns di.size++di).size<=_;rw[ByteArray.size_append];have:=Cod.BS di.size;have:=H3.out;omega
   have HTD:=zh hTD;clear hTD
   go_wp2_with fail
   refine Lex.Mid.intro (fun j hj _=>by rw[hj];exact HB4.out.block _ HA2.out.lt) ?_
   go_wp2_with fail
   refine Lex.zk ⟨⟨rfl,zi q2⟩,trivial⟩ ?_
   go_wp2_with fail
   go_ret
   refine⟨?_,HB2.out.trans (HB4.out.mono HB2.out.size)⟩
   rw[HR.out,HT.out,HU.out,HTP.out,HTD.out]
   rfl
end
end Go.Proofs.YtnijhlphcjjpbaaGreatDoor
