/- The program's Decode: an operation out of bytes. -/
import Derived.Test.YtjlmglgmcekmhaaGreatDoorShkB11
set_option linter.unusedVariables false
set_option linter.unusedSimpArgs false
set_option maxRecDepth 100000
set_option maxHeartbeats 16000000
namespace Go.Proofs.YtjlmglgmcekmhaaGreatDoor
section
open Go Go.RowKit Go.Maps
theorem FK : (Tryz.prog.info? 29).map (·.size)=some 7:=by kernel_rfl
structure OpI (w:World) (g:Nat) (s:ByteArray) (r:RS) (cs:Array Value) (wr:World):Prop where
 at0:At wr w.heap.size 29 #[.int .i64 0,.string ⟨#[]⟩,.slice none 0 0,.int .i64 0,.string ⟨#[]⟩,.string ⟨#[]⟩,.slice none 0 0]
 rd:At wr (w.heap.size+1) 157 (rdV s r.a r.e)
 op:At wr g 29 cs
 bel:Below w.heap.size w wr
 g2:w.heap.size+2<=g
theorem OpI.step {w wr wr' : World}{g:Nat}{s:ByteArray}{r r' : RS}{cs:Array Value}(h:OpI w g s r cs wr)(hs:Az (w.heap.size+1) wr wr' (rdV s r'.a r'.e)):OpI w g s r' cs wr' :=
 ⟨hs.fr.at h.at0 (by simp),hs.at_,hs.fr.at h.op (by have:=h.g2;intro e;have e2:g=w.heap.size+1:=e;omega),h.bel.trans (hs.fr.below h.bel.size (fun k hk=>by omega)),h.g2⟩
theorem OpI.under {w wr wr' : World}{g:Nat}{s:ByteArray}{r:RS}{cs:Array Value}(h:OpI w g s r cs wr)(hb:Below wr.heap.size wr wr'):OpI w g s r cs wr' :=
 ⟨h.at0.below hb h.at0.lt,h.rd.below hb h.rd.lt,h.op.below hb h.op.lt,h.bel.trans (hb.mono h.bel.size),h.g2⟩
theorem OpI.grown {w wr wr' : World}{g:Nat}{s:ByteArray}{r:RS}{cs:Array Value}(h:OpI w g s r cs wr){row:Option Nat}(hg:wr.grownBy wr' row)(hr:∀ k,row=some k->g+1<=k):OpI w g s r cs wr':=by
 have h2:=h.g2
 exact⟨h.at0.grown hg (fun e=>by have:=hr _ e.symm;omega),h.rd.grown hg (fun e=>by have:=hr _ e.symm;omega),h.op.grown hg (fun e=>by have:=hr _ e.symm;omega),h.bel.grown hg h.bel.size (fun k hk=>by have:=hr k hk;omega),h.g2⟩
theorem OpI.put {w wr:World}{g:Nat}{s:ByteArray}{r:RS}{cs:Array Value}(h:OpI w g s r cs wr)(i:Nat)(u:Value):OpI w g s r (cs.setIfInBounds i u) (wr.setCell ⟨g,i,none⟩ u):=by
 have h2:=h.g2
 exact⟨h.at0.far (by show w.heap.size≠g;omega) u,h.rd.far (by show w.heap.size+1≠g;omega) u,h.op.set i u,h.bel.setCell (by show w.heap.size<=g;omega) u,h.g2⟩
theorem OpI.far {w wr:World}{g b:Nat}{s:ByteArray}{r:RS}{cs:Array Value}(h:OpI w g s r cs wr)(hb:g<b)(i:Nat)(u:Value):OpI w g s r cs (wr.setCell ⟨b,i,none⟩ u):=by
 have h2:=h.g2
 exact⟨h.at0.far (by show w.heap.size≠b;omega) u,h.rd.far (by show w.heap.size+1≠b;omega) u,h.op.far (by show g≠b;omega) u,h.bel.setCell (by show w.heap.size<=b;omega) u,h.g2⟩
theorem Qs {rb base n size:Nat}{e:TypeId}{v:Value}{xs:List Value}{w w' : World}{cs:Array Value}(h:w.ownsRow base e size v n xs)(hs:Az rb w w' cs)(hb:rb<base):w'.ownsRow base e size v n xs:=
 Af h (fun k hk=>hs.fr.keep k (Own.J8 h k hk) (fun e=>by have:=Al h k hk;have e2:k=rb:=e;omega))
structure Op0 (w:World) (s:ByteArray) (r:RS) (wr:World):Prop where
 at0:At wr w.heap.size 29 #[.int .i64 0,.string ⟨#[]⟩,.slice none 0 0,.int .i64 0,.string ⟨#[]⟩,.string ⟨#[]⟩,.slice none 0 0]
 rd:At wr (w.heap.size+1) 157 (rdV s r.a r.e)
 bel:Below w.heap.size w wr
theorem Op0.step {w wr wr' : World}{s:ByteArray}{r r' : RS}(h:Op0 w s r wr)(hs:Az (w.heap.size+1) wr wr' (rdV s r'.a r'.e)):Op0 w s r' wr' :=
 ⟨hs.fr.at h.at0 (by simp),hs.at_,h.bel.trans (hs.fr.below h.bel.size (fun k hk=>by omega))⟩
theorem Op0.alloc {w wr:World}{s:ByteArray}{r:RS}(h:Op0 w s r wr)(cs:Array Value):OpI w wr.heap.size s r cs (wr.alloc (.cells cs 29)):=
 ⟨h.at0.alloc _,h.rd.alloc _,At.new _ _ _,h.bel.alloc h.bel.size _,h.rd.lt⟩
namespace Own
theorem Xa (s:ByteArray):∀ (n:Nat) (r:RS),EP (Ct s n r).1<=n*s.size
 | 0,_=>Nat.zero_le _
 | n + 1,r => by
   have h1:=Xa s n (DX s (stT s r).2).2
   have h2:(stT s r).1.size<=s.size:=tX
   show(stT s r).1.size+EP (Ct s n (DX s (stT s r).2).2).1<=(n+1)*s.size
   rw[Nat.succ_mul]
   omega
theorem Xb (s:ByteArray):∀ (n:Nat) (r:RS),∀ a∈(Ct s n r).1,a.sig.index<9223372036854775808/\a.sig.chains.length<=s.size/\a.sig.path.length<=s.size
 | 0,_,a,h=>by cases h
 | n + 1,r,a,h => by
   rcases List.mem_cons.1 (show a∈⟨(stT s r).1,(DX s (stT s r).2).1⟩::(Ct s n (DX s (stT s r).2).2).1 from h) with rfl|h
   ·refine⟨?_,kN,kN⟩
    have:(stN s (stT s r).2).1<9223372036854775808:=za4
    show(((stN s (stT s r).2).1:Nat):Int)<_
    omega
   ·exact Xb s n _ a h
def kQ (w:World)(R:Op × Int)(e:Ending)(w' : World):Prop:=
 (∃ mv av,e=.returned (.tuple #[opV R.1 mv av,.int .i64 R.2])/\Au 2 Eh (fun k=>w.heap.size<=k) w' mv R.1.members/\Au 4 RAp (fun k=>w.heap.size<=k) w' av R.1.Aa)/\Below w.heap.size w w'
end Own
def Rn (w:World)(b:Nat)(v0 v1 v2 v3 v4 v5 v6:Value):World:=((((((w.setCell ⟨b,0,none⟩ v0).setCell ⟨b,1,none⟩ v1).setCell ⟨b,2,none⟩ v2).setCell ⟨b,3,none⟩ v3).setCell ⟨b,4,none⟩ v4).setCell ⟨b,5,none⟩ v5).setCell ⟨b,6,none⟩ v6
theorem At.Rn {w:World}{b:Nat}{t:TypeId}{a0 a1 a2 a3 a4 a5 a6:Value}(h:At w b t #[a0,a1,a2,a3,a4,a5,a6])(v0 v1 v2 v3 v4 v5 v6:Value):At (Rn w b v0 v1 v2 v3 v4 v5 v6) b t #[v0,v1,v2,v3,v4,v5,v6]:=by
 have:=((((((h.set 0 v0).set 1 v1).set 2 v2).set 3 v3).set 4 v4).set 5 v5).set 6 v6
 simp only[List.setIfInBounds_toArray,List.set_cons_zero,List.set_cons_succ] at this
 exact this
theorem YE {B b:Nat}{w0 w:World}(h:Below B w0 w)(hb:B<=b)(v0 v1 v2 v3 v4 v5 v6:Value):Below B w0 (Rn w b v0 v1 v2 v3 v4 v5 v6):=
 ((((((h.setCell (p:=⟨b,0,none⟩) hb v0).setCell (p:=⟨b,1,none⟩) hb v1).setCell (p:=⟨b,2,none⟩) hb v2).setCell (p:=⟨b,3,none⟩) hb v3).setCell (p:=⟨b,4,none⟩) hb v4).setCell (p:=⟨b,5,none⟩) hb v5).setCell (p:=⟨b,6,none⟩) hb v6
theorem OT {w:World}{b k:Nat}(h:k≠b)(v0 v1 v2 v3 v4 v5 v6:Value):(Rn w b v0 v1 v2 v3 v4 v5 v6).heap[k]? = w.heap[k]? :=by
 unfold Rn
 rw[zo h,zo h,zo h,zo h,zo h,zo h,zo h]
theorem Qt {w:World}{b:Nat}(v0 v1 v2 v3 v4 v5 v6:Value):(Rn w b v0 v1 v2 v3 v4 v5 v6).heap.size=w.heap.size:=by simp[Rn,World.setCell]
theorem YF (s:ByteArray)(w:World)(hM:IY w)(hs:s.size<=1000000):
 Calls Tryz.prog 26 #[.string s] w (Own.kQ w (Own.Oj s)):=by
 obtain⟨D,hD⟩:∃ D,D=Own.Oj s:=⟨_,rfl⟩
 obtain⟨R,hR⟩:∃ R,R=Own.kQ w D:=⟨_,rfl⟩
 rw[<- hD,<- hR]
 rw[Own.uq] at hD
 obtain⟨⟨kd,r1⟩,h1⟩:∃ y,stN s ⟨0,0⟩=y:=⟨_,rfl⟩
 obtain⟨⟨pre,r2⟩,h2⟩:∃ y,stT s r1=y:=⟨_,rfl⟩
 obtain⟨⟨n,r3⟩,h3⟩:∃ y,stC s 8 r2=y:=⟨_,rfl⟩
 obtain⟨⟨ms,r4⟩,h4⟩:∃ y,Own.Cr s n r3=y:=⟨_,rfl⟩
 obtain⟨⟨th,r5⟩,h5⟩:∃ y,stN s r4=y:=⟨_,rfl⟩
 obtain⟨⟨nm,r6⟩,h6⟩:∃ y,stT s r5=y:=⟨_,rfl⟩
 obtain⟨⟨pb,r7⟩,h7⟩:∃ y,stT s r6=y:=⟨_,rfl⟩
 obtain⟨⟨m,r8⟩,h8⟩:∃ y,stC s 8 r7=y:=⟨_,rfl⟩
 obtain⟨⟨aps,r9⟩,h9⟩:∃ y,Own.Ct s m r8=y:=⟨_,rfl⟩
 have hop:(Own.stOp s).op=⟨kd,pre,ms,th,nm,pb,aps⟩/\(Own.stOp s).aps.2=r9:=by
  unfold Own.stOp Own.uh.op
  dsimp only
  simp only[h1,h2,h3,h4,h5,h6,h7,h8,h9]
  refine⟨?_,?_⟩<;>first|rfl|trivial
 rw[hop.1,hop.2] at hD
 have l1:r1.a<=s.size:=by have:=Qm (s:=s) (r:=⟨0,0⟩) (Nat.zero_le _);rw[h1] at this;exact this
 have l2:r2.a<=s.size:=by have:=Gs (s:=s) (r:=r1) l1;rw[h2] at this;exact this
 have l3:r3.a<=s.size:=by have:=YA (s:=s) (m:=8) (r:=r2) l2;rw[h3] at this;exact this
 have n8:n<=8:=by have:=bS (s:=s) (m:=8) (r:=r2);rw[show(((8:Nat):Int))=8 from rfl,h3] at this;exact this
 have l4:r4.a<=s.size:=by have:=Own.Qp s n r3 l3;rw[h4] at this;exact this
 have l5:r5.a<=s.size:=by have:=Qm (s:=s) (r:=r4) l4;rw[h5] at this;exact this
 have l6:r6.a<=s.size:=by have:=Gs (s:=s) (r:=r5) l5;rw[h6] at this;exact this
 have l7:r7.a<=s.size:=by have:=Gs (s:=s) (r:=r6) l6;rw[h7] at this;exact this
 have l8:r8.a<=s.size:=by have:=YA (s:=s) (m:=8) (r:=r7) l7;rw[h8] at this;exact this
 have m8:m<=8:=by have:=bS (s:=s) (m:=8) (r:=r7);rw[show(((8:Nat):Int))=8 from rfl,h8] at this;exact this
 have l9:r9.a<=s.size:=by have:=Own.Uz s m r8 l8;rw[h9] at this;exact this
 have zcV:ms.length=n:=by have:=Own.Nk s n r3;rw[h4] at this;exact this
 have zcW:Own.EP aps<=8000000:=by
  have:=Own.Xa s m r8
  rw[h9] at this
  have h:=Nat.mul_le_mul m8 hs
  exact Nat.le_trans this h
 have zcX:∀ a∈aps,a.sig.index<9223372036854775808/\a.sig.chains.length<=s.size/\a.sig.path.length<=s.size:=by
  have:=Own.Xb s m r8
  rw[h9] at this
  exact this
 have HR:=zh hR;have HD:=zh hD;have H1:=zh h1;have H2:=zh h2;have H3:=zh h3;have H4:=zh h4;have H5:=zh h5;have H6:=zh h6;have H7:=zh h7;have H8:=zh h8;have H9:=zh h9
 have ML:=zh zcV;have AS:=zh zcW;have AA:=zh zcX;have HM:=zh hM
 clear hR hD h1 h2 h3 h4 h5 h6 h7 h8 h9 hop zcV zcW zcX hM
 go_enter Tryz.func26,Tryz.ntmps26
 go_wp2_with fail
 refine(qF s _).mono ?_
 rintro e _ ⟨rfl,rfl⟩
 have hde:Op0 w s ⟨0,0⟩ ((w.alloc (.cells #[.int .i64 0,.string ⟨#[]⟩,.slice none 0 0,.int .i64 0,.string ⟨#[]⟩,.string ⟨#[]⟩,.slice none 0 0] 29)).alloc (.cells (rdV s 0 0) 157)):=
  ⟨(At.new w _ _).alloc _,At.new1 w _ _ _,zb.alloc (by simp) _⟩
 have O1:=zh hde;clear hde
 go_wp2_with fail
 generalize (w.alloc (.cells #[.int .i64 0,.string ⟨#[]⟩,.slice none 0 0,.int .i64 0,.string ⟨#[]⟩,.string ⟨#[]⟩,.slice none 0 0] 29)).alloc (.cells (rdV s 0 0) 157)=w2 at*
 refine(Qo (w.heap.size+1) s _ _ H1.out O1.out.rd (Nat.zero_le _) hs).mono ?_
 rintro e w3 ⟨rfl,hst⟩
 have O2:=zh (O1.out.step hst);clear hst
 go_wp2_with fail
 refine(GZ (w.heap.size+1) s _ _ H2.out O2.out.rd l1 hs).mono ?_
 rintro e w4 ⟨rfl,hst⟩
 have O3:=zh (O2.out.step hst);clear hst O1 O2
 go_wp2_with fail
 have P0:=zh (O3.out.alloc #[.int .i64 kd,.string pre,.slice none 0 0,.int .i64 0,.string ⟨#[]⟩,.string ⟨#[]⟩,.slice none 0 0])
 generalize w4.alloc (.cells #[.int .i64 kd,.string pre,.slice none 0 0,.int .i64 0,.string ⟨#[]⟩,.string ⟨#[]⟩,.slice none 0 0] 29)=w5 at*
 obtain⟨g,hg⟩:∃ g,g=w4.heap.size:=⟨_,rfl⟩
 rw[<- hg] at P0 ⊢
 clear hg O3
 refine(Uw (w.heap.size+1) s 8 _ _ H3.out P0.out.rd l2 hs).mono ?_
 rintro e w6 ⟨rfl,hst⟩
 have P1:=zh (P0.out.step hst);clear hst P0
 go_wp2_with fail
 go_loopw [19] (fun i wr=>∃ (k:Nat) (l:List Own.Member) (v:Value) (r:RS),k<=n/\i=.int .i64 k/\Own.Cr s k r3=(l,r)/\r.a<=s.size/\wr.ownsRow (g+1) 76 2 v l.length (l.flatMap Own.CU)/\OpI w g s r #[.int .i64 kd,.string pre,v,.int .i64 0,.string ⟨#[]⟩,.string ⟨#[]⟩,.slice none 0 0] wr) (fun i _=>n-(intOf i).toNat)
 case atStart=>exact⟨0,[],_,r3,by omega,rfl,rfl,l3,⟨rfl,.inl ⟨rfl,rfl⟩⟩,P1.out⟩
 case round=>
  obtain⟨k,l,v,r,hk,rfl,hms,hra,hown,hpi⟩:=hrel
  have hll:l.length=k:=by have:=Own.Nk s k r3;rw[hms] at this;exact this
  obtain⟨va,vm,vc,rfl⟩:=Ad hown
  obtain rfl:=Bf hown
  have HO:=zh hown;have P2:=zh hpi;have HMS:=zh hms;have HLL:=zh hll
  clear hown hpi hms hll P1
  by_cases hlt:k<n
  case neg=>
   have hke:k=n:=by omega
   have dk:decide ((k:Int)<n)=false:=zf
   have hms:=HMS.out
   rw[hke,H4.out] at hms
   obtain⟨rfl,rfl⟩:l=ms/\r=r4:=⟨(congrArg Prod.fst hms).symm,(congrArg Prod.snd hms).symm⟩
   clear hms HMS
   clear hk hke HLL
   have ZM:=zh (show l.length<=8 by rw[ML.out];exact n8)
   go_wp2_with fail
   refine(Qo (w.heap.size+1) s _ _ H5.out P2.out.rd l4 hs).mono ?_
   rintro e w7 ⟨rfl,hst⟩
   have P3:=zh (P2.out.step hst);have HO3:=zh (Qs HO.out hst (by have:=P2.out.g2;omega))
   clear hst
   go_wp2_with fail
   refine(GZ (w.heap.size+1) s _ _ H6.out P3.out.rd l5 hs).mono ?_
   rintro e w8 ⟨rfl,hst⟩
   have P4:=zh (P3.out.step hst);have HO4:=zh (Qs HO3.out hst (by have:=P3.out.g2;omega))
   clear hst
   go_wp2_with fail
   refine(GZ (w.heap.size+1) s _ _ H7.out P4.out.rd l6 hs).mono ?_
   rintro e w9 ⟨rfl,hst⟩
   have P5:=zh (P4.out.step hst);have HO5:=zh (Qs HO4.out hst (by have:=P4.out.g2;omega))
   clear hst
   clear P2 P3 P4 HO HO3 HO4
   have c0:=P5.out.op.cell 0;have c1:=P5.out.op.cell 1;have c2:=P5.out.op.cell 2;have c3:=P5.out.op.cell 3;have c4:=P5.out.op.cell 4;have c5:=P5.out.op.cell 5;have c6:=P5.out.op.cell 6
   have c0f:=P5.out.op.free 0;have c1f:=P5.out.op.free 1;have c2f:=P5.out.op.free 2;have c3f:=P5.out.op.free 3;have c4f:=P5.out.op.free 4;have c5f:=P5.out.op.free 5;have c6f:=P5.out.op.free 6
   simp only[zg] at c0 c1 c2 c3 c4 c5 c6
   go_wp2_with fail
   have P6:=zh (((P5.out.put 3 (.int .i64 th)).put 4 (.string nm)).put 5 (.string pb))
   have HO6:=zh (Af (w':=((w9.setCell ⟨g,3,none⟩ (.int .i64 th)).setCell ⟨g,4,none⟩ (.string nm)).setCell ⟨g,5,none⟩ (.string pb)) HO5.out (fun k hk=>by
    have hne:k≠g:=by have:=Al HO5.out k hk;omega
    rw[zo hne,zo hne,zo hne]))
   clear P5 HO5 c0 c1 c2 c3 c4 c5 c6 c0f c1f c2f c3f c4f c5f c6f
   generalize ((w9.setCell ⟨g,3,none⟩ (.int .i64 th)).setCell ⟨g,4,none⟩ (.string nm)).setCell ⟨g,5,none⟩ (.string pb)=w10 at*
   refine(Uw (w.heap.size+1) s 8 _ _ H8.out P6.out.rd l7 hs).mono ?_
   rintro e w11 ⟨rfl,hst⟩
   have P7:=zh (P6.out.step hst);have HO7:=zh (Qs HO6.out hst (by have:=P6.out.g2;omega))
   clear hst P6 HO6
   go_wp2_with fail
   go_loopw [44] (fun i wr=>∃ (k:Nat) (la:List Own.Aj) (v:Value) (r:RS),k<=m/\i=.int .i64 k/\Own.Ct s k r8=(la,r)/\r.a<=s.size/\Own.Dc (g+1) wr v la/\wr.ownsRow (g+1) 76 2 (.slice va l.length vc) l.length (l.flatMap Own.CU)/\OpI w g s r #[.int .i64 kd,.string pre,.slice va l.length vc,.int .i64 th,.string nm,.string pb,v] wr) (fun i _=>m-(intOf i).toNat)
   case atStart=>exact⟨0,[],_,r8,by omega,rfl,rfl,l8,Own.Dc.nil _ _,HO7.out,P7.out⟩
   case round=>
    obtain⟨k,la,v,r,hk,rfl,hms,hra,hown,hmem,hpi⟩:=hrel
    have hll:la.length=k:=by have:=Own.WW s k r8;rw[hms] at this;exact this
    obtain⟨ua,uc,rfl⟩:=hown.len
    have HO:=zh hown;have P8:=zh hpi;have HMS:=zh hms;have HLL:=zh hll;have HMM:=zh hmem
    clear hown hpi hms hll hmem P7 HO7
    by_cases hlt:k<m
    case neg=>
     have hke:k=m:=by omega
     have dk:decide ((k:Int)<m)=false:=zf
     have hms:=HMS.out
     rw[hke,H9.out] at hms
     obtain⟨rfl,rfl⟩:la=aps/\r=r9:=⟨(congrArg Prod.fst hms).symm,(congrArg Prod.snd hms).symm⟩
     clear hms HMS hk hke HLL
     have c0:=P8.out.op.cell 0;have c1:=P8.out.op.cell 1;have c2:=P8.out.op.cell 2;have c3:=P8.out.op.cell 3;have c4:=P8.out.op.cell 4;have c5:=P8.out.op.cell 5;have c6:=P8.out.op.cell 6
     have c0f:=P8.out.op.free 0;have c1f:=P8.out.op.free 1;have c2f:=P8.out.op.free 2;have c3f:=P8.out.op.free 3;have c4f:=P8.out.op.free 4;have c5f:=P8.out.op.free 5;have c6f:=P8.out.op.free 6
     simp only[zg] at c0 c1 c2 c3 c4 c5 c6
     have hen:=OQ ⟨kd,pre,l,th,nm,pb,la⟩ (.slice va l.length vc) (.slice ua la.length uc) wr (HM.out.below P8.out.bel) (Cy (enc:=Own.CU) (fun _=>rfl) (fun _=>rfl) (Bh.own HMM.out) rfl (fun _ _=>trivial)) HO.out.tu.out (by have:=ZM.out;show l.length<=_;omega) (by have:=AS.out;show Own.EP la<=_;omega) (fun a ha=>by obtain⟨q1,q2,q3⟩:=AA.out a ha;exact⟨q1,by omega,by omega⟩)
     unfold Own.opV at hen
     dsimp only at hen
     have HEN:=zh hen;clear hen
     go_wp2_with fail
     refine HEN.out.mono ?_
     rintro e w12 ⟨rfl,hb⟩
     have P9:=zh (P8.out.under hb);have HO9:=zh (HO.out.below hb);have HM9:=zh (own_below HMM.out hb)
     clear hb HEN P8 HO HMM c0 c1 c2 c3 c4 c5 c6 c0f c1f c2f c3f c4f c5f c6f
     cases hfu:Own.Gh ⟨kd,pre,l,th,nm,pb,la⟩ with
     | false =>
       have HE:=zh (show D=(.none,9) by rw[HD.out,hfu,if_neg (fun h=>by cases h.2)])
       rw[show Own.Du ⟨kd,pre,l,th,nm,pb,la⟩=(⟨#[]⟩,1) by unfold Own.Du;rw[hfu];rfl]
       clear hfu
       have y0:=P9.out.at0.free 0;have y1:=P9.out.at0.free 1;have y2:=P9.out.at0.free 2;have y3:=P9.out.at0.free 3;have y4:=P9.out.at0.free 4;have y5:=P9.out.at0.free 5;have y6:=P9.out.at0.free 6
       have z0:=P9.out.at0.cell 0;have z1:=P9.out.at0.cell 1;have z2:=P9.out.at0.cell 2;have z3:=P9.out.at0.cell 3;have z4:=P9.out.at0.cell 4;have z5:=P9.out.at0.cell 5;have z6:=P9.out.at0.cell 6
       simp only[zg] at z0 z1 z2 z3 z4 z5 z6
       go_wp2_with fail
       refine BM rfl rfl rfl (AQ (At.Rn P9.out.at0 _ _ _ _ _ _ _) Tryz.underlying29 rfl FK) ?_
       rw[HR.out,HE.out]
       exact⟨⟨_,_,rfl,Au.nil _ _,Au.nil _ _⟩,YE (b:=w.heap.size) P9.out.bel (Nat.le_refl _) _ _ _ _ _ _ _⟩
     | true =>
       have HD2:=zh (show D=if El s r.a r.e=0 then (⟨kd,pre,l,th,nm,pb,la⟩,0) else (.none,9) by
        rw[HD.out,hfu]
        by_cases hz:El s r.a r.e=0
        ·rw[if_pos ⟨hz,rfl⟩,if_pos hz]
        ·rw[if_neg (fun h=>hz h.1),if_neg hz])
       obtain⟨EB,hEB⟩:∃ EB,Own.Du ⟨kd,pre,l,th,nm,pb,la⟩=(EB,0):=⟨_,by unfold Own.Du;rw[if_pos hfu]⟩
       rw[hEB]
       clear hfu hEB
       go_wp2_with fail
       refine(nU (w.heap.size+1) s r.a r.e _ P9.out.rd).mono ?_
       rintro e _ ⟨rfl,rfl⟩
       have hbd:Below w12.heap.size w12 w12.drew:=(Below.refl _ _).drew
       have P10:=zh (P9.out.under hbd);have zep:=zh (HO9.out.below hbd);have za5:=zh (own_below HM9.out hbd)
       clear hbd P9 HO9 HM9
       generalize w12.drew=w13 at*
       by_cases hz:El s r.a r.e=0
       case neg=>
        have HE:=zh (show D=(.none,9) by rw[HD2.out,if_neg hz])
        have dz:(El s r.a r.e != (0:Int))=true:=by simpa using hz
        clear hz
        have y0:=P10.out.at0.free 0;have y1:=P10.out.at0.free 1;have y2:=P10.out.at0.free 2;have y3:=P10.out.at0.free 3;have y4:=P10.out.at0.free 4;have y5:=P10.out.at0.free 5;have y6:=P10.out.at0.free 6
        have z0:=P10.out.at0.cell 0;have z1:=P10.out.at0.cell 1;have z2:=P10.out.at0.cell 2;have z3:=P10.out.at0.cell 3;have z4:=P10.out.at0.cell 4;have z5:=P10.out.at0.cell 5;have z6:=P10.out.at0.cell 6
        simp only[zg] at z0 z1 z2 z3 z4 z5 z6
        go_wp2_with fail
        refine BM rfl rfl rfl (AQ (At.Rn P10.out.at0 _ _ _ _ _ _ _) Tryz.underlying29 rfl FK) ?_
        rw[HR.out,HE.out]
        exact⟨⟨_,_,rfl,Au.nil _ _,Au.nil _ _⟩,YE (b:=w.heap.size) P10.out.bel (Nat.le_refl _) _ _ _ _ _ _ _⟩
       have HE:=zh (show D=(⟨kd,pre,l,th,nm,pb,la⟩,0) by rw[HD2.out,if_pos hz])
       rw[hz]
       clear hz
       have c0:=P10.out.op.cell 0;have c1:=P10.out.op.cell 1;have c2:=P10.out.op.cell 2;have c3:=P10.out.op.cell 3;have c4:=P10.out.op.cell 4;have c5:=P10.out.op.cell 5;have c6:=P10.out.op.cell 6
       have c0f:=P10.out.op.free 0;have c1f:=P10.out.op.free 1;have c2f:=P10.out.op.free 2;have c3f:=P10.out.op.free 3;have c4f:=P10.out.op.free 4;have c5f:=P10.out.op.free 5;have c6f:=P10.out.op.free 6
       simp only[zg] at c0 c1 c2 c3 c4 c5 c6
       clear c0f c1f c2f c3f c4f c5f c6f
       have y0:=P10.out.at0.free 0;have y1:=P10.out.at0.free 1;have y2:=P10.out.at0.free 2;have y3:=P10.out.at0.free 3;have y4:=P10.out.at0.free 4;have y5:=P10.out.at0.free 5;have y6:=P10.out.at0.free 6
       have z0:=P10.out.at0.cell 0;have z1:=P10.out.at0.cell 1;have z2:=P10.out.at0.cell 2;have z3:=P10.out.at0.cell 3;have z4:=P10.out.at0.cell 4;have z5:=P10.out.at0.cell 5;have z6:=P10.out.at0.cell 6
       simp only[zg] at z0 z1 z2 z3 z4 z5 z6
       go_wp2_with fail
       refine BM rfl rfl rfl (AQ (At.Rn P10.out.at0 _ _ _ _ _ _ _) Tryz.underlying29 rfl FK) ?_
       rw[HR.out,HE.out]
       have hg2:=P10.out.g2
       refine⟨⟨_,_,rfl,?_,?_⟩,YE (b:=w.heap.size) P10.out.bel (Nat.le_refl _) _ _ _ _ _ _ _⟩
       ·refine Cy (enc:=Own.CU) (fun _=>rfl) (fun _=>rfl) (Bh.own (Af za5.out (fun k hk=>OT (by have:=Al za5.out k hk;omega) _ _ _ _ _ _ _))) rfl (fun k hk=>by have:=Al za5.out k hk;omega)
       ·exact((zep.out.keep (Nat.le_of_eq (Qt (b:=w.heap.size) _ _ _ _ _ _ _).symm) (fun k hk _=>OT (by omega) _ _ _ _ _ _ _)).list).mono (fun k hk _=>by omega)
    have dk:decide ((k:Int)<m)=true:=zt
    obtain⟨⟨x,ra⟩,hx⟩:∃ y,stT s r=y:=⟨_,rfl⟩
    obtain⟨⟨ix,rb⟩,hix⟩:∃ y,stN s ra=y:=⟨_,rfl⟩
    obtain⟨⟨ch,rc⟩,hch⟩:∃ y,stL s rb=y:=⟨_,rfl⟩
    obtain⟨⟨pa,rd⟩,hpa⟩:∃ y,stL s rc=y:=⟨_,rfl⟩
    have hla:ra.a<=s.size:=by have:=Gs (s:=s) (r:=r) hra;rw[hx] at this;exact this
    have hlb:rb.a<=s.size:=by have:=Qm (s:=s) (r:=ra) hla;rw[hix] at this;exact this
    have hlc:rc.a<=s.size:=by have:=YC (s:=s) (r:=rb) hlb;rw[hch] at this;exact this
    have hld:rd.a<=s.size:=by have:=YC (s:=s) (r:=rc) hlc;rw[hpa] at this;exact this
    have hsn:Own.Ct s (k+1) r8=(la++[⟨x,⟨ix,ch,pa⟩⟩],rd):=by
     rw[Own.Uy,HMS.out]
     dsimp only
     rw[hx]
     unfold Own.DX
     dsimp only
     rw[hix]
     dsimp only
     rw[hch]
     dsimp only
     rw[hpa]
    have HX:=zh hx;have HIX:=zh hix;have HCH:=zh hch;have HPA:=zh hpa;have HSN:=zh hsn
    clear hx hix hch hpa hsn HMS
    go_wp2_with fail
    refine(GZ (w.heap.size+1) s _ _ HX.out P8.out.rd hra hs).mono ?_
    rintro e w12 ⟨rfl,hst⟩
    have P9:=zh (P8.out.step hst);have F1:=zh hst.fr
    clear hst P8
    go_wp2_with fail
    have hbx:At (w12.alloc (.cells #[.string x,.int .i64 0,.slice none 0 0,.slice none 0 0] 72)) w12.heap.size 72 #[.string x,.int .i64 0,.slice none 0 0,.slice none 0 0]:=At.new _ _ _
    have P10:=zh (P9.out.under ((Below.refl w12.heap.size w12).alloc (Nat.le_refl _) (.cells #[.string x,.int .i64 0,.slice none 0 0,.slice none 0 0] 72)));have F2:=zh (F1.out.alloc (.cells #[.string x,.int .i64 0,.slice none 0 0,.slice none 0 0] 72))
    have hgb:g<w12.heap.size/\wr.heap.size<=w12.heap.size:=⟨P9.out.op.lt,F1.out.size⟩
    have BX:=zh hbx
    clear hbx P9 F1
    generalize w12.alloc (.cells #[.string x,.int .i64 0,.slice none 0 0,.slice none 0 0] 72)=w13 at*
    obtain⟨b,hb⟩:∃ b,b=w12.heap.size:=⟨_,rfl⟩
    rw[<- hb] at BX hgb ⊢
    clear hb
    refine(Qo (w.heap.size+1) s _ _ HIX.out P10.out.rd hla hs).mono ?_
    rintro e w14 ⟨rfl,hst⟩
    have hbr:∀ k,g+1<=k->¬ (k=w.heap.size+1):=fun k hk=>by have:=P10.out.g2;omega
    have HBR:=zh hbr
    have P11:=zh (P10.out.step hst);have F3:=zh (F2.out.trans hst.fr (fun _ h=>.inl h));have BX1:=zh (hst.fr.at BX.out (hbr b (by omega)))
    clear hst P10 F2 BX hbr
    go_wp2_with fail
    refine(Ux (w.heap.size+1) s _ _ HCH.out P11.out.rd hlb hs).mono ?_
    rintro e w15 ⟨cv,rfl,hcs,hcc,hcf,hst⟩
    have P12:=zh (P11.out.step hst);have F4:=zh (F3.out.trans hst.fr (fun _ h=>.inl h));have BX2:=zh (hst.fr.at BX1.out (HBR.out b (by omega)))
    have uw:b<w14.heap.size:=BX1.out.lt
    have C1:=zh hcs;have CC:=zh hcc;have CF:=zh (fun k hk=>Nat.lt_of_lt_of_le uw (hcf k hk))
    obtain⟨ca,cm,rfl⟩:=hcs.len
    clear hst P11 F3 BX1 hcs hcc hcf uw
    go_wp2_with fail
    refine(Ux (w.heap.size+1) s _ _ HPA.out P12.out.rd hlc hs).mono ?_
    rintro e w16 ⟨pv,rfl,hcs,hcc,hcf,hst⟩
    have P13:=zh (P12.out.step hst);have F5:=zh (F4.out.trans hst.fr (fun _ h=>.inl h));have BX3:=zh (hst.fr.at BX2.out (HBR.out b (by omega)))
    have uw:b<w15.heap.size:=BX2.out.lt
    have C2:=zh (C1.out.keep (w':=w16) (fun k hk hl=>hst.fr.keep k hl (HBR.out k (by have:=CF.out k hk;omega))))
    have D1:=zh hcs;have DC:=zh hcc;have DF:=zh (fun k hk=>Nat.lt_of_lt_of_le uw (hcf k hk))
    obtain⟨pa',pm,rfl⟩:=hcs.len
    clear hst P12 F4 BX2 hcs hcc hcf uw C1
    have y0:=BX3.out.cell 0;have y1:=BX3.out.cell 1;have y2:=BX3.out.cell 2;have y3:=BX3.out.cell 3
    have y1f:=BX3.out.free 1;have y2f:=BX3.out.free 2;have y3f:=BX3.out.free 3
    simp only[zg] at y0 y1 y2 y3
    go_upto_region 13 with fail
    have hg2:=P13.out.g2
    have P14:=zh (((P13.out.far hgb.1 1 (.int .i64 ix)).far hgb.1 2 (.slice ca ch.length cm)).far hgb.1 3 (.slice pa' pa.length pm))
    have F6:=zh (((F5.out.setCell (p:=⟨b,1,none⟩) (.inr hgb.2) (.int .i64 ix)).setCell (p:=⟨b,2,none⟩) (.inr hgb.2) (.slice ca ch.length cm)).setCell (p:=⟨b,3,none⟩) (.inr hgb.2) (.slice pa' pa.length pm))
    have hbx:=((BX3.out.set 1 (.int .i64 ix)).set 2 (.slice ca ch.length cm)).set 3 (.slice pa' pa.length pm)
    simp only[List.setIfInBounds_toArray,List.set_cons_zero,List.set_cons_succ] at hbx
    have Jb:∀ k,b<k->(((w16.setCell ⟨b,1,none⟩ (.int .i64 ix)).setCell ⟨b,2,none⟩ (.slice ca ch.length cm)).setCell ⟨b,3,none⟩ (.slice pa' pa.length pm)).heap[k]? = w16.heap[k]? :=fun k hk=>by
     have hne:k≠b:=by omega
     rw[zo hne,zo hne,zo hne]
    have C3:=zh (C2.out.keep (fun k hk _=>Jb k (CF.out k hk)))
    have D2:=zh (D1.out.keep (fun k hk _=>Jb k (DF.out k hk)))
    have BX4:=zh hbx
    clear hbx Jb y0 y1 y2 y3 y1f y2f y3f BX3 P13 F5 C2 D1
    generalize ((w16.setCell ⟨b,1,none⟩ (.int .i64 ix)).setCell ⟨b,2,none⟩ (.slice ca ch.length cm)).setCell ⟨b,3,none⟩ (.slice pa' pa.length pm)=w17 at*
    have y0:=BX4.out.cell 0;have y1:=BX4.out.cell 1;have y2:=BX4.out.cell 2;have y3:=BX4.out.cell 3
    have c6:=P14.out.op.cell 6
    simp only[zg] at y0 y1 y2 y3 c6
    have xB:Below w17.heap.size w17 (w17.alloc (.cells #[.string x,.int .i64 ix,.slice ca ch.length cm,.slice pa' pa.length pm] 72)):=zb
    have hF7:=F6.out.alloc (.cells #[.string x,.int .i64 ix,.slice ca ch.length cm,.slice pa' pa.length pm] 72)
    have hkeep:∀ k,g+1<=k->k<wr.heap.size->(w17.alloc (.cells #[.string x,.int .i64 ix,.slice ca ch.length cm,.slice pa' pa.length pm] 72)).heap[k]? = wr.heap[k]? :=fun k hk hl=>hF7.keep k hl (HBR.out k hk)
    have hap:=HO.out.keep hF7.size hkeep
    have hmm:=Af HMM.out (fun k hk=>hkeep k (Al HMM.out k hk) (Own.J8 HMM.out k hk))
    obtain⟨css,e1,e2,e3⟩:=hap
    obtain⟨za6,z1,z2,z3⟩:=id HO.out
    have hob:∀ k,(Value.slice ua la.length uc).ownBlock=some k->k<wr.heap.size:=Own.J8 z2
    have hgw:g+1<=(w17.alloc (.cells #[.string x,.int .i64 ix,.slice ca ch.length cm,.slice pa' pa.length pm] 72)).heap.size:=by have:=P14.out.op.lt;rw[World.size_alloc];omega
    have hsc:Own.JQ (fun k=>g+1<=k/\(Value.slice ua la.length uc).ownBlock≠some k) (w17.alloc (.cells #[.string x,.int .i64 ix,.slice ca ch.length cm,.slice pa' pa.length pm] 72)) (.slice ca ch.length cm) ch:=⟨C3.out.below xB,CC.out,fun _ k hk=>by
     have h1:=CF.out k hk
     exact⟨by omega,fun e=>by have:=hob k e;omega⟩⟩
    have hsp:Own.JQ (fun k=>g+1<=k/\(Value.slice ua la.length uc).ownBlock≠some k) (w17.alloc (.cells #[.string x,.int .i64 ix,.slice ca ch.length cm,.slice pa' pa.length pm] 72)) (.slice pa' pa.length pm) pa:=⟨D2.out.below xB,DC.out,fun _ k hk=>by
     have h1:=DF.out k hk
     exact⟨by omega,fun e=>by have:=hob k e;omega⟩⟩
    have P18:=zh (P14.out.under xB);have za7:=zh hmm
    have E1:=zh e1;have E2:=zh e2;have E3:=zh e3;have HSC:=zh hsc;have HSP:=zh hsp;have HGW:=zh hgw
    have hrw:=CS w17 72 #[.string x,.int .i64 ix,.slice ca ch.length cm,.slice pa' pa.length pm] 4 1 1 rfl
    have HRW:=zh hrw
    have zeD:la.length+1<=8:=by rw[HLL.out];omega
    clear hrw hgw hsc hsp hob z1 z2 z3 za6 e1 e2 e3 hmm hkeep hF7 xB HO F6 C3 D2 HMM hgb
    go_wp2_with (at_builtin;go_must (refine Ai Mq rfl _ _ rfl (g+1) la.length (.slice ua la.length uc) css.flatten rfl E2.out (.slice (some ⟨w17.heap.size,0,none⟩) 1 1) 1 [.string x,.int .i64 ix,.slice ca ch.length cm,.slice pa' pa.length pm] rfl HRW.out (by intro u hu;simp at hu;rcases hu with rfl|rfl|rfl|rfl<;>rfl) (by omega) (by omega) HGW.out ?_);intro v9 w19 ho9 hg9 hw9;obtain⟨ya,ym,yc,rfl⟩:=Ad ho9;have zcY:∀ k,(Value.slice va l.length vc).ownBlock=some k->some k≠(Value.slice ua la.length uc).ownBlock:=(fun k hk e=>Iz za7.out E2.out (by decide) k hk e.symm);have HM9:=zh (Af za7.out (fun k hk=>hg9.block k (Own.J8 za7.out k hk) (zcY k hk)));have AP9:=zh (Own.Dc.push (x:=⟨x,⟨ix,ch,pa⟩⟩) E1.out E2.out E3.out HSC.out HSP.out ho9 hg9 hw9);have P19:=zh (P18.out.grown hg9 (Al E2.out));clear ho9 hg9 hw9 zcY;have c6:=P19.out.op.cell 6;have c6f:=P19.out.op.free 6;simp only[zg] at c6)
    refine⟨⟨k+1,la++[⟨x,⟨ix,ch,pa⟩⟩],.slice ya ym yc,rd,by omega,by go_num,HSN.out,hld,?_,?_,P19.out.put 6 _⟩,by simp[intOf];omega⟩
    ·exact AP9.out.keep (by simp[World.setCell]) (fun k hk _=>zo (by show k≠g;omega))
    ·exact Af HM9.out (fun k hk=>zo (by have:=Al HM9.out k hk;show k≠g;omega))
  have dk:decide ((k:Int)<n)=true:=zt
  obtain⟨⟨x,ra⟩,hx⟩:∃ y,stT s r=y:=⟨_,rfl⟩
  obtain⟨⟨y,rb⟩,hy⟩:∃ y,stT s ra=y:=⟨_,rfl⟩
  have hla:ra.a<=s.size:=by have:=Gs (s:=s) (r:=r) hra;rw[hx] at this;exact this
  have hlb:rb.a<=s.size:=by have:=Gs (s:=s) (r:=ra) hla;rw[hy] at this;exact this
  have hsn:Own.Cr s (k+1) r3=(l++[⟨x,y⟩],rb):=by
   rw[Own.QZ,HMS.out]
   dsimp only
   rw[hx]
   dsimp only
   rw[hy]
  have HX:=zh hx;have HY:=zh hy;have HSN:=zh hsn
  clear hx hy hsn HMS
  go_wp2_with fail
  refine(GZ (w.heap.size+1) s _ _ HX.out P2.out.rd hra hs).mono ?_
  rintro e w7 ⟨rfl,hst⟩
  have P3:=zh (P2.out.step hst);have HO3:=zh (Qs HO.out hst (by have:=P2.out.g2;omega))
  clear hst P2 HO
  have c2:=P3.out.op.cell 2
  simp only[zg] at c2
  have HX1:=zh (zi c2)
  go_wp2_with fail
  refine Lex.zn (fun j=>j=g) [1] 7 [5] ?_
  simp only[Lex.Br,zd]
  go_wp2_with fail
  refine(GZ (w.heap.size+1) s _ _ HY.out P3.out.rd.drew hla hs).mono ?_
  rintro e w8 ⟨rfl,hst'⟩
  have hst:Az (w.heap.size+1) w7 w8 (rdV s rb.a rb.e):=⟨hst'.at_,hst'.fr.os,hst'.fr.tape,hst'.fr.output,hst'.fr.size,hst'.fr.keep⟩
  have hg2:=P3.out.g2
  have HB6:=zh (hst.fr.keep g P3.out.op.lt (by omega))
  have P4:=zh (P3.out.step hst);have HO4:=zh (Qs HO3.out hst (by omega))
  clear hst hst' P3 HO3
  have hb9:Below w8.heap.size w8 (w8.alloc (.cells #[.string x,.string y] 76)):=zb
  have P5:=zh (P4.out.under hb9);have HO5:=zh (own_below HO4.out hb9)
  have hrw:=CS w8 76 #[.string x,.string y] 2 1 1 rfl
  have HRW:=zh hrw
  have hgw:g+1<=(w8.alloc (.cells #[.string x,.string y] 76)).heap.size:=by have:=P4.out.op.lt;rw[World.size_alloc];omega
  have HGW:=zh hgw
  have hl8:l.length+1<=8:=by rw[HLL.out];omega
  clear hrw hgw hb9 HO4 P4
  go_wp2_with fail
  refine Lex.Mid.intro (fun j hj _=>by rw[hj];exact HB6.out) ?_
  go_wp2_with (at_builtin;go_must (refine Ai KP rfl _ _ rfl (g+1) l.length (.slice va l.length vc) (l.flatMap Own.CU) rfl HO5.out (.slice (some ⟨w8.heap.size,0,none⟩) 1 1) 1 [.string x,.string y] rfl HRW.out (by intro u hu;simp at hu;rcases hu with rfl|rfl<;>rfl) (by omega) (by omega) HGW.out ?_);intro v9 w9 ho9 hg9 hw9;obtain⟨ya,ym,yc,rfl⟩:=Ad ho9;have HO9:=zh ho9;have P9:=zh (P5.out.grown hg9 (Al HO5.out));clear ho9 hg9 hw9;have d2:=P9.out.op.cell 2;have d2f:=P9.out.op.free 2;simp only[zg] at d2)
  refine Lex.zk ⟨⟨rfl,HX1.out⟩,trivial⟩ ?_
  go_wp2_with fail
  refine⟨⟨k+1,l++[⟨x,y⟩],.slice ya ym yc,rb,by omega,by go_num,HSN.out,hlb,?_,P9.out.put 2 _⟩,by simp[intOf];omega⟩
  have h9:w9.ownsRow (g+1) 76 2 (.slice ya ym yc) (l++[(⟨x,y⟩:Own.Member)]).length ((l++[(⟨x,y⟩:Own.Member)]).flatMap Own.CU):=by
   rw[List.length_append,List.flatMap_append]
   simpa [Own.CU] using HO9.out
  exact Af h9 (fun j hj=>zo (by have:=Al h9 j hj;show j≠g;omega))
namespace Own
theorem nZ (f:Nat->Aj)(ks:List Nat)(k:Nat)(h:k<ks.length):(ks.take (k+1)).map f=(ks.take k).map f++[f (ks.getD k 0)]:=by
 rw[List.take_succ_eq_append_getElem h,List.map_append,List.getD_eq_getElem?_getD,List.getElem?_eq_getElem h]
 rfl
def YG (op:Op)(l:List Aj):Op :={ op with Aa:=l }
end Own
theorem JM (o:Own.Ar)(op:Own.Op)(i:Nat)(ks:List Nat)(sv kv mv av:Value)(ka:Option Addr)(kc:Nat)(w:World)(hM:IY w)(hi:i<2)(hs:∃ a n c,sv=.slice a n c)(hkv:∃ a n c,kv=.slice a n c)(hm:Own.Ag w mv op.members)(ha:∃ a c,av=.slice a op.Aa.length c)(hl:op.members.length<=140737488355328)
 (hk:DI w (.slice ka ks.length kc) ks) (hks:∀ b∈ks,b<256) (hkl:ks.length<=1000):
 Calls Tryz.prog 30 #[.agg #[.int .i64 o.count,sv,kv],Own.opV op mv av,.int .i64 i,.slice ka ks.length kc] w fun e w' => ∃ av',e=.returned (Own.opV (Own.YG op (ks.map (Own.Dy i (Own.Bc o op).1))) mv av')/\Own.Dc w.heap.size w' av' (ks.map (Own.Dy i (Own.Bc o op).1))/\Below w.heap.size w w':=by
 have hmg:=fun W (hW:Below w.heap.size w W)=>Mr o op sv kv mv av W (hM.below hW) hs hkv (hm.below hW) ha hl
 have hms:=Own.Ut o op
 obtain⟨msg,Ku⟩:∃ m,m=(Own.Bc o op).1:=⟨_,rfl⟩
 obtain⟨code,hcode⟩:∃ m,m=(Own.Bc o op).2:=⟨_,rfl⟩
 rw[<- Ku] at hms ⊢
 simp only[<- Ku,<- hcode] at hmg
 have hsg:=fun b W (hb:b<256)=>Vg b i msg W hb hi (by omega)
 have og:∀ (b:Nat) W,b<256->Calls Tryz.prog 41 #[.int .u8 b,.int .i64 i,.string msg] W fun e w' => ∃ cv pv,e=.returned (.agg #[.string (Own.Dy i msg b).name,.int .i64 (Own.Dy i msg b).sig.index,cv,pv])/\w'.ownsRow W.heap.size 9 1 cv 67 ((Own.Dy i msg b).sig.chains.map Value.string)/\w'.ownsRow W.heap.size 9 1 pv 1 ((Own.Dy i msg b).sig.path.map Value.string)/\Below W.heap.size W w':=fun b W hb=>by
  have h:=hsg b W hb
  rw[show(Own.Dy i msg b).name=Own.CZ b from rfl,show(Own.Dy i msg b).sig.index=(i:Int) from Own.Nc _ _ _]
  exact h
 obtain⟨S,hS⟩:∃ S,S=Own.Dy i msg:=⟨_,rfl⟩
 simp only[<- hS] at og ⊢
 have hkb:∀ k,k<ks.length->ks.getD k 0<256:=fun k hk=>hks _ (by rw[List.getD_eq_getElem?_getD,List.getElem?_eq_getElem hk];exact List.getElem_mem hk)
 obtain⟨sa,sn,sc,rfl⟩:=hs
 obtain⟨ya,yn,yc,rfl⟩:=hkv
 obtain⟨ma,mc,rfl⟩:=hm.len
 obtain⟨aa,ac,rfl⟩:=ha
 have HMG:=zh hmg;have HSG:=zh og;have HKB:=zh hkb;have HK:=zh hk
 clear hmg hsg og hkb hk hks hS Ku hcode hM hm hms
 obtain⟨kd,pre,ms,th,nm,pb,aps⟩:=op
 unfold Own.opV Own.YG at*
 dsimp only at*
 have F1:=zh (show Aw w _ [(25,#[.int .i64 o.count,.slice sa sn sc,.slice ya yn yc]),(29,#[.int .i64 kd,.string pre,.slice ma ms.length mc,.int .i64 th,.string nm,.string pb,.slice aa aps.length ac]),(29,#[.int .i64 0,.string ⟨#[]⟩,.slice none 0 0,.int .i64 0,.string ⟨#[]⟩,.string ⟨#[]⟩,.slice none 0 0])] from((((Dm.nil w).push 25 #[.int .i64 o.count,.slice sa sn sc,.slice ya yn yc]).push 29 #[.int .i64 kd,.string pre,.slice ma ms.length mc,.int .i64 th,.string nm,.string pb,.slice aa aps.length ac]).push 29 #[.int .i64 0,.string ⟨#[]⟩,.slice none 0 0,.int .i64 0,.string ⟨#[]⟩,.string ⟨#[]⟩,.slice none 0 0]).boxes)
 go_enter Tryz.func30,Tryz.ntmps30
 go_upto_region 1 with fail
 generalize (((w.alloc (.cells #[.int .i64 o.count,.slice sa sn sc,.slice ya yn yc] 25)).alloc (.cells #[.int .i64 kd,.string pre,.slice ma ms.length mc,.int .i64 th,.string nm,.string pb,.slice aa aps.length ac] 29)).alloc (.cells #[.int .i64 0,.string ⟨#[]⟩,.slice none 0 0,.int .i64 0,.string ⟨#[]⟩,.string ⟨#[]⟩,.slice none 0 0] 29))=w1 at*
 obtain⟨x00,x01,x02⟩:=F1.out.Gj rfl
 obtain⟨x10,x11,x12,x13,x14,x15,x16⟩:=F1.out.LW rfl
 go_wp2_with fail
 refine(HMG.out w1 F1.out.under).mono ?_
 rintro e w2 ⟨rfl,hb2⟩
 have F2:=zh (F1.out.step hb2);clear hb2 HMG
 (try clear x00 x01 x02);(try clear x10 x11 x12 x13 x14 x15 x16)
 have x6:w2.cell? ⟨w.heap.size+1,6,none⟩=some (.slice aa aps.length ac):=F2.out.cell 1 6 rfl rfl
 have x6f:w2.frozen? ⟨w.heap.size+1,6,none⟩=false:=F2.out.free 1 6 rfl
 go_upto_region 3 with fail
 have F3:=zh (F2.out.put 1 6 (.slice none 0 0) rfl)
 clear x6 x6f F2 F1
 generalize w2.setCell ⟨w.heap.size+1,6,none⟩ (.slice none 0 0)=w3 at*
 go_wp2_with fail
 go_loopw [22] (fun i2 wr=>∃ (k:Nat) (v:Value),k<=ks.length/\i2=.int .i64 k/\Own.Dc (w.heap.size+3) wr v ((ks.take k).map S)/\Aw w wr [(25,#[.int .i64 o.count,.slice sa sn sc,.slice ya yn yc]),(29,#[.int .i64 kd,.string pre,.slice ma ms.length mc,.int .i64 th,.string nm,.string pb,v]),(29,#[.int .i64 0,.string ⟨#[]⟩,.slice none 0 0,.int .i64 0,.string ⟨#[]⟩,.string ⟨#[]⟩,.slice none 0 0])]) (fun i2 _=>ks.length-(intOf i2).toNat)
 case atStart=>exact⟨0,_,by omega,rfl,Own.Dc.nil _ _,F3.out⟩
 case round=>
  obtain⟨k,v,hk,rfl,hap,hbx⟩:=hrel
  have hlen:((ks.take k).map S).length=k:=by rw[List.length_map,List.length_take];omega
  obtain⟨va,vc,hv⟩:=hap.len
  rw[hlen] at hv
  subst hv
  have HLN:=zh hlen
  have HA:=zh hap;have G1:=zh hbx
  clear hap hbx F3 hlen
  by_cases hlt:k<ks.length
  case neg=>
   have hke:k=ks.length:=by omega
   have dk:decide ((k:Int)<ks.length)=false:=zf
   rw[hke,List.take_length] at HA;rw[hke] at G1
   clear hke
   obtain⟨x10,x11,x12,x13,x14,x15,x16⟩:=G1.out.LW rfl
   obtain⟨x20,x21,x22,x23,x24,x25,x26,Gt,Gu,Gv,zeE,zeF,zeG,zeH⟩:=G1.out.zdF rfl
   go_wp2_with fail
   have G2:=((((((G1.out.put 2 0 (.int .i64 kd) rfl).put 2 1 (.string pre) rfl).put 2 2 (.slice ma ms.length mc) rfl).put 2 3 (.int .i64 th) rfl).put 2 4 (.string nm) rfl).put 2 5 (.string pb) rfl).put 2 6 (.slice va ks.length vc) rfl
   refine Pz rfl rfl (AQ (G2.at1 2 rfl) Tryz.underlying29 rfl FK) ⟨_,rfl,?_,G2.under⟩
   exact(HA.out.keep (w':=Rn wr (w.heap.size+1+1) _ _ _ _ _ _ _) (Nat.le_of_eq (Qt _ _ _ _ _ _ _).symm) (fun k hk _=>OT (by omega) _ _ _ _ _ _ _)).base (by omega)
  have dk:decide ((k:Int)<ks.length)=true:=zt
  have hx2:=HKB.out k hlt
  have htk:=Own.nZ S ks k hlt
  obtain⟨b,q,ha,hbl,hc⟩:=DI.cell (HK.out.below G1.out.under) hlt
  obtain⟨x,hx⟩:∃ x,x=ks.getD k 0:=⟨_,rfl⟩
  rw[<- hx] at hc hx2 htk
  subst ha
  obtain⟨A,hA⟩:∃ A,A=S x:=⟨_,rfl⟩
  rw[<- hA] at htk
  have hsx:=fun W=>HSG.out x W hx2
  simp only[<- hA] at hsx
  obtain⟨an,⟨ix,ch,pa⟩⟩:=A
  dsimp only at hsx
  have HSX:=zh hsx;have HT:=zh htk
  clear hx hsx htk hA hbl
  obtain⟨x10,x11,x12,x13,x14,x15,x16⟩:=G1.out.LW rfl
  have HX1:=zh (zi x16)
  go_wp2_with fail
  refine Lex.zn (fun j=>j=w.heap.size+1) [1] 7 [6] ?_
  simp only[Lex.Br,zd]
  go_wp2_with fail
  refine(HSX.out _).mono ?_
  rintro e w5 ⟨cv,pv,rfl,hcv,hpv,hb5⟩
  have hb6:Below wr.heap.size wr w5:=(Below.refl wr.heap.size wr).drew.trans hb5
  obtain⟨ca,cm,cc,rfl⟩:=Ad hcv
  obtain rfl:=Bf hcv
  obtain⟨pa',pm,pc,rfl⟩:=Ad hpv
  obtain rfl:=Bf hpv
  have HB6:=zh hb6
  have HOB:=zh (G1.out.lt (i:=1) (by show 1<3;omega))
  have hwz:w.heap.size+3<=wr.heap.size:=G1.out.size
  have hb7:Below w5.heap.size w5 (w5.alloc (.cells #[.string an,.int .i64 ix,.slice ca 67 cc,.slice pa' 1 pc] 72)):=zb
  have hb8:=hb6.trans (hb7.mono hb6.size)
  have G5:=zh (G1.out.step hb8)
  obtain⟨css,e1,e2,e3⟩:=HA.out.below hb8
  rw[HLN.out] at e2
  obtain⟨za6,z1,z2,z3⟩:=id HA.out
  have eH:∀ j,(Value.slice va k vc).ownBlock=some j->j<wr.heap.size:=fun j hj=>Own.J8 z2 j hj
  have hsc:Own.JQ (fun j=>w.heap.size+3<=j/\(Value.slice va k vc).ownBlock≠some j) (w5.alloc (.cells #[.string an,.int .i64 ix,.slice ca 67 cc,.slice pa' 1 pc] 72)) (.slice ca 67 cc) ch:=
   Own.JQ.own (own_below hcv hb7) (fun j hj=>by
    have hj2:wr.heap.size<=j:=hj
    exact⟨by omega,fun e=>by have:=eH j e;omega⟩)
  have hsp:Own.JQ (fun j=>w.heap.size+3<=j/\(Value.slice va k vc).ownBlock≠some j) (w5.alloc (.cells #[.string an,.int .i64 ix,.slice ca 67 cc,.slice pa' 1 pc] 72)) (.slice pa' 1 pc) pa:=
   Own.JQ.own (own_below hpv hb7) (fun j hj=>by
    have hj2:wr.heap.size<=j:=hj
    exact⟨by omega,fun e=>by have:=eH j e;omega⟩)
  have E1:=zh e1;have E2:=zh e2;have E3:=zh e3;have HSC:=zh hsc;have HSP:=zh hsp
  have HRW:=zh (CS w5 72 #[.string an,.int .i64 ix,.slice ca 67 cc,.slice pa' 1 pc] 4 1 1 rfl)
  have HGW:=zh (show w.heap.size+3<=(w5.alloc (.cells #[.string an,.int .i64 ix,.slice ca 67 cc,.slice pa' 1 pc] 72)).heap.size from Nat.le_trans hwz hb8.size)
  have HT2:=zh HT.out
  clear hcv hpv hb5 hb6 hb7 hb8 e1 e2 e3 za6 z1 z2 z3 eH hsc hsp hc HA
  go_wp2_with fail
  refine Lex.Mid.intro (fun j hj _=>by rw[hj];exact HB6.out.block _ HOB.out) ?_
  go_wp2_with (at_builtin;go_must (refine Ai Mq rfl _ _ rfl (w.heap.size+3) k (.slice va k vc) css.flatten rfl E2.out (.slice (some ⟨w5.heap.size,0,none⟩) 1 1) 1 [.string an,.int .i64 ix,.slice ca 67 cc,.slice pa' 1 pc] rfl HRW.out (by intro u hu;simp at hu;rcases hu with rfl|rfl|rfl|rfl<;>rfl) (by omega) (by omega) HGW.out ?_);intro v9 w9 ho9 hg9 hw9;obtain⟨ya9,ym9,yc9,rfl⟩:=Ad ho9;have AP9:=zh (Own.Dc.push (x:=⟨an,⟨ix,ch,pa⟩⟩) E1.out (by rw[HLN.out];exact E2.out) E3.out HSC.out HSP.out (by rw[HLN.out];exact ho9) hg9 hw9);have G9:=zh (G5.out.far (O:=w.heap.size+3) (Nat.le_refl _) (Al E2.out) hg9);clear ho9 hg9 hw9;have z10:w9.cell? ⟨w.heap.size+1,0,none⟩=some (.int .i64 kd):=G9.out.cell 1 0 rfl rfl;have zeI:w9.frozen? ⟨w.heap.size+1,0,none⟩=false:=G9.out.free 1 0 rfl;have z11:w9.cell? ⟨w.heap.size+1,1,none⟩=some (.string pre):=G9.out.cell 1 1 rfl rfl;have zeJ:w9.frozen? ⟨w.heap.size+1,1,none⟩=false:=G9.out.free 1 1 rfl;have z12:w9.cell? ⟨w.heap.size+1,2,none⟩=some (.slice ma ms.length mc):=G9.out.cell 1 2 rfl rfl;have zeK:w9.frozen? ⟨w.heap.size+1,2,none⟩=false:=G9.out.free 1 2 rfl;have z13:w9.cell? ⟨w.heap.size+1,3,none⟩=some (.int .i64 th):=G9.out.cell 1 3 rfl rfl;have zeL:w9.frozen? ⟨w.heap.size+1,3,none⟩=false:=G9.out.free 1 3 rfl;have z14:w9.cell? ⟨w.heap.size+1,4,none⟩=some (.string nm):=G9.out.cell 1 4 rfl rfl;have zeM:w9.frozen? ⟨w.heap.size+1,4,none⟩=false:=G9.out.free 1 4 rfl;have z15:w9.cell? ⟨w.heap.size+1,5,none⟩=some (.string pb):=G9.out.cell 1 5 rfl rfl;have zeN:w9.frozen? ⟨w.heap.size+1,5,none⟩=false:=G9.out.free 1 5 rfl;have z16:w9.cell? ⟨w.heap.size+1,6,none⟩=some (.slice va k vc):=G9.out.cell 1 6 rfl rfl;have zeO:w9.frozen? ⟨w.heap.size+1,6,none⟩=false:=G9.out.free 1 6 rfl)
  refine Lex.zk ⟨⟨rfl,HX1.out⟩,trivial⟩ ?_
  go_wp2_with fail
  refine⟨⟨k+1,.slice ya9 ym9 yc9,by omega,by go_num,?_,G9.out.put 1 6 _ rfl⟩,by simp[intOf];omega⟩
  rw[HT.out]
  exact AP9.out.keep (by simp[World.setCell]) (fun j hj _=>zo (by show j≠w.heap.size+1;omega))
theorem Mv (k:Own.Space)(ma:Option Addr)(mn mc:Nat)(t:ByteArray)(w:World):Calls Tryz.prog 160 #[.agg #[.string k.pre,.slice ma mn mc,.int .i64 k.threshold],.string t] w fun e w' => e=.returned (.int .i64 (KX k.pre t))/\Below w.heap.size w w':=by
 have HB:=zh ((Below.refl w.heap.size w).alloc (Nat.le_refl _) (.cells #[.string k.pre,.slice ma mn mc,.int .i64 k.threshold] 39))
 go_enter Tryz.func160,Tryz.ntmps160
 go_wp2_with fail
 refine(Uc k.pre t _).mono ?_
 rintro e w2 ⟨rfl,rfl⟩
 go_wp2_with fail
 go_ret
 exact⟨rfl,HB.out⟩
theorem YH (v:Value)(l:List Own.Space)(t:ByteArray)(w:World)(h:Own.BH w v l)(hs:Own.Srt Own.Space.pre l)(hl:l.length<=1000000):
 Calls Tryz.prog 159 #[v,.string t,.func (.func 160) #[] #[]] w fun e w' => e=.returned (.tuple #[.int .i64 (Own.posB Own.Space.pre t l:Nat),.bool (Own.Dx Own.Space.pre t l)])/\Below w.heap.size w w':=by
 obtain⟨a,c,rfl⟩:=h.len
 have HL:=zh h;have HS:=zh hs;clear h hs
 go_enter Tryz.func159,Tryz.ntmps159
 go_wp2_with fail
 go_loopw [9,10] (fun i j wr=>∃ p q:Nat,p<=q/\∃ hq:q<=l.length,i=.int .i64 p/\j=.int .i64 q/\(∀ k (h:k<l.length),k<p->Own.Ak l[k].pre t=true)/\(∀ k (h:k<l.length),q<=k->Own.Ak l[k].pre t=false)/\Below w.heap.size w wr) (fun i j _=>(intOf j).toNat-(intOf i).toNat)
 case atStart=>exact⟨0,l.length,by omega,Nat.le_refl _,rfl,rfl,fun _ _ h=>by omega,fun _ _ h=>by omega,Below.refl _ _⟩
 case round=>
  obtain⟨p,q,hpq,hq,rfl,rfl,h1,h2,hb⟩:=hrel
  have HB:=zh hb;have H1:=zh h1;have H2:=zh h2
  by_cases hlt:p<q
  ·have dk:decide ((p:Int)<(q:Int))=true:=zt
   obtain⟨m,hm⟩:∃ m,m=(p+q)/2:=⟨_,rfl⟩
   have em:((p:Int)+(q:Int))/2=(m:Int):=by omega
   have m1:p<=m:=by omega
   have m2:m<q:=by omega
   have hml:m<l.length:=by omega
   obtain⟨b,o,mv,ha,hbl,e0,e1,e2,hmv⟩:=Own.BH.cells (HL.out.below hb) hml
   subst ha
   obtain⟨ma,mc,rfl⟩:=hmv.len
   have hlow:Own.Ak l[m].pre t=true->∀ k (h:k<l.length),k<m+1->Own.Ak l[k].pre t=true:=fun hx k hk hkm=>by
    by_cases e:k=m
    ·subst e;exact hx
    ·exact Own.D9 ((List.pairwise_iff_getElem.1 HS.out) k m hk hml (by omega)) hx
   have hhigh:Own.Ak l[m].pre t=false->∀ k (h:k<l.length),m<=k->Own.Ak l[k].pre t=false:=fun hx k hk hkm=>by
    by_cases e:k=m
    ·subst e;exact hx
    ·cases hc:Own.Ak l[k].pre t with
     | false=>rfl
     | true =>
       have:=Own.D9 ((List.pairwise_iff_getElem.1 HS.out) m k hml hk (by omega)) hc
       rw[hx] at this
       cases this
   obtain⟨ku,hku⟩:∃ x,x=l[m]:=⟨_,rfl⟩
   clear hmv
   simp only[<- hku] at hlow hhigh e0 e1 e2
   have hcall:=Mv ku ma ku.members.length mc t wr
   have zaq:=zh hlow;have sI:=zh hhigh
   clear hb h1 h2 hm hlow hhigh hku
   cases hc:Own.Ak ku.pre t with
   | true =>
     have ec:KX ku.pre t = -1:=by unfold KX;rw[hc];rfl
     rw[ec] at hcall
     clear ec
     go_wp2_with fail
     refine hcall.mono ?_
     rintro e w' ⟨rfl,hb'⟩
     go_wp2_with fail
     exact⟨⟨m+1,q,by omega,by omega,by go_num,rfl,zaq.out hc,H2.out,HB.out.trans (hb'.mono HB.out.size)⟩,by simp[intOf];omega⟩
   | false =>
     obtain⟨r,hr⟩:∃ r,r=KX ku.pre t:=⟨_,rfl⟩
     have er:0<=r:=by rw[hr];unfold KX;rw[hc];simp;split<;>decide
     rw[<- hr] at hcall
     have dr:decide (r<0)=false:=zf
     clear hr
     go_wp2_with fail
     refine hcall.mono ?_
     rintro e w' ⟨rfl,hb'⟩
     go_wp2_with fail
     exact⟨⟨p,m,by omega,by omega,rfl,rfl,H1.out,sI.out hc,HB.out.trans (hb'.mono HB.out.size)⟩,by simp[intOf];omega⟩
  ·obtain rfl:p=q:=by omega
   have dk:decide ((p:Int)<(p:Int))=false:=zf
   have hpos:=Own.QJ (f:=Own.Space.pre) t hq (fun k h=>h1 k h) (fun k h=>h2 k h)
   have sM:=zh hpos
   by_cases hpl:p<l.length
   ·have dp:decide ((p:Int)<(l.length:Int))=true:=zt
    obtain⟨b,o,mv,ha,hbl,e0,e1,e2,hmv⟩:=Own.BH.cells (HL.out.below hb) hpl
    subst ha
    obtain⟨ma,mc,rfl⟩:=hmv.len
    have hge:=h2 p hpl (Nat.le_refl _)
    have hhit:Own.Dx Own.Space.pre t l=decide (l[p].pre=t):=by unfold Own.Dx;rw[<- hpos,List.getElem?_eq_getElem hpl]
    obtain⟨ku,hku⟩:∃ x,x=l[p]:=⟨_,rfl⟩
    clear hmv
    simp only[<- hku] at hhit hge e0 e1 e2
    have hcall:=Mv ku ma ku.members.length mc t wr
    obtain⟨r,hr⟩:∃ r,r=KX ku.pre t:=⟨_,rfl⟩
    have er:(r==0)=Own.Dx Own.Space.pre t l:=by
     rw[hhit,hr];unfold KX;rw[hge]
     by_cases h:ku.pre=t
     ·simp[h]
     ·simp[h]
    rw[<- hr] at hcall
    have ER:=zh er
    clear hb h1 h2 hhit hge hku hr hpos er
    go_wp2_with fail
    refine hcall.mono ?_
    rintro e w' ⟨rfl,hb'⟩
    go_wp2_with fail
    go_ret2
    exact⟨by rw[<- ER.out,<- sM.out];rfl,HB.out.trans (hb'.mono HB.out.size)⟩
   ·have dp:decide ((p:Int)<(l.length:Int))=false:=zf
    have hhit:Own.Dx Own.Space.pre t l=false:=by unfold Own.Dx;rw[<- hpos,List.getElem?_eq_none (by omega)]
    have zar:=zh hhit
    clear hb h1 h2 hhit hpos
    go_wp2_with fail
    go_ret2
    exact⟨by rw[zar.out,<- sM.out];rfl,HB.out⟩
theorem Ld (g:Nat)(cnt ex:Int)(sv kv mv av:Value)(op:Own.Op)(w:World)(hat:At w g 87 (Own.Em cnt sv kv op mv av ex))(hm:Own.Ag w mv op.members)(hl:op.members.length<=3000000):
 Calls Tryz.prog 108 #[.pointer (some ⟨g,0,none⟩)] w fun e w' => ∃ v',e=.returned (.agg #[.string op.pre,v',.int .i64 op.threshold])/\w'.ownsRow (w.heap.size+1) 76 2 v' op.members.length (op.members.flatMap Own.CU)/\Below w.heap.size w w':=by
 obtain⟨ma,mc,rfl⟩:=hm.len
 have K1:=zh (show Aw w _ [(39,#[.string ⟨#[]⟩,.slice none 0 0,.int .i64 0])] from((Dm.nil w).push 39 #[.string ⟨#[]⟩,.slice none 0 0,.int .i64 0]).boxes)
 have H1:=zh (hat.below K1.out.under hat.lt);have HM:=zh (hm.below K1.out.under)
 clear hat hm
 have hz1:(w.alloc (.cells #[.string ⟨#[]⟩,.slice none 0 0,.int .i64 0] 39)).heap.size=w.heap.size+1:=by simp
 go_enter Tryz.func108,Tryz.ntmps108
 go_upto_region 1 with fail
 have HZ1:=zh hz1;clear hz1
 generalize (w.alloc (.cells #[.string ⟨#[]⟩,.slice none 0 0,.int .i64 0] 39))=w1 at*
 have c0:=H1.out.cell 0;have c1:=H1.out.cell 1;have c2:=H1.out.cell 2;have c3:=H1.out.cell 3;have c4:=H1.out.cell 4;have c5:=H1.out.cell 5;have c6:=H1.out.cell 6;have c7:=H1.out.cell 7;have c8:=H1.out.cell 8;have c9:=H1.out.cell 9;have c10:=H1.out.cell 10
 simp only[Own.Em,List.getElem?_toArray,List.getElem?_cons_zero,List.getElem?_cons_succ] at c0 c1 c2 c3 c4 c5 c6 c7 c8 c9 c10
 have hcp:=EH op.pre op.threshold (.slice ma op.members.length mc) op.members w1.drew (HM.out.below (Below.refl w1.heap.size w1).drew) hl
 have HCP:=zh hcp;clear hcp
 refine Lex.zl ?_
 go_wp2_with fail
 refine HCP.out.mono ?_
 rintro e w2 ⟨v',rfl,hov,hb2⟩
 have B2:=zh (show Below w1.heap.size w1 w2 from(Below.refl w1.heap.size w1).drew.trans hb2)
 have K2:=zh (K1.out.step B2.out)
 obtain⟨va,vm,vc,rfl⟩:=Ad hov
 rw[Fb,HZ1.out] at hov
 have HOV:=zh hov
 clear hov hb2
 clear c0 c1 c2 c3 c4 c5 c6 c7 c8 c9 c10
 obtain⟨x00,x01,x02,zcf,zcg,zch⟩:=K2.out.zbZ rfl
 go_wp2_with fail
 refine Lex.ze ?_
 go_wp2_with fail
 have G2:=((K2.out.put 0 0 (.string op.pre) rfl).put 0 1 (.slice va vm vc) rfl).put 0 2 (.int .i64 op.threshold) rfl
 refine Pz rfl rfl (AQ (G2.at1 0 rfl) Tryz.underlying39 rfl Fz) ⟨_,rfl,?_,G2.under⟩
 refine Af HOV.out (fun k hk=>?_)
 have hk1:k≠w.heap.size:=by have:=Al HOV.out k hk;omega
 rw[zo hk1,zo hk1,zo hk1]
namespace Own
theorem zx {B:Nat}{w:World}{v:Value}{S:List Space}{us:List Value}(h:Cg B w v S us):∀ u∈AO S us,u.oneCell' = true:=aV fun cs hcs u hu=>by
 obtain⟨i,hi,rfl⟩:=List.getElem_of_mem hcs
 rw[List.length_zipWith] at hi
 rw[List.getElem_zipWith] at hu
 obtain⟨a,m,c,he⟩:=Ad (h.Ih i (by omega) (by omega))
 rw[he] at hu
 simp[encS] at hu
 rcases hu with rfl|rfl|rfl<;>rfl
def U4 (B g:Nat)(w w' : World)(cnt:Int)(op:Op)(ex:Int)(mv av:Value)(S:List Space)(K:List KeyUse):Prop:=
 (∃ sv kv,At w' g 87 (Em cnt sv kv op mv av ex)/\Au 3 Fw (fun k=>B<=k) w' sv S/\Au 2 gL (fun k=>B<=k) w' kv K)/\Fr (fun k=>k=g\/B<=k) w w'
end Own
theorem YI (B g:Nat)(o:Own.Ar)(op:Own.Op)(ex:Int)(sv kv mv av:Value)(us:List Value)(w:World)(h:Own.Chg B w g o op ex sv kv mv av us)(hs:Own.Srt Own.Space.pre o.spaces)(hn:∀ y∈o.spaces,y.pre≠op.pre)(hl:o.spaces.length<=1000)(hml:op.members.length<=3000000)(hgB:g<B)(hB:B<=w.heap.size):
 Calls Tryz.prog 109 #[.pointer (some ⟨g,0,none⟩)] w fun e w' => e=.returned (.tuple #[])/\Own.U4 B g w w' o.count op ex mv av (Own.Dw Own.Space.pre (Own.AY op) o.spaces) o.keys:=by
 obtain⟨S',hS'⟩:∃ S',S' = Own.Dw Own.Space.pre (Own.AY op) o.spaces:=⟨_,rfl⟩
 obtain⟨Q,hQ⟩:∃ Q,Q=fun w' => Own.U4 B g w w' o.count op ex mv av S' o.keys:=⟨_,rfl⟩
 have hins:=Own.tC (f:=Own.Space.pre) (l:=o.spaces) (Own.AY op) hn
 rw[<- hS'] at hins ⊢
 have hQ2:∀ w',Own.U4 B g w w' o.count op ex mv av S' o.keys=Q w':=fun w' => by rw[hQ]
 simp only[hQ2]
 have hit:=Own.kI (f:=Own.Space.pre) (t:=op.pre) (l:=o.spaces) hn
 obtain⟨i,hi⟩:∃ i,i=Own.posB Own.Space.pre op.pre o.spaces:=⟨_,rfl⟩
 have hin:i<=o.spaces.length:=by rw[hi];exact Own.Ol _ _
 have zy:S' = o.spaces.take i++Own.AY op::o.spaces.drop i:=by rw[hins,hi];rfl
 have hbs:=fun W (hW:Below w.heap.size w W)=>YH sv o.spaces op.pre W (h.spaces.below hW) hs (by omega)
 rw[<- hi,hit] at hbs
 obtain⟨sa,sc,hsv⟩:=h.sp.slice
 subst hsv
 obtain⟨ka,kn,kc,hkv⟩:=Ad h.ks
 subst hkv
 obtain rfl:=Bf h.ks
 obtain⟨ma,mc,hmv⟩:=h.ms.len
 subst hmv
 have hgl:=h.at_.lt
 have H:=zh h;have HBS:=zh hbs;have HQ:=zh hQ;have wP:=zh zy
 clear h hs hn hbs hQ hQ2 hins zy hit hi hS'
 go_enter Tryz.func109,Tryz.ntmps109
 have c0:=H.out.at_.cell 0;have c1:=H.out.at_.cell 1;have c2:=H.out.at_.cell 2;have c3:=H.out.at_.cell 3;have c4:=H.out.at_.cell 4;have c5:=H.out.at_.cell 5;have c6:=H.out.at_.cell 6;have c7:=H.out.at_.cell 7;have c8:=H.out.at_.cell 8;have c9:=H.out.at_.cell 9;have c10:=H.out.at_.cell 10
 simp only[Own.Em,List.getElem?_toArray,List.getElem?_cons_zero,List.getElem?_cons_succ] at c0 c1 c2 c3 c4 c5 c6 c7 c8 c9 c10
 go_wp2_with fail
 refine Lex.zl ?_
 go_wp2_with fail
 refine(HBS.out _ ((Below.refl w.heap.size w).drew)).mono ?_
 rintro e w2 ⟨rfl,hb2⟩
 have B2:=zh (show Below w.heap.size w w2 from(Below.refl w.heap.size w).drew.trans hb2)
 have H2:=zh (H.out.below B2.out)
 clear hb2
 clear c0 c1 c2 c3 c4 c5 c6 c7 c8 c9 c10
 go_wp2_with fail
 refine Lex.ze ?_
 go_upto_region 1 with fail
 have c0:=H2.out.at_.cell 0;have c1:=H2.out.at_.cell 1;have c2:=H2.out.at_.cell 2;have c3:=H2.out.at_.cell 3;have c4:=H2.out.at_.cell 4;have c5:=H2.out.at_.cell 5;have c6:=H2.out.at_.cell 6;have c7:=H2.out.at_.cell 7;have c8:=H2.out.at_.cell 8;have c9:=H2.out.at_.cell 9;have c10:=H2.out.at_.cell 10
 simp only[Own.Em,List.getElem?_toArray,List.getElem?_cons_zero,List.getElem?_cons_succ] at c0 c1 c2 c3 c4 c5 c6 c7 c8 c9 c10
 have zeq:g<w2.heap.size:=Nat.lt_of_lt_of_le hgl B2.out.size
 have Y1:=zh (zi c1)
 have hz2:=B2.out.size
 refine Lex.zm (fun k=>k=g) [5] 10 [9] ?_
 simp only[Lex.Br,zd]
 have HCS:=zh (Ld g o.count ex (.slice sa o.spaces.length sc) (.slice ka o.keys.length kc) (.slice ma op.members.length mc) av op w2.drew (H2.out.at_.drew) (H2.out.Ih.below (Below.refl w2.heap.size w2).drew) hml)
 go_wp2_with fail
 refine HCS.out.mono ?_
 rintro e w3 ⟨v',rfl,hov,hb3⟩
 rw[Fb] at hov
 have B3:=zh (show Below w2.heap.size w2 w3 from(Below.refl w2.heap.size w2).drew.trans hb3)
 obtain⟨va,vm,vc,rfl⟩:=Ad hov
 have H3:=zh (H2.out.below B3.out);have HOV:=zh hov
 clear hov hb3 HCS
 clear c0 c1 c2 c3 c4 c5 c6 c7 c8 c9 c10
 go_wp2_with fail
 refine Lex.Mid.intro (fun j hj hjl=>by rw[hj];exact B3.out.block _ zeq) ?_
 have hb4:Below w3.heap.size w3 (w3.alloc (.cells #[.string op.pre,.slice va vm vc,.int .i64 op.threshold] 39)):=zb
 have Vh:=At.new w3 39 #[.string op.pre,.slice va vm vc,.int .i64 op.threshold]
 have B4:=zh (B3.out.trans (hb4.mono B3.out.size));have H4:=zh (H3.out.below hb4);have za8:=zh (own_below HOV.out hb4);have NA:=zh Vh
 have hvb:(Value.slice sa o.spaces.length sc).ownBlock≠some w3.heap.size:=fun e=>by have:=Own.FI H3.out.sp.row _ e;omega
 have zcZ:B<=(w3.alloc (.cells #[.string op.pre,.slice va vm vc,.int .i64 op.threshold] 39)).heap.size:=by rw[World.size_alloc];have:=B3.out.size;omega
 have z8:=zh (Vo B o.spaces.length i w3.heap.size (.slice sa o.spaces.length sc) (Own.AO o.spaces us) [.string op.pre,.slice va vm vc,.int .i64 op.threshold] _ H4.out.sp.row (Own.zx H4.out.sp) hin (by omega) rfl Vh (by intro u hu;simp at hu;rcases hu with rfl|rfl|rfl<;>rfl) hvb zcZ)
 clear hb4 Vh hvb zcZ B3 H3 HOV
 go_wp2_with fail
 refine z8.out.mono ?_
 generalize w3.alloc (.cells #[.string op.pre,.slice va vm vc,.int .i64 op.threshold] 39)=w4 at*
 rintro e w5 ⟨v5,rfl,ho5,hg5,_⟩
 obtain⟨wa,wm,wc,rfl⟩:=Ad ho5
 have uy:=H4.out.at_.own_ne H4.out.sp.row (by decide)
 have uz:g<w4.heap.size:=H4.out.at_.lt
 have EI:At w5 g 87 (Own.Em o.count (.slice sa o.spaces.length sc) (.slice ka o.keys.length kc) op (.slice ma op.members.length mc) av ex):=(hg5.block g uz (fun e=>uy e.symm)).trans H4.out.at_
 have AT5:=zh EI;have HO5:=zh ho5;have HG5:=zh hg5
 clear ho5 hg5 EI z8 uy NA
 have c0:=AT5.out.cell 0;have c1:=AT5.out.cell 1;have c2:=AT5.out.cell 2;have c3:=AT5.out.cell 3;have c4:=AT5.out.cell 4;have c5:=AT5.out.cell 5;have c6:=AT5.out.cell 6;have c7:=AT5.out.cell 7;have c8:=AT5.out.cell 8;have c9:=AT5.out.cell 9;have c10:=AT5.out.cell 10
 simp only[Own.Em,List.getElem?_toArray,List.getElem?_cons_zero,List.getElem?_cons_succ] at c0 c1 c2 c3 c4 c5 c6 c7 c8 c9 c10
 have z1:=AT5.out.free 1
 go_wp2_with fail
 refine Lex.zk ⟨⟨rfl,Y1.out⟩,trivial⟩ ?_
 go_wp2_with fail
 (try go_end0)
 have oh:∀ k,k<w4.heap.size->(Value.slice sa o.spaces.length sc).ownBlock≠some k->w5.heap[k]? = w4.heap[k]? :=fun k hk e=>HG5.out.block k hk (fun e2=>e e2.symm)
 have zda:w5.ownsRow (w2.heap.size+1) 76 2 (.slice va vm vc) op.members.length (op.members.flatMap Own.CU):=Af za8.out (fun k e=>oh k (Own.FI za8.out k e) (fun e2=>Iz za8.out H4.out.sp.row (by decide) k e e2))
 have iQ:w5.ownsRow B 59 2 (.slice ka o.keys.length kc) o.keys.length (o.keys.flatMap Own.DL):=Af H4.out.ks (fun k e=>oh k (Own.FI H4.out.ks k e) (fun e2=>Iz H4.out.ks H4.out.sp.row (by decide) k e e2))
 have nL:=H4.out.sp.ins (x:=Own.AY op) (i:=i) (u:=.slice va vm vc) (w':=w5) (v':=.slice wa wm wc) hin HO5.out oh (F:=fun k=>B<=k) (fun _ h=>h) (fun k e=>Al HO5.out k e) (Cy (enc:=Own.CU) (fun _=>rfl) (fun _=>rfl) (Bh.own zda) rfl (fun k hk=>by have:=Al zda k hk;omega))
 have far:∀ k,B<=k->(w5.setCell ⟨g,1,none⟩ (.slice wa wm wc)).heap[k]? = w5.heap[k]? :=fun k hk=>zo (by show k≠g;omega)
 refine⟨rfl,?_⟩
 rw[HQ.out,wP.out]
 refine⟨⟨_,_,AT5.out.set 1 _,?_,?_⟩,?_⟩
 ·exact nL.keep (by simp[World.setCell]) (fun k hk _=>far k hk)
 ·exact Cy (enc:=Own.DL) (fun _=>rfl) (fun _=>rfl) (Bh.own (Af iQ (fun k e=>far k (Al iQ k e)))) rfl (fun k hk=>Al iQ k hk)
 ·have f1:Fr (fun k=>k=g\/B<=k) w w4:=Fr.of_below (B2.out.trans (B4.out.mono B2.out.size))
  exact(f1.grown HG5.out (fun k e=>.inl (.inr (Al H4.out.sp.row k e)))).setCell (p:=⟨g,1,none⟩) (.inl (.inl rfl)) _
namespace Own
def ET (o:Ar)(op:Op):Except Int (List Space × List KeyUse):=match Gb o.spaces op with
 | .error c=>.error c
 | .ok (s,l) => match AX s (Bc o op).1 o.keys op.Aa with
   | .error c=>.error c
   | .ok K=>.ok (l,K)
structure MIn (B g:Nat) (o:Ar) (op:Op) (ex:Int) (sv kv mv av:Value) (us:List Value) (w:World):Prop where
 c:Chg B w g o op ex sv kv mv av us
 M:IY w
 A:I4 w av op.Aa
 ok:TF o
 opk:Ez op=true
 ix:Idx (fun s=>decide (s.pre=op.pre)) o.spaces ex
 lk:o.keys.length<=800000
 al:∀ a∈op.Aa,a.name.size<=140737488355328/\a.sig.chains.length<=140737488355328/\a.sig.path.length<=140737488355328
def DT (w:World)(g:Nat)(cnt:Int)(op:Op)(ex:Int)(mv av:Value)(R:Except Int (List Space × List KeyUse))(e:Ending)(w' : World):Prop:=match R with
 | .error c=>e=.returned (.int .i64 c)/\c≠0/\Fr (fun k=>k=g) w w'
 | .ok p=>e=.returned (.int .i64 0)/\(∃ sv kv,At w' g 87 (Em cnt sv kv op mv av ex)/\Au 3 Fw (fun k=>w.heap.size<=k) w' sv p.1/\Au 2 gL (fun k=>w.heap.size<=k) w' kv p.2)/\Fr (fun k=>k=g) w w'
theorem Gd {s:Space}{msg:ByteArray}{K:List KeyUse}{l:List Aj}{c:Int}(h:AX s msg K l=.error c):c≠0:=by
 unfold AX at h
 split at h
 ·rename_i c' he
  cases h
  exact Lb s msg l _ _ c he
 ·split at h
  ·cases h;decide
  ·cases h
section
variable {B g:Nat} {o:Ar} {op:Op} {ex:Int} {sv kv mv av:Value} {us:List Value} {w w' : World}
theorem MIn.below (h:MIn B g o op ex sv kv mv av us w)(hb:Below w.heap.size w w'):MIn B g o op ex sv kv mv av us w':=⟨h.c.below hb,h.M.below hb,h.A.below hb,h.ok,h.opk,h.ix,h.lk,h.al⟩
theorem MIn.app (h:MIn B g o op ex sv kv mv av us w)(s:Space)(smv:Value)(hm:Ag w smv s.members)(hl:s.members.length<=3000000):
 Calls Tryz.prog 107 #[.pointer (some ⟨g,0,none⟩),.agg #[.string s.pre,smv,.int .i64 s.threshold]] w (Y4 w g o op ex mv av (AX s (Bc o op).1 o.keys op.Aa)):=by
 have hz:=LU.of h.opk
 exact Uu B g o op ex s sv kv mv av smv us w h.M h.c h.A hm h.ok.zaf (by have:=h.ok.len;omega) (by have:=h.lk;have:=hz.al;omega) (fun x hx=>by have:=(Dp (h.ok.sp x hx)).l8;omega) hl (by have:=hz.ml;omega) h.al
theorem MIn.insert {K:List KeyUse}{w0:World}{sv4 kv4:Value}{us4:List Value}(h:MIn B g o op ex sv kv mv av us w0)(hc:Chg w0.heap.size w g ⟨o.count,o.spaces,K⟩ op ex sv4 kv4 mv av us4)(hf:Fr (fun k=>k=g) w0 w)(hn:∀ y∈o.spaces,y.pre≠op.pre)(hg:g<w0.heap.size):
 Calls Tryz.prog 109 #[.pointer (some ⟨g,0,none⟩)] w fun e w' => e=.returned (.tuple #[])/\U4 w0.heap.size g w w' o.count op ex mv av (Dw Space.pre (AY op) o.spaces) K:=by
 have hz:=LU.of h.opk
 exact YI w0.heap.size g ⟨o.count,o.spaces,K⟩ op ex sv4 kv4 mv av us4 w hc h.ok.ni hn (by have:=h.ok.len;show o.spaces.length<=1000;omega) (by have:=hz.ml;omega) hg hf.size
theorem u7 {w3 w4 w5:World}{cnt:Int}{S:List Space}{K:List KeyUse}(hb:Below w.heap.size w w3)(hf:Fr (fun k=>k=g) w3 w4)(hd:U4 w3.heap.size g w4 w5 cnt op ex mv av S K):
 (∃ sv kv,At w5 g 87 (Em cnt sv kv op mv av ex)/\Au 3 Fw (fun k=>w.heap.size<=k) w5 sv S/\Au 2 gL (fun k=>w.heap.size<=k) w5 kv K)/\Fr (fun k=>k=g) w w5:=by
 obtain⟨⟨sv,kv,h1,h2,h3⟩,h4⟩:=hd
 have hz:=hb.size
 refine⟨⟨sv,kv,h1,h2.mono (fun k hk _=>by omega),h3.mono (fun k hk _=>by omega)⟩,?_⟩
 have f1:Fr (fun k=>k=g) w w3:=Fr.of_below hb
 have f2:Fr (fun k=>k=g) w w4:=f1.trans hf (fun k hk=>.inl hk)
 exact f2.trans h4 (fun k hk=>by
  rcases hk with hk|hk
  ·exact .inl hk
  ·exact .inr (by omega))
end
end Own
theorem bX (B g:Nat)(o:Own.Ar)(op:Own.Op)(ex:Int)(sv kv mv av:Value)(us:List Value)(w:World)(h:Own.MIn B g o op ex sv kv mv av us w)(hk:op.kind=0):
 Calls Tryz.prog 53 #[.pointer (some ⟨g,0,none⟩)] w (Own.DT w g o.count op ex mv av (Own.ET o op)):=by
 obtain⟨R,hR⟩:∃ R,R=Own.ET o op:=⟨_,rfl⟩
 obtain⟨Q,hQ⟩:∃ Q,Q=Own.DT w g o.count op ex mv av R:=⟨_,rfl⟩
 rw[<- hR,<- hQ]
 obtain⟨sa,sc,hsv⟩:=h.c.sp.slice
 subst hsv
 obtain⟨ka,kn,kc,hkv⟩:=Ad h.c.ks
 subst hkv
 obtain rfl:=Bf h.c.ks
 obtain⟨ma,mc,hmv⟩:=h.c.ms.len
 subst hmv
 obtain⟨aa,ac,hav,_⟩:=id h.A
 subst hav
 have hgl:=h.c.at_.lt
 have hln:=h.ok.len
 unfold Own.ET at hR
 have H:=zh h;have HR:=zh hR;have HQ:=zh hQ
 clear h hR hQ
 have hau:=fun W (hW:Below w.heap.size w W)=>Gp o op.pre (.slice sa o.spaces.length sc) (.slice ka o.keys.length kc) W (H.out.c.spaces.below hW) hln (fun x hx=>by
  have:=H.out.ok.sp x hx
  unfold Own.Bb Own.BL at this
  simp only[Bool.and_eq_true,decide_eq_true_eq] at this
  exact this.1.1.1.1.2)
 have HAU:=zh hau;clear hau
 have hr:=HR.out
 unfold Own.Gb at hr
 rw[if_pos hk] at hr
 have HR2:=zh hr
 clear hr HR hk
 go_enter Tryz.func53,Tryz.ntmps53
 have c0:=H.out.c.at_.cell 0;have c1:=H.out.c.at_.cell 1;have c2:=H.out.c.at_.cell 2;have c3:=H.out.c.at_.cell 3;have c4:=H.out.c.at_.cell 4;have c5:=H.out.c.at_.cell 5;have c6:=H.out.c.at_.cell 6;have c7:=H.out.c.at_.cell 7;have c8:=H.out.c.at_.cell 8;have c9:=H.out.c.at_.cell 9;have c10:=H.out.c.at_.cell 10
 simp only[Own.Em,List.getElem?_toArray,List.getElem?_cons_zero,List.getElem?_cons_succ] at c0 c1 c2 c3 c4 c5 c6 c7 c8 c9 c10
 go_wp2_with fail
 refine Lex.zl ?_
 go_wp2_with fail
 refine(HAU.out _ ((Below.refl w.heap.size w).drew)).mono ?_
 rintro e w2 ⟨⟨i,rfl,kR⟩,hb2⟩
 have B2:=zh (show Below w.heap.size w w2 from(Below.refl w.heap.size w).drew.trans hb2)
 have H2:=zh (H.out.below B2.out)
 clear hb2
 clear c0 c1 c2 c3 c4 c5 c6 c7 c8 c9 c10
 have c0:=H2.out.c.at_.cell 0;have c1:=H2.out.c.at_.cell 1;have c2:=H2.out.c.at_.cell 2;have c3:=H2.out.c.at_.cell 3;have c4:=H2.out.c.at_.cell 4;have c5:=H2.out.c.at_.cell 5;have c6:=H2.out.c.at_.cell 6;have c7:=H2.out.c.at_.cell 7;have c8:=H2.out.c.at_.cell 8;have c9:=H2.out.c.at_.cell 9;have c10:=H2.out.c.at_.cell 10
 simp only[Own.Em,List.getElem?_toArray,List.getElem?_cons_zero,List.getElem?_cons_succ] at c0 c1 c2 c3 c4 c5 c6 c7 c8 c9 c10
 rcases kR with ⟨rfl,hbn⟩|⟨j,rfl,hj,hbs⟩
 case inr=>
  have HE:=zh (show R=.error 5 by rw[HR2.out,hbs])
  have dj:decide ((0:Int)<=(j:Int))=true:=zt
  clear hbs HR2
  go_wp2_with fail
  refine Lex.ze ?_
  go_wp2_with fail
  (try go_ret)
  rw[HQ.out,HE.out]
  exact⟨rfl,by decide,Fr.of_below B2.out⟩
 have hr:=HR2.out
 rw[hbn] at hr
 have hno:=Own.bB hbn
 have HNO:=zh hno
 clear hbn hno HR2
 by_cases h64:o.spaces.length=64
 ·have d64:((o.spaces.length:Int)==64)=true:=by rw[beq_iff_eq];omega
  have HE:=zh (show R=.error 7 by rw[hr];simp only[if_pos h64])
  clear hr h64
  go_wp2_with fail
  refine Lex.ze ?_
  go_wp2_with fail
  (try go_ret)
  rw[HQ.out,HE.out]
  exact⟨rfl,by decide,Fr.of_below B2.out⟩
 have d64:((o.spaces.length:Int)==64)=false:=by rw[beq_eq_false_iff_ne];omega
 have HE0:=zh (show R=match Own.AX (Own.AY op) (Own.Bc o op).1 o.keys op.Aa with
  | .error c=>.error c
  | .ok K=>.ok (Own.Dw Own.Space.pre (Own.AY op) o.spaces,K) by rw[hr];simp only[if_neg h64])
 clear hr h64
 have hmz:=(Own.LU.of H.out.opk).ml
 have HCS:=zh (Ld g o.count ex (.slice sa o.spaces.length sc) (.slice ka o.keys.length kc) (.slice ma op.members.length mc) (.slice aa op.Aa.length ac) op w2 H2.out.c.at_ H2.out.c.Ih (by omega))
 go_wp2_with fail
 refine Lex.ze ?_
 go_wp2_with fail
 refine HCS.out.mono ?_
 rintro e w3 ⟨v',rfl,hov,hb3⟩
 obtain⟨va,vm,vc,rfl⟩:=Ad hov
 have B3:=zh (B2.out.trans (hb3.mono B2.out.size));have H3:=zh (H2.out.below hb3)
 have HAP:=zh (H3.out.app (Own.AY op) (.slice va vm vc) (Own.Ag.of (Bh.own hov) rfl) (by show op.members.length<=_;omega))
 clear hov hb3 HCS
 clear c0 c1 c2 c3 c4 c5 c6 c7 c8 c9 c10
 go_wp2_with fail
 refine HAP.out.mono ?_
 intro e w4 hpost
 cases hap:Own.AX (Own.AY op) (Own.Bc o op).1 o.keys op.Aa with
 | error c =>
   rw[hap] at hpost
   obtain⟨rfl,hb4⟩:=hpost
   have hc:=Own.Gd hap
   have HE:=zh (show R=.error c by rw[HE0.out,hap])
   have dz:(c==(0:Int))=false:=by rw[beq_eq_false_iff_ne];exact hc
   have HC:=zh hc;have B4:=zh (B3.out.trans (hb4.mono B3.out.size))
   clear hap hc hb4 HE0
   go_wp2_with fail
   (try go_ret)
   rw[HQ.out,HE.out]
   exact⟨rfl,HC.out,Fr.of_below B4.out⟩
 | ok L =>
   rw[hap] at hpost
   obtain⟨rfl,⟨sv4,kv4,us4,hc4⟩,hf4⟩:=hpost
   have HE:=zh (show R=.ok (Own.Dw Own.Space.pre (Own.AY op) o.spaces,L) by rw[HE0.out,hap])
   have HI:=zh (H3.out.insert hc4 hf4 HNO.out H3.out.c.at_.lt)
   have HF4:=zh hf4
   clear hap hc4 hf4 HE0 HAP
   go_wp2_with fail
   refine HI.out.mono ?_
   rintro e w5 ⟨rfl,hd⟩
   have HD:=zh hd
   clear hd HI
   go_wp2_with fail
   (try go_ret)
   rw[HQ.out,HE.out]
   exact⟨rfl,Own.u7 B3.out HF4.out HD.out⟩
theorem U5 (B g:Nat)(o:Own.Ar)(op:Own.Op)(ex:Int)(sv kv mv av:Value)(us:List Value)(w:World)(h:Own.MIn B g o op ex sv kv mv av us w)(hk:op.kind=2):
 Calls Tryz.prog 55 #[.pointer (some ⟨g,0,none⟩)] w (Own.DT w g o.count op ex mv av (Own.ET o op)):=by
 obtain⟨R,hR⟩:∃ R,R=Own.ET o op:=⟨_,rfl⟩
 obtain⟨Q,hQ⟩:∃ Q,Q=Own.DT w g o.count op ex mv av R:=⟨_,rfl⟩
 rw[<- hR,<- hQ]
 obtain⟨sa,sc,hsv⟩:=h.c.sp.slice
 subst hsv
 obtain⟨ka,kn,kc,hkv⟩:=Ad h.c.ks
 subst hkv
 obtain rfl:=Bf h.c.ks
 obtain⟨ma,mc,hmv⟩:=h.c.ms.len
 subst hmv
 obtain⟨aa,ac,hav,_⟩:=id h.A
 subst hav
 have hgl:=h.c.at_.lt
 have hln:=h.ok.len
 unfold Own.ET at hR
 have H:=zh h;have HR:=zh hR;have HQ:=zh hQ
 clear h hR hQ
 have hau:=fun W (hW:Below w.heap.size w W)=>Gp o op.pre (.slice sa o.spaces.length sc) (.slice ka o.keys.length kc) W (H.out.c.spaces.below hW) hln (fun x hx=>by
  have:=H.out.ok.sp x hx
  unfold Own.Bb Own.BL at this
  simp only[Bool.and_eq_true,decide_eq_true_eq] at this
  exact this.1.1.1.1.2)
 have HAU:=zh hau;clear hau
 have hr:=HR.out
 unfold Own.Gb Own.Ic at hr
 rw[if_neg (show ¬ op.kind=0 by omega),if_neg (show ¬ op.kind=1 by omega),if_pos hk] at hr
 have HR2:=zh hr
 clear hr HR hk
 go_enter Tryz.func55,Tryz.ntmps55
 have c0:=H.out.c.at_.cell 0;have c1:=H.out.c.at_.cell 1;have c2:=H.out.c.at_.cell 2;have c3:=H.out.c.at_.cell 3;have c4:=H.out.c.at_.cell 4;have c5:=H.out.c.at_.cell 5;have c6:=H.out.c.at_.cell 6;have c7:=H.out.c.at_.cell 7;have c8:=H.out.c.at_.cell 8;have c9:=H.out.c.at_.cell 9;have c10:=H.out.c.at_.cell 10
 simp only[Own.Em,List.getElem?_toArray,List.getElem?_cons_zero,List.getElem?_cons_succ] at c0 c1 c2 c3 c4 c5 c6 c7 c8 c9 c10
 go_wp2_with fail
 refine Lex.zl ?_
 go_wp2_with fail
 refine(HAU.out _ ((Below.refl w.heap.size w).drew)).mono ?_
 rintro e w2 ⟨⟨i,rfl,kR⟩,hb2⟩
 have B2:=zh (show Below w.heap.size w w2 from(Below.refl w.heap.size w).drew.trans hb2)
 have H2:=zh (H.out.below B2.out)
 clear hb2
 clear c0 c1 c2 c3 c4 c5 c6 c7 c8 c9 c10
 have c0:=H2.out.c.at_.cell 0;have c1:=H2.out.c.at_.cell 1;have c2:=H2.out.c.at_.cell 2;have c3:=H2.out.c.at_.cell 3;have c4:=H2.out.c.at_.cell 4;have c5:=H2.out.c.at_.cell 5;have c6:=H2.out.c.at_.cell 6;have c7:=H2.out.c.at_.cell 7;have c8:=H2.out.c.at_.cell 8;have c9:=H2.out.c.at_.cell 9;have c10:=H2.out.c.at_.cell 10
 simp only[Own.Em,List.getElem?_toArray,List.getElem?_cons_zero,List.getElem?_cons_succ] at c0 c1 c2 c3 c4 c5 c6 c7 c8 c9 c10
 have hix:=H2.out.ix
 rcases hix with ⟨hx,hxn,hxa⟩|⟨j,hj,hx,hxs,_,_⟩
 case inr=>
  have HE:=zh (show R=.error 5 by rw[HR2.out,hxs])
  have dj:decide ((0:Int)<=ex)=true:=zt
  clear hxs HR2 hx kR
  go_wp2_with fail
  refine Lex.ze ?_
  go_wp2_with fail
  (try go_ret)
  rw[HQ.out,HE.out]
  exact⟨rfl,by decide,Fr.of_below B2.out⟩
 have dj:decide ((0:Int)<=ex)=false:=zf
 have hno:∀ y∈o.spaces,y.pre≠op.pre:=fun y hy=>of_decide_eq_false (hxa y hy)
 have HNO:=zh hno
 have hr:=HR2.out
 rw[hxn] at hr
 clear hxn hxa hno hx HR2
 rcases kR with ⟨rfl,hbn⟩|⟨j,rfl,hj,hbs⟩
 case inl=>
  have HE:=zh (show R=.error 6 by rw[hr,hbn])
  clear hbn hr
  go_wp2_with fail
  refine Lex.ze ?_
  go_wp2_with fail
  (try go_ret)
  rw[HQ.out,HE.out]
  exact⟨rfl,by decide,Fr.of_below B2.out⟩
 have dn:decide ((j:Int)<0)=false:=zf
 rw[hbs] at hr
 by_cases h64:o.spaces.length=64
 ·have d64:((o.spaces.length:Int)==64)=true:=by rw[beq_iff_eq];omega
  have HE:=zh (show R=.error 7 by rw[hr];simp only[if_pos h64])
  clear hr h64 hbs
  go_wp2_with fail
  refine Lex.ze ?_
  go_wp2_with fail
  (try go_ret)
  rw[HQ.out,HE.out]
  exact⟨rfl,by decide,Fr.of_below B2.out⟩
 have d64:((o.spaces.length:Int)==64)=false:=by rw[beq_eq_false_iff_ne];omega
 have HE0:=zh (show R=match Own.AX o.spaces[j] (Own.Bc o op).1 o.keys op.Aa with
  | .error c=>.error c
  | .ok K=>.ok (Own.Dw Own.Space.pre (Own.AY op) o.spaces,K) by rw[hr];simp only[if_neg h64])
 clear hr h64 hbs
 obtain⟨b,q,mv2,ha,hbl,e0,e1,e2,hmv⟩:=Own.BH.cells H2.out.c.spaces hj
 subst ha
 have hmo:=(Own.Dp (H.out.ok.sp o.spaces[j] (List.getElem_mem hj))).l8
 obtain⟨ma2,mc2,rfl⟩:=hmv.len
 have HAP:=zh (H2.out.app o.spaces[j] _ hmv (by omega))
 obtain⟨S,hS⟩:∃ S,S=o.spaces[j]:=⟨_,rfl⟩
 simp only[<- hS] at e0 e1 e2 HAP HE0
 have B3:=B2
 clear hmv hS hmo
 go_wp2_with fail
 refine Lex.ze ?_
 go_wp2_with fail
 refine HAP.out.mono ?_
 clear c0 c1 c2 c3 c4 c5 c6 c7 c8 c9 c10
 clear e0 e1 e2
 intro e w4 hpost
 cases hap:Own.AX S (Own.Bc o op).1 o.keys op.Aa with
 | error c =>
   rw[hap] at hpost
   obtain⟨rfl,hb4⟩:=hpost
   have hc:=Own.Gd hap
   have HE:=zh (show R=.error c by rw[HE0.out,hap])
   have dz:(c==(0:Int))=false:=by rw[beq_eq_false_iff_ne];exact hc
   have HC:=zh hc;have B4:=zh (B3.out.trans (hb4.mono B3.out.size))
   clear hap hc hb4 HE0
   go_wp2_with fail
   (try go_ret)
   rw[HQ.out,HE.out]
   exact⟨rfl,HC.out,Fr.of_below B4.out⟩
 | ok L =>
   rw[hap] at hpost
   obtain⟨rfl,⟨sv4,kv4,us4,hc4⟩,hf4⟩:=hpost
   have HE:=zh (show R=.ok (Own.Dw Own.Space.pre (Own.AY op) o.spaces,L) by rw[HE0.out,hap])
   have HI:=zh (H2.out.insert hc4 hf4 HNO.out H2.out.c.at_.lt)
   have HF4:=zh hf4
   clear hap hc4 hf4 HE0 HAP
   go_wp2_with fail
   refine HI.out.mono ?_
   rintro e w5 ⟨rfl,hd⟩
   have HD:=zh hd
   clear hd HI
   go_wp2_with fail
   (try go_ret)
   rw[HQ.out,HE.out]
   exact⟨rfl,Own.u7 B3.out HF4.out HD.out⟩
end
section
open Go Go.RowKit Go.Maps
theorem bY (B g:Nat)(o:Own.Ar)(op:Own.Op)(ex:Int)(sv kv mv av:Value)(us:List Value)(w:World)(h:Own.MIn B g o op ex sv kv mv av us w)(hk:op.kind=1):
 Calls Tryz.prog 54 #[.pointer (some ⟨g,0,none⟩)] w (Own.DT w g o.count op ex mv av (Own.ET o op)):=by
 obtain⟨R,hR⟩:∃ R,R=Own.ET o op:=⟨_,rfl⟩
 obtain⟨Q,hQ⟩:∃ Q,Q=Own.DT w g o.count op ex mv av R:=⟨_,rfl⟩
 rw[<- hR,<- hQ]
 obtain⟨sa,sc,hsv⟩:=h.c.sp.slice
 subst hsv
 obtain⟨ka,kn,kc,hkv⟩:=Ad h.c.ks
 subst hkv
 obtain rfl:=Bf h.c.ks
 obtain⟨ma,mc,hmv⟩:=h.c.ms.len
 subst hmv
 obtain⟨aa,ac,hav,_⟩:=id h.A
 subst hav
 have hgl:=h.c.at_.lt
 have hln:=h.ok.len
 unfold Own.ET at hR
 have H:=zh h;have HR:=zh hR;have HQ:=zh hQ
 clear h hR hQ
 have hr:=HR.out
 unfold Own.Gb Own.Ic at hr
 rw[if_neg (show ¬ op.kind=0 by omega),if_pos hk] at hr
 have HR2:=zh hr
 clear hr HR hk
 go_enter Tryz.func54,Tryz.ntmps54
 have c0:=H.out.c.at_.cell 0;have c1:=H.out.c.at_.cell 1;have c2:=H.out.c.at_.cell 2;have c3:=H.out.c.at_.cell 3;have c4:=H.out.c.at_.cell 4;have c5:=H.out.c.at_.cell 5;have c6:=H.out.c.at_.cell 6;have c7:=H.out.c.at_.cell 7;have c8:=H.out.c.at_.cell 8;have c9:=H.out.c.at_.cell 9;have c10:=H.out.c.at_.cell 10
 simp only[Own.Em,List.getElem?_toArray,List.getElem?_cons_zero,List.getElem?_cons_succ] at c0 c1 c2 c3 c4 c5 c6 c7 c8 c9 c10
 have hix:=H.out.ix
 rcases hix with ⟨hx,hxn,_⟩|⟨j,hj,hx,hxs,hxp,_⟩
 case inl=>
  have HE:=zh (show R=.error 6 by rw[HR2.out,hxn])
  have dj:decide (ex<0)=true:=zt
  clear hxn HR2 hx
  go_wp2_with fail
  (try go_ret)
  rw[HQ.out,HE.out]
  exact⟨rfl,by decide,Fr.refl _ _⟩
 have dj:decide (ex<0)=false:=zf
 have hpre:o.spaces[j].pre=op.pre:=of_decide_eq_true hxp
 have HE0:=zh (show R=match Own.AX o.spaces[j] (Own.Bc o op).1 o.keys op.Aa with
  | .error c=>.error c
  | .ok K=>.ok (Own.Dw Own.Space.pre (Own.AY op) o.spaces,K) by rw[HR2.out,hxs]<;>rfl)
 have zer:=zh (Own.bg (f:=Own.Space.pre) H.out.ok.ni hj (Own.AY op) hpre.symm)
 have HX:=zh hx
 clear hxs hxp hpre HR2 hx
 obtain⟨b,q,mv2,ha,hbl,e0,e1,e2,hmv⟩:=Own.BH.cells H.out.c.spaces hj
 subst ha
 have hmo:=(Own.Dp (H.out.ok.sp o.spaces[j] (List.getElem_mem hj))).l8
 obtain⟨ma2,mc2,rfl⟩:=hmv.len
 have iR:=fun W (hW:Below w.heap.size w W)=>(H.out.below hW).app o.spaces[j] _ (hmv.below hW) (by omega)
 obtain⟨S,hS⟩:∃ S,S=o.spaces[j]:=⟨_,rfl⟩
 simp only[<- hS] at e0 e1 e2 iR HE0
 have HAP:=zh iR
 clear hmv hS hmo iR
 obtain rfl:ex=(j:Int):=HX.out
 clear HX
 go_wp2_with fail
 refine Lex.zl ?_
 go_wp2_with fail
 have B3:=zh ((Below.refl w.heap.size w).drew)
 refine(HAP.out _ B3.out).mono ?_
 clear c0 c1 c2 c3 c4 c5 c6 c7 c8 c9 c10
 clear e0 e1 e2
 intro e w4 hpost
 cases hap:Own.AX S (Own.Bc o op).1 o.keys op.Aa with
 | error c =>
   rw[hap] at hpost
   obtain⟨rfl,hb4⟩:=hpost
   have hc:=Own.Gd hap
   have HE:=zh (show R=.error c by rw[HE0.out,hap])
   have dz:(c==(0:Int))=false:=by rw[beq_eq_false_iff_ne];exact hc
   have HC:=zh hc;have B4:=zh (B3.out.trans (hb4.mono B3.out.size))
   clear hap hc hb4 HE0
   go_wp2_with fail
   refine Lex.ze ?_
   go_wp2_with fail
   (try go_ret)
   rw[HQ.out,HE.out]
   exact⟨rfl,HC.out,Fr.of_below B4.out⟩
 | ok L =>
   rw[hap] at hpost
   obtain⟨rfl,⟨sv4,kv4,us4,hc4⟩,hf4⟩:=hpost
   have HE:=zh (show R=.ok (o.spaces.set j (Own.AY op),L) by rw[HE0.out,hap,<- zer.out])
   have hc4:Own.Chg w.heap.size w4 g ⟨o.count,o.spaces,L⟩ op (j:Int) sv4 kv4 (.slice ma op.members.length mc) (.slice aa op.Aa.length ac) us4:=hc4
   have hf4:Fr (fun k=>k=g) w w4:=(show Fr (fun k=>k=g) w w.drew from Fr.of_below B3.out).trans hf4 (fun _ h=>.inl h)
   have hoc:=H.out.c.at_
   obtain⟨g4,cap4,hv4,YK⟩:=CB hc4.sp.row (show 0<o.spaces.length by omega)
   obtain⟨sa4,sc4,xC⟩:=hc4.sp.slice
   rw[hv4] at xC
   subst hv4
   obtain⟨ka4,kn4,kc4,uD⟩:=Ad hc4.ks
   subst uD
   have HC4:=zh hc4;have HF4:=zh hf4
   clear hap HE0 HAP xC hoc
   have uz:g<w4.heap.size:=HC4.out.at_.lt
   go_wp2_with fail
   refine Lex.ze ?_
   have c0:=HC4.out.at_.cell 0;have c1:=HC4.out.at_.cell 1;have c2:=HC4.out.at_.cell 2;have c3:=HC4.out.at_.cell 3;have c4:=HC4.out.at_.cell 4;have c5:=HC4.out.at_.cell 5;have c6:=HC4.out.at_.cell 6;have c7:=HC4.out.at_.cell 7;have c8:=HC4.out.at_.cell 8;have c9:=HC4.out.at_.cell 9;have c10:=HC4.out.at_.cell 10
   simp only[Own.Em,List.getElem?_toArray,List.getElem?_cons_zero,List.getElem?_cons_succ] at c0 c1 c2 c3 c4 c5 c6 c7 c8 c9 c10
   have Y1:=zh (zi c1)
   have Y10:=zh (zi c10)
   have hmz:=(Own.LU.of H.out.opk).ml
   have HCS:=zh (Ld g o.count (j:Int) _ _ _ _ op w4.drew (HC4.out.at_.drew) (HC4.out.Ih.below (Below.refl w4.heap.size w4).drew) (by omega))
   clear YK hc4 hf4
   go_wp2_with fail
   refine Lex.zn (fun k=>k=g) [4,8] 11 [11] ?_
   simp only[Lex.Br,zd]
   go_wp2_with fail
   refine HCS.out.mono ?_
   rintro e w5 ⟨v',rfl,hov,hb5⟩
   rw[Fb] at hov
   have B5:=zh (show Below w4.heap.size w4 w5 from(Below.refl w4.heap.size w4).drew.trans hb5)
   obtain⟨va,vm,vc,rfl⟩:=Ad hov
   have HC5:=zh (HC4.out.below B5.out);have HOV:=zh hov
   clear hov hb5 HCS
   clear c0 c1 c2 c3 c4 c5 c6 c7 c8 c9 c10
   go_wp2_with fail
   refine Lex.Mid.intro (fun k hk hkl=>by rw[hk];exact B5.out.block _ uz) ?_
   obtain⟨ys,q1,_,_,_,_,hxl⟩:=GK HC5.out.sp.row
   have hget:=Own.J6 o.spaces us4 j hj (by rw[HC5.out.sp.len];exact hj)
   have gl:∀ c,c<3->w5.cell? ⟨g4,j*3+c,none⟩=(Own.encS o.spaces[j] (us4[j]'(by rw[HC5.out.sp.len];exact hj)))[c]? :=fun c hc=>by
    have e1:=q1.cell (j*3+c)
    have hlen:=Own.J5 o.spaces us4 HC5.out.sp.len
    rw[e1,List.getElem?_toArray,List.getElem?_append_left (by rw[hlen];omega),hget c hc]
   have y0:=gl 0 (by omega);have y1:=gl 1 (by omega);have y2:=gl 2 (by omega)
   simp only[Own.encS,List.getElem?_cons_zero,List.getElem?_cons_succ,Nat.add_zero] at y0 y1 y2
   have x0:=q1.free (j*3);have x1:=q1.free (j*3+1);have x2:=q1.free (j*3+2)
   have HGL:=zh q1
   clear gl hget q1 hxl
   go_wp2_with fail
   refine Lex.zk ⟨⟨rfl,Y1.out⟩,⟨rfl,Y10.out⟩,trivial⟩ ?_
   go_wp2_with fail
   (try go_ret)
   have hne:g≠g4:=HC5.out.at_.ne HGL.out (by decide)
   have hz4:=HF4.out.size;have hz5:=B5.out.size
   have far:∀ k,k≠g4->(Own.Vw w5 g4 j (Own.AY op) (.slice va vm vc)).heap[k]? = w5.heap[k]? :=fun k hk=>Own.Uo _ _ _ _ _ hk
   have hm5:Au 2 Own.Eh (fun k=>w.heap.size<=k/\k≠g4) w5 (.slice va vm vc) op.members:=
    Cy (enc:=Own.CU) (fun _=>rfl) (fun _=>rfl) (Bh.own HOV.out) rfl (fun k hk=>⟨by have:=Al HOV.out k hk;omega,fun e=>HGL.out.own_ne HOV.out (by decide) (by rw[hk,e])⟩)
   have hsp:=HC5.out.sp.put hj (Own.AY op) (.slice va vm vc) (F:=fun k=>w.heap.size<=k) (fun _ h=>h) hm5
   have hks:=Af (w':=Own.Vw w5 g4 j (Own.AY op) (.slice va vm vc)) HC5.out.ks (fun k e=>far k (fun e2=>HGL.out.own_ne HC5.out.ks (by decide) (by rw[e,e2])))
   rw[HQ.out,HE.out]
   refine⟨rfl,⟨_,_,(show At (Own.Vw w5 g4 j (Own.AY op) (.slice va vm vc)) g 87 _ from(far g hne).trans HC5.out.at_),hsp,?_⟩,?_⟩
   ·exact Cy (enc:=Own.DL) (fun _=>rfl) (fun _=>rfl) (Bh.own hks) rfl (fun k hk=>Al hks k hk)
   ·have hg4:w.heap.size<=g4:=Al HC5.out.sp.row g4 rfl
    have f5:Fr (fun k=>k=g) w w5:=HF4.out.trans (Fr.of_below (F:=fun _=>False) B5.out) (fun _ h=>absurd h id)
    exact((f5.setCell (p:=⟨g4,j*3,none⟩) (.inr hg4) _).setCell (p:=⟨g4,j*3+1,none⟩) (.inr hg4) _).setCell (p:=⟨g4,j*3+2,none⟩) (.inr hg4) _
theorem Vy (x:Own.Member)(bm bc g:Nat)(mn pub:ByteArray)(w:World)(hm:w.cell? ⟨bm,0,none⟩=some (.string mn))(hc:w.cell? ⟨bc,0,none⟩=some (.pointer (some ⟨g,0,none⟩)))(hp:w.cell? ⟨g,8,none⟩=some (.string pub)):
 Calls Tryz.prog 112 (#[.agg #[.string x.name,.string x.pub]]++#[.pointer (some ⟨bm,0,none⟩),.pointer (some ⟨bc,0,none⟩)]) w fun e w' => e=.returned (.bool (!decide (x.name=mn)&&decide (x.pub=pub)))/\Below w.heap.size w w':=by
 obtain⟨R,hR⟩:∃ R,R=(!decide (x.name=mn)&&decide (x.pub=pub)):=⟨_,rfl⟩
 rw[<- hR]
 have hb1:Below w.heap.size w (w.alloc (.cells #[.string x.name,.string x.pub] 76)):=zb
 have qm:=(hb1.cell (p:=⟨bm,0,none⟩) (block_lt hm)).trans hm
 have qc:=(hb1.cell (p:=⟨bc,0,none⟩) (block_lt hc)).trans hc
 have qp:=(hb1.cell (p:=⟨g,8,none⟩) (block_lt hp)).trans hp
 have HB:=zh hb1
 clear hb1 hm hc hp
 show Calls Tryz.prog 112 #[.agg #[.string x.name,.string x.pub],.pointer (some ⟨bm,0,none⟩),.pointer (some ⟨bc,0,none⟩)] w _
 by_cases hn:x.name=mn
 ·have q1:(x.name.toList==mn.toList)=true:=by rw[bytes_beq];exact decide_eq_true hn
  have HE:=zh (show R=false by rw[hR,decide_eq_true hn];rfl)
  clear hn hR
  go_enter Tryz.func112,Tryz.ntmps112
  go_wp2_with fail
  refine Lex.zl ?_
  go_wp2_with fail
  refine Lex.ze ?_
  go_wp2_with fail
  go_ret
  exact⟨by rw[HE.out];rfl,HB.out.drew⟩
 have q1:(x.name.toList==mn.toList)=false:=by rw[bytes_beq];exact decide_eq_false hn
 by_cases hp2:x.pub=pub
 ·have q2:(x.pub.toList==pub.toList)=true:=by rw[bytes_beq];exact decide_eq_true hp2
  have HE:=zh (show R=true by rw[hR,decide_eq_false hn,decide_eq_true hp2];rfl)
  clear hn hR hp2
  go_enter Tryz.func112,Tryz.ntmps112
  go_wp2_with fail
  refine Lex.zl ?_
  go_wp2_with fail
  refine Lex.ze ?_
  go_wp2_with fail
  go_ret
  exact⟨by rw[HE.out];rfl,HB.out.drew⟩
 ·have q2:(x.pub.toList==pub.toList)=false:=by rw[bytes_beq];exact decide_eq_false hp2
  have HE:=zh (show R=false by rw[hR,decide_eq_false hn,decide_eq_false hp2];rfl)
  clear hn hR hp2
  go_enter Tryz.func112,Tryz.ntmps112
  go_wp2_with fail
  refine Lex.zl ?_
  go_wp2_with fail
  refine Lex.ze ?_
  go_wp2_with fail
  go_ret
  exact⟨by rw[HE.out];rfl,HB.out.drew⟩
theorem Vz (g:Nat)(lb:Array Value)(eg:∀ args w,(callFunc g args).run Tryz.prog w=.ok (.enter g args) w)(p:Own.Member->Bool)(v:Value)(l:List Own.Member)(w:World)(h:Own.Ag w v l)(hl:l.length<=140737488355328)
 (hp:∀ (W:World) (x:Own.Member),Below w.heap.size w W->Calls Tryz.prog g (#[.agg #[.string x.name,.string x.pub]]++lb) W fun e w' => e=.returned (.bool (p x))/\Below W.heap.size W w'):
 Calls Tryz.prog 42 #[v,.func (.func g) #[] lb] w fun e w' => e=.returned (.bool (l.any p))/\Below w.heap.size w w':=by
 have HI:=zh (Mk g lb eg p v l w h hl hp);clear h hp
 go_enter Tryz.func42,Tryz.ntmps42
 go_wp2_with fail
 refine HI.out.mono ?_
 rintro e w2 ⟨⟨i,rfl,hi⟩,hb⟩
 have HB:=zh hb;have HJ:=zh hi.any;clear hb hi
 go_wp2_with fail
 go_ret
 exact⟨by rw[<- HJ.out];rfl,HB.out⟩
namespace Own
def En (n pub:ByteArray)(k:Nat)(l:List Member):List Member:=LQ n pub (l.take k)++l.drop k
theorem Jg (n pub:ByteArray)(k:Nat)(l:List Member):(En n pub k l).length=l.length:=by
 unfold En LQ
 simp
 omega
theorem bZ (n pub:ByteArray)(k:Nat)(l:List Member)(hk:k<l.length)(h:k<(En n pub k l).length):(En n pub k l)[k]=l[k]:=by
 have e:(LQ n pub (l.take k)).length=k:=by unfold LQ;simp;omega
 have h2:(En n pub k l)[k]? = some l[k]:=by
  unfold En
  rw[List.getElem?_append_right (by omega),e,Nat.sub_self,List.getElem?_drop,Nat.add_zero,List.getElem?_eq_getElem hk]
 rw[List.getElem?_eq_getElem h] at h2
 exact Option.some.inj h2
theorem oo (n pub:ByteArray)(k:Nat)(l:List Member)(hk:k<l.length):En n pub (k+1) l=if l[k].name=n then (En n pub k l).set k ⟨l[k].name,pub⟩ else En n pub k l:=by
 have e:(LQ n pub (l.take k)).length=k:=by unfold LQ;simp;omega
 have h1:LQ n pub (l.take (k+1))=LQ n pub (l.take k)++[if l[k].name=n then ⟨l[k].name,pub⟩ else l[k]]:=by
  unfold LQ
  rw[List.take_succ_eq_append_getElem hk,List.map_append,List.map_cons,List.map_nil]
 unfold En
 rw[h1]
 by_cases hn:l[k].name=n
 ·rw[if_pos hn,if_pos hn,List.set_append_right _ _ (by omega),e,Nat.sub_self,List.drop_eq_getElem_cons hk,List.set_cons_zero,List.append_assoc]
  rfl
 ·rw[if_neg hn,if_neg hn,List.append_assoc]
  conv=>rhs;rw[List.drop_eq_getElem_cons hk]
  rfl
end Own
theorem YL (B g:Nat)(o:Own.Ar)(op:Own.Op)(ex:Int)(sv kv mv av:Value)(us:List Value)(w:World)(h:Own.MIn B g o op ex sv kv mv av us w)(hk:op.kind=4):
 Calls Tryz.prog 57 #[.pointer (some ⟨g,0,none⟩)] w (Own.DT w g o.count op ex mv av (Own.ET o op)):=by
 obtain⟨R,hR⟩:∃ R,R=Own.ET o op:=⟨_,rfl⟩
 obtain⟨Q,hQ⟩:∃ Q,Q=Own.DT w g o.count op ex mv av R:=⟨_,rfl⟩
 rw[<- hR,<- hQ]
 obtain⟨sa,sc,hsv⟩:=h.c.sp.slice
 subst hsv
 obtain⟨ka,kn,kc,hkv⟩:=Ad h.c.ks
 subst hkv
 obtain rfl:=Bf h.c.ks
 obtain⟨ma,mc,hmv⟩:=h.c.ms.len
 subst hmv
 obtain⟨aa,ac,hav,_⟩:=id h.A
 subst hav
 have hgl:=h.c.at_.lt
 have hln:=h.ok.len
 unfold Own.ET at hR
 have H:=zh h;have HR:=zh hR;have HQ:=zh hQ
 clear h hR hQ
 have hr:=HR.out
 unfold Own.Gb Own.Ic at hr
 rw[if_neg (show ¬ op.kind=0 by omega),if_neg (show ¬ op.kind=1 by omega),if_neg (show ¬ op.kind=2 by omega),if_neg (show ¬ op.kind=3 by omega)] at hr
 have HR2:=zh hr
 clear hr HR hk
 have K1:=zh (show Aw w _ [(84,#[.pointer (some ⟨g,0,none⟩)])] from((Dm.nil w).push 84 #[.pointer (some ⟨g,0,none⟩)]).boxes)
 have H1:=zh (H.out.below K1.out.under)
 go_enter Tryz.func57,Tryz.ntmps57
 go_upto_region 1 with fail
 generalize (w.alloc (.cells #[.pointer (some ⟨g,0,none⟩)] 84))=w1 at*
 have c0:=H1.out.c.at_.cell 0;have c1:=H1.out.c.at_.cell 1;have c2:=H1.out.c.at_.cell 2;have c3:=H1.out.c.at_.cell 3;have c4:=H1.out.c.at_.cell 4;have c5:=H1.out.c.at_.cell 5;have c6:=H1.out.c.at_.cell 6;have c7:=H1.out.c.at_.cell 7;have c8:=H1.out.c.at_.cell 8;have c9:=H1.out.c.at_.cell 9;have c10:=H1.out.c.at_.cell 10
 simp only[Own.Em,List.getElem?_toArray,List.getElem?_cons_zero,List.getElem?_cons_succ] at c0 c1 c2 c3 c4 c5 c6 c7 c8 c9 c10
 have x00:w1.cell? ⟨w.heap.size,0,none⟩=some (.pointer (some ⟨g,0,none⟩)):=K1.out.cell 0 0 rfl rfl
 have hix:=H.out.ix
 rcases hix with ⟨hx,hxn,_⟩|⟨j,hj,hx,hxs,hxp,_⟩
 case inl=>
  have HE:=zh (show R=.error 6 by rw[HR2.out,hxn])
  have dj:decide (ex<0)=true:=zt
  clear hxn HR2 hx
  go_wp2_with fail
  (try go_ret)
  rw[HQ.out,HE.out]
  exact⟨rfl,by decide,Fr.of_below K1.out.under⟩
 have dj:decide (ex<0)=false:=zf
 have hpre:o.spaces[j].pre=op.pre:=of_decide_eq_true hxp
 have hr:=HR2.out
 rw[hxs] at hr
 have HX:=zh hx
 clear hxs hxp HR2 hx
 obtain⟨b,q,mv2,ha,hbl,e0,e1,e2,hmv⟩:=Own.BH.cells H1.out.c.spaces hj
 subst ha
 have hmk:=Own.Dp (H.out.ok.sp o.spaces[j] (List.getElem_mem hj))
 have hmo:=hmk.l8
 obtain⟨ma2,mc2,rfl⟩:=hmv.len
 obtain⟨S,hS⟩:∃ S,S=o.spaces[j]:=⟨_,rfl⟩
 simp only[<- hS] at e0 e1 e2 hr hmv hmk hmo hpre
 have HMV:=zh hmv;have HS:=zh hS;have HR3:=zh hr;have HMK:=zh hmk;have Vl:=zh hpre
 clear hmv hS hr hmk hpre
 obtain rfl:ex=(j:Int):=HX.out
 clear HX
 go_wp2_with fail
 refine Lex.zl ?_
 go_wp2_with fail
 refine Lex.ze ?_
 go_upto_region 4 with fail
 have T1:=zh (show Aw w1 _ [(39,#[.string S.pre,.slice ma2 S.members.length mc2,.int .i64 S.threshold])] from((Dm.nil w1).push 39 #[.string S.pre,.slice ma2 S.members.length mc2,.int .i64 S.threshold]).boxes)
 have T2:=zh T1.out.drew
 have bq:Below w1.heap.size w1 (w1.alloc (.cells #[.string S.pre,.slice ma2 S.members.length mc2,.int .i64 S.threshold] 39)).drew:=T2.out.under
 have K4:=zh (K1.out.step bq);have H4:=zh (H1.out.below bq);have za9:=zh (HMV.out.below bq);have BQ:=zh (K1.out.under.trans (bq.mono K1.out.under.size))
 clear c0 c1 c2 c3 c4 c5 c6 c7 c8 c9 c10
 clear bq T1 e0 e1 e2
 (try clear x00)
 generalize (w1.alloc (.cells #[.string S.pre,.slice ma2 S.members.length mc2,.int .i64 S.threshold] 39)).drew=wq at*
 have c0:=H4.out.c.at_.cell 0;have c1:=H4.out.c.at_.cell 1;have c2:=H4.out.c.at_.cell 2;have c3:=H4.out.c.at_.cell 3;have c4:=H4.out.c.at_.cell 4;have c5:=H4.out.c.at_.cell 5;have c6:=H4.out.c.at_.cell 6;have c7:=H4.out.c.at_.cell 7;have c8:=H4.out.c.at_.cell 8;have c9:=H4.out.c.at_.cell 9;have c10:=H4.out.c.at_.cell 10
 simp only[Own.Em,List.getElem?_toArray,List.getElem?_cons_zero,List.getElem?_cons_succ] at c0 c1 c2 c3 c4 c5 c6 c7 c8 c9 c10
 have x00:wq.cell? ⟨w.heap.size,0,none⟩=some (.pointer (some ⟨g,0,none⟩)):=K4.out.cell 0 0 rfl rfl
 obtain⟨t00,t01,t02⟩:=T2.out.Gj rfl
 have HMB:=zh (fun W (hW:Below wq.heap.size wq W)=>OD S.pre S.threshold (.slice ma2 S.members.length mc2) S.members op.name W (za9.out.below hW) (by omega))
 refine Lex.FJ (fun _=>False) [] [10] 12 [.pure 6,.call,.pure 3,.new] [1] (by kernel_rfl) (by kernel_rfl) (by kernel_rfl) ?_
 simp only[Lex.Jf,Lex.Br,zd]
 go_wp2_with fail
 refine Lex.Qk.intro ?_
 intro w5 hg5
 have B5:=zh (show Below wq.heap.size wq w5 from(Below.refl wq.heap.size wq).drew.trans hg5)
 clear hg5
 (try clear x00)
 (try clear t00 t01 t02)
 clear c0 c1 c2 c3 c4 c5 c6 c7 c8 c9 c10
 go_wp2_with fail
 refine(HMB.out w5 B5.out).mono ?_
 intro e w6 hpost
 obtain⟨hval,hb6⟩:=hpost
 have HB6:=zh hb6;have B6:=zh (B5.out.trans (hb6.mono B5.out.size))
 clear hb6 B5 HMB
 cases hf:Own.find S.members op.name with
 | none =>
   rw[hf] at hval
   have hval:e=.returned (.tuple #[.agg #[.string ⟨#[]⟩,.string ⟨#[]⟩],.bool false]):=hval
   subst hval
   have HE:=zh (show R=.error 6 by rw[HR3.out,hf])
   clear hf
   go_wp2_with fail
   refine Lex.Vx.intro (fun j hj _=>absurd hj id) (Lex.Kept.of_below HB6.out) ?_
   go_wp2_with fail
   refine Lex.Qk.intro ?_
   intro w7 hw7
   go_wp2_with fail
   refine Lex.Ql.intro (fun w8 hg8 hk8 ho8=>?_)
   have hs8:=hk8.at_
   have hl7:wq.heap.size<=w7.heap.size:=hw7
   obtain⟨g8,hgs⟩:∃ g,g=w7.heap.size:=⟨_,rfl⟩
   rw[<- hgs] at hs8 hl7
   have B8:=zh (B6.out.trans (hg8.mono B6.out.size));have GS8:=zh hs8
   rw[<- hgs]
   clear hg8 hk8 ho8 hs8 hgs hw7
   have s0:=GS8.out.cell 0;have s1:=GS8.out.cell 1;have s3:=GS8.out.free 0;have s4:=GS8.out.free 1
   simp only[zg] at s0 s1
   go_wp2_with fail
   refine Lex.Mid.intro (fun j hj _=>absurd hj id) ?_
   go_wp2_with fail
   refine Lex.zk trivial ?_
   clear s0 s1 s3 s4
   have b9:Below wq.heap.size wq ((w8.setCell ⟨g8,0,none⟩ (.string ⟨#[]⟩)).setCell ⟨g8,1,none⟩ (.string ⟨#[]⟩)):=(B8.out.setCell (p:=⟨g8,0,none⟩) hl7 _).setCell (p:=⟨g8,1,none⟩) hl7 _
   have at9:At ((w8.setCell ⟨g8,0,none⟩ (.string ⟨#[]⟩)).setCell ⟨g8,1,none⟩ (.string ⟨#[]⟩)) g8 76 #[(.string ⟨#[]⟩),(.string ⟨#[]⟩)]:=(GS8.out.set 0 (.string ⟨#[]⟩)).set 1 (.string ⟨#[]⟩)
   have B9:=zh b9;have A9:=zh at9
   clear b9 at9 B8 GS8 B6 HB6
   go_wp2_with fail
   (try go_ret)
   rw[HQ.out,HE.out]
   exact⟨rfl,by decide,Fr.of_below (BQ.out.trans (B9.out.mono BQ.out.size))⟩
 | some m =>
   rw[hf] at hval
   have hval:e=.returned (.tuple #[.agg #[.string m.name,.string m.pub],.bool true]):=hval
   subst hval
   have hmn:m.name=op.name:=by simpa using List.find?_some hf
   have HE1:=zh (show R=match (if S.members.any (fun x => !decide (x.name=m.name)&&decide (x.pub=op.pub)) then (.error 5:Except Int (Own.Space × List Own.Space)) else .ok (⟨S.pre,[m],1⟩,Own.Dw Own.Space.pre (Own.Ye S op.name op.pub) o.spaces)) with
    | .error c=>.error c
    | .ok (s,l) => match Own.AX s (Own.Bc o op).1 o.keys op.Aa with
      | .error c=>.error c
      | .ok K=>.ok (l,K) by rw[HR3.out,hf]<;>rfl)
   have HMN:=zh hmn
   clear hf hmn HR3
   go_wp2_with fail
   refine Lex.Vx.intro (fun j hj _=>absurd hj id) (Lex.Kept.of_below HB6.out) ?_
   go_wp2_with fail
   refine Lex.Qk.intro ?_
   intro w7 hw7
   go_wp2_with fail
   refine Lex.Ql.intro (fun w8 hg8 hk8 ho8=>?_)
   have hs8:=hk8.at_
   have hl7:wq.heap.size<=w7.heap.size:=hw7
   obtain⟨g8,hgs⟩:∃ g,g=w7.heap.size:=⟨_,rfl⟩
   rw[<- hgs] at hs8 hl7
   have B8:=zh (B6.out.trans (hg8.mono B6.out.size));have GS8:=zh hs8
   rw[<- hgs]
   clear hg8 hk8 ho8 hs8 hgs hw7
   have s0:=GS8.out.cell 0;have s1:=GS8.out.cell 1;have s3:=GS8.out.free 0;have s4:=GS8.out.free 1
   simp only[zg] at s0 s1
   go_wp2_with fail
   refine Lex.Mid.intro (fun j hj _=>absurd hj id) ?_
   go_wp2_with fail
   refine Lex.zk trivial ?_
   clear s0 s1 s3 s4
   have b9:Below wq.heap.size wq ((w8.setCell ⟨g8,0,none⟩ (.string m.name)).setCell ⟨g8,1,none⟩ (.string m.pub)):=(B8.out.setCell (p:=⟨g8,0,none⟩) hl7 _).setCell (p:=⟨g8,1,none⟩) hl7 _
   have at9:At ((w8.setCell ⟨g8,0,none⟩ (.string m.name)).setCell ⟨g8,1,none⟩ (.string m.pub)) g8 76 #[(.string m.name),(.string m.pub)]:=(GS8.out.set 0 (.string m.name)).set 1 (.string m.pub)
   have B9:=zh b9;have A9:=zh at9
   clear b9 at9 B8 GS8 B6 HB6
   generalize (w8.setCell ⟨g8,0,none⟩ (.string m.name)).setCell ⟨g8,1,none⟩ (.string m.pub)=w9 at*
   have K9:=zh (K4.out.step B9.out);have H9:=zh (H4.out.below B9.out);have zdb:=zh (za9.out.below B9.out);have T9:=zh (T2.out.step B9.out);have BQ9:=zh (BQ.out.trans (B9.out.mono BQ.out.size))
   clear K4 H4 za9 T2 B9
   obtain⟨t00,t01,t02⟩:=T9.out.Gj rfl
   obtain⟨P,hP⟩:∃ P,P=S.members.any (fun x => !decide (x.name=m.name)&&decide (x.pub=op.pub)):=⟨_,rfl⟩
   have hcf:=Vz 112 #[.pointer (some ⟨g8,0,none⟩),.pointer (some ⟨w.heap.size,0,none⟩)] Tryz.call112 (fun x => !decide (x.name=m.name)&&decide (x.pub=op.pub)) (.slice ma2 S.members.length mc2) S.members w9 zdb.out (by omega)
    (fun W x hW=>Vy x g8 w.heap.size g m.name op.pub W ((hW.cell (p:=⟨g8,0,none⟩) A9.out.lt).trans (A9.out.cell 0)) ((hW.cell (p:=⟨w.heap.size,0,none⟩) (K9.out.at1 0 rfl).lt).trans (K9.out.cell 0 0 rfl rfl)) ((hW.cell (p:=⟨g,8,none⟩) H9.out.c.at_.lt).trans (H9.out.c.at_.cell 8)))
   rw[<- hP] at hcf HE1
   have HCF:=zh hcf
   clear hcf hP
   go_wp2_with fail
   refine HCF.out.mono ?_
   rintro e w10 ⟨rfl,J7⟩
   have K10:=zh (K9.out.step J7);have H10:=zh (H9.out.below J7);have T10:=zh (T9.out.step J7);have xD:=zh (BQ9.out.trans (J7.mono BQ9.out.size));have A10:=zh (A9.out.below J7 A9.out.lt)
   (try clear t00 t01 t02)
   clear J7 K9 H9 zdb T9 BQ9 A9 HCF
   cases P with
   | true =>
     have HE:=zh (show R=.error 5 by rw[HE1.out];rfl)
     go_wp2_with fail
     (try go_ret)
     rw[HQ.out,HE.out]
     exact⟨rfl,by decide,Fr.of_below xD.out⟩
   | false=>
   have HE0:=zh (show R=match Own.AX ⟨S.pre,[m],1⟩ (Own.Bc o op).1 o.keys op.Aa with
    | .error c=>.error c
    | .ok K=>.ok (Own.Dw Own.Space.pre (Own.Ye S op.name op.pub) o.spaces,K) by rw[HE1.out];rfl)
   clear HE1
   obtain⟨t00,t01,t02⟩:=T10.out.Gj rfl
   have x00:w10.cell? ⟨w.heap.size,0,none⟩=some (.pointer (some ⟨g,0,none⟩)):=K10.out.cell 0 0 rfl rfl
   obtain⟨a0,a1⟩:=A10.out.c2
   have Rm:Below w10.heap.size w10 (w10.alloc (.cells #[.string m.name,.string m.pub] 76)):=zb
   have hmem:Own.Ag (w10.alloc (.cells #[.string m.name,.string m.pub] 76)) (.slice (some ⟨w10.heap.size,0,none⟩) 1 1) [m]:=Own.Ag.of (CS w10 76 #[.string m.name,.string m.pub] 2 1 1 rfl) rfl
   have HAP:=zh ((H10.out.below Rm).app ⟨S.pre,[m],1⟩ _ hmem (by simp))
   have B3:=zh (xD.out.trans (Rm.mono xD.out.size));have K11:=zh (K10.out.step Rm);have A11:=zh (A10.out.below Rm A10.out.lt);have HCG:=zh ((H10.out.below Rm).c.at_)
   clear Rm hmem
   go_wp2_with fail
   refine HAP.out.mono ?_
   generalize w10.alloc (.cells #[.string m.name,.string m.pub] 76)=w11 at*
   (try clear t00 t01 t02)
   (try clear x00)
   clear a0 a1 K10 H10 T10 xD A10
   intro e w4 hpost
   cases hap:Own.AX ⟨S.pre,[m],1⟩ (Own.Bc o op).1 o.keys op.Aa with
   | error c =>
     rw[hap] at hpost
     obtain⟨rfl,hb4⟩:=hpost
     have hc:=Own.Gd hap
     have HE:=zh (show R=.error c by rw[HE0.out,hap])
     have dz:(c==(0:Int))=false:=by rw[beq_eq_false_iff_ne];exact hc
     have HC:=zh hc;have B4:=zh (B3.out.trans (hb4.mono B3.out.size))
     clear hap hc hb4 HE0
     go_wp2_with fail
     (try go_ret)
     rw[HQ.out,HE.out]
     exact⟨rfl,HC.out,Fr.of_below B4.out⟩
   | ok L =>
     rw[hap] at hpost
     obtain⟨rfl,⟨sv4,kv4,us4,hc4⟩,hf4⟩:=hpost
     have hS:=HS.out
     have hput:Own.Dw Own.Space.pre (Own.Ye S op.name op.pub) o.spaces=o.spaces.set j (Own.Ii o.spaces[j] (Own.En op.name op.pub S.members.length S.members)):=by
      rw[Own.bg (f:=Own.Space.pre) H.out.ok.ni hj (Own.Ye S op.name op.pub) (by rw[<- hS];rfl),<- hS]
      congr 1
      unfold Own.Ye Own.Ii Own.En
      rw[List.take_length,List.drop_length,List.append_nil]
     have HE:=zh (show R=.ok (o.spaces.set j (Own.Ii o.spaces[j] (Own.En op.name op.pub S.members.length S.members)),L) by rw[HE0.out,hap,<- hput])
     clear hap hput HE0 HAP
     have hju:j<us4.length:=by rw[hc4.sp.len];exact hj
     have V5:=hc4.sp.Ih j hj hju
     have hm0:0<o.spaces[j].members.length:=by rw[<- hS];have:=HMK.out.l1;omega
     obtain⟨gm,zdc,hvm,_⟩:=CB V5 hm0
     obtain⟨g4,cap4,hv4,YK⟩:=CB hc4.sp.row (show 0<o.spaces.length by omega)
     have f1:=YK (j*3+1) _ (Own.J6 o.spaces us4 j hj hju 1 (by omega))
     obtain⟨ka4,kn4,kc4,uD⟩:=Ad hc4.ks
     subst hv4 uD
     have hg8:g8≠g:=A11.out.ne HCG.out (by decide)
     have AK:=zh (hf4.at (K11.out.at1 0 rfl) (show ¬ w.heap.size+0=g by omega))
     have A4:=zh (hf4.at A11.out hg8)
     have HC4:=zh hc4;have HF4:=zh hf4
     rw[hvm,<- hS] at f1
     have HVM:=zh (show us4[j]=.slice (some ⟨gm,0,none⟩) S.members.length zdc by rw[hvm,hS])
     have zeP:w11.heap.size<=gm:=Al V5 gm (by rw[hvm];rfl)
     have zeQ:gm≠g4:=fun e=>Iz V5 hc4.sp.row (by decide) gm (by rw[hvm];rfl) (by rw[e];rfl)
     have zdd:gm≠g:=fun e=>hc4.at_.own_ne V5 (by decide) (by rw[hvm,e];rfl)
     have zes:gm≠g8:=by have:=A11.out.lt;omega
     have zet:gm≠w.heap.size:=by have:=(K11.out.at1 0 rfl).lt;omega
     have hxk:=AK.out.cell 0
     simp only[List.getElem?_toArray,List.getElem?_cons_zero,Nat.add_zero] at hxk
     have c0:=HC4.out.at_.cell 0;have c1:=HC4.out.at_.cell 1;have c2:=HC4.out.at_.cell 2;have c3:=HC4.out.at_.cell 3;have c4:=HC4.out.at_.cell 4;have c5:=HC4.out.at_.cell 5;have c6:=HC4.out.at_.cell 6;have c7:=HC4.out.at_.cell 7;have c8:=HC4.out.at_.cell 8;have c9:=HC4.out.at_.cell 9;have c10:=HC4.out.at_.cell 10
     simp only[Own.Em,List.getElem?_toArray,List.getElem?_cons_zero,List.getElem?_cons_succ] at c0 c1 c2 c3 c4 c5 c6 c7 c8 c9 c10
     clear hc4 hf4 V5 hm0 YK hvm hS HCG K11 A11
     go_wp2_with fail
     refine Lex.zl ?_
     go_wp2_with fail
     refine Lex.ze ?_
     go_wp2_with fail
     clear c0 c1 c2 c3 c4 c5 c6 c7 c8 c9 c10
     clear f1 hxk
     go_loopw [64] (fun i wr=>∃ k:Nat,k<=S.members.length/\i=.int .i64 k/\Own.Cg w11.heap.size wr (.slice (some ⟨g4,0,none⟩) o.spaces.length cap4) (o.spaces.set j (Own.Ii o.spaces[j] (Own.En op.name op.pub k S.members))) us4/\Fr (fun k=>k=gm) w4 wr) (fun i _=>S.members.length-(intOf i).toNat)
     case atStart=>
      refine⟨0,by omega,rfl,?_,(Fr.refl _ _).drew⟩
      have e:o.spaces.set j (Own.Ii o.spaces[j] (Own.En op.name op.pub 0 S.members))=o.spaces:=by
       have e2:Own.Ii o.spaces[j] (Own.En op.name op.pub 0 S.members)=o.spaces[j]:=by rw[HS.out];rfl
       rw[e2,List.set_getElem_self]
      rw[e]
      exact HC4.out.sp.below (Below.refl w4.heap.size w4).drew
     case round=>
      obtain⟨k,hk,rfl,hsp,hfr⟩:=hrel
      have SPR:=zh hsp;have FRR:=zh hfr
      by_cases hlt:k<S.members.length
      ·have dk:decide ((k:Int)<(S.members.length:Int))=true:=zt
       have V5:=hsp.Ih j (by rw[List.length_set];exact hj) hju
       rw[List.getElem_set_self] at V5
       have hmr:wr.ownsRow w11.heap.size 76 2 (.slice (some ⟨gm,0,none⟩) S.members.length zdc) S.members.length ((Own.En op.name op.pub k S.members).flatMap Own.CU):=by
        have h2:(Own.Ii o.spaces[j] (Own.En op.name op.pub k S.members)).members.length=S.members.length:=Own.Jg _ _ _ _
        rw[h2,HVM.out] at V5
        exact V5
       have hkl:k<(Own.En op.name op.pub k S.members).length:=by rw[Own.Jg];exact hlt
       have hget:=Own.bZ op.name op.pub k S.members hlt hkl
       obtain⟨ys,q1,_,_,_,_,hxl⟩:=GK hmr
       have oq:=Own.WR (Own.En op.name op.pub k S.members)
       rw[Own.Jg] at oq
       have gl:∀ c,c<2->wr.cell? ⟨gm,k*2+c,none⟩=(Own.CU S.members[k])[c]? :=fun c hc=>by
        rw[q1.cell,List.getElem?_toArray,List.getElem?_append_left (by rw[oq];omega),Own.WS _ k hkl c hc,hget]
       have n0:=gl 0 (by omega);have n1:=gl 1 (by omega)
       simp only[Own.CU,List.getElem?_cons_zero,List.getElem?_cons_succ,Nat.add_zero] at n0 n1
       have n2:=q1.free (k*2+1)
       have a0:=(hfr.at A4.out (fun e=>zes e.symm)).cell 0
       have x0:=(hfr.at AK.out (fun e=>zet (by omega))).cell 0
       have p8:=(hfr.at HC4.out.at_ (fun e=>zdd e.symm)).cell 8
       simp only[Own.Em,List.getElem?_toArray,List.getElem?_cons_zero,List.getElem?_cons_succ,Nat.add_zero] at a0 x0 p8
       have cu:=Own.oo op.name op.pub k S.members hlt
       have HMR:=zh hmr
       obtain⟨nm,hnm⟩:∃ x,x=S.members[k].name:=⟨_,rfl⟩
       rw[<- hnm] at n0 cu
       rw[<- HMN.out] at cu
       clear gl q1 hmr V5 hxl oq hsp hfr
       by_cases hq:nm=m.name
       ·have q1:(nm.toList==m.name.toList)=true:=by rw[bytes_beq];exact decide_eq_true hq
        rw[if_pos hq] at cu
        have hM:(Own.En m.name op.pub (k+1) S.members).flatMap Own.CU=((Own.En m.name op.pub k S.members).flatMap Own.CU).set (k*2+1) (.string op.pub):=by
         rw[cu]
         have zde:k<(Own.En m.name op.pub k S.members).length:=by rw[Own.Jg];exact hlt
         have h3:=Own.WT (Own.En m.name op.pub k S.members) k zde op.pub
         have h4:=Own.bZ m.name op.pub k S.members hlt zde
         rw[h4,<- hnm] at h3
         exact h3
        have HMM:=zh hM
        clear hq cu hM hget hkl hnm
        go_wp2_with fail
        refine Lex.zl ?_
        go_wp2_with fail
        refine Lex.ze ?_
        go_wp2_with fail
        have f2:Fr (fun k=>k=gm) w4 (wr.setCell ⟨gm,k*2+1,none⟩ (.string op.pub)):=FRR.out.setCell (p:=⟨gm,k*2+1,none⟩) (.inl rfl) _
        refine⟨⟨k+1,by omega,by go_num,?_,f2.drew⟩,by simp[intOf];omega⟩
        have oq:=Own.WR (Own.En op.name op.pub k S.members)
        rw[Own.Jg] at oq
        have o2:=Own.Ig HMR.out (k*2+1) (by rw[oq];omega) (.string op.pub)
        rw[<- HMN.out,<- HMM.out,HMN.out] at o2
        have ht:=SPR.out.turn (i:=j) (by rw[List.length_set];exact hj) hju (M:=Own.En op.name op.pub (k+1) S.members) (w':=wr.setCell ⟨gm,k*2+1,none⟩ (.string op.pub)) (by rw[HVM.out,Own.Jg];exact o2) (fun k2 hk2=>zo (fun e=>hk2 (by rw[HVM.out,e];rfl)))
        have e2:(o.spaces.set j (Own.Ii o.spaces[j] (Own.En op.name op.pub k S.members))).set j (Own.Ii ((o.spaces.set j (Own.Ii o.spaces[j] (Own.En op.name op.pub k S.members)))[j]'(by rw[List.length_set];exact hj)) (Own.En op.name op.pub (k+1) S.members))=o.spaces.set j (Own.Ii o.spaces[j] (Own.En op.name op.pub (k+1) S.members)):=by
         rw[List.set_set,List.getElem_set_self]
         rfl
        have hl2:(o.spaces.set j (Own.Ii o.spaces[j] (Own.En op.name op.pub k S.members))).length=o.spaces.length:=List.length_set
        rw[e2] at ht
        exact ht.below (Below.refl (wr.setCell ⟨gm,k*2+1,none⟩ (.string op.pub)).heap.size _).drew
       ·have q1:(nm.toList==m.name.toList)=false:=by rw[bytes_beq];exact decide_eq_false hq
        rw[if_neg hq] at cu
        have HSU:=zh cu
        clear hq cu hget hkl hnm
        go_wp2_with fail
        refine Lex.zl ?_
        go_wp2_with fail
        refine Lex.ze ?_
        go_wp2_with fail
        refine⟨⟨k+1,by omega,by go_num,?_,FRR.out.drew⟩,by simp[intOf];omega⟩
        rw[<- HMN.out,HSU.out,HMN.out]
        exact SPR.out.below (Below.refl wr.heap.size wr).drew
      ·have dk:decide ((k:Int)<(S.members.length:Int))=false:=zf
       obtain rfl:k=S.members.length:=by omega
       clear hsp hfr
       go_wp2_with fail
       (try go_ret)
       have hz4:=HF4.out.size
       have wO:=B3.out.size
       have hks:=Af HC4.out.ks (w':=wr) (fun k e=>FRR.out.keep k (Own.FI HC4.out.ks k e) (fun e2=>Iz HC4.out.ks (HC4.out.sp.Ih j hj hju) (by decide) k e (by rw[HVM.out,e2];rfl)))
       rw[HQ.out,HE.out]
       refine⟨rfl,⟨_,_,FRR.out.at HC4.out.at_ (fun e=>zdd e.symm),?_,?_⟩,?_⟩
       ·exact SPR.out.list (fun k hk=>by omega)
       ·exact Cy (enc:=Own.DL) (fun _=>rfl) (fun _=>rfl) (Bh.own hks) rfl (fun k hk=>by have:=Al hks k hk;omega)
       ·have f1:Fr (fun k=>k=g) w w11:=Fr.of_below B3.out
        exact(f1.trans HF4.out (fun k hk=>.inl hk)).trans FRR.out (fun k hk=>.inr (by omega))
section
variable {P:Program} {w:World} {ops:Array Oper} {rest:List Oper} {o:Oper} {a:Act} {Q:Exit->Act->World->Prop}
theorem Le {t e:TypeId}{size bytes:Nat}(T:Nonempty (Gg P t e size bytes))(hgd:o.guard=none)(s x:Operand)(ho:o.op=.call { callee:=.builtin .append,args:=#[s,x],argTypes:=#[t,t] })
 (g n cap:Nat) (sb so m c:Nat) (hs:a.eval s=.slice (some ⟨g,0,none⟩) n cap) (hx:a.eval x=.slice (some ⟨sb,so,none⟩) m c)
 (cur:List Value) (hg:At w g e cur.toArray) (cs:List Value) (hl:cs.length=m*size)
 (hsrc:∀ (j:Nat) (v:Value),cs[j]? = some v->w.cell? ⟨sb,so+j,none⟩=some v) (h1:∀ v∈cs,v.oneCell' = true)
 (hroom:n+m<=cap) (hfit:n*size+cs.length<=cur.length)
 (h:∀ w',At w' g e (cur.take (n*size)++(cs++cur.drop (n*size+cs.length))).toArray->w.grownBy w' (some g)->w'.heap.size=w.heap.size->wpList P ops Q rest (a.put o.dst (.slice (some ⟨g,0,none⟩) (n+m) cap)) w'):wpList P ops Q (o::rest) a w:=by
 obtain⟨T⟩:=T
 have hrun:=run_append_room (P:=P) w t o.type e T.i T.under T.info g n cap cur.toArray hg ⟨sb,so,none⟩ m c cs (by rw[T.Te];exact hl) (fun j v hj=>by
  have hadd:(⟨sb,so,none⟩:Addr).add j=⟨sb,so+j,none⟩:=by unfold Addr.add;split<;>simp_all
  rw[hadd];exact hsrc j v hj) h1 hroom (by rw[T.Te];simpa using hfit)
 rw[T.Te] at hrun
 refine Lib.wpList_append_run w hgd s x t t ho _ _ hs hx _ _ hrun ?_
 refine h _ ?_ ⟨rfl,rfl,rfl,by simp[World.setRow],fun k _ hne=>setRow_other w g k _ (fun e=>hne (by rw[e]))⟩ (by simp[World.setRow])
 have:=At.setRow hg (cur.take (n*size)++(cs++cur.drop (n*size+cs.length))).toArray
 simpa [List.append_assoc] using this
theorem OU {t e:TypeId}{z:Value}{size:Nat}(ht:P.underlying t=some (.slice e))(hi:(P.info? e).map (fun i=>i.zero)=some (some z))(hzs:z.cells.toList.length=size)(hz1:∀ v∈z.cells.toList,v.oneCell' = true)
 (hgd:o.guard=none) (s:Operand) (ho:o.op=.call { callee:=.builtin .clear,args:=#[s],argTypes:=#[t] })
 (g off c:Nat) (hs:a.eval s=.slice (some ⟨g,off,none⟩) 1 c) (cur:List Value) (hg:At w g e cur.toArray) (hfit:off+size<=cur.length)
 (h:∀ w',At w' g e (cur.take off++(z.cells.toList++cur.drop (off+size))).toArray->w.grownBy w' (some g)->w'.heap.size=w.heap.size->wpList P ops Q rest (a.put o.dst (.tuple #[])) w'):wpList P ops Q (o::rest) a w:=by
 have hzv:∀ w,(zeroValue e).run P w=.ok z w:=fun w=>by
  cases hq:P.info? e with
  | none=>rw[hq] at hi;cases hi
  | some i =>
    have hz:i.zero=some z:=by simpa [hq] using hi
    simp[zeroValue,typeInfo,hq,hz]
 have hzc:(Builtin.zeroCells z.cells 1).toList=z.cells.toList:=by
  simp[Builtin.zeroCells]
  apply List.ext_getElem
  ·simp
  ·intro i h1 h2
   simp at h1 h2
   simp only[List.getElem_map,List.getElem_range,Nat.mod_eq_of_lt h2,Array.getElem_toList]
   exact getElem!_pos z.cells i h2
 have hst:=run_storeCells_at P g off e z.cells.toList 0 cur.toArray w hg (by rw[hzs];simpa using hfit) hz1
 have hrun:(Builtin.clear_ #[t] o.type #[.slice (some ⟨g,off,none⟩) 1 c]).run P w=.ok (.tuple #[]) (w.setRow g (cur.take off++(z.cells.toList++cur.drop (off+size))).toArray):=by
  simp only[Nat.add_zero,hzs] at hst
  simp[Builtin.clear_,run_underlying ht,hzv,hzc,hst]
 refine wpList_plain hgd fun K hK=>?_
 unfold Oper.wp
 simp[execOp,ho,resolve,invoke,builtin,hs,hrun,Result.andThen]
 refine hK _ _ (h _ (by simpa using At.setRow hg _) ⟨rfl,rfl,rfl,by simp[World.setRow],fun k _ hne=>setRow_other w g k _ (fun e=>hne (by rw[e]))⟩ (by simp[World.setRow]))
end
end
section
open Go Go.RowKit Go.Maps
theorem V6 (base n i j:Nat)(v:Value)(xs:List Value)(w:World)(ho:w.ownsRow base 39 3 v n xs)(h1:∀ u∈xs,u.oneCell' = true)(hij:i<j)(hji:j<=i+1)(hjn:j<=n)(hn:n<=3000000):
 Calls Tryz.prog 110 #[v,.int .i64 i,.int .i64 j] w fun e w' => ∃ v',e=.returned v' /\ w'.ownsRow base 39 3 v' (n-1) (xs.take (i*3)++xs.drop (j*3))/\w.grownBy w' v.ownBlock/\v'.ownBlock=v.ownBlock:=by
 obtain⟨q,rfl⟩:∃ q,n=q+1:=⟨n-1,by omega⟩
 have H1:=zh h1
 clear h1
 go_enter Tryz.func110,Tryz.ntmps110
 obtain⟨a,m,c,rfl⟩:=Ad ho
 obtain rfl:=Bf ho
 obtain⟨g,rfl⟩:∃ g,a=some ⟨g,0,none⟩:=by
  rcases ho.2 with ⟨h0,h5⟩|⟨g,cap,cur,h0,_⟩
  ·omega
  ·cases h0;exact⟨g,rfl⟩
 obtain⟨ys,hat,hbg,hmc,hcm,hcl,hxl⟩:=GK ho
 have OE:At w.drew g 39 (xs++ys).toArray:=hat
 have hcs:(xs.drop (j*3)).length=(q+1-j)*3:=by rw[List.length_drop,hxl];omega
 have hsrc:∀ so,(so=j*3\/q+1=j)->∀ (l:Nat) (u:Value),(xs.drop (j*3))[l]? = some u->w.drew.cell? ⟨g,so+l,none⟩=some u:=fun so hso l u hl=>by
  have hlt:=(List.getElem?_eq_some_iff.1 hl).1
  rw[hcs] at hlt
  rcases hso with rfl|e
  ·show w.cell? ⟨g,j*3+l,none⟩=some u
   rw[hat.cell]
   rw[List.getElem?_drop] at hl
   simp[List.getElem?_append_left (List.getElem?_eq_some_iff.1 hl).1,hl]
  ·omega
 have hfit:i*3+(xs.drop (j*3)).length<=(xs++ys).length:=by rw[hcs,hcl];omega
 obtain⟨C5,hC5⟩:∃ C5,C5=(xs++ys).take (i*3)++(xs.drop (j*3)++(xs++ys).drop (i*3+(xs.drop (j*3)).length)):=⟨_,rfl⟩
 have hl5:C5.length=c*3:=by rw[hC5];simp only[List.length_append,List.length_take,List.length_drop] at hcl hcs ⊢;omega
 have ht5:C5.take (q*3)=xs.take (i*3)++xs.drop (j*3):=by
  have e0:(xs++ys).take (i*3)=xs.take (i*3):=List.take_append_of_le_length (by omega)
  have e4:q*3=(xs.take (i*3)).length+((xs.drop (j*3)).length+0):=by rw[List.length_take,hxl,hcs];omega
  rw[hC5,e0,e4,List.take_length_add_append,List.take_length_add_append,List.take_zero,List.append_nil]
 have hf5:q*3+3<=C5.length:=by rw[hl5];omega
 have hl6:(C5.take (q*3)++((Value.agg #[.string ⟨#[]⟩,.slice none 0 0,.int .i64 0]).cells.toList++C5.drop (q*3+3))).length=c*3:=by
  have:(Value.agg #[.string ⟨#[]⟩,.slice none 0 0,.int .i64 0]).cells.toList.length=3:=by decide
  simp only[List.length_append,List.length_take,List.length_drop,this,hl5]
  omega
 have ht6:(C5.take (q*3)++((Value.agg #[.string ⟨#[]⟩,.slice none 0 0,.int .i64 0]).cells.toList++C5.drop (q*3+3))).take (q*3)=xs.take (i*3)++xs.drop (j*3):=by
  rw[List.take_append_of_le_length (by rw[List.length_take];omega),List.take_take,Nat.min_self,ht5]
 have Vp:=zh OE;have HCS:=zh hcs;have zdf:=zh hfit;have HC5:=zh hC5;have HF5:=zh hf5;have HL6:=zh hl6;have HT6:=zh ht6
 have de:((i:Int)==(j:Int))=false:=by rw[beq_eq_false_iff_ne];omega
 have ci:¬ q+1=i:=by omega
 have cq:¬ c=q:=by omega
 clear ho hat OE hcs hfit hC5 hl5 ht5 hf5 hl6 ht6
 by_cases hcj:c=j
 ·obtain rfl:q+1=j:=by omega
  have Ue:=zh (hsrc 0 (.inr rfl))
  clear hsrc
  subst hcj
  go_wp2_with fail
  refine Lex.zl ?_
  go_wp2_with (at_builtin;go_must (refine Le Ej rfl _ _ rfl g i (q+1) g (0) (0) (0) (by rfl) (by rfl) (xs++ys) Vp.out (xs.drop ((q+1)*3)) (by have:=HCS.out;omega) Ue.out (fun u hu=>H1.out u (List.mem_of_mem_drop hu)) (by omega) zdf.out ?_);intro w5 EI hg5 hz5;rw[<- HC5.out] at EI;rw[show i+(0)=q by omega];have Ie:=zh EI;have HG5:=zh hg5;clear EI hg5 hz5)
  refine Lex.ze ?_
  go_wp2_with (refine OU (z:=.agg #[.string ⟨#[]⟩,.slice none 0 0,.int .i64 0]) (size:=3) Tryz.underlying22 (by kernel_rfl) (by decide) (by decide) rfl _ rfl g (q*3) (1) (by rfl) C5 Ie.out HF5.out ?_;intro w6 Dv hg6 hz6;have EU:=zh Dv;have HG6:=zh hg6;clear Dv hg6 hz6)
  go_wp2_with fail
  go_ret
  exact⟨_,rfl,DW EU.out hbg (by omega) hcm HL6.out HT6.out,⟨HG6.out.os.trans HG5.out.os,HG6.out.tape.trans HG5.out.tape,HG6.out.output.trans HG5.out.output,Nat.le_trans HG5.out.size HG6.out.size,fun k hk hk2=>(HG6.out.block k (Nat.lt_of_lt_of_le hk HG5.out.size) hk2).trans (HG5.out.block k hk hk2)⟩,rfl⟩
 ·have Ue:=zh (hsrc (j*3) (.inl rfl))
  clear hsrc
  go_wp2_with fail
  refine Lex.zl ?_
  go_wp2_with (at_builtin;go_must (refine Le Ej rfl _ _ rfl g i (c) g (j*3) (q+1-j) (c-j) (by rfl) (by rfl) (xs++ys) Vp.out (xs.drop ((j)*3)) (by have:=HCS.out;omega) Ue.out (fun u hu=>H1.out u (List.mem_of_mem_drop hu)) (by omega) zdf.out ?_);intro w5 EI hg5 hz5;rw[<- HC5.out] at EI;rw[show i+(q+1-j)=q by omega];have Ie:=zh EI;have HG5:=zh hg5;clear EI hg5 hz5)
  refine Lex.ze ?_
  go_wp2_with (refine OU (z:=.agg #[.string ⟨#[]⟩,.slice none 0 0,.int .i64 0]) (size:=3) Tryz.underlying22 (by kernel_rfl) (by decide) (by decide) rfl _ rfl g (q*3) (c-q) (by rfl) C5 Ie.out HF5.out ?_;intro w6 Dv hg6 hz6;have EU:=zh Dv;have HG6:=zh hg6;clear Dv hg6 hz6)
  go_wp2_with fail
  go_ret
  exact⟨_,rfl,DW EU.out hbg (by omega) hcm HL6.out HT6.out,⟨HG6.out.os.trans HG5.out.os,HG6.out.tape.trans HG5.out.tape,HG6.out.output.trans HG5.out.output,Nat.le_trans HG5.out.size HG6.out.size,fun k hk hk2=>(HG6.out.block k (Nat.lt_of_lt_of_le hk HG5.out.size) hk2).trans (HG5.out.block k hk hk2)⟩,rfl⟩
theorem V7 (B g:Nat)(o:Own.Ar)(op:Own.Op)(ex:Int)(sv kv mv av:Value)(us:List Value)(w:World)(h:Own.MIn B g o op ex sv kv mv av us w)(hk:op.kind=3):
 Calls Tryz.prog 56 #[.pointer (some ⟨g,0,none⟩)] w (Own.DT w g o.count op ex mv av (Own.ET o op)):=by
 obtain⟨R,hR⟩:∃ R,R=Own.ET o op:=⟨_,rfl⟩
 obtain⟨Q,hQ⟩:∃ Q,Q=Own.DT w g o.count op ex mv av R:=⟨_,rfl⟩
 rw[<- hR,<- hQ]
 obtain⟨sa,sc,hsv⟩:=h.c.sp.slice
 subst hsv
 obtain⟨ka,kn,kc,hkv⟩:=Ad h.c.ks
 subst hkv
 obtain rfl:=Bf h.c.ks
 obtain⟨ma,mc,hmv⟩:=h.c.ms.len
 subst hmv
 obtain⟨aa,ac,hav,_⟩:=id h.A
 subst hav
 have hgl:=h.c.at_.lt
 have hln:=h.ok.len
 unfold Own.ET at hR
 have H:=zh h;have HR:=zh hR;have HQ:=zh hQ
 clear h hR hQ
 have hr:=HR.out
 unfold Own.Gb Own.Ic at hr
 rw[if_neg (show ¬ op.kind=0 by omega),if_neg (show ¬ op.kind=1 by omega),if_neg (show ¬ op.kind=2 by omega),if_pos hk] at hr
 have HR2:=zh hr
 clear hr HR hk
 go_enter Tryz.func56,Tryz.ntmps56
 have c0:=H.out.c.at_.cell 0;have c1:=H.out.c.at_.cell 1;have c2:=H.out.c.at_.cell 2;have c3:=H.out.c.at_.cell 3;have c4:=H.out.c.at_.cell 4;have c5:=H.out.c.at_.cell 5;have c6:=H.out.c.at_.cell 6;have c7:=H.out.c.at_.cell 7;have c8:=H.out.c.at_.cell 8;have c9:=H.out.c.at_.cell 9;have c10:=H.out.c.at_.cell 10
 simp only[Own.Em,List.getElem?_toArray,List.getElem?_cons_zero,List.getElem?_cons_succ] at c0 c1 c2 c3 c4 c5 c6 c7 c8 c9 c10
 have hix:=H.out.ix
 rcases hix with ⟨hx,hxn,_⟩|⟨j,hj,hx,hxs,hxp,_⟩
 case inl=>
  have HE:=zh (show R=.error 6 by rw[HR2.out,hxn])
  have dj:decide (ex<0)=true:=zt
  clear hxn HR2 hx
  go_wp2_with fail
  (try go_ret)
  rw[HQ.out,HE.out]
  exact⟨rfl,by decide,Fr.refl _ _⟩
 have dj:decide (ex<0)=false:=zf
 have hpre:o.spaces[j].pre=op.pre:=of_decide_eq_true hxp
 have HE0:=zh (show R=match Own.AX o.spaces[j] (Own.Bc o op).1 o.keys op.Aa with
  | .error c=>.error c
  | .ok K=>.ok (Own.Oq o.spaces op.pre,K) by rw[HR2.out,hxs]<;>rfl)
 have zdg:=zh (show Own.Oq o.spaces op.pre=o.spaces.take j++o.spaces.drop (j+1) by rw[<- hpre];exact Own.drop_at H.out.ok.ni hj)
 have HX:=zh hx
 clear hxs hxp hpre HR2 hx
 obtain⟨b,q,mv2,ha,hbl,e0,e1,e2,hmv⟩:=Own.BH.cells H.out.c.spaces hj
 subst ha
 have hmo:=(Own.Dp (H.out.ok.sp o.spaces[j] (List.getElem_mem hj))).l8
 obtain⟨ma2,mc2,rfl⟩:=hmv.len
 have iR:=fun W (hW:Below w.heap.size w W)=>(H.out.below hW).app o.spaces[j] _ (hmv.below hW) (by omega)
 obtain⟨S,hS⟩:∃ S,S=o.spaces[j]:=⟨_,rfl⟩
 simp only[<- hS] at e0 e1 e2 iR HE0
 have HAP:=zh iR
 clear hmv hS hmo iR
 obtain rfl:ex=(j:Int):=HX.out
 clear HX
 go_wp2_with fail
 refine Lex.zl ?_
 go_wp2_with fail
 have B3:=zh ((Below.refl w.heap.size w).drew)
 refine(HAP.out _ B3.out).mono ?_
 clear c0 c1 c2 c3 c4 c5 c6 c7 c8 c9 c10
 clear e0 e1 e2
 intro e w4 hpost
 cases hap:Own.AX S (Own.Bc o op).1 o.keys op.Aa with
 | error c =>
   rw[hap] at hpost
   obtain⟨rfl,hb4⟩:=hpost
   have hc:=Own.Gd hap
   have HE:=zh (show R=.error c by rw[HE0.out,hap])
   have dz:(c==(0:Int))=false:=by rw[beq_eq_false_iff_ne];exact hc
   have HC:=zh hc;have B4:=zh (B3.out.trans (hb4.mono B3.out.size))
   clear hap hc hb4 HE0
   go_wp2_with fail
   refine Lex.ze ?_
   go_wp2_with fail
   (try go_ret)
   rw[HQ.out,HE.out]
   exact⟨rfl,HC.out,Fr.of_below B4.out⟩
 | ok L =>
   rw[hap] at hpost
   obtain⟨rfl,⟨sv4,kv4,us4,hc4⟩,hf4⟩:=hpost
   have HE:=zh (show R=.ok (o.spaces.take j++o.spaces.drop (j+1),L) by rw[HE0.out,hap,<- zdg.out])
   have hc4:Own.Chg w.heap.size w4 g ⟨o.count,o.spaces,L⟩ op (j:Int) sv4 kv4 (.slice ma op.members.length mc) (.slice aa op.Aa.length ac) us4:=hc4
   have hf4:Fr (fun k=>k=g) w w4:=(show Fr (fun k=>k=g) w w.drew from Fr.of_below B3.out).trans hf4 (fun _ h=>.inl h)
   obtain⟨sa4,sc4,xC⟩:=hc4.sp.slice
   subst xC
   obtain⟨ka4,kn4,kc4,uD⟩:=Ad hc4.ks
   subst uD
   have HC4:=zh hc4;have HF4:=zh hf4
   have hrow:w4.drew.ownsRow w.heap.size 39 3 (.slice sa4 o.spaces.length sc4) o.spaces.length (Own.AO o.spaces us4):=hc4.sp.row
   have hd:=V6 w.heap.size o.spaces.length j (j+1) _ _ w4.drew hrow (Own.zx hc4.sp) (by omega) (by omega) (by omega) (by omega)
   rw[show((j+1:Nat):Int)=(j:Int)+1 by omega] at hd
   have HD:=zh hd
   clear hap HE0 HAP hd hrow hc4 hf4
   go_wp2_with fail
   refine Lex.ze ?_
   have c0:=HC4.out.at_.cell 0;have c1:=HC4.out.at_.cell 1;have c2:=HC4.out.at_.cell 2;have c3:=HC4.out.at_.cell 3;have c4:=HC4.out.at_.cell 4;have c5:=HC4.out.at_.cell 5;have c6:=HC4.out.at_.cell 6;have c7:=HC4.out.at_.cell 7;have c8:=HC4.out.at_.cell 8;have c9:=HC4.out.at_.cell 9;have c10:=HC4.out.at_.cell 10
   simp only[Own.Em,List.getElem?_toArray,List.getElem?_cons_zero,List.getElem?_cons_succ] at c0 c1 c2 c3 c4 c5 c6 c7 c8 c9 c10
   go_wp2_with fail
   refine Lex.zl ?_
   go_wp2_with fail
   refine HD.out.mono ?_
   rintro e w5 ⟨v5,rfl,ho5,hg5,hv5⟩
   clear c0 c1 c2 c3 c4 c5 c6 c7 c8 c9 c10
   obtain⟨wa,wm,wc,rfl⟩:=Ad ho5
   have uz:g<w4.heap.size:=HC4.out.at_.lt
   have uy:=HC4.out.at_.own_ne HC4.out.sp.row (by decide)
   have EI:At w5 g 87 _:=(hg5.block g uz (fun e=>uy e.symm)).trans HC4.out.at_
   have AT5:=zh EI;have HO5:=zh ho5;have HG5:=zh hg5;have HV5:=zh hv5
   clear ho5 hg5 EI hv5 HD uy
   have c0:=AT5.out.cell 0;have c1:=AT5.out.cell 1;have c2:=AT5.out.cell 2;have c3:=AT5.out.cell 3;have c4:=AT5.out.cell 4;have c5:=AT5.out.cell 5;have c6:=AT5.out.cell 6;have c7:=AT5.out.cell 7;have c8:=AT5.out.cell 8;have c9:=AT5.out.cell 9;have c10:=AT5.out.cell 10
   simp only[Own.Em,List.getElem?_toArray,List.getElem?_cons_zero,List.getElem?_cons_succ] at c0 c1 c2 c3 c4 c5 c6 c7 c8 c9 c10
   have z1:=AT5.out.free 1
   go_wp2_with fail
   refine Lex.ze ?_
   go_wp2_with fail
   (try go_ret)
   have hz4:=HF4.out.size
   have oh:∀ k,k<w4.heap.size->(Value.slice sa4 o.spaces.length sc4).ownBlock≠some k->w5.heap[k]? = w4.heap[k]? :=fun k hk e=>HG5.out.block k hk (fun e2=>e e2.symm)
   have iQ:=Af (w':=w5) HC4.out.ks (fun k e=>oh k (Own.FI HC4.out.ks k e) (fun e2=>Iz HC4.out.ks HC4.out.sp.row (by decide) k e e2))
   have nL:=HC4.out.sp.del (w':=w5) (v':=.slice wa wm wc) hj HO5.out oh (F:=fun k=>w.heap.size<=k) (fun _ h=>h) (fun k e=>Al HO5.out k e)
   have far:∀ k,w.heap.size<=k->(w5.setCell ⟨g,1,none⟩ (.slice wa wm wc)).heap[k]? = w5.heap[k]? :=fun k hk=>zo (by show k≠g;omega)
   rw[HQ.out,HE.out]
   refine⟨rfl,⟨_,_,AT5.out.set 1 _,?_,?_⟩,?_⟩
   ·exact nL.keep (by simp[World.setCell]) (fun k hk _=>far k hk)
   ·exact Cy (enc:=Own.DL) (fun _=>rfl) (fun _=>rfl) (Bh.own (Af iQ (fun k e=>far k (Al iQ k e)))) rfl (fun k hk=>Al iQ k hk)
   ·exact(HF4.out.grown (show w4.grownBy w5 (Value.slice sa4 o.spaces.length sc4).ownBlock from⟨HG5.out.os,HG5.out.tape,HG5.out.output,HG5.out.size,HG5.out.block⟩) (fun k e=>.inr (Al HC4.out.sp.row k e))).setCell (p:=⟨g,1,none⟩) (.inl rfl) _
theorem YM (g:Nat)(lb:Array Value)(eg:∀ args w,(callFunc g args).run Tryz.prog w=.ok (.enter g args) w)(p:Own.Space->Bool)(v:Value)(l:List Own.Space)(w:World)(h:Own.BH w v l)(hl:l.length<=140737488355328)
 (hp:∀ (W:World) (x:Own.Space) (ma:Option Addr) (mc:Nat),Below w.heap.size w W->Calls Tryz.prog g (#[.agg #[.string x.pre,.slice ma x.members.length mc,.int .i64 x.threshold]]++lb) W fun e w' => e=.returned (.bool (p x))/\Below W.heap.size W w'):
 Calls Tryz.prog 51 #[v,.func (.func g) #[] lb] w fun e w' => (∃ i,e=.returned (.int .i64 i)/\Own.Idx p l i)/\Below w.heap.size w w':=by
 obtain⟨a,c,rfl⟩:=h.len
 have HL:=zh h;have HP:=zh hp;clear h hp
 go_enter Tryz.func51,Tryz.ntmps51
 go_wp2_with fail
 go_loopw [8] (fun i wr=>∃ k:Nat,∃ hk:k<=l.length,i=.int .i64 k/\(∀ j (hj:j<k),p (l[j]'(by omega))=false)/\Below w.heap.size w wr) (fun i _=>l.length-(intOf i).toNat)
 case atStart=>exact⟨0,by omega,rfl,(fun j hj=>absurd hj (by omega)),Below.refl _ _⟩
 case round=>
  obtain⟨k,hk,rfl,hn,hb⟩:=hrel
  have HBW:=zh hb;have HN:=zh hn
  by_cases hlt:k<l.length
  case neg=>
   have hke:k=l.length:=by omega
   have dk:decide ((k:Int)<l.length)=false:=zf
   have hix:=Own.Idx.miss (p:=p) (l:=l) (fun j hj=>hn j (by omega))
   have HIX:=zh hix
   clear hix hke hb hn
   go_wp2_with fail
   go_ret
   exact⟨⟨_,rfl,HIX.out⟩,HBW.out⟩
  have dk:decide ((k:Int)<l.length)=true:=zt
  obtain⟨b,o,mv,ha,hbl,e0,e1,e2,hmv⟩:=Own.BH.cells (HL.out.below hb) hlt
  subst ha
  obtain⟨ma,mc,rfl⟩:=hmv.len
  have hcall:=HP.out wr l[k] ma mc hb
  obtain⟨mn,hmn⟩:∃ x,x=l[k].members.length:=⟨_,rfl⟩
  obtain⟨pr,hpr⟩:∃ x,x=l[k].pre:=⟨_,rfl⟩
  obtain⟨th,hth⟩:∃ x,x=l[k].threshold:=⟨_,rfl⟩
  rw[<- hmn] at e1 hcall
  rw[<- hpr] at e0 hcall
  rw[<- hth] at e2 hcall
  clear hb hn hmn hpr hth hmv
  cases hq:p l[k] with
  | true =>
    rw[hq] at hcall
    have hix:=Own.Idx.hit hlt hq (HN.out)
    have HIX:=zh hix
    clear hix hq
    go_wp2_with (go_at_fn g;refine hcall.mono ?_;rintro e w' ⟨rfl,hb'⟩)
    go_ret
    exact⟨⟨_,rfl,HIX.out⟩,HBW.out.trans (hb'.mono HBW.out.size)⟩
  | false =>
    rw[hq] at hcall
    have hn2:∀ j (hj:j<k+1),p (l[j]'(by omega))=false:=fun j hj=>by
     by_cases e:j=k
     ·subst e;exact hq
     ·exact HN.out j (by omega)
    have HN2:=zh hn2
    clear hn2 hq
    go_wp2_with (go_at_fn g;refine hcall.mono ?_;rintro e w' ⟨rfl,hb'⟩)
    go_round
    case measure=>simp[intOf];omega
    case rel=>exact⟨k+1,by omega,by go_num,HN2.out,HBW.out.trans (hb'.mono HBW.out.size)⟩
theorem YO (s:ByteArray)(ma:Option Addr)(mn mc:Nat)(th:Int)(b:Nat)(pre:ByteArray)(w:World)(hc:w.cell? ⟨b,1,none⟩=some (.string pre)):
 Calls Tryz.prog 52 (#[.agg #[.string s,.slice ma mn mc,.int .i64 th]]++#[.pointer (some ⟨b,0,none⟩)]) w fun e w' => e=.returned (.bool (decide (s=pre)))/\Below w.heap.size w w':=by
 have hb1:Below w.heap.size w (w.alloc (.cells #[.string s,.slice ma mn mc,.int .i64 th] 39)):=zb
 have qc:=(hb1.cell (p:=⟨b,1,none⟩) (block_lt hc)).trans hc
 have HB:=zh hb1
 have HE:=zh (show(s.toList==pre.toList)=decide (s=pre) from bytes_beq)
 clear hb1 hc
 show Calls Tryz.prog 52 #[.agg #[.string s,.slice ma mn mc,.int .i64 th],.pointer (some ⟨b,0,none⟩)] w _
 go_enter Tryz.func52,Tryz.ntmps52
 go_wp2_with fail
 go_ret
 exact⟨by rw[<- HE.out];rfl,HB.out⟩
namespace Own
theorem cB {o:Ar}{op:Op}(h1:Bz o=true)(h2:Ez op=true)(h3:¬ o.count=late):Cq o op=match ET o op with
 | .error c=>(.none,c)
 | .ok p=>(⟨o.count+1,p.1,p.2⟩,0):=by
 unfold Cq ET
 rw[if_neg (by rw[h1,h2];simp),if_neg h3]
 cases Gb o.spaces op with
 | error c=>rfl
 | ok p =>
   obtain⟨s,l⟩:=p
   dsimp only
   cases AX s (Bc o op).1 o.keys op.Aa<;>rfl
def RF (w:World)(R:Ar × Int)(e:Ending)(w' : World):Prop:=
 ((R.2 ≠ 0 ∧ R.1 = .none ∧ e = .returned (.tuple #[nobody,.int .i64 R.2])) ∨
   (R.2=0/\∃ sv kv,e=.returned (.tuple #[.agg #[.int .i64 R.1.count,sv,kv],.int .i64 0])/\Au 3 Fw (fun k=>w.heap.size<=k) w' sv R.1.spaces/\Au 2 gL (fun k=>w.heap.size<=k) w' kv R.1.keys))/\Below w.heap.size w w'
end Own
theorem uE {w:World}{base base' n size:Nat}{e:TypeId}{v:Value}{xs:List Value}(h:w.ownsRow base e size v n xs)(hb:base' <= base):w.ownsRow base' e size v n xs:=by
 refine⟨h.1,?_⟩
 rcases h.2 with h0|⟨g,cap,cur,h1,h2,h3⟩
 ·exact .inl h0
 ·exact .inr ⟨g,cap,cur,h1,Nat.le_trans hb h2,h3⟩
theorem Ra (o:Own.Ar)(op:Own.Op)(sv kv mv av:Value)(w:World)(hM:IY w)(hS:Own.BH w sv o.spaces)(hK:Own.DJ w kv o.keys)(hm:Own.Ag w mv op.members)(hA:Own.I4 w av op.Aa)
 (hls:o.spaces.length<=3000000) (hlk:o.keys.length<=800000) (hlm:∀ s∈o.spaces,s.members.length<=3000000) (hml:op.members.length<=140737488355328)
 (hal:∀ a∈op.Aa,a.name.size<=140737488355328/\a.sig.chains.length<=140737488355328/\a.sig.path.length<=140737488355328):
 Calls Tryz.prog 14 #[.agg #[.int .i64 o.count,sv,kv],Own.opV op mv av] w (Own.RF w (Own.Cq o op)):=by
 obtain⟨R,hR⟩:∃ R,R=Own.Cq o op:=⟨_,rfl⟩
 obtain⟨Q,hQ⟩:∃ Q,Q=Own.RF w R:=⟨_,rfl⟩
 rw[<- hR,<- hQ]
 have HR:=zh hR;have HQ:=zh hQ
 clear hR hQ
 obtain⟨sa,sc,rfl⟩:=hS.len
 obtain⟨ka,kc,rfl⟩:=hK.len
 obtain⟨ma,mc,rfl⟩:=hm.len
 obtain⟨aa,ac,rfl,hap⟩:=id hA
 clear hap
 have K1:=zh (show Aw w _ [(25,#[.int .i64 o.count,.slice sa o.spaces.length sc,.slice ka o.keys.length kc]),(29,#[.int .i64 op.kind,.string op.pre,.slice ma op.members.length mc,.int .i64 op.threshold,.string op.name,.string op.pub,.slice aa op.Aa.length ac]),(25,#[.int .i64 0,.slice none 0 0,.slice none 0 0])] from((((Dm.nil w).push 25 #[.int .i64 o.count,.slice sa o.spaces.length sc,.slice ka o.keys.length kc]).push 29 #[.int .i64 op.kind,.string op.pre,.slice ma op.members.length mc,.int .i64 op.threshold,.string op.name,.string op.pub,.slice aa op.Aa.length ac]).push 25 #[.int .i64 0,.slice none 0 0,.slice none 0 0]).boxes)
 have hval:=fun W (hW:Below w.heap.size w W)=>KO o (.slice sa o.spaces.length sc) (.slice ka o.keys.length kc) W (hM.below hW) (hS.below hW) (hK.below hW) (by omega) (by omega) (fun s hs=>by have:=hlm s hs;omega)
 have hfm:=fun W (hW:Below w.heap.size w W)=>J9 op (.slice ma op.members.length mc) (.slice aa op.Aa.length ac) W (hM.below hW) (hm.below hW) ⟨_,_,rfl⟩ hml
 have hcp:=fun W (hW:Below w.heap.size w W)=>Ml o (.slice sa o.spaces.length sc) (.slice ka o.keys.length kc) W (hS.below hW) (hK.below hW) hls (by omega) hlm
 unfold Own.opV at hfm ⊢
 have HV:=zh hval;have HF:=zh hfm;have HC:=zh hcp;have HM:=zh hM;have HS:=zh hS;have HK:=zh hK;have HMM:=zh hm;have HA:=zh hA;have HAL:=zh hal
 clear hval hfm hcp hM hS hK hm hA hal hlm
 go_enter Tryz.func14,Tryz.ntmps14
 go_upto_region 1 with fail
 generalize (((w.alloc (.cells #[.int .i64 o.count,.slice sa o.spaces.length sc,.slice ka o.keys.length kc] 25)).alloc (.cells #[.int .i64 op.kind,.string op.pre,.slice ma op.members.length mc,.int .i64 op.threshold,.string op.name,.string op.pub,.slice aa op.Aa.length ac] 29)).alloc (.cells #[.int .i64 0,.slice none 0 0,.slice none 0 0] 25))=w1 at*
 obtain⟨x00,x01,x02⟩:=K1.out.Gj rfl
 obtain⟨x10,x11,x12,x13,x14,x15,x16⟩:=K1.out.LW rfl
 obtain⟨x20,x21,x22,Gt,Gu,Gv⟩:=K1.out.PX rfl
 go_wp2_with fail
 refine(HV.out w1 K1.out.under).mono ?_
 rintro e w2 ⟨rfl,hb2⟩
 have K2:=zh (K1.out.step hb2)
 clear hb2
 (try clear x00 x01 x02);(try clear x10 x11 x12 x13 x14 x15 x16);(try clear x20 x21 x22 Gt Gu Gv)
 obtain⟨x00,x01,x02⟩:=K2.out.Gj rfl
 obtain⟨x10,x11,x12,x13,x14,x15,x16⟩:=K2.out.LW rfl
 obtain⟨x20,x21,x22,Gt,Gu,Gv⟩:=K2.out.PX rfl
 cases hv:Own.Bz o with
 | false =>
   have HE:=zh (show R=(.none,1) by rw[HR.out,Own.Cq,if_pos (by rw[hv];rfl)])
   clear hv
   obtain⟨wx,hwx⟩:∃ x,x=w2:=⟨_,rfl⟩
   subst hwx
   have Kx:=K2
   (try clear x00 x01 x02);(try clear x10 x11 x12 x13 x14 x15 x16);(try clear x20 x21 x22 Gt Gu Gv)
   obtain⟨x00,x01,x02⟩:=Kx.out.Gj rfl
   obtain⟨x20,x21,x22,Gt,Gu,Gv⟩:=Kx.out.PX rfl
   go_wp2_with fail
   have G2:=((Kx.out.put 2 0 (.int .i64 0) rfl).put 2 1 (.slice none 0 0) rfl).put 2 2 (.slice none 0 0) rfl
   refine BM rfl rfl rfl (AQ (G2.at1 2 rfl) Tryz.underlying25 rfl Bv) ?_
   rw[HQ.out,HE.out]
   exact⟨.inl ⟨by decide,rfl,rfl⟩,G2.under⟩
 | true=>
 go_wp2_with fail
 refine(HF.out w2 K2.out.under).mono ?_
 rintro e w3 ⟨rfl,hb3⟩
 have K3:=zh (K2.out.step hb3)
 clear hb3
 (try clear x00 x01 x02);(try clear x10 x11 x12 x13 x14 x15 x16);(try clear x20 x21 x22 Gt Gu Gv)
 obtain⟨x00,x01,x02⟩:=K3.out.Gj rfl
 obtain⟨x10,x11,x12,x13,x14,x15,x16⟩:=K3.out.LW rfl
 obtain⟨x20,x21,x22,Gt,Gu,Gv⟩:=K3.out.PX rfl
 obtain⟨wx,hwx⟩:∃ x,x=w3:=⟨_,rfl⟩
 cases hf:Own.Ez op with
 | false =>
   have HE:=zh (show R=(.none,1) by rw[HR.out,Own.Cq,if_pos (by rw[hf,Bool.and_false])])
   clear hv hf
   subst hwx
   have Kx:=K3
   (try clear x00 x01 x02);(try clear x10 x11 x12 x13 x14 x15 x16);(try clear x20 x21 x22 Gt Gu Gv)
   obtain⟨x00,x01,x02⟩:=Kx.out.Gj rfl
   obtain⟨x20,x21,x22,Gt,Gu,Gv⟩:=Kx.out.PX rfl
   go_wp2_with fail
   have G2:=((Kx.out.put 2 0 (.int .i64 0) rfl).put 2 1 (.slice none 0 0) rfl).put 2 2 (.slice none 0 0) rfl
   refine BM rfl rfl rfl (AQ (G2.at1 2 rfl) Tryz.underlying25 rfl Bv) ?_
   rw[HQ.out,HE.out]
   exact⟨.inl ⟨by decide,rfl,rfl⟩,G2.under⟩
 | true=>
 by_cases Xc:o.count=Own.late
 ·have HE:=zh (show R=(.none,7) by rw[HR.out,Own.Cq,if_neg (by rw[hv,hf];simp),if_pos Xc])
  have dl:(o.count==(1099511627776:Int))=true:=by rw[Xc];rfl
  clear hv hf Xc
  subst hwx
  have Kx:=K3
  (try clear x00 x01 x02);(try clear x10 x11 x12 x13 x14 x15 x16);(try clear x20 x21 x22 Gt Gu Gv)
  obtain⟨x00,x01,x02⟩:=Kx.out.Gj rfl
  obtain⟨x20,x21,x22,Gt,Gu,Gv⟩:=Kx.out.PX rfl
  go_wp2_with fail
  have G2:=((Kx.out.put 2 0 (.int .i64 0) rfl).put 2 1 (.slice none 0 0) rfl).put 2 2 (.slice none 0 0) rfl
  refine BM rfl rfl rfl (AQ (G2.at1 2 rfl) Tryz.underlying25 rfl Bv) ?_
  rw[HQ.out,HE.out]
  exact⟨.inl ⟨by decide,rfl,rfl⟩,G2.under⟩
 have dl:(o.count==(1099511627776:Int))=false:=by rw[beq_eq_false_iff_ne];exact Xc
 have HR2:=zh (HR.out.trans (Own.cB hv hf Xc))
 have hO:=Own.TF.iff.1 hv
 have HO:=zh hO;have HOP:=zh hf
 clear hv hf Xc hO hwx HR
 go_wp2_with fail
 have y1:(w3.cell? ⟨w.heap.size+1,0,none⟩).isSome=true:=by rw[x10];rfl
 refine Lex.zn (fun k=>k=w.heap.size+1) [2] 3 [2] ?_
 simp only[Lex.Br,zd]
 go_wp2_with fail
 refine(HC.out w3.drew (K3.out.under.trans ((Below.refl w3.heap.size w3).drew.mono K3.out.under.size))).mono ?_
 rintro e w4 ⟨sv',kv',us,B,rfl,hc4⟩
 have B4:=zh (show Below w3.heap.size w3 w4 from(Below.refl w3.heap.size w3).drew.trans hc4.bel)
 have K4:=zh (K3.out.step B4.out)
 have C4:=zh hc4
 clear hc4
 (try clear x00 x01 x02);(try clear x10 x11 x12 x13 x14 x15 x16);(try clear x20 x21 x22 Gt Gu Gv)
 obtain⟨x00,x01,x02⟩:=K4.out.Gj rfl
 obtain⟨x10,x11,x12,x13,x14,x15,x16⟩:=K4.out.LW rfl
 obtain⟨x20,x21,x22,Gt,Gu,Gv⟩:=K4.out.PX rfl
 go_wp2_with fail
 have hl3:w.heap.size+1<w3.heap.size:=K3.out.lt (i:=1) (by simp)
 refine Lex.Mid.intro (fun k hk hkl=>by rw[hk];exact B4.out.block _ hl3) ?_
 go_wp2_with fail
 refine Lex.zk ⟨⟨rfl,y1⟩,trivial⟩ ?_
 obtain⟨va,vn,vc,rfl⟩:=Ad C4.out.sp.row
 obtain rfl:=Bf C4.out.sp.row
 obtain⟨ua,un,uc,rfl⟩:=Ad C4.out.ks
 obtain rfl:=Bf C4.out.ks
 go_upto_region 6 with fail
 have hb5:Below w4.heap.size w4 (w4.alloc (.cells (Own.Em o.count (.slice va o.spaces.length vc) (.slice ua o.keys.length uc) op (.slice ma op.members.length mc) (.slice aa op.Aa.length ac) 0) 87)):=zb
 have EI:=At.new w4 87 (Own.Em o.count (.slice va o.spaces.length vc) (.slice ua o.keys.length uc) op (.slice ma op.members.length mc) (.slice aa op.Aa.length ac) 0)
 unfold Own.Em at hb5 EI
 have K5:=zh (K4.out.step hb5)
 have HB5:=zh hb5;have Ie:=zh EI
 clear hb5 EI
 generalize w4.alloc (.cells #[.int .i64 o.count,.slice va o.spaces.length vc,.slice ua o.keys.length uc,.int .i64 op.kind,.string op.pre,.slice ma op.members.length mc,.int .i64 op.threshold,.string op.name,.string op.pub,.slice aa op.Aa.length ac,.int .i64 0] 87)=w5 at*
 have hz4:=K4.out.size
 have hgw:w.heap.size+3<=w4.heap.size:=by simpa using hz4
 obtain⟨g,hg⟩:∃ g,g=w4.heap.size:=⟨_,rfl⟩
 rw[<- hg] at Ie hgw ⊢
 have HG:=zh hg
 clear hg hz4
 (try clear x00 x01 x02);(try clear x10 x11 x12 x13 x14 x15 x16);(try clear x20 x21 x22 Gt Gu Gv)
 obtain⟨x00,x01,x02⟩:=K5.out.Gj rfl
 obtain⟨x10,x11,x12,x13,x14,x15,x16⟩:=K5.out.LW rfl
 obtain⟨x20,x21,x22,Gt,Gu,Gv⟩:=K5.out.PX rfl
 have HIX:=zh (YM 52 #[.pointer (some ⟨w.heap.size+1,0,none⟩)] Tryz.call52 (fun s=>decide (s.pre=op.pre)) (.slice sa o.spaces.length sc) o.spaces w5 (HS.out.below K5.out.under) (by omega) (fun W x ma mc hW=>YO x.pre ma _ mc x.threshold (w.heap.size+1) op.pre W (by rw[hW.cell (p:=⟨w.heap.size+1,1,none⟩) (block_lt x11)];exact x11)))
 have f5:=Ie.out.cell 10;have f5f:=Ie.out.free 10
 go_wp2_with fail
 refine HIX.out.mono ?_
 rintro e w6 ⟨⟨i,rfl,hix⟩,hb6⟩
 have Dv:=Ie.out.below hb6 Ie.out.lt
 have K6:=zh (K5.out.step hb6)
 have HB6:=zh hb6;have EU:=zh Dv;have HI:=zh hix
 clear hb6 Dv hix HIX f5 f5f
 (try clear x00 x01 x02);(try clear x10 x11 x12 x13 x14 x15 x16);(try clear x20 x21 x22 Gt Gu Gv)
 obtain⟨x00,x01,x02⟩:=K6.out.Gj rfl
 obtain⟨x10,x11,x12,x13,x14,x15,x16⟩:=K6.out.LW rfl
 obtain⟨x20,x21,x22,Gt,Gu,Gv⟩:=K6.out.PX rfl
 have f6:=EU.out.cell 10;have f6f:=EU.out.free 10
 go_upto_region 7 with fail
 have JN:=EU.out.set 10 (.int .i64 i)
 have K7:=zh (K6.out.over (w':=w6.setCell ⟨g,10,none⟩ (.int .i64 i)) ((Below.refl _ _).setCell (p:=⟨g,10,none⟩) (by show w.heap.size+3<=g;exact hgw) _))
 have hb7:Below g w6 (w6.setCell ⟨g,10,none⟩ (.int .i64 i)):=(Below.refl _ _).setCell (p:=⟨g,10,none⟩) (Nat.le_refl _) _
 have hs7:(w6.setCell ⟨g,10,none⟩ (.int .i64 i)).heap.size=w6.heap.size:=by simp[World.setCell]
 have HB7:=zh hb7;have PD:=zh JN;have HS7:=zh hs7
 clear hb7 JN hs7 f6 f6f
 generalize w6.setCell ⟨g,10,none⟩ (.int .i64 i)=w7 at*
 (try clear x00 x01 x02);(try clear x10 x11 x12 x13 x14 x15 x16);(try clear x20 x21 x22 Gt Gu Gv)
 obtain⟨x00,x01,x02⟩:=K7.out.Gj rfl
 obtain⟨x10,x11,x12,x13,x14,x15,x16⟩:=K7.out.LW rfl
 obtain⟨x20,x21,x22,Gt,Gu,Gv⟩:=K7.out.PX rfl
 go_upto_region 8 with fail
 have hb8:Below w7.heap.size w7 (w7.alloc (.cells #[.func (.func 53) #[.pointer (some ⟨g,0,none⟩)] #[],.func (.func 54) #[.pointer (some ⟨g,0,none⟩)] #[],.func (.func 55) #[.pointer (some ⟨g,0,none⟩)] #[],.func (.func 56) #[.pointer (some ⟨g,0,none⟩)] #[],.func (.func 57) #[.pointer (some ⟨g,0,none⟩)] #[]] 90)):=zb
 have XW:=At.new w7 90 #[.func (.func 53) #[.pointer (some ⟨g,0,none⟩)] #[],.func (.func 54) #[.pointer (some ⟨g,0,none⟩)] #[],.func (.func 55) #[.pointer (some ⟨g,0,none⟩)] #[],.func (.func 56) #[.pointer (some ⟨g,0,none⟩)] #[],.func (.func 57) #[.pointer (some ⟨g,0,none⟩)] #[]]
 have HB8:=zh hb8;have vP:=zh XW
 clear hb8 XW
 generalize w7.alloc (.cells #[.func (.func 53) #[.pointer (some ⟨g,0,none⟩)] #[],.func (.func 54) #[.pointer (some ⟨g,0,none⟩)] #[],.func (.func 55) #[.pointer (some ⟨g,0,none⟩)] #[],.func (.func 56) #[.pointer (some ⟨g,0,none⟩)] #[],.func (.func 57) #[.pointer (some ⟨g,0,none⟩)] #[]] 90)=w8 at*
 have K8:=zh (K7.out.step HB8.out)
 have zdh:g<w7.heap.size:=PD.out.lt
 have Vr:=zh (PD.out.below HB8.out zdh)
 have HGL:=zh (show g<w8.heap.size from Vr.out.lt)
 have hb48:Below w4.heap.size w4 w8:=by
  have e5:=HB5.out
  have e6:=HB6.out.mono e5.size
  have e7:Below w4.heap.size w6 w7:=by rw[<- HG.out];exact HB7.out
  have e8:=HB8.out.mono (show w4.heap.size<=w7.heap.size by have:=HG.out;omega)
  exact((e5.trans e6).trans e7).trans e8
 have zdi:Own.Chg (w3.drew.heap.size+2) w8 g o op i (.slice va o.spaces.length vc) (.slice ua o.keys.length uc) (.slice ma op.members.length mc) (.slice aa op.Aa.length ac) us:=
  ⟨Vr.out,C4.out.sp.below hb48,uE (own_below C4.out.ks hb48) C4.out.lo,(HMM.out.mono (fun k _ hk=>by show k≠g;omega)).below K8.out.under⟩
 have hmin:Own.MIn (w3.drew.heap.size+2) g o op i (.slice va o.spaces.length vc) (.slice ua o.keys.length uc) (.slice ma op.members.length mc) (.slice aa op.Aa.length ac) us w8:=
  ⟨zdi,HM.out.below K8.out.under,HA.out.below K8.out.under,HO.out,HOP.out,HI.out,hlk,HAL.out⟩
 have uF:=zh hmin
 clear hb48 zdi hmin
 obtain⟨r,hr⟩:∃ r,r=w7.heap.size:=⟨_,rfl⟩
 rw[<- hr] at vP ⊢
 clear hr zdh
 obtain⟨f0,f1,f2,f3,f4⟩:=vP.out.c5
 (try clear x00 x01 x02);(try clear x10 x11 x12 x13 x14 x15 x16);(try clear x20 x21 x22 Gt Gu Gv)
 obtain⟨x00,x01,x02⟩:=K8.out.Gj rfl
 obtain⟨x10,x11,x12,x13,x14,x15,x16⟩:=K8.out.LW rfl
 obtain⟨x20,x21,x22,Gt,Gu,Gv⟩:=K8.out.PX rfl
 have hz:=Own.LU.of HOP.out
 have hk0:=hz.k0;have hk4:=hz.k4
 clear hz
 obtain⟨F,eg,fF,hm8⟩:∃ F,(∀ args w,(callFunc F args).run Tryz.prog w=.ok (.enter F args) w)/\w8.cell? ⟨r,op.kind.toNat,none⟩=some (.func (.func F) #[.pointer (some ⟨g,0,none⟩)] #[])/\Calls Tryz.prog F #[.pointer (some ⟨g,0,none⟩)] w8 (Own.DT w8 g o.count op i (.slice ma op.members.length mc) (.slice aa op.Aa.length ac) (Own.ET o op)):=by
  rcases(show op.kind=0\/op.kind=1\/op.kind=2\/op.kind=3\/op.kind=4 by omega) with hk|hk|hk|hk|hk
  ·exact⟨_,Tryz.call53,by rw[hk];exact f0,bX _ g o op i _ _ _ _ us w8 uF.out hk⟩
  ·exact⟨_,Tryz.call54,by rw[hk];exact f1,bY _ g o op i _ _ _ _ us w8 uF.out hk⟩
  ·exact⟨_,Tryz.call55,by rw[hk];exact f2,U5 _ g o op i _ _ _ _ us w8 uF.out hk⟩
  ·exact⟨_,Tryz.call56,by rw[hk];exact f3,V7 _ g o op i _ _ _ _ us w8 uF.out hk⟩
  ·exact⟨_,Tryz.call57,by rw[hk];exact f4,YL _ g o op i _ _ _ _ us w8 uF.out hk⟩
 obtain⟨kn,hkn⟩:∃ kn,kn=op.kind.toNat:=⟨_,rfl⟩
 rw[<- hkn] at fF
 rw[show op.kind=(kn:Int) by omega] at x10
 have hk5:kn<5:=by omega
 have HM8:=zh hm8
 clear hk0 hk4 hkn hm8 f0 f1 f2 f3 f4
 go_wp2_with fail
 refine HM8.out.mono ?_
 intro e w9 hp
 clear HM8 fF eg
 cases hq:Own.ET o op with
 | error c =>
   rw[hq] at hp
   obtain⟨rfl,hc,hfr⟩:=hp
   have HE:=zh (show R=(.none,c) by rw[HR2.out,hq])
   have dz:(c==(0:Int))=false:=by rw[beq_eq_false_iff_ne];exact hc
   have K9:=zh (K8.out.over (hfr.below (B:=w.heap.size+3) (Nat.le_trans (by simp) K8.out.size) (fun k hk=>by rw[hk];exact hgw)))
   have HC9:=zh hc
   clear hq hfr hc
   obtain⟨wx,hwx⟩:∃ x,x=w9:=⟨_,rfl⟩
   subst hwx
   have Kx:=K9
   (try clear x00 x01 x02);(try clear x10 x11 x12 x13 x14 x15 x16);(try clear x20 x21 x22 Gt Gu Gv)
   obtain⟨x00,x01,x02⟩:=Kx.out.Gj rfl
   obtain⟨x20,x21,x22,Gt,Gu,Gv⟩:=Kx.out.PX rfl
   go_wp2_with fail
   have G2:=((Kx.out.put 2 0 (.int .i64 0) rfl).put 2 1 (.slice none 0 0) rfl).put 2 2 (.slice none 0 0) rfl
   refine BM rfl rfl rfl (AQ (G2.at1 2 rfl) Tryz.underlying25 rfl Bv) ?_
   rw[HQ.out,HE.out]
   exact⟨.inl ⟨HC9.out,rfl,rfl⟩,G2.under⟩
 | ok p =>
   obtain⟨S',L'⟩:=p
   rw[hq] at hp
   obtain⟨rfl,⟨sv9,kv9,nR,hs9,hk9⟩,hfr⟩:=hp
   have HE:=zh (show R=(⟨o.count+1,S',L'⟩,0) by rw[HR2.out,hq])
   have K9:=zh (K8.out.over (hfr.below (B:=w.heap.size+3) (Nat.le_trans (by simp) K8.out.size) (fun k hk=>by rw[hk];exact hgw)))
   obtain⟨sa9,sc9,rfl⟩:=hs9.len
   obtain⟨ka9,kc9,rfl⟩:=hk9.len
   have hc0:=HO.out.c0
   have hc1:o.count<=1099511627776:=HO.out.c1
   have KZ:=zh nR;have HS9:=zh hs9;have HK9:=zh hk9;have HFR:=zh hfr
   clear hq hfr nR hs9 hk9
   have c0:=KZ.out.cell 0;have c1:=KZ.out.cell 1;have c2:=KZ.out.cell 2;have c3:=KZ.out.cell 3;have c4:=KZ.out.cell 4;have c5:=KZ.out.cell 5;have c6:=KZ.out.cell 6;have c7:=KZ.out.cell 7;have c8:=KZ.out.cell 8;have c9:=KZ.out.cell 9;have c10:=KZ.out.cell 10
   simp only[Own.Em,List.getElem?_toArray,List.getElem?_cons_zero,List.getElem?_cons_succ] at c0 c1 c2 c3 c4 c5 c6 c7 c8 c9 c10
   have cf:=KZ.out.free 0
   go_upto_region 12 with fail
   have K10:=zh (K9.out.over (w':=w9.setCell ⟨g,0,none⟩ (.int .i64 (o.count+1))) ((Below.refl _ _).setCell (p:=⟨g,0,none⟩) (by show w.heap.size+3<=g;exact hgw) _))
   have zA:=KZ.out.set 0 (.int .i64 (o.count+1))
   have Jb:∀ k,k≠g->(w9.setCell ⟨g,0,none⟩ (.int .i64 (o.count+1))).heap[k]? = w9.heap[k]? :=fun k hk=>zo hk
   have ou:(w9.setCell ⟨g,0,none⟩ (.int .i64 (o.count+1))).heap.size=w9.heap.size:=by simp[World.setCell]
   have Jc:=zh zA;have zeu:=zh Jb;have zev:=zh ou
   clear c0 c1 c2 c3 c4 c5 c6 c7 c8 c9 c10
   clear zA Jb ou cf
   generalize w9.setCell ⟨g,0,none⟩ (.int .i64 (o.count+1))=w10 at*
   have c0:=Jc.out.cell 0;have c1:=Jc.out.cell 1;have c2:=Jc.out.cell 2
   simp only[Own.Em,List.getElem?_toArray,List.getElem?_cons_zero,List.getElem?_cons_succ,List.setIfInBounds_toArray,List.set_cons_zero] at c0 c1 c2
   (try clear x00 x01 x02);(try clear x10 x11 x12 x13 x14 x15 x16);(try clear x20 x21 x22 Gt Gu Gv)
   obtain⟨x00,x01,x02⟩:=K10.out.Gj rfl
   obtain⟨x20,x21,x22,Gt,Gu,Gv⟩:=K10.out.PX rfl
   go_wp2_with fail
   have G2:=((K10.out.put 2 0 (.int .i64 (o.count+1)) rfl).put 2 1 (.slice sa9 S'.length sc9) rfl).put 2 2 (.slice ka9 L'.length kc9) rfl
   refine BM rfl rfl rfl (AQ (G2.at1 2 rfl) Tryz.underlying25 rfl Bv) ?_
   rw[HQ.out,HE.out]
   have hz8:=K8.out.size
   have hg8:=HGL.out
   have far:∀ k,w8.heap.size<=k->(((w10.setCell ⟨w.heap.size+2,0,none⟩ (.int .i64 (o.count+1))).setCell ⟨w.heap.size+2,1,none⟩ (.slice sa9 S'.length sc9)).setCell ⟨w.heap.size+2,2,none⟩ (.slice ka9 L'.length kc9)).heap[k]? = w9.heap[k]? :=fun k hk=>by
    have hne:k≠w.heap.size+2:=by simp at hz8;omega
    rw[zo hne,zo hne,zo hne,zeu.out k (by omega)]
   have hsz:w9.heap.size<=(((w10.setCell ⟨w.heap.size+2,0,none⟩ (.int .i64 (o.count+1))).setCell ⟨w.heap.size+2,1,none⟩ (.slice sa9 S'.length sc9)).setCell ⟨w.heap.size+2,2,none⟩ (.slice ka9 L'.length kc9)).heap.size:=by simp[World.setCell,zev.out]
   refine⟨.inr ⟨rfl,_,_,rfl,?_,?_⟩,G2.under⟩
   ·exact(HS9.out.keep hsz (fun k hk _=>far k hk)).mono (fun k hk _=>by simp at hz8;omega)
   ·exact(HK9.out.keep hsz (fun k hk _=>far k hk)).mono (fun k hk _=>by simp at hz8;omega)
end
section
open Go
namespace Own
def opW (op:Op)(l:List Aj):Op :={ op with Aa:=l }
theorem iT {op:Op}{l:List Aj}(h:l.length<=8):Ez (opW op l)=Ez (opW op []):=by
 have e:decide (l.length<=8)=true:=decide_eq_true h
 unfold Ez opW
 dsimp only
 rw[e]
 rfl
theorem xE {o:Ar}{op:Op}{l:List Aj}(h:l.length<=8):Bc o (opW op l)=Bc o (opW op []):=by
 unfold Bc
 rw[iT h]
 rfl
def Bl (o:Ar)(op:Op)(i:Nat)(ks:List Nat):Op:=opW op (ks.map (Dy i (Bc o (opW op [])).1))
def FL (p:ByteArray)(th:Int)(l:List Nat):Op:=⟨0,p,Bo l,th,⟨#[]⟩,⟨#[]⟩,[]⟩
theorem OW {o:Ar}{op:Op}{i:Nat}{ks:List Nat}{s:Space}{l' : List Space}(ho:Bz o=true)(hop:Ez (opW op [])=true)(hc:o.count≠late)(hw:Gb o.spaces op=.ok (s,l'))(hi:i<2)(hK:KB o.keys)(hd:ks.Nodup)(hl:∀ b∈ks,b<256)(h8:ks.length<=8)
 (hf:∀ b∈ks,find s.members (CZ b)=some (aJ b)/\Bj o.keys (Gi b)<=i) (ht:s.threshold<=ks.length):
 Cq o (Bl o op i ks)=(⟨o.count+1,l',ks.foldl (JO i) o.keys⟩,0):=by
 have h8' : (ks.map (Dy i (Bc o (opW op [])).1)).length<=8:=by rw[List.length_map];exact h8
 have hw' : Gb o.spaces (Bl o op i ks)=.ok (s,l'):=hw
 have ha:AX s (Bc o (Bl o op i ks)).1 o.keys (Bl o op i ks).Aa=.ok (ks.foldl (JO i) o.keys):=by
  have e:Bc o (Bl o op i ks)=Bc o (opW op []):=xE h8'
  rw[e]
  unfold AX
  show(match Bp s (Bc o (opW op [])).1 [] o.keys (ks.map (Dy i (Bc o (opW op [])).1)) with|.error c=>_|.ok K' => if (((ks.map (Dy i (Bc o (opW op [])).1)).length:Nat):Int)<s.threshold then _ else _)=_
  rw[KG hi ks [] o.keys hK hd hl (fun b hb=>⟨(hf b hb).1,(by simp),(hf b hb).2⟩)]
  dsimp only
  rw[List.length_map,if_neg (by omega)]
 unfold Cq
 have hop' : Ez (Bl o op i ks)=true:=by unfold Bl;rw[iT h8'];exact hop
 rw[if_neg (by rw[ho,hop'];simp),if_neg hc,hw']
 dsimp only
 rw[ha]
theorem Xd (l:List Nat):(Bo l).length=l.length:=List.length_map _
theorem Np {p:ByteArray}{th:Int}{l:List Nat}(hp:BL p=true)(hl:I8 l)(h1:1<=l.length)(h8:l.length<=8)(ht:1<=th)(ht2:th<=l.length)(k:Int)(hk0:0<=k)(hk:k<3):Ez ⟨k,p,Bo l,th,⟨#[]⟩,⟨#[]⟩,[]⟩=true:=by
 unfold Ez Wt opName
 dsimp only
 rw[hp,if_neg (by omega),if_neg (by omega),kC hl h1 h8,Xd,decide_eq_true ht,decide_eq_true ht2,decide_eq_true hk0,decide_eq_true (show k<=4 by omega)]
 rfl
theorem xG:Bz .none=true:=rfl
theorem U7 {l:List Nat}(h:I8 l):l.Nodup:=h.srt.imp fun {a b} hab=>by omega
theorem iU (p:ByteArray):Bj [] p=0:=rfl
theorem uG {p:ByteArray}{th:Int}{l:List Nat}(hp:BL p=true)(hl:I8 l)(h1:1<=l.length)(h8:l.length<=8)(ht:1<=th)(ht2:th<=l.length):
 Cq .none (Bl .none (FL p th l) 0 l)=(⟨1,[⟨p,Bo l,th⟩],l.foldl (JO 0) []⟩,0):=
 OW (o:=.none) xG (Np hp hl h1 h8 ht ht2 0 (by omega) (by omega)) (by decide) rfl (by omega) KB.nil (U7 hl) hl.lt h8 (fun b hb=>⟨aL hl.lt hb,by rw[show Ar.none.keys=[] from rfl,iU];omega⟩) ht2
theorem zaA {p:ByteArray}{th:Int}{l:List Nat}(hp:BL p=true)(hl:I8 l)(h1:1<=l.length)(h8:l.length<=8)(ht:1<=th)(ht2:th<=l.length):Bb ⟨p,Bo l,th⟩=true:=by
 unfold Bb
 dsimp only
 rw[hp,kC hl h1 h8,Xd,decide_eq_true ht,decide_eq_true ht2]
 rfl
theorem xH {n:Int}{S:List Space}{K:List KeyUse}(h0:0<=n)(h1:n<=late)(hS:∀ s∈S,Bb s=true)(hs:Srt Space.pre S)(hl:S.length<=64)(hK:KB K):Bz ⟨n,S,K⟩=true:=
 TF.iff.2 ⟨h0,h1,hl,hS,hs,hK.ok,hK.srt⟩
/-! ### the example -/
def sA:ByteArray:=⟨#[97]⟩
def sAB:ByteArray:=⟨#[97,47,98]⟩
theorem zB:BL sA=true:=rfl
theorem uH:BL sAB=true:=rfl
def Ed (f:Nat):Ar:=⟨1,[⟨sA,Bo [f],1⟩],[f].foldl (JO 0) []⟩
theorem iV {f:Nat}(hf:f<256):Cq .none (Bl .none (FL sA 1 [f]) 0 [f])=(Ed f,0):=uG zB (I8.one hf) (Nat.le_refl 1) (by simp) (by omega) (by simp)
theorem kS {f:Nat}(hf:f<256):Bz (Ed f)=true:=
 xH (by omega) (by decide) (fun s hs=>by rw[List.mem_singleton.1 hs];exact zaA zB (I8.one hf) (Nat.le_refl 1) (by simp) (by omega) (by simp)) (List.pairwise_singleton _ _) (by simp) (KB.fold (by omega) KB.nil (I8.one hf).lt)
def UD (p:ByteArray)(l:List Nat):Op:=⟨2,p,Bo l,1,⟨#[]⟩,⟨#[]⟩,[]⟩
def LY (f s:Nat):Ar:=⟨2,[⟨sA,Bo [f],1⟩,⟨sAB,Bo [s],1⟩],[f].foldl (JO 1) ([f].foldl (JO 0) [])⟩
theorem xI:Ak sA sAB=true:=by unfold Ak;rw[ByteArray.toList_eq,ByteArray.toList_eq];rfl
theorem xJ (x:Space)(hx:x.pre=sA)(op:Op)(hk:op.kind=2)(hp:op.pre=sAB):Gb [x] op=.ok (x,[x,AY op]):=by
 have h1:Ic [x] op.pre=none:=by
  unfold Ic
  rw[List.find?_cons_of_neg (by rw[hx,hp];decide)]
  rfl
 have h2:CY op.pre none [x]=some x:=by
  have:belongs sAB sA=true:=rfl
  unfold CY
  rw[hx,hp,this]
  rfl
 have h3:Dw Space.pre (AY op) [x]=[x,AY op]:=by
  have:Ak x.pre (AY op).pre=true:=by rw[hx,show(AY op).pre=op.pre from rfl,hp];exact xI
  unfold Dw
  rw[if_pos this]
  rfl
 unfold Gb
 rw[if_neg (by omega),if_neg (by omega),if_pos hk,h1,h2,h3]
 rfl
theorem cO {f s:Nat}(hf:f<256)(hs:s<256):Cq (Ed f) (Bl (Ed f) (UD sAB [s]) 1 [f])=(LY f s,0):=by
 have hw:Gb (Ed f).spaces (UD sAB [s])=.ok (⟨sA,Bo [f],1⟩,[⟨sA,Bo [f],1⟩,⟨sAB,Bo [s],1⟩]):=xJ _ rfl _ rfl rfl
 have hop:Ez (opW (UD sAB [s]) [])=true:=Np uH (I8.one hs) (th:=1) (Nat.le_refl 1) (by simp) (by omega) (by simp) 2 (by omega) (by omega)
 have hc:(Ed f).count≠late:=by show(1:Int)≠late;decide
 have hK:KB (Ed f).keys:=KB.fold (by omega) KB.nil (I8.one hf).lt
 have hn:Bj (Ed f).keys (Gi f)<=(1:Nat):=by
  show Bj ([f].foldl (JO 0) []) (Gi f)<=_
  rw[WB (by omega) hf KB.nil (I8.one hf).lt,if_pos (by simp)]
  decide
 have h:=OW (i:=1) (ks:=[f]) (kS hf) hop hc hw (by omega) hK (U7 (I8.one hf)) (I8.one hf).lt (by simp) (fun b hb=>by
  rw[List.mem_singleton.1 hb]
  exact⟨aL (I8.one hf).lt (by simp),hn⟩) (by simp)
 rw[h]
 have e:(Ed f).count+1=(2:Int):=rfl
 rw[e]
 unfold LY Ed
 rfl
theorem xL {f s:Nat}(hf:f<256)(hs:s<256):Bz (LY f s)=true:=by
 have h:=cO hf hs
 have h2:=rW (o:=Ed f) (op:=Bl (Ed f) (UD sAB [s]) 1 [f]) (by rw[h])
 rw[h] at h2
 exact h2.1
end Own
namespace Own
/-! ### the nearest space -/
theorem YP {p:ByteArray}(h:belongs p sAB=true):belongs p sA=true:=by
 unfold belongs at h ⊢
 rw[Bool.or_eq_true,decide_eq_true_eq] at h
 rcases h with rfl|h
 ·rfl
 ·have h1:=List.isPrefixOf_iff_prefix.1 h
  have h2:sA.data.toList++[47] <+: sAB.data.toList++[47]:=⟨[98,47],rfl⟩
  rw[Bool.or_eq_true]
  exact .inr (List.isPrefixOf_iff_prefix.2 (h2.trans h1))
theorem zdj (p:ByteArray)(x y:Space)(hx:x.pre=sA)(hy:y.pre=sAB):CY p none [x,y]=if belongs p sAB then some y else if belongs p sA then some x else none:=by
 have hd :=@YP p
 have hz:decide (x.pre.size<y.pre.size)=true:=by rw[hx,hy];rfl
 unfold CY CY CY
 rw[hx,hy]
 cases h1:belongs p sAB with
 | true =>
   rw[hd h1]
   simp only[Bool.true_and,if_true]
   rw[hx]
   rfl
 | false =>
   cases h2:belongs p sA with
   | true=>simp
   | false=>simp
theorem uJ {f s:Nat}(hf:f<256)(hs:s<256)(p:ByteArray):authority (LY f s) p=if BL p=false then none else if belongs p sAB then some ⟨sAB,Bo [s],1⟩ else if belongs p sA then some ⟨sA,Bo [f],1⟩ else none:=by
 unfold authority
 rw[xL hf hs,Bool.true_and]
 cases BL p with
 | false=>rfl
 | true =>
   rw[if_pos rfl,if_neg (by simp)]
   exact zdj p _ _ rfl rfl
def oz:ByteArray:=⟨#[97,47,98,47,99]⟩
end Own
namespace Own
theorem zaB (b i:Nat)(hi:i<2)(msg:ByteArray):D8 (Sig.BJ (BK.Ce b) i msg)=true:=by
 have h:=aM b i hi msg
 have hp:(Sig.BJ (BK.Ce b) i msg).path.length=1:=by unfold Sig.BJ;rfl
 generalize Sig.BJ (BK.Ce b) i msg=s at h hp
 generalize Gi b=p at h
 unfold Sig.verify Sig.included at h
 simp only[Bool.and_eq_true,decide_eq_true_eq] at h
 obtain⟨⟨⟨⟨⟨h1,h2⟩,h3⟩,h4⟩,h5⟩,h6⟩:=h
 unfold D8
 rw[decide_eq_true h2,decide_eq_true h4,decide_eq_true (show s.path.length<=6 by omega),h5,h6.1.1.1.1.1.1.2]
 rfl
theorem RG (b i:Nat)(hi:i<2)(msg:ByteArray):D8 (Dy i msg b).sig=true:=zaB b i hi msg
theorem LH (b:Nat):(CZ b).size=4:=rfl
theorem UE (b i:Nat)(msg:ByteArray):(Dy i msg b).sig.index=(i:Int):=Nc _ _ _
theorem cZ {o:Ar}{op:Op}{i:Nat}{ks:List Nat}(hop:Ez (opW op [])=true)(hi:i<2)(h8:ks.length<=8):Gh (Bl o op i ks)=true:=by
 have h8' : (ks.map (Dy i (Bc o (opW op [])).1)).length<=8:=by rw[List.length_map];exact h8
 unfold Gh Bl
 rw[iT h8',hop,Bool.true_and,List.all_eq_true]
 intro a ha
 have ha:a∈ks.map (Dy i (Bc o (opW op [])).1):=ha
 obtain⟨b,_,rfl⟩:=List.mem_map.1 ha
 exact RG b i hi _
theorem Ik {o:Ar}{op:Op}{i:Nat}{ks:List Nat} : (Bl o op i ks).Aa=ks.map (Dy i (Bc o (opW op [])).1):=rfl
theorem iW (i:Nat)(msg:ByteArray):∀ ks:List Nat,EP (ks.map (Dy i msg))=4*ks.length
 | []=>rfl
 | b :: ks => by
   show(CZ b).size+EP (ks.map (Dy i msg))=4*(ks.length+1)
   rw[iW i msg ks,LH]
   omega
theorem iX {o:Ar}{op:Op}{i:Nat}{ks:List Nat}(hop:Ez (opW op [])=true)(hi:i<2)(h8:ks.length<=8):(Du (Bl o op i ks)).2=0/\Oj (Du (Bl o op i ks)).1=(Bl o op i ks,0)/\(Du (Bl o op i ks)).1.size<=100000:=by
 have hf:=cZ (o:=o) hop hi h8
 have hn:=iW i (Bc o (opW op [])).1 ks
 rw[<- Ik (o:=o) (op:=op) (i:=i) (ks:=ks)] at hn
 have ha:∀ a∈(Bl o op i ks).Aa,a.name.size<9223372036854775808/\a.sig.index<9223372036854775808:=fun a ha=>by
  rw[Ik] at ha
  obtain⟨b,_,rfl⟩:=List.mem_map.1 ha
  rw[UE]
  exact⟨by rw[show(Dy i (Bc o (opW op [])).1 b).name=CZ b from rfl,LH];decide,by omega⟩
 have hl:(Bl o op i ks).Aa.length=ks.length:=by rw[Ik,List.length_map]
 have hs:∀ a∈(Bl o op i ks).Aa,D8 a.sig=true:=fun a ha=>by
  rw[Ik] at ha
  obtain⟨b,_,rfl⟩:=List.mem_map.1 ha
  exact RG b i hi _
 generalize Bl o op i ks=x at*
 refine⟨?_,nC hf ha,?_⟩
 ·unfold Du
  rw[if_pos hf]
 ·have hok:Ez x=true:=by unfold Gh at hf;exact(Bool.and_eq_true _ _ ▸ hf).1
  have h1:=GL (LU.of hok)
  have h2:=RB x.Aa hs
  have h3:=Cod.Co x.Aa.length
  unfold Du
  rw[if_pos hf]
  show(Dj x++(Cod.uns x.Aa.length++Cod.cat (x.Aa.map AL))).size<=_
  rw[Sha.Ah,Sha.Ah]
  omega
def opA:Op:=Bl (Ed 1) (UD sAB [2]) 1 [1]
theorem zaC {s:Nat}(hs:s<256){p:ByteArray}(hp:BL p=true):Ez (opW (UD p [s]) [])=true:=
 Np hp (I8.one hs) (th:=1) (Nat.le_refl 1) (by simp) (by omega) (by simp) 2 (by omega) (by omega)
theorem oC:Cq (Ed 1) opA=(LY 1 2,0):=cO (by omega) (by omega)
theorem xM:(Du opA).2=0/\Oj (Du opA).1=(opA,0)/\(Du opA).1.size<=100000:=iX (zaC (by omega) uH) (by omega) (by simp)
def iY:ByteArray:=⟨#[97,47,98,99]⟩
def sB:ByteArray:=⟨#[98]⟩
theorem zaD:authority (LY 1 2) oz=some ⟨sAB,Bo [2],1⟩:=by
 rw[uJ (by omega) (by omega),if_neg (by rw[show BL oz=true from rfl];decide),if_pos (show belongs oz sAB=true from rfl)]
theorem zaE:authority (LY 1 2) iY=some ⟨sA,Bo [1],1⟩:=by
 rw[uJ (by omega) (by omega),if_neg (by rw[show BL iY=true from rfl];decide),if_neg (by rw[show belongs iY sAB=false from rfl];decide),if_pos (show belongs iY sA=true from rfl)]
theorem zaF:authority (LY 1 2) sB=none:=by
 rw[uJ (by omega) (by omega),if_neg (by rw[show BL sB=true from rfl];decide),if_neg (by rw[show belongs sB sAB=false from rfl];decide),if_neg (by rw[show belongs sB sA=false from rfl];decide)]
theorem Qu {f:Nat} : (Ed f).keys=[⟨Gi f,1⟩]:=rfl
structure Awk (o1 o2:Ar) (M2:List Member) (OP:Op) (aps:List Aj) (EB:ByteArray) (x y:Space):Prop where
 claim:Cq .none (Bl .none (FL sA 1 (keysOf [1])) 0 (keysOf [1]))=(o1,0)
 ok1:Bz o1=true
 c1:o1.count=1
 k1:∃ k,o1.keys=[k]/\k.next=1
 m2:Bo (keysOf [2])=M2
 m2l:M2.length=1
 apd:[1].map (Dy 1 (Bc o1 ⟨2,sAB,M2,1,⟨#[]⟩,⟨#[]⟩,[]⟩).1)=aps
 op:OP=⟨2,sAB,M2,1,⟨#[]⟩,⟨#[]⟩,aps⟩
 apl:aps.length=1
 app:Cq o1 OP=(o2,0)
 au1:authority o2 oz=some x
 x1:x.pre=sAB
 au2:authority o2 iY=some y
 y1:y.pre=sA
 au3:authority o2 sB=none
 enc:Du OP=(EB,0)
 dec:Oj EB=(OP,0)
 sz:EB.size<=100000
 all:∀ a∈aps,a.name.size<=140737488355328/\a.sig.chains.length<=140737488355328/\a.sig.path.length<=140737488355328
 idx:∀ a∈aps,a.sig.index<9223372036854775808
 sum:EP aps<=100
 s1:o1.spaces.length<=10/\o1.keys.length<=10/\∀ s∈o1.spaces,s.members.length<=10
 s2:o2.spaces.length<=10/\o2.keys.length<=10/\∀ s∈o2.spaces,s.members.length<=10
theorem uK (K:List KeyUse)(x:KeyUse):(use K x).length<=K.length+1:=by rw[FH];exact IZ _ _ _
theorem oD (o:Ar)(k:Int)(p:ByteArray)(M:List Member)(t:Int)(n q:ByteArray)(i:Nat)(ks:List Nat):Bl o ⟨k,p,M,t,n,q,[]⟩ i ks=⟨k,p,M,t,n,q,ks.map (Dy i (Bc o ⟨k,p,M,t,n,q,[]⟩).1)⟩:=rfl
theorem uL (i:Nat)(hi:i<2)(msg:ByteArray)(ks:List Nat):∀ a∈ks.map (Dy i msg),a.name.size<=140737488355328/\a.sig.chains.length<=140737488355328/\a.sig.path.length<=140737488355328:=fun a ha=>by
 obtain⟨b,_,rfl⟩:=List.mem_map.1 ha
 obtain⟨_,h2,_,h4,_⟩:=PW (RG b i hi msg)
 refine⟨?_,by omega,by omega⟩
 rw[show(Dy i msg b).name=CZ b from rfl,LH]
 decide
theorem uM (i:Nat)(hi:i<2)(msg:ByteArray)(ks:List Nat):∀ a∈ks.map (Dy i msg),a.sig.index<9223372036854775808:=fun a ha=>by
 obtain⟨b,_,rfl⟩:=List.mem_map.1 ha
 rw[UE]
 omega
theorem xO {op:Op}(h:(Du op).2=0):Du op=((Du op).1,0):=by
 generalize Du op=z at*
 obtain⟨z1,z2⟩:=z
 have h1:z2=0:=h
 rw[h1]
theorem uN (K:List KeyUse)(i b:Nat)(h:K.length=1):(JO i K b).length<=10:=by
 unfold JO
 exact Nat.le_trans (uK K _) (by rw[h];decide)
theorem uO (f:Nat):(Ed f).keys.length=1:=by rw[Qu];rfl
theorem oF (f s:Nat):(LY f s).keys=[f].foldl (JO 1) (Ed f).keys:=by unfold LY Ed;exact Eq.refl _
theorem OX (l:List Nat):(Bo l).length=l.length:=List.length_map _
theorem dh (f s:Nat):(LY f s).spaces=[⟨sA,Bo [f],1⟩,⟨sAB,Bo [s],1⟩]:=by unfold LY;exact Eq.refl _
theorem dw (f:Nat):(Ed f).spaces=[⟨sA,Bo [f],1⟩]:=by unfold Ed;exact Eq.refl _
theorem oG (f s:Nat):(LY f s).spaces.length<=10/\(LY f s).keys.length<=10/\∀ x∈(LY f s).spaces,x.members.length<=10:=by
 rw[dh,oF,List.foldl_cons,List.foldl_nil]
 refine⟨Nat.le_add_left 2 8,uN _ _ _ (uO f),fun x hs=>?_⟩
 rcases List.mem_cons.1 hs with h|h
 ·rw[h]
  dsimp only
  rw[OX]
  exact Nat.le_add_left 1 9
 ·rw[List.mem_singleton.1 h]
  dsimp only
  rw[OX]
  exact Nat.le_add_left 1 9
theorem oH (f:Nat):(Ed f).spaces.length<=10/\(Ed f).keys.length<=10/\∀ x∈(Ed f).spaces,x.members.length<=10:=by
 rw[dw,Qu]
 refine⟨Nat.le_add_left 1 9,Nat.le_add_left 1 9,fun x hs=>?_⟩
 rw[List.mem_singleton.1 hs]
 dsimp only
 rw[OX]
 exact Nat.le_add_left 1 9
theorem zaG:Cq .none (Bl .none (FL sA 1 (keysOf [1])) 0 (keysOf [1]))=(Ed 1,0):=by
 rw[WG (I8.one (by omega))]
 exact iV (by omega)
theorem zdk:Bo (keysOf [2])=Bo [2]:=by rw[WG (I8.one (by omega))]
theorem uP (f:Nat):∃ k,(Ed f).keys=[k]/\k.next=1:=⟨_,Qu,rfl⟩
theorem iZ (f:Nat):(Ed f).count=1:=rfl
theorem zaH:opA=⟨2,sAB,Bo [2],1,⟨#[]⟩,⟨#[]⟩,[1].map (Dy 1 (Bc (Ed 1) ⟨2,sAB,Bo [2],1,⟨#[]⟩,⟨#[]⟩,[]⟩).1)⟩:=by
 unfold opA UD
 exact oD _ _ _ _ _ _ _ _ _
theorem awk:∃ o1 o2 M2 OP aps EB x y,Awk o1 o2 M2 OP aps EB x y:=by
 have h1:=zaG
 have h2:=kS (f:=1) (by omega)
 have h3:=iZ 1
 have h4:=uP 1
 have h5:=zdk
 have h6:=OX [2]
 have h7:=zaH
 have h8:=oC
 have h9:=xM
 have ha:=zaD
 have hb:=zaE
 have hc:=zaF
 have hs1:=oH 1
 have hs2:=oG 1 2
 have hq1:=fun msg=>uL 1 (by omega) msg [1]
 have hq2:=fun msg=>uM 1 (by omega) msg [1]
 have hq3:=fun msg=>iW 1 msg [1]
 generalize LY 1 2=o2 at*
 generalize Ed 1=o1 at*
 generalize opA=OP at*
 generalize Bo [2]=M at*
 obtain⟨msg,Ku⟩:∃ m,m=(Bc o1 ⟨2,sAB,M,1,⟨#[]⟩,⟨#[]⟩,[]⟩).1:=⟨_,rfl⟩
 rw[<- Ku] at h7
 obtain⟨aps,ny⟩:∃ a,a=[1].map (Dy 1 msg):=⟨_,rfl⟩
 have hl:aps.length=1:=by rw[ny,List.length_map];rfl
 have hq1:=hq1 msg
 have hq2:=hq2 msg
 have hq3:=hq3 msg
 rw[<- ny] at h7 hq1 hq2 hq3
 have hsum:EP aps<=100:=by rw[hq3];exact Nat.le_add_left 4 96
 exact⟨o1,o2,M,OP,aps,(Du OP).1,_,_,⟨h1,h2,h3,h4,h5,h6,by rw[<- Ku,ny],h7,hl,h8,ha,rfl,hb,rfl,hc,xO h9.1,h9.2.1,h9.2.2,hq1,hq2,hsum,hs1,hs2⟩⟩
end Own
end
end Go.Proofs.YtjlmglgmcekmhaaGreatDoor
