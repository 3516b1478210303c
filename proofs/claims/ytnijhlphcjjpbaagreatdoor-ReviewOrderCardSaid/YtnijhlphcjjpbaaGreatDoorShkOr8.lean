/- The reference's comparisons answer true where both sides read as one value; The law ReviewOrder holds, for any arguments; The wrap that keeps the laid tables and the world's shape; bytealg.MaxLen stands in a world of that shape; ReviewOrder returns true for every input; the input reads as it did. -/
import Derived.HandedShaped
import Derived.OpenShut
import Derived.Test.YtnijhlphcjjpbaaGreatDoorRows
import Derived.Test.YtnijhlphcjjpbaaGreatDoorCards
import Derived.Test.YtnijhlphcjjpbaaGreatDoorTie
import Derived.ProofKit
import Derived.LaidMore
import Derived.Lay
import Derived.SevenTiedAt
import Derived.Stop.Joined
import Derived.Test.YtnijhlphcjjpbaaGreatDoorShkOr1
import Derived.Test.YtnijhlphcjjpbaaGreatDoorShkOr3
import Derived.Test.YtnijhlphcjjpbaaGreatDoorShkOr4
import Derived.Test.YtnijhlphcjjpbaaGreatDoorShkOr5
import Derived.Test.YtnijhlphcjjpbaaGreatDoorShkOr6
import Derived.Test.YtnijhlphcjjpbaaGreatDoorShkOr7
set_option linter.unusedVariables false
set_option linter.unusedSimpArgs false
set_option maxRecDepth 100000
set_option maxHeartbeats 16000000
namespace Go.Proofs.YtnijhlphcjjpbaaGreatDoor
section
open Go Go.RowKit Go.Maps
theorem equalIn_bool (D:Nat) (a c:Bool) (w:World):(Op.equalIn (D+1) 4 (.bool a) (.bool c)).run Tryz.prog w=.ok (a==c) w:=by
 rw[Op.equalIn]
 simp[Tryz.underlying4]
theorem equalIn_int (D:Nat) (a c:Int) (w:World):(Op.equalIn (D+1) 3 (.int .i64 a) (.int .i64 c)).run Tryz.prog w=.ok (a==c) w:=by
 rw[Op.equalIn]
 simp[Tryz.underlying3]
theorem beq_self (a:ByteArray):(a==a)=true:=by rw[ba_beq];simp
theorem neq_member_self (a b:ByteArray) (w:World):(binOp .neq 73 (.agg #[.string a,.string b]) (.agg #[.string a,.string b])).run Tryz.prog w=.ok (.bool false) w:=by
 have h2:(Op.equal 73 (.agg #[.string a,.string b]) (.agg #[.string a,.string b])).run Tryz.prog w=.ok ((a==a)&&(b==b)) w:=equalIn_member 9998 a b a b w
 rw[beq_self,beq_self] at h2
 simp[binOp,h2,Result.andThen]
theorem neq_vote_self (a b:ByteArray) (c:Bool) (w:World):(binOp .neq 82 (.agg #[.string a,.string b,.bool c]) (.agg #[.string a,.string b,.bool c])).run Tryz.prog w=.ok (.bool false) w:=by
 have hs:Tryz.prog.stoodInHeld 82=false:=by kernel_rfl
 have e1:=equalIn_string 9998 a a w
 have e2:=equalIn_string 9998 b b w
 have e3:=equalIn_bool 9998 c c w
 have s1:∀ w,(sizeOf 9).run Tryz.prog w=.ok 1 w:=fun w=>by kernel_rfl
 have s2:∀ w,(isAgg 9).run Tryz.prog w=.ok false w:=fun w=>by kernel_rfl
 have s3:∀ w,(sizeOf 4).run Tryz.prog w=.ok 1 w:=fun w=>by kernel_rfl
 have s4:∀ w,(isAgg 4).run Tryz.prog w=.ok false w:=fun w=>by kernel_rfl
 have h2:(Op.equal 82 (.agg #[.string a,.string b,.bool c]) (.agg #[.string a,.string b,.bool c])).run Tryz.prog w=.ok true w:=by
  show(Op.equalIn (9998+2) 82 _ _).run Tryz.prog w=_
  rw[beq_self] at e1 e2
  rw[Op.equalIn]
  simp[Tryz.underlying82,hs,part,e1,e2,e3,s1,s2,s3,s4,Result.andThen]
 simp[binOp,h2,Result.andThen]
theorem neq_key_self (a:ByteArray) (c:Int) (w:World):(binOp .neq 91 (.agg #[.string a,.int .i64 c]) (.agg #[.string a,.int .i64 c])).run Tryz.prog w=.ok (.bool false) w:=by
 have hs:Tryz.prog.stoodInHeld 91=false:=by kernel_rfl
 have e1:=equalIn_string 9998 a a w
 have e3:=equalIn_int 9998 c c w
 have s1:∀ w,(sizeOf 9).run Tryz.prog w=.ok 1 w:=fun w=>by kernel_rfl
 have s2:∀ w,(isAgg 9).run Tryz.prog w=.ok false w:=fun w=>by kernel_rfl
 have s3:∀ w,(sizeOf 3).run Tryz.prog w=.ok 1 w:=fun w=>by kernel_rfl
 have s4:∀ w,(isAgg 3).run Tryz.prog w=.ok false w:=fun w=>by kernel_rfl
 have h2:(Op.equal 91 (.agg #[.string a,.int .i64 c]) (.agg #[.string a,.int .i64 c])).run Tryz.prog w=.ok true w:=by
  show(Op.equalIn (9998+2) 91 _ _).run Tryz.prog w=_
  rw[beq_self] at e1
  rw[Op.equalIn]
  simp[Tryz.underlying91,hs,part,e1,e3,s1,s2,s3,s4,Result.andThen]
 simp[binOp,h2,Result.andThen]
theorem r54SameP_any (p:Own.Proposal) (v1 v2:Value) (w:World) (h1:Own.VotesC w v1 p.votes) (h2:Own.VotesC w v2 p.votes) (hl:p.votes.length<=140737488355328):
 Calls Tryz.prog 32 #[.agg #[.int .i64 p.id,.string p.path,.string p.digest,.int .i64 p.opened,.int .i64 p.expires,v1],.agg #[.int .i64 p.id,.string p.path,.string p.digest,.int .i64 p.opened,.int .i64 p.expires,v2]] w fun e w' => e=.returned (.bool true)/\Below w.heap.size w w' :=by
 obtain⟨id,pa,di,op,ex,l⟩:=p
 dsimp only at*
 obtain⟨a1,c1,rfl⟩:=h1.len
 obtain⟨a2,c2,rfl⟩:=h2.len
 have F1:=zh (show Boxes w ((w.alloc (.cells #[.int .i64 id,.string pa,.string di,.int .i64 op,.int .i64 ex,.slice a1 l.length c1] 46)).alloc (.cells #[.int .i64 id,.string pa,.string di,.int .i64 op,.int .i64 ex,.slice a2 l.length c2] 46)) [(46,#[.int .i64 id,.string pa,.string di,.int .i64 op,.int .i64 ex,.slice a1 l.length c1]),(46,#[.int .i64 id,.string pa,.string di,.int .i64 op,.int .i64 ex,.slice a2 l.length c2])] from(((Fresh.nil w).push 46 #[.int .i64 id,.string pa,.string di,.int .i64 op,.int .i64 ex,.slice a1 l.length c1]).push 46 #[.int .i64 id,.string pa,.string di,.int .i64 op,.int .i64 ex,.slice a2 l.length c2]).boxes)
 have x00:((w.alloc (.cells #[.int .i64 id,.string pa,.string di,.int .i64 op,.int .i64 ex,.slice a1 l.length c1] 46)).alloc (.cells #[.int .i64 id,.string pa,.string di,.int .i64 op,.int .i64 ex,.slice a2 l.length c2] 46)).cell? ⟨w.heap.size,0,none⟩=some (.int .i64 id):=F1.out.cell 0 0 rfl rfl
 have x01:((w.alloc (.cells #[.int .i64 id,.string pa,.string di,.int .i64 op,.int .i64 ex,.slice a1 l.length c1] 46)).alloc (.cells #[.int .i64 id,.string pa,.string di,.int .i64 op,.int .i64 ex,.slice a2 l.length c2] 46)).cell? ⟨w.heap.size,1,none⟩=some (.string pa):=F1.out.cell 0 1 rfl rfl
 have x02:((w.alloc (.cells #[.int .i64 id,.string pa,.string di,.int .i64 op,.int .i64 ex,.slice a1 l.length c1] 46)).alloc (.cells #[.int .i64 id,.string pa,.string di,.int .i64 op,.int .i64 ex,.slice a2 l.length c2] 46)).cell? ⟨w.heap.size,2,none⟩=some (.string di):=F1.out.cell 0 2 rfl rfl
 have x03:((w.alloc (.cells #[.int .i64 id,.string pa,.string di,.int .i64 op,.int .i64 ex,.slice a1 l.length c1] 46)).alloc (.cells #[.int .i64 id,.string pa,.string di,.int .i64 op,.int .i64 ex,.slice a2 l.length c2] 46)).cell? ⟨w.heap.size,3,none⟩=some (.int .i64 op):=F1.out.cell 0 3 rfl rfl
 have x04:((w.alloc (.cells #[.int .i64 id,.string pa,.string di,.int .i64 op,.int .i64 ex,.slice a1 l.length c1] 46)).alloc (.cells #[.int .i64 id,.string pa,.string di,.int .i64 op,.int .i64 ex,.slice a2 l.length c2] 46)).cell? ⟨w.heap.size,4,none⟩=some (.int .i64 ex):=F1.out.cell 0 4 rfl rfl
 have x05:((w.alloc (.cells #[.int .i64 id,.string pa,.string di,.int .i64 op,.int .i64 ex,.slice a1 l.length c1] 46)).alloc (.cells #[.int .i64 id,.string pa,.string di,.int .i64 op,.int .i64 ex,.slice a2 l.length c2] 46)).cell? ⟨w.heap.size,5,none⟩=some (.slice a1 l.length c1):=F1.out.cell 0 5 rfl rfl
 have x10:((w.alloc (.cells #[.int .i64 id,.string pa,.string di,.int .i64 op,.int .i64 ex,.slice a1 l.length c1] 46)).alloc (.cells #[.int .i64 id,.string pa,.string di,.int .i64 op,.int .i64 ex,.slice a2 l.length c2] 46)).cell? ⟨w.heap.size+1,0,none⟩=some (.int .i64 id):=F1.out.cell 1 0 rfl rfl
 have x11:((w.alloc (.cells #[.int .i64 id,.string pa,.string di,.int .i64 op,.int .i64 ex,.slice a1 l.length c1] 46)).alloc (.cells #[.int .i64 id,.string pa,.string di,.int .i64 op,.int .i64 ex,.slice a2 l.length c2] 46)).cell? ⟨w.heap.size+1,1,none⟩=some (.string pa):=F1.out.cell 1 1 rfl rfl
 have x12:((w.alloc (.cells #[.int .i64 id,.string pa,.string di,.int .i64 op,.int .i64 ex,.slice a1 l.length c1] 46)).alloc (.cells #[.int .i64 id,.string pa,.string di,.int .i64 op,.int .i64 ex,.slice a2 l.length c2] 46)).cell? ⟨w.heap.size+1,2,none⟩=some (.string di):=F1.out.cell 1 2 rfl rfl
 have x13:((w.alloc (.cells #[.int .i64 id,.string pa,.string di,.int .i64 op,.int .i64 ex,.slice a1 l.length c1] 46)).alloc (.cells #[.int .i64 id,.string pa,.string di,.int .i64 op,.int .i64 ex,.slice a2 l.length c2] 46)).cell? ⟨w.heap.size+1,3,none⟩=some (.int .i64 op):=F1.out.cell 1 3 rfl rfl
 have x14:((w.alloc (.cells #[.int .i64 id,.string pa,.string di,.int .i64 op,.int .i64 ex,.slice a1 l.length c1] 46)).alloc (.cells #[.int .i64 id,.string pa,.string di,.int .i64 op,.int .i64 ex,.slice a2 l.length c2] 46)).cell? ⟨w.heap.size+1,4,none⟩=some (.int .i64 ex):=F1.out.cell 1 4 rfl rfl
 have x15:((w.alloc (.cells #[.int .i64 id,.string pa,.string di,.int .i64 op,.int .i64 ex,.slice a1 l.length c1] 46)).alloc (.cells #[.int .i64 id,.string pa,.string di,.int .i64 op,.int .i64 ex,.slice a2 l.length c2] 46)).cell? ⟨w.heap.size+1,5,none⟩=some (.slice a2 l.length c2):=F1.out.cell 1 5 rfl rfl
 have H1:=zh h1;have H2:=zh h2
 clear h1 h2
 go_enter Tryz.func32,Tryz.ntmps32
 go_wp2_with fail
 generalize ((w.alloc (.cells #[.int .i64 id,.string pa,.string di,.int .i64 op,.int .i64 ex,.slice a1 l.length c1] 46)).alloc (.cells #[.int .i64 id,.string pa,.string di,.int .i64 op,.int .i64 ex,.slice a2 l.length c2] 46))=w1 at*
 go_loopw [5] (fun i wr=>∃ k:Nat,k<=l.length/\i=.int .i64 k/\Below w1.heap.size w1 wr) (fun i _=>l.length - (intOf i).toNat)
 case atStart=>exact⟨0,by omega,rfl,Below.refl _ _⟩
 case round=>
  obtain⟨k,hk,rfl,hb⟩:=hrel
  have HBW:=zh hb;have FR:=zh (F1.out.step hb)
  clear hb
  (try clear x00);(try clear x01);(try clear x02);(try clear x03);(try clear x04);(try clear x05);(try clear x10);(try clear x11);(try clear x12);(try clear x13);(try clear x14);(try clear x15)
  have x05:wr.cell? ⟨w.heap.size,5,none⟩=some (.slice a1 l.length c1):=FR.out.cell 0 5 rfl rfl
  have x15:wr.cell? ⟨w.heap.size+1,5,none⟩=some (.slice a2 l.length c2):=FR.out.cell 1 5 rfl rfl
  by_cases hlt:k<l.length
  case neg=>
   have dk:decide ((k:Int)<l.length)=false:=decide_eq_false (by omega)
   go_wp2_with fail
   go_ret
   exact⟨rfl,FR.out.under⟩
  have dk:decide ((k:Int)<l.length)=true:=decide_eq_true (by omega)
  obtain⟨b,o,ha,hbl,e0,e1,e2⟩:=Own.VotesC.cells (H1.out.below FR.out.under) hlt
  obtain⟨b',o',ha',hbl',e0',e1',e2'⟩:=Own.VotesC.cells (H2.out.below FR.out.under) hlt
  subst ha
  subst ha'
  obtain⟨x,hx⟩:∃ x,x=l[k]:=⟨_,rfl⟩
  rw[<- hx] at e0 e1 e2 e0' e1' e2'
  obtain⟨n,pu,ag⟩:=x
  dsimp only at e0 e1 e2 e0' e1' e2'
  have hne:=neq_vote_self n pu ag
  clear hx
  go_wp2_with fail
  go_quiet (fail)
  go_wp2_with fail
  go_round
  case measure=>simp[intOf];omega
  case rel=>exact⟨k+1,by omega,by go_num,below_drewN HBW.out nq⟩
theorem r54Same_any (q:Own.Queue) (v1 v2:Value) (w:World) (h1:Own.PropsC w v1 q.props) (h2:Own.PropsC w v2 q.props) (hl:q.props.length<=140737488355328) (hv:∀ p∈q.props,p.votes.length<=140737488355328):
 Calls Tryz.prog 18 #[.agg #[.int .i64 q.next,v1],.agg #[.int .i64 q.next,v2]] w fun e w' => e=.returned (.bool true)/\Below w.heap.size w w' :=by
 obtain⟨nx,l⟩:=q
 dsimp only at*
 obtain⟨a1,c1,rfl⟩:=h1.len
 obtain⟨a2,c2,rfl⟩:=h2.len
 have F1:=zh (show Boxes w ((w.alloc (.cells #[.int .i64 nx,.slice a1 l.length c1] 24)).alloc (.cells #[.int .i64 nx,.slice a2 l.length c2] 24)) [(24,#[.int .i64 nx,.slice a1 l.length c1]),(24,#[.int .i64 nx,.slice a2 l.length c2])] from(((Fresh.nil w).push 24 #[.int .i64 nx,.slice a1 l.length c1]).push 24 #[.int .i64 nx,.slice a2 l.length c2]).boxes)
 have x00:((w.alloc (.cells #[.int .i64 nx,.slice a1 l.length c1] 24)).alloc (.cells #[.int .i64 nx,.slice a2 l.length c2] 24)).cell? ⟨w.heap.size,0,none⟩=some (.int .i64 nx):=F1.out.cell 0 0 rfl rfl
 have x01:((w.alloc (.cells #[.int .i64 nx,.slice a1 l.length c1] 24)).alloc (.cells #[.int .i64 nx,.slice a2 l.length c2] 24)).cell? ⟨w.heap.size,1,none⟩=some (.slice a1 l.length c1):=F1.out.cell 0 1 rfl rfl
 have x10:((w.alloc (.cells #[.int .i64 nx,.slice a1 l.length c1] 24)).alloc (.cells #[.int .i64 nx,.slice a2 l.length c2] 24)).cell? ⟨w.heap.size+1,0,none⟩=some (.int .i64 nx):=F1.out.cell 1 0 rfl rfl
 have x11:((w.alloc (.cells #[.int .i64 nx,.slice a1 l.length c1] 24)).alloc (.cells #[.int .i64 nx,.slice a2 l.length c2] 24)).cell? ⟨w.heap.size+1,1,none⟩=some (.slice a2 l.length c2):=F1.out.cell 1 1 rfl rfl
 have H1:=zh h1;have H2:=zh h2;have HV:=zh hv
 clear h1 h2 hv
 go_enter Tryz.func18,Tryz.ntmps18
 go_wp2_with fail
 generalize ((w.alloc (.cells #[.int .i64 nx,.slice a1 l.length c1] 24)).alloc (.cells #[.int .i64 nx,.slice a2 l.length c2] 24))=w1 at*
 go_loopw [5] (fun i wr=>∃ k:Nat,k<=l.length/\i=.int .i64 k/\Below w1.heap.size w1 wr) (fun i _=>l.length - (intOf i).toNat)
 case atStart=>exact⟨0,by omega,rfl,Below.refl _ _⟩
 case round=>
  obtain⟨k,hk,rfl,hb⟩:=hrel
  have HBW:=zh hb;have FR:=zh (F1.out.step hb)
  clear hb
  (try clear x00);(try clear x01);(try clear x10);(try clear x11)
  have x01:wr.cell? ⟨w.heap.size,1,none⟩=some (.slice a1 l.length c1):=FR.out.cell 0 1 rfl rfl
  have x11:wr.cell? ⟨w.heap.size+1,1,none⟩=some (.slice a2 l.length c2):=FR.out.cell 1 1 rfl rfl
  by_cases hlt:k<l.length
  case neg=>
   have dk:decide ((k:Int)<l.length)=false:=decide_eq_false (by omega)
   go_wp2_with fail
   go_ret
   exact⟨rfl,FR.out.under⟩
  have dk:decide ((k:Int)<l.length)=true:=decide_eq_true (by omega)
  obtain⟨b,o,u,ha,hbl,e0,e1,e2,e3,e4,e5,hu⟩:=Own.PropsC.cells (H1.out.below FR.out.under) hlt
  obtain⟨b',o',u',ha',hbl',e0',e1',e2',e3',e4',e5',hu'⟩:=Own.PropsC.cells (H2.out.below FR.out.under) hlt
  subst ha
  subst ha'
  have hvl:=HV.out l[k] (List.getElem_mem hlt)
  obtain⟨x,hx⟩:∃ x,x=l[k]:=⟨_,rfl⟩
  rw[<- hx] at e0 e1 e2 e3 e4 e0' e1' e2' e3' e4' hu hu' hvl
  have hsp:=r54SameP_any x u u' wr.drew (hu.below (Below.refl _ _).drew) (hu'.below (Below.refl _ _).drew) hvl
  have HSP:=zh hsp
  clear hx hsp hu hu'
  go_wp2_with fail
  refine Lex.wp_region_lex (by kernel_rfl) (by kernel_rfl) ?_
  go_wp2_with fail
  refine HSP.out.mono ?_
  rintro e w2 ⟨rfl,hb⟩
  have HB2:=zh (HBW.out.trans (((Below.refl wr.heap.size wr).drew.trans hb).mono HBW.out.size))
  clear hb
  go_wp2_with fail
  refine Lex.Ends.intro (by kernel_rfl) ?_
  go_wp2_with fail
  go_round
  case measure=>simp[intOf];omega
  case rel=>exact⟨k+1,by omega,by go_num,HB2.out⟩
theorem r53SameS_any (s:Own.Space) (v1 v2:Value) (w:World) (h1:Own.MembersC w v1 s.members) (h2:Own.MembersC w v2 s.members) (hl:s.members.length<=140737488355328):
 Calls Tryz.prog 71 #[.agg #[.string s.pre,v1,.int .i64 s.threshold],.agg #[.string s.pre,v2,.int .i64 s.threshold]] w fun e w' => e=.returned (.bool true)/\Below w.heap.size w w' :=by
 obtain⟨pre,l,th⟩:=s
 dsimp only at*
 obtain⟨a1,c1,rfl⟩:=h1.len
 obtain⟨a2,c2,rfl⟩:=h2.len
 have F1:=zh (show Boxes w ((w.alloc (.cells #[.string pre,.slice a1 l.length c1,.int .i64 th] 70)).alloc (.cells #[.string pre,.slice a2 l.length c2,.int .i64 th] 70)) [(70,#[.string pre,.slice a1 l.length c1,.int .i64 th]),(70,#[.string pre,.slice a2 l.length c2,.int .i64 th])] from(((Fresh.nil w).push 70 #[.string pre,.slice a1 l.length c1,.int .i64 th]).push 70 #[.string pre,.slice a2 l.length c2,.int .i64 th]).boxes)
 have x00:((w.alloc (.cells #[.string pre,.slice a1 l.length c1,.int .i64 th] 70)).alloc (.cells #[.string pre,.slice a2 l.length c2,.int .i64 th] 70)).cell? ⟨w.heap.size,0,none⟩=some (.string pre):=F1.out.cell 0 0 rfl rfl
 have x01:((w.alloc (.cells #[.string pre,.slice a1 l.length c1,.int .i64 th] 70)).alloc (.cells #[.string pre,.slice a2 l.length c2,.int .i64 th] 70)).cell? ⟨w.heap.size,1,none⟩=some (.slice a1 l.length c1):=F1.out.cell 0 1 rfl rfl
 have x02:((w.alloc (.cells #[.string pre,.slice a1 l.length c1,.int .i64 th] 70)).alloc (.cells #[.string pre,.slice a2 l.length c2,.int .i64 th] 70)).cell? ⟨w.heap.size,2,none⟩=some (.int .i64 th):=F1.out.cell 0 2 rfl rfl
 have x10:((w.alloc (.cells #[.string pre,.slice a1 l.length c1,.int .i64 th] 70)).alloc (.cells #[.string pre,.slice a2 l.length c2,.int .i64 th] 70)).cell? ⟨w.heap.size+1,0,none⟩=some (.string pre):=F1.out.cell 1 0 rfl rfl
 have x11:((w.alloc (.cells #[.string pre,.slice a1 l.length c1,.int .i64 th] 70)).alloc (.cells #[.string pre,.slice a2 l.length c2,.int .i64 th] 70)).cell? ⟨w.heap.size+1,1,none⟩=some (.slice a2 l.length c2):=F1.out.cell 1 1 rfl rfl
 have x12:((w.alloc (.cells #[.string pre,.slice a1 l.length c1,.int .i64 th] 70)).alloc (.cells #[.string pre,.slice a2 l.length c2,.int .i64 th] 70)).cell? ⟨w.heap.size+1,2,none⟩=some (.int .i64 th):=F1.out.cell 1 2 rfl rfl
 have H1:=zh h1;have H2:=zh h2
 clear h1 h2
 go_enter Tryz.func71,Tryz.ntmps71
 go_wp2_with fail
 generalize ((w.alloc (.cells #[.string pre,.slice a1 l.length c1,.int .i64 th] 70)).alloc (.cells #[.string pre,.slice a2 l.length c2,.int .i64 th] 70))=w1 at*
 go_loopw [5] (fun i wr=>∃ k:Nat,k<=l.length/\i=.int .i64 k/\Below w1.heap.size w1 wr) (fun i _=>l.length - (intOf i).toNat)
 case atStart=>exact⟨0,by omega,rfl,Below.refl _ _⟩
 case round=>
  obtain⟨k,hk,rfl,hb⟩:=hrel
  have HBW:=zh hb;have FR:=zh (F1.out.step hb)
  clear hb
  (try clear x00);(try clear x01);(try clear x02);(try clear x10);(try clear x11);(try clear x12)
  have x01:wr.cell? ⟨w.heap.size,1,none⟩=some (.slice a1 l.length c1):=FR.out.cell 0 1 rfl rfl
  have x11:wr.cell? ⟨w.heap.size+1,1,none⟩=some (.slice a2 l.length c2):=FR.out.cell 1 1 rfl rfl
  by_cases hlt:k<l.length
  case neg=>
   have dk:decide ((k:Int)<l.length)=false:=decide_eq_false (by omega)
   go_wp2_with fail
   go_ret
   exact⟨rfl,FR.out.under⟩
  have dk:decide ((k:Int)<l.length)=true:=decide_eq_true (by omega)
  obtain⟨b,o,ha,hbl,e0,e1⟩:=Own.MembersC.cells (H1.out.below FR.out.under) hlt
  obtain⟨b',o',ha',hbl',e0',e1'⟩:=Own.MembersC.cells (H2.out.below FR.out.under) hlt
  subst ha
  subst ha'
  obtain⟨x,hx⟩:∃ x,x=l[k]:=⟨_,rfl⟩
  rw[<- hx] at e0 e1 e0' e1'
  obtain⟨n,pu⟩:=x
  dsimp only at e0 e1 e0' e1'
  have hne:=neq_member_self n pu
  clear hx
  go_wp2_with fail
  go_quiet (fail)
  go_wp2_with fail
  go_round
  case measure=>simp[intOf];omega
  case rel=>exact⟨k+1,by omega,by go_num,below_drewN HBW.out nq⟩
theorem r53Same_any (q:Own.Owners) (v1 v2 k1 k2:Value) (w:World) (h1:Own.SpacesC w v1 q.spaces) (h2:Own.SpacesC w v2 q.spaces) (g1:Own.KeysC w k1 q.keys) (g2:Own.KeysC w k2 q.keys) (hl:q.spaces.length<=140737488355328) (hk:q.keys.length<=140737488355328) (hv:∀ p∈q.spaces,p.members.length<=140737488355328):
 Calls Tryz.prog 27 #[.agg #[.int .i64 q.count,v1,k1],.agg #[.int .i64 q.count,v2,k2]] w fun e w' => e=.returned (.bool true)/\Below w.heap.size w w' :=by
 obtain⟨nx,l,K⟩:=q
 dsimp only at*
 obtain⟨a1,c1,rfl⟩:=h1.len
 obtain⟨a2,c2,rfl⟩:=h2.len
 obtain⟨b1,d1,rfl⟩:=g1.len
 obtain⟨b2,d2,rfl⟩:=g2.len
 have F1:=zh (show Boxes w ((w.alloc (.cells #[.int .i64 nx,.slice a1 l.length c1,.slice b1 K.length d1] 38)).alloc (.cells #[.int .i64 nx,.slice a2 l.length c2,.slice b2 K.length d2] 38)) [(38,#[.int .i64 nx,.slice a1 l.length c1,.slice b1 K.length d1]),(38,#[.int .i64 nx,.slice a2 l.length c2,.slice b2 K.length d2])] from(((Fresh.nil w).push 38 #[.int .i64 nx,.slice a1 l.length c1,.slice b1 K.length d1]).push 38 #[.int .i64 nx,.slice a2 l.length c2,.slice b2 K.length d2]).boxes)
 have x00:((w.alloc (.cells #[.int .i64 nx,.slice a1 l.length c1,.slice b1 K.length d1] 38)).alloc (.cells #[.int .i64 nx,.slice a2 l.length c2,.slice b2 K.length d2] 38)).cell? ⟨w.heap.size,0,none⟩=some (.int .i64 nx):=F1.out.cell 0 0 rfl rfl
 have x01:((w.alloc (.cells #[.int .i64 nx,.slice a1 l.length c1,.slice b1 K.length d1] 38)).alloc (.cells #[.int .i64 nx,.slice a2 l.length c2,.slice b2 K.length d2] 38)).cell? ⟨w.heap.size,1,none⟩=some (.slice a1 l.length c1):=F1.out.cell 0 1 rfl rfl
 have x02:((w.alloc (.cells #[.int .i64 nx,.slice a1 l.length c1,.slice b1 K.length d1] 38)).alloc (.cells #[.int .i64 nx,.slice a2 l.length c2,.slice b2 K.length d2] 38)).cell? ⟨w.heap.size,2,none⟩=some (.slice b1 K.length d1):=F1.out.cell 0 2 rfl rfl
 have x10:((w.alloc (.cells #[.int .i64 nx,.slice a1 l.length c1,.slice b1 K.length d1] 38)).alloc (.cells #[.int .i64 nx,.slice a2 l.length c2,.slice b2 K.length d2] 38)).cell? ⟨w.heap.size+1,0,none⟩=some (.int .i64 nx):=F1.out.cell 1 0 rfl rfl
 have x11:((w.alloc (.cells #[.int .i64 nx,.slice a1 l.length c1,.slice b1 K.length d1] 38)).alloc (.cells #[.int .i64 nx,.slice a2 l.length c2,.slice b2 K.length d2] 38)).cell? ⟨w.heap.size+1,1,none⟩=some (.slice a2 l.length c2):=F1.out.cell 1 1 rfl rfl
 have x12:((w.alloc (.cells #[.int .i64 nx,.slice a1 l.length c1,.slice b1 K.length d1] 38)).alloc (.cells #[.int .i64 nx,.slice a2 l.length c2,.slice b2 K.length d2] 38)).cell? ⟨w.heap.size+1,2,none⟩=some (.slice b2 K.length d2):=F1.out.cell 1 2 rfl rfl
 have H1:=zh h1;have H2:=zh h2;have HV:=zh hv;have G1:=zh g1;have G2:=zh g2
 clear h1 h2 hv g1 g2
 go_enter Tryz.func27,Tryz.ntmps27
 go_wp2_with fail
 generalize ((w.alloc (.cells #[.int .i64 nx,.slice a1 l.length c1,.slice b1 K.length d1] 38)).alloc (.cells #[.int .i64 nx,.slice a2 l.length c2,.slice b2 K.length d2] 38))=w1 at*
 go_loopw [5] (fun i wr=>∃ k:Nat,k<=l.length/\i=.int .i64 k/\Below w1.heap.size w1 wr) (fun i _=>l.length - (intOf i).toNat)
 case atStart=>exact⟨0,by omega,rfl,Below.refl _ _⟩
 case round=>
  obtain⟨k,hk,rfl,hb⟩:=hrel
  have HBW:=zh hb;have FR:=zh (F1.out.step hb)
  clear hb
  (try clear x00);(try clear x01);(try clear x02);(try clear x10);(try clear x11);(try clear x12)
  have x01:wr.cell? ⟨w.heap.size,1,none⟩=some (.slice a1 l.length c1):=FR.out.cell 0 1 rfl rfl
  have x11:wr.cell? ⟨w.heap.size+1,1,none⟩=some (.slice a2 l.length c2):=FR.out.cell 1 1 rfl rfl
  by_cases hlt:k<l.length
  case neg=>
   have dk:decide ((k:Int)<l.length)=false:=decide_eq_false (by omega)
   go_wp2_with fail
   clear HBW
   (try clear x00);(try clear x01);(try clear x02);(try clear x10);(try clear x11);(try clear x12)
   obtain⟨w2,hw2⟩:∃ w2,w2=wr:=⟨_,rfl⟩
   rw[<- hw2] at FR ⊢
   clear hw2
   have F2:=FR
   clear FR
   go_loopw [6] (fun i wr=>∃ k:Nat,k<=K.length/\i=.int .i64 k/\Below w2.heap.size w2 wr) (fun i _=>K.length - (intOf i).toNat)
   case atStart=>exact⟨0,by omega,rfl,Below.refl _ _⟩
   case round=>
    obtain⟨j,hj,rfl,hb⟩:=hrel
    have HBW:=zh hb;have FR:=zh (F2.out.step hb)
    clear hb
    have x02:wr.cell? ⟨w.heap.size,2,none⟩=some (.slice b1 K.length d1):=FR.out.cell 0 2 rfl rfl
    have x12:wr.cell? ⟨w.heap.size+1,2,none⟩=some (.slice b2 K.length d2):=FR.out.cell 1 2 rfl rfl
    by_cases hlj:j<K.length
    case neg=>
     have dj:decide ((j:Int)<K.length)=false:=decide_eq_false (by omega)
     go_wp2_with fail
     go_ret
     exact⟨rfl,FR.out.under⟩
    have dj:decide ((j:Int)<K.length)=true:=decide_eq_true (by omega)
    obtain⟨b,o,ha,hbl,e0,e1⟩:=Own.KeysC.cells (G1.out.below FR.out.under) hlj
    obtain⟨b',o',ha',hbl',e0',e1'⟩:=Own.KeysC.cells (G2.out.below FR.out.under) hlj
    subst ha
    subst ha'
    obtain⟨x,hx⟩:∃ x,x=K[j]:=⟨_,rfl⟩
    rw[<- hx] at e0 e1 e0' e1'
    obtain⟨n,pu⟩:=x
    dsimp only at e0 e1 e0' e1'
    have hne:=neq_key_self n pu
    clear hx
    go_wp2_with fail
    go_quiet (fail)
    go_wp2_with fail
    go_round
    case measure=>simp[intOf];omega
    case rel=>exact⟨j+1,by omega,by go_num,below_drewN HBW.out nq⟩
  have dk:decide ((k:Int)<l.length)=true:=decide_eq_true (by omega)
  obtain⟨b,o,u,ha,hbl,e0,e1,e2,hu⟩:=Own.SpacesC.cells (H1.out.below FR.out.under) hlt
  obtain⟨b',o',u',ha',hbl',e0',e1',e2',hu'⟩:=Own.SpacesC.cells (H2.out.below FR.out.under) hlt
  subst ha
  subst ha'
  have hvl:=HV.out l[k] (List.getElem_mem hlt)
  obtain⟨x,hx⟩:∃ x,x=l[k]:=⟨_,rfl⟩
  rw[<- hx] at e0 e2 e0' e2' hu hu' hvl
  have hsp:=r53SameS_any x u u' wr.drew (hu.below (Below.refl _ _).drew) (hu'.below (Below.refl _ _).drew) hvl
  have HSP:=zh hsp
  clear hx hsp hu hu'
  go_wp2_with fail
  refine Lex.wp_region_lex (by kernel_rfl) (by kernel_rfl) ?_
  go_wp2_with fail
  refine HSP.out.mono ?_
  rintro e w2 ⟨rfl,hb⟩
  have HB2:=zh (HBW.out.trans (((Below.refl wr.heap.size wr).drew.trans hb).mono HBW.out.size))
  clear hb
  go_wp2_with fail
  refine Lex.Ends.intro (by kernel_rfl) ?_
  go_wp2_with fail
  go_round
  case measure=>simp[intOf];omega
  case rel=>exact⟨k+1,by omega,by go_num,HB2.out⟩
end
section
open Go Go.RowKit Go.Maps
theorem ord_cell {w:World} {g t:Nat} {a b c:Int} (h:At w g 3 #[.int .i64 a,.int .i64 b,.int .i64 c]) (h0:a=((Own.ordT t).getD 0 0:Nat)) (h1:b=((Own.ordT t).getD 1 0:Nat)) (h2:c=((Own.ordT t).getD 2 0:Nat)):
 ∀ k,k<3->w.cell? ⟨g,k,none⟩=some (.int .i64 ((Own.ordT t).getD k 0:Nat)):=by
 obtain⟨e0,e1,e2⟩:=h.c3
 rw[h0] at e0;rw[h1] at e1;rw[h2] at e2
 intro k hk
 match k,hk with
 | 0,_=>exact e0
 | 1,_=>exact e1
 | 2,_=>exact e2
 | k+3,h=>exact absurd h (by omega)
theorem rorder_any (votes turn:Int) (w:World) (hM:MaxL w) (hv:0<=votes/\votes<256) (ht:0<=turn/\turn<256):Calls Tryz.prog 9 #[.int .u8 votes,.int .u8 turn] w fun e w' => e=.returned (.bool true)/\Below w.heap.size w w' :=by
 obtain⟨t,htt⟩:∃ t:Nat,t=(turn%6).toNat:=⟨_,rfl⟩
 obtain⟨p,Q1,Q2,O1,O2,h⟩:=Own.ordB (agO votes) t
 have haw:=fun W (hW:MaxL W)=>awake54_any W hW
 have hsp:=fun W=>law54space_any 3 2 W (by omega)
 have hdg:=fun W=>law54digest_any 4 W (by omega)
 have hsb:=fun W (hW:Below w.heap.size w W)=>rvSubmit_any ⟨0,[]⟩ 0 9 ⟨#[97,47,120]⟩ (Lane.seedB 4) (.slice none 0 0) W (hM.below hW) (ListF.nil _ _) (by simp) (by simp)
 simp only[h.sub] at hsb
 obtain⟨q0,hq0⟩:∃ q,q=Q1 0:=⟨_,rfl⟩
 obtain⟨o0,ho0⟩:∃ o,o=O1 0:=⟨_,rfl⟩
 have hq00:q0.props=[p]:=by rw[hq0];exact h.q0p
 have hln:q0.props.length=1:=by rw[hq00];rfl
 have hso:o0.spaces=[Own.space54 3 2]:=by rw[ho0,h.o0e]
 have hko:o0.keys=[]:=by rw[ho0,h.o0e]
 have hco:o0.count=0:=by rw[ho0,h.o0e]
 rw[<- hq0] at hsb
 rw[<- hso] at hsp
 have HAWK:=zh haw;have HSP:=zh hsp;have HDG:=zh hdg;have HSB:=zh hsb;have HLN:=zh hln;have HQ00:=zh hq00;have HKO:=zh hko;have HCO:=zh hco;have HH:=zh h;have HMX:=zh hM;have HT:=zh htt;have HQ0:=zh hq0;have HO0:=zh ho0
 generalize Lane.seedB 4=DG at HDG HSB
 clear haw hsp hdg hsb hln hq00 hso hko hco h hM htt hq0 ho0
 go_enter Tryz.func9,Tryz.ntmps9
 go_upto_region 1 with fail
 obtain⟨gV,hgV⟩:∃ g,g=w.heap.size:=⟨_,rfl⟩
 have hbv:Below w.heap.size w (w.alloc (.cells #[.int .u8 votes] 5)):=(Below.refl _ _).alloc (Nat.le_refl _) _
 have hvv:=At.new w 5 #[.int .u8 votes]
 rw[<- hgV] at hvv
 have HBV:=zh hbv;have HVV:=zh hvv;have HGV:=zh hgV
 clear hbv hvv hgV
 rw[<- HGV.out]
 generalize w.alloc (.cells #[.int .u8 votes] 5)=wv at*
 clear HGV
 go_wp2_with fail
 refine(HAWK.out _ (HMX.out.below HBV.out)).mono ?_
 rintro e w0 ⟨rfl,hb0⟩
 have HB0:=zh (HBV.out.trans (hb0.mono HBV.out.size));have HV0:=zh (HVV.out.below hb0 HVV.out.lt)
 clear hb0 HAWK HBV HVV
 go_wp2_with fail
 refine(HSP.out _).mono ?_
 rintro e w1 ⟨sv,rfl,hS,hb1⟩
 obtain⟨sa,sc,rfl⟩:=hS.len
 have hv1:=HV0.out.below hb1 HV0.out.lt
 have hb1:=HB0.out.trans (hb1.mono HB0.out.size)
 have hbo:Below w1.heap.size w1 (w1.alloc (.cells #[.int .i64 0,.slice sa o0.spaces.length sc,.slice none 0 0] 38)):=(Below.refl w1.heap.size w1).alloc (Nat.le_refl _) _
 have hb2:=hb1.trans (hbo.mono hb1.size)
 obtain⟨gO,hgO⟩:∃ g,g=w1.heap.size:=⟨_,rfl⟩
 have hO2:=At.new w1 38 #[.int .i64 0,.slice sa o0.spaces.length sc,.slice none 0 0]
 have hS2:=hS.below hbo
 have hv2:=hv1.below hbo hv1.lt
 rw[<- hgO] at hO2
 have HB2:=zh hb2;have HO2:=zh hO2;have HS2:=zh hS2;have HGO:=zh hgO;have HV2:=zh hv2
 clear hb1 hbo hb2 hO2 hS hS2 hgO hv1 hv2 HB0 HV0
 go_upto_region 4 with fail
 rw[<- HGO.out]
 generalize w1.alloc (.cells #[.int .i64 0,.slice sa o0.spaces.length sc,.slice none 0 0] 38)=w2 at*
 clear HGO
 go_wp2_with fail
 refine(HDG.out _).mono ?_
 rintro e w3 ⟨rfl,hb3⟩
 have HB3:=zh (HB2.out.trans (hb3.mono HB2.out.size));have HO3:=zh (HO2.out.below hb3 HO2.out.lt);have HS3:=zh (HS2.out.below hb3);have HV3:=zh (HV2.out.below hb3 HV2.out.lt)
 clear hb3 HB2 HO2 HS2 HV2
 go_wp2_with fail
 refine(HSB.out _ HB3.out).mono ?_
 rintro e w4 ⟨⟨qv,rfl,qv',rfl,hpo⟩,hb4⟩
 obtain⟨qa,qc,rfl⟩:=hpo.one
 have hp4:Own.PropsC w4 (.slice qa q0.props.length qc) q0.props:=hpo.props
 have HB4:=zh (HB3.out.trans (hb4.mono HB3.out.size));have HO4:=zh (HO3.out.below hb4 HO3.out.lt);have HS4:=zh (HS3.out.below hb4);have HV4:=zh (HV3.out.below hb4 HV3.out.lt);have HP4:=zh hp4
 clear hb4 hpo hp4 HB3 HO3 HS3 HV3
 go_upto_region 5 with fail
 have hb45:Below w4.heap.size w4 ((w4.alloc (.cells #[.int .i64 q0.next,.slice qa q0.props.length qc] 24)).alloc (.cells #[.int .i64 0] 3)):=((Below.refl _ _).alloc (Nat.le_refl _) _).alloc (by simp) _
 have hQ5:=(At.new w4 24 #[.int .i64 q0.next,.slice qa q0.props.length qc]).alloc (.cells #[.int .i64 0] 3)
 have hI5:=At.new1 w4 (.cells #[.int .i64 q0.next,.slice qa q0.props.length qc] 24) 3 #[.int .i64 0]
 have hO5:=HO4.out.below hb45 HO4.out.lt
 have hls:LS ((w4.alloc (.cells #[.int .i64 q0.next,.slice qa q0.props.length qc] 24)).alloc (.cells #[.int .i64 0] 3)) gO w4.heap.size o0 q0 sa sc none 0 qa qc:=
  ⟨by rw[HCO.out,HKO.out];exact hO5,hQ5,HS4.out.below hb45,by rw[HKO.out];exact ListF.nil _ _,HP4.out.below hb45⟩
 obtain⟨gI,hgI⟩:∃ g,g=w4.heap.size+1:=⟨_,rfl⟩
 rw[<- hgI] at hI5
 obtain⟨gQ,hgQ⟩:∃ g,g=w4.heap.size:=⟨_,rfl⟩
 rw[<- hgQ] at hls
 have HB5:=zh (HB4.out.trans (hb45.mono HB4.out.size));have L6:=zh hls;have HI6:=zh hI5;have HV6:=zh (HV4.out.below hb45 HV4.out.lt);have HGQ:=zh hgQ;have HGI:=zh hgI
 clear hb45 hQ5 hI5 hO5 hls hgQ hgI HB4 HO4 HS4 HV4 HP4
 rw[<- HGI.out,<- HGQ.out]
 generalize (w4.alloc (.cells #[.int .i64 q0.next,.slice qa q0.props.length qc] 24)).alloc (.cells #[.int .i64 0] 3)=w6 at*
 clear HGQ HGI
 have HB6:=HB5
 clear HB5
 have d1:((q0.props.length:Int) != 1)=false:=by rw[HLN.out];rfl
 have d0:0<q0.props.length:=by rw[HLN.out];omega
 obtain⟨q0c,q1c⟩:=L6.out.atQ.c2
 obtain⟨b,o',vv,hqa,hbl,e0,e1,e2,e3,e4,e5,hvv⟩:=Own.PropsC.cells L6.out.ps d0
 obtain⟨va,vc,rfl⟩:=hvv.len
 generalize q0.props[0].votes.length=vl at*
 clear hvv
 subst hqa
 simp only[Nat.zero_mul,Nat.add_zero,HQ00.out,List.getElem_cons_zero] at e0 e1 e2 e3 e4 e5
 have hb7:Below w6.heap.size w6 (w6.alloc (.cells #[.int .i64 p.id,.string p.path,.string p.digest,.int .i64 p.opened,.int .i64 p.expires,.slice va vl vc] 46)):=(Below.refl _ _).alloc (Nat.le_refl _) _
 have hP7:=At.new w6 46 #[.int .i64 p.id,.string p.path,.string p.digest,.int .i64 p.opened,.int .i64 p.expires,.slice va vl vc]
 obtain⟨gP,hgP⟩:∃ g,g=w6.heap.size:=⟨_,rfl⟩
 rw[<- hgP] at hP7
 have L7:=zh (L6.out.below hb7);have HB7:=zh (HB6.out.trans (hb7.mono HB6.out.size));have HP7:=zh hP7;have HGP:=zh hgP;have HI7:=zh (HI6.out.below hb7 HI6.out.lt);have HV7:=zh (HV6.out.below hb7 HV6.out.lt)
 clear hb7 hP7 hgP L6 HB6 HI6 HV6
 go_upto_region 9 with fail
 rw[<- HGP.out]
 generalize w6.alloc (.cells #[.int .i64 p.id,.string p.path,.string p.digest,.int .i64 p.opened,.int .i64 p.expires,.slice va vl vc] 46)=w7 at*
 clear HGP q0c q1c e0 e1 e2 e3 e4 e5 d1 d0 hbl
 have hF:=((((((((Fresh.nil w7).push 3 #[.int .i64 0,.int .i64 1,.int .i64 2]).push 3 #[.int .i64 0,.int .i64 2,.int .i64 1]).push 3 #[.int .i64 1,.int .i64 0,.int .i64 2]).push 3 #[.int .i64 1,.int .i64 2,.int .i64 0]).push 3 #[.int .i64 2,.int .i64 0,.int .i64 1]).push 3 #[.int .i64 2,.int .i64 1,.int .i64 0]).push 76 #[.slice (some ⟨w7.heap.size,0,none⟩) 3 3,.slice (some ⟨w7.heap.size+1,0,none⟩) 3 3,.slice (some ⟨w7.heap.size+1+1,0,none⟩) 3 3,.slice (some ⟨w7.heap.size+1+1+1,0,none⟩) 3 3,.slice (some ⟨w7.heap.size+1+1+1+1,0,none⟩) 3 3,.slice (some ⟨w7.heap.size+1+1+1+1+1,0,none⟩) 3 3]).boxes
 have HF:=zh hF
 have x60:(((((((w7.alloc (.cells #[.int .i64 0,.int .i64 1,.int .i64 2] 3)).alloc (.cells #[.int .i64 0,.int .i64 2,.int .i64 1] 3)).alloc (.cells #[.int .i64 1,.int .i64 0,.int .i64 2] 3)).alloc (.cells #[.int .i64 1,.int .i64 2,.int .i64 0] 3)).alloc (.cells #[.int .i64 2,.int .i64 0,.int .i64 1] 3)).alloc (.cells #[.int .i64 2,.int .i64 1,.int .i64 0] 3)).alloc (.cells #[.slice (some ⟨w7.heap.size,0,none⟩) 3 3,.slice (some ⟨w7.heap.size+1,0,none⟩) 3 3,.slice (some ⟨w7.heap.size+1+1,0,none⟩) 3 3,.slice (some ⟨w7.heap.size+1+1+1,0,none⟩) 3 3,.slice (some ⟨w7.heap.size+1+1+1+1,0,none⟩) 3 3,.slice (some ⟨w7.heap.size+1+1+1+1+1,0,none⟩) 3 3] 76)).cell? ⟨w7.heap.size+1+1+1+1+1+1,0,none⟩=some (.slice (some ⟨w7.heap.size,0,none⟩) 3 3):=hF.cell 6 0 rfl rfl
 have x61:(((((((w7.alloc (.cells #[.int .i64 0,.int .i64 1,.int .i64 2] 3)).alloc (.cells #[.int .i64 0,.int .i64 2,.int .i64 1] 3)).alloc (.cells #[.int .i64 1,.int .i64 0,.int .i64 2] 3)).alloc (.cells #[.int .i64 1,.int .i64 2,.int .i64 0] 3)).alloc (.cells #[.int .i64 2,.int .i64 0,.int .i64 1] 3)).alloc (.cells #[.int .i64 2,.int .i64 1,.int .i64 0] 3)).alloc (.cells #[.slice (some ⟨w7.heap.size,0,none⟩) 3 3,.slice (some ⟨w7.heap.size+1,0,none⟩) 3 3,.slice (some ⟨w7.heap.size+1+1,0,none⟩) 3 3,.slice (some ⟨w7.heap.size+1+1+1,0,none⟩) 3 3,.slice (some ⟨w7.heap.size+1+1+1+1,0,none⟩) 3 3,.slice (some ⟨w7.heap.size+1+1+1+1+1,0,none⟩) 3 3] 76)).cell? ⟨w7.heap.size+1+1+1+1+1+1,1,none⟩=some (.slice (some ⟨w7.heap.size+1,0,none⟩) 3 3):=hF.cell 6 1 rfl rfl
 have x62:(((((((w7.alloc (.cells #[.int .i64 0,.int .i64 1,.int .i64 2] 3)).alloc (.cells #[.int .i64 0,.int .i64 2,.int .i64 1] 3)).alloc (.cells #[.int .i64 1,.int .i64 0,.int .i64 2] 3)).alloc (.cells #[.int .i64 1,.int .i64 2,.int .i64 0] 3)).alloc (.cells #[.int .i64 2,.int .i64 0,.int .i64 1] 3)).alloc (.cells #[.int .i64 2,.int .i64 1,.int .i64 0] 3)).alloc (.cells #[.slice (some ⟨w7.heap.size,0,none⟩) 3 3,.slice (some ⟨w7.heap.size+1,0,none⟩) 3 3,.slice (some ⟨w7.heap.size+1+1,0,none⟩) 3 3,.slice (some ⟨w7.heap.size+1+1+1,0,none⟩) 3 3,.slice (some ⟨w7.heap.size+1+1+1+1,0,none⟩) 3 3,.slice (some ⟨w7.heap.size+1+1+1+1+1,0,none⟩) 3 3] 76)).cell? ⟨w7.heap.size+1+1+1+1+1+1,2,none⟩=some (.slice (some ⟨w7.heap.size+1+1,0,none⟩) 3 3):=hF.cell 6 2 rfl rfl
 have x63:(((((((w7.alloc (.cells #[.int .i64 0,.int .i64 1,.int .i64 2] 3)).alloc (.cells #[.int .i64 0,.int .i64 2,.int .i64 1] 3)).alloc (.cells #[.int .i64 1,.int .i64 0,.int .i64 2] 3)).alloc (.cells #[.int .i64 1,.int .i64 2,.int .i64 0] 3)).alloc (.cells #[.int .i64 2,.int .i64 0,.int .i64 1] 3)).alloc (.cells #[.int .i64 2,.int .i64 1,.int .i64 0] 3)).alloc (.cells #[.slice (some ⟨w7.heap.size,0,none⟩) 3 3,.slice (some ⟨w7.heap.size+1,0,none⟩) 3 3,.slice (some ⟨w7.heap.size+1+1,0,none⟩) 3 3,.slice (some ⟨w7.heap.size+1+1+1,0,none⟩) 3 3,.slice (some ⟨w7.heap.size+1+1+1+1,0,none⟩) 3 3,.slice (some ⟨w7.heap.size+1+1+1+1+1,0,none⟩) 3 3] 76)).cell? ⟨w7.heap.size+1+1+1+1+1+1,3,none⟩=some (.slice (some ⟨w7.heap.size+1+1+1,0,none⟩) 3 3):=hF.cell 6 3 rfl rfl
 have x64:(((((((w7.alloc (.cells #[.int .i64 0,.int .i64 1,.int .i64 2] 3)).alloc (.cells #[.int .i64 0,.int .i64 2,.int .i64 1] 3)).alloc (.cells #[.int .i64 1,.int .i64 0,.int .i64 2] 3)).alloc (.cells #[.int .i64 1,.int .i64 2,.int .i64 0] 3)).alloc (.cells #[.int .i64 2,.int .i64 0,.int .i64 1] 3)).alloc (.cells #[.int .i64 2,.int .i64 1,.int .i64 0] 3)).alloc (.cells #[.slice (some ⟨w7.heap.size,0,none⟩) 3 3,.slice (some ⟨w7.heap.size+1,0,none⟩) 3 3,.slice (some ⟨w7.heap.size+1+1,0,none⟩) 3 3,.slice (some ⟨w7.heap.size+1+1+1,0,none⟩) 3 3,.slice (some ⟨w7.heap.size+1+1+1+1,0,none⟩) 3 3,.slice (some ⟨w7.heap.size+1+1+1+1+1,0,none⟩) 3 3] 76)).cell? ⟨w7.heap.size+1+1+1+1+1+1,4,none⟩=some (.slice (some ⟨w7.heap.size+1+1+1+1,0,none⟩) 3 3):=hF.cell 6 4 rfl rfl
 have x65:(((((((w7.alloc (.cells #[.int .i64 0,.int .i64 1,.int .i64 2] 3)).alloc (.cells #[.int .i64 0,.int .i64 2,.int .i64 1] 3)).alloc (.cells #[.int .i64 1,.int .i64 0,.int .i64 2] 3)).alloc (.cells #[.int .i64 1,.int .i64 2,.int .i64 0] 3)).alloc (.cells #[.int .i64 2,.int .i64 0,.int .i64 1] 3)).alloc (.cells #[.int .i64 2,.int .i64 1,.int .i64 0] 3)).alloc (.cells #[.slice (some ⟨w7.heap.size,0,none⟩) 3 3,.slice (some ⟨w7.heap.size+1,0,none⟩) 3 3,.slice (some ⟨w7.heap.size+1+1,0,none⟩) 3 3,.slice (some ⟨w7.heap.size+1+1+1,0,none⟩) 3 3,.slice (some ⟨w7.heap.size+1+1+1+1,0,none⟩) 3 3,.slice (some ⟨w7.heap.size+1+1+1+1+1,0,none⟩) 3 3] 76)).cell? ⟨w7.heap.size+1+1+1+1+1+1,5,none⟩=some (.slice (some ⟨w7.heap.size+1+1+1+1+1,0,none⟩) 3 3):=hF.cell 6 5 rfl rfl
 clear hF
 go_cut [11] (fun v11 wx=>v11=.slice (some ⟨w7.heap.size+t,0,none⟩) 3 3/\wx=(((((((w7.alloc (.cells #[.int .i64 0,.int .i64 1,.int .i64 2] 3)).alloc (.cells #[.int .i64 0,.int .i64 2,.int .i64 1] 3)).alloc (.cells #[.int .i64 1,.int .i64 0,.int .i64 2] 3)).alloc (.cells #[.int .i64 1,.int .i64 2,.int .i64 0] 3)).alloc (.cells #[.int .i64 2,.int .i64 0,.int .i64 1] 3)).alloc (.cells #[.int .i64 2,.int .i64 1,.int .i64 0] 3)).alloc (.cells #[.slice (some ⟨w7.heap.size,0,none⟩) 3 3,.slice (some ⟨w7.heap.size+1,0,none⟩) 3 3,.slice (some ⟨w7.heap.size+1+1,0,none⟩) 3 3,.slice (some ⟨w7.heap.size+1+1+1,0,none⟩) 3 3,.slice (some ⟨w7.heap.size+1+1+1+1,0,none⟩) 3 3,.slice (some ⟨w7.heap.size+1+1+1+1+1,0,none⟩) 3 3] 76)))
 case first=>
  have h6:turn%6=0\/turn%6=1\/turn%6=2\/turn%6=3\/turn%6=4\/turn%6=5:=by omega
  rcases h6 with h6 | h6 | h6 | h6 | h6 | h6
  ·have h0:t=0:=by rw[HT.out,h6];rfl
   go_wp2_with fail
   go_meet
   exact⟨by subst h0;rfl,rfl⟩
  ·have h0:t=1:=by rw[HT.out,h6];rfl
   go_wp2_with fail
   go_meet
   exact⟨by subst h0;rfl,rfl⟩
  ·have h0:t=2:=by rw[HT.out,h6];rfl
   go_wp2_with fail
   go_meet
   exact⟨by subst h0;rfl,rfl⟩
  ·have h0:t=3:=by rw[HT.out,h6];rfl
   go_wp2_with fail
   go_meet
   exact⟨by subst h0;rfl,rfl⟩
  ·have h0:t=4:=by rw[HT.out,h6];rfl
   go_wp2_with fail
   go_meet
   exact⟨by subst h0;rfl,rfl⟩
  ·have h0:t=5:=by rw[HT.out,h6];rfl
   go_wp2_with fail
   go_meet
   exact⟨by subst h0;rfl,rfl⟩
 case rest=>
  obtain⟨rfl,rfl⟩:=hcut
  have ht6:t<6:=by rw[HT.out];omega
  have a0:=HF.out.at1 0 rfl;have a1:=HF.out.at1 1 rfl;have a2:=HF.out.at1 2 rfl;have a3:=HF.out.at1 3 rfl;have a4:=HF.out.at1 4 rfl;have a5:=HF.out.at1 5 rfl
  have hcs:∀ k,k<3->((((((((w7.alloc (.cells #[.int .i64 0,.int .i64 1,.int .i64 2] 3)).alloc (.cells #[.int .i64 0,.int .i64 2,.int .i64 1] 3)).alloc (.cells #[.int .i64 1,.int .i64 0,.int .i64 2] 3)).alloc (.cells #[.int .i64 1,.int .i64 2,.int .i64 0] 3)).alloc (.cells #[.int .i64 2,.int .i64 0,.int .i64 1] 3)).alloc (.cells #[.int .i64 2,.int .i64 1,.int .i64 0] 3)).alloc (.cells #[.slice (some ⟨w7.heap.size,0,none⟩) 3 3,.slice (some ⟨w7.heap.size+1,0,none⟩) 3 3,.slice (some ⟨w7.heap.size+1+1,0,none⟩) 3 3,.slice (some ⟨w7.heap.size+1+1+1,0,none⟩) 3 3,.slice (some ⟨w7.heap.size+1+1+1+1,0,none⟩) 3 3,.slice (some ⟨w7.heap.size+1+1+1+1+1,0,none⟩) 3 3] 76))).cell? ⟨w7.heap.size+t,k,none⟩=some (.int .i64 ((Own.ordT t).getD k 0:Nat)):=by
   have h6:t=0\/t=1\/t=2\/t=3\/t=4\/t=5:=by omega
   rcases h6 with h | h | h | h | h | h
   ·rw[h];exact ord_cell a0 rfl rfl rfl
   ·rw[h];exact ord_cell a1 rfl rfl rfl
   ·rw[h];exact ord_cell a2 rfl rfl rfl
   ·rw[h];exact ord_cell a3 rfl rfl rfl
   ·rw[h];exact ord_cell a4 rfl rfl rfl
   ·rw[h];exact ord_cell a5 rfl rfl rfl
  clear a0 a1 a2 a3 a4 a5
  have hgS:w7.heap.size+t<((((((((w7.alloc (.cells #[.int .i64 0,.int .i64 1,.int .i64 2] 3)).alloc (.cells #[.int .i64 0,.int .i64 2,.int .i64 1] 3)).alloc (.cells #[.int .i64 1,.int .i64 0,.int .i64 2] 3)).alloc (.cells #[.int .i64 1,.int .i64 2,.int .i64 0] 3)).alloc (.cells #[.int .i64 2,.int .i64 0,.int .i64 1] 3)).alloc (.cells #[.int .i64 2,.int .i64 1,.int .i64 0] 3)).alloc (.cells #[.slice (some ⟨w7.heap.size,0,none⟩) 3 3,.slice (some ⟨w7.heap.size+1,0,none⟩) 3 3,.slice (some ⟨w7.heap.size+1+1,0,none⟩) 3 3,.slice (some ⟨w7.heap.size+1+1+1,0,none⟩) 3 3,.slice (some ⟨w7.heap.size+1+1+1+1,0,none⟩) 3 3,.slice (some ⟨w7.heap.size+1+1+1+1+1,0,none⟩) 3 3] 76))).heap.size:=Nat.lt_of_lt_of_le (Nat.add_lt_add_left (show t<7 by omega) _) HF.out.size
  have HCS:=zh hcs;have HGS:=zh hgS
  have L8:=zh (L7.out.below HF.out.under);have HB8:=zh (HB7.out.trans (HF.out.under.mono HB7.out.size));have HP8:=zh (HP7.out.below HF.out.under HP7.out.lt);have HI8:=zh (HI7.out.below HF.out.under HI7.out.lt);have HV8:=zh (HV7.out.below HF.out.under HV7.out.lt)
  clear hcs hgS ht6 HF L7 HB7 HP7 HI7 HV7 x60 x61 x62 x63 x64 x65
  obtain⟨gS,hgS⟩:∃ g,g=w7.heap.size+t:=⟨_,rfl⟩
  rw[<- hgS] at HCS HGS ⊢
  clear hgS
  generalize (((((((w7.alloc (.cells #[.int .i64 0,.int .i64 1,.int .i64 2] 3)).alloc (.cells #[.int .i64 0,.int .i64 2,.int .i64 1] 3)).alloc (.cells #[.int .i64 1,.int .i64 0,.int .i64 2] 3)).alloc (.cells #[.int .i64 1,.int .i64 2,.int .i64 0] 3)).alloc (.cells #[.int .i64 2,.int .i64 0,.int .i64 1] 3)).alloc (.cells #[.int .i64 2,.int .i64 1,.int .i64 0] 3)).alloc (.cells #[.slice (some ⟨w7.heap.size,0,none⟩) 3 3,.slice (some ⟨w7.heap.size+1,0,none⟩) 3 3,.slice (some ⟨w7.heap.size+1+1,0,none⟩) 3 3,.slice (some ⟨w7.heap.size+1+1+1,0,none⟩) 3 3,.slice (some ⟨w7.heap.size+1+1+1+1,0,none⟩) 3 3,.slice (some ⟨w7.heap.size+1+1+1+1+1,0,none⟩) 3 3] 76))=w8 at*
  have hb89:Below w8.heap.size w8 (w8.alloc (.cells #[.int .i64 0,.int .i64 1,.int .i64 2] 3)):=(Below.refl _ _).alloc (Nat.le_refl _) _
  have hA9:=At.new w8 3 #[.int .i64 0,.int .i64 1,.int .i64 2]
  have L9:=zh (L8.out.below hb89);have HB9:=zh (HB8.out.trans (hb89.mono HB8.out.size));have HP9:=zh (HP8.out.below hb89 HP8.out.lt);have HI9:=zh (HI8.out.below hb89 HI8.out.lt);have HV9:=zh (HV8.out.below hb89 HV8.out.lt)
  have HCS9:=zh (fun k hk=>(hb89.cell (p:=⟨gS,k,none⟩) HGS.out).trans (HCS.out k hk));have HGS9:=zh (Nat.lt_of_lt_of_le HGS.out hb89.size)
  have hcs0:=ord_cell (t:=0) hA9 rfl rfl rfl
  have HR1:=zh (order1_any votes _ p Q1 O1 HH.out.v1 hv w8.heap.size gQ gO gV gI gP sa none _ va sc 0 qc vl vc _ (HMX.out.below HB9.out) hA9.lt hcs0 (by rw[<- HO0.out,<- HQ0.out];exact L9.out) HV9.out HI9.out HP9.out)
  clear hb89 hA9 hcs0 L8 HB8 HP8 HI8 HV8 HCS HGS
  go_wp2_with fail
  refine HR1.out.mono ?_
  rintro e w10 ⟨sa1,sc1,ka1,kc1,qa1,qc1,rfl,hs,hk,hp,hb⟩
  have hbb:=((Below.refl w8.heap.size w8).alloc (Nat.le_refl _) (.cells #[.int .i64 0,.int .i64 1,.int .i64 2] 3)).trans (hb.mono (by simp))
  have L10:=zh (L9.out.below hb);have HB10:=zh (HB9.out.trans (hb.mono HB9.out.size));have HP10:=zh (HP9.out.below hb HP9.out.lt);have HI10:=zh (HI9.out.below hb HI9.out.lt);have HV10:=zh (HV9.out.below hb HV9.out.lt)
  have HCS10:=zh (fun k hk=>(hb.cell (p:=⟨gS,k,none⟩) HGS9.out).trans (HCS9.out k hk));have HGS10:=zh (Nat.lt_of_lt_of_le HGS9.out hb.size)
  have SP1:=zh hs;have KS1:=zh hk;have PS1:=zh hp
  clear hs hk hp hb hbb HR1 L9 HB9 HP9 HI9 HV9 HCS9 HGS9
  generalize HQ1:Q1 3=q1 at*
  generalize HO1:O1 3=o1 at*
  go_upto_region 11 with fail
  obtain⟨hl,hb⟩:=LS.two SP1.out KS1.out PS1.out
  obtain⟨gB,hgB⟩:∃ g,g=w10.heap.size+1:=⟨_,rfl⟩
  obtain⟨gA,hgA⟩:∃ g,g=w10.heap.size:=⟨_,rfl⟩
  have LA:=zh hl
  have L11:=zh (L10.out.below hb);have HB11:=zh (HB10.out.trans (hb.mono HB10.out.size));have HP11:=zh (HP10.out.below hb HP10.out.lt);have HI11:=zh (HI10.out.below hb HI10.out.lt);have HV11:=zh (HV10.out.below hb HV10.out.lt)
  have HCS11:=zh (fun k hk=>(hb.cell (p:=⟨gS,k,none⟩) HGS10.out).trans (HCS10.out k hk));have HGS11:=zh (Nat.lt_of_lt_of_le HGS10.out hb.size)
  rw[<- hgB] at LA ⊢
  rw[<- hgA] at LA ⊢
  clear hl hb hgB hgA L10 HB10 HP10 HI10 HV10 HCS10 HGS10 SP1 KS1 PS1
  generalize (w10.alloc (.cells #[.int .i64 q1.next,.slice qa1 q1.props.length qc1] 24)).alloc (.cells #[.int .i64 o1.count,.slice sa1 o1.spaces.length sc1,.slice ka1 o1.keys.length kc1] 38)=w11 at*
  have hr2:=order1_any votes _ p Q2 O2 HH.out.v2 hv gS gQ gO gV gI gP sa none _ va sc 0 qc vl vc w11 (HMX.out.below HB11.out) HGS11.out HCS11.out (by rw[HH.out.eo,HH.out.eq,<- HO0.out,<- HQ0.out];exact L11.out) HV11.out HI11.out HP11.out
  rw[HH.out.eo3,HH.out.eq3,HQ1,HO1] at hr2
  have HR2:=zh hr2
  clear hr2 L11 HP11 HI11 HV11 HCS11 HGS11
  go_wp2_with fail
  refine HR2.out.mono ?_
  rintro e w12 ⟨sa2,sc2,ka2,kc2,qa2,qc2,rfl,hs,hk,hp,hb⟩
  have LA12:=zh (LA.out.below hb);have HB12:=zh (HB11.out.trans (hb.mono HB11.out.size));have SP2:=zh hs;have KS2:=zh hk;have PS2:=zh hp
  clear hs hk hp hb HR2 LA HB11
  go_upto_region 12 with fail
  obtain⟨hl,hb⟩:=LS.two SP2.out KS2.out PS2.out
  obtain⟨gD,hgD⟩:∃ g,g=w12.heap.size+1:=⟨_,rfl⟩
  obtain⟨gC,hgC⟩:∃ g,g=w12.heap.size:=⟨_,rfl⟩
  have LB:=zh hl
  have LA13:=zh (LA12.out.below hb);have HB13:=zh (HB12.out.trans (hb.mono HB12.out.size))
  rw[<- hgD] at LB ⊢
  rw[<- hgC] at LB ⊢
  clear hl hb hgD hgC LA12 HB12 SP2 KS2 PS2
  generalize (w12.alloc (.cells #[.int .i64 q1.next,.slice qa2 q1.props.length qc2] 24)).alloc (.cells #[.int .i64 o1.count,.slice sa2 o1.spaces.length sc2,.slice ka2 o1.keys.length kc2] 38)=w13 at*
  have hft:=HH.out.v1.fit 3 (Nat.le_refl 3)
  rw[HQ1,HO1] at hft
  have HFT:=zh hft
  have HSM:=zh (r54Same_any q1 _ _ w13 LA13.out.ps LB.out.ps (by have:=hft.lp;omega) (fun x hx=>by have:=hft.lv x hx;omega))
  obtain⟨q0c,q1c⟩:=LA13.out.atQ.c2;obtain⟨q0d,q1d⟩:=LB.out.atQ.c2
  clear hft HQ1 HO1
  go_wp2_with fail
  refine HSM.out.mono ?_
  rintro e w14 ⟨rfl,hb⟩
  have LA14:=zh (LA13.out.below hb);have LB14:=zh (LB.out.below hb);have HB14:=zh (HB13.out.trans (hb.mono HB13.out.size))
  clear hb q0c q1c q0d q1d HSM LA13 LB HB13
  obtain⟨o0c,o1c,o2c⟩:=LA14.out.atO.c3;obtain⟨o0d,o1d,o2d⟩:=LB14.out.atO.c3
  have HSN:=zh (r53Same_any o1 _ _ _ _ w14 LA14.out.sp LB14.out.sp LA14.out.ks LB14.out.ks (by have:=HFT.out.ls;omega) (by have:=HFT.out.lk;omega) (fun x hx=>by have:=HFT.out.lm x hx;omega))
  go_wp2_with fail
  refine HSN.out.mono ?_
  rintro e w15 ⟨rfl,hb⟩
  have HB15:=zh (HB14.out.trans (hb.mono HB14.out.size))
  clear hb o0c o1c o2c o0d o1d o2d HSN
  go_wp2_with fail
  go_ret
  exact⟨rfl,HB15.out⟩
end
section
open Go Go.ChangeShapes Go.WideShapes Go.RowKit Go.Maps
section
variable {H:Type} {enc:TypeId × Value->H}
theorem returnsInHanded_and_shaped {a:Assume} {C:Checked} {os:Os} {f:FuncId} {fn:Func} {s:ChangeSpec} {conds:List PathCond} {apart fresh handsOn again:Bool} {X:World->Array Value->Prop}
 (hX:∀ (w w' : World) (args:Array Value),w.heap=w'.heap->X w args->X w' args)
 (own:ownKnob C.prog.godebug=none) (started:os.Started) (noInit:C.prog.inits.idxOf? f=none) (hfn:C.prog.funcs[f]? = some fn)
 (witness : ∃ (w : World) (tape : Tape) (i : Input),w.os = os ∧ (w.forCall tape i).Shaped C.prog ∧ i.vars = [] ∧ Input.okWide C.prog (w.forCall tape i) .any w.heap.size f i ∧
   ((s.pre enc C.prog fn conds apart (w.forCall tape i).memory i.args/\X (w.forCall tape i).memory i.args)/\sizedMet enc C.prog fn (OpenSpec.ofChange s) apart (w.forCall tape i).memory i.args)/\a.holds C.prog (lone (Frame.enter C.prog f i.args .normal) [] (w.forCall tape i)))
 (contract : ∀ (W : World) (base : Nat) (args : Array Value) (ds gs : List (DataW H)) (before : List MemPlace),
   (∀ (j:Nat) t v,fn.params[j]? = some t->args[j]? = some v->Value.okWide C.prog W .any base t v)->
   DataW.Whole enc C.prog fn.params.toList s.vars apart W args.toList ds gs before->
   conds.all (PathCond.test C.prog ⟨fn.params.toList,ds,s.plain.varTypes C.prog,gs⟩)=true->
   (DataW.weightsEach C.prog (fn.params.toList++s.plain.varTypes C.prog) (ds++gs)).all (· <= reachBytes)=true->X W args->W.ShapedOpen C.prog->
   a.holds C.prog (lone (Frame.enter C.prog f args .normal) [] W)->
   Calls C.prog f args W fun e W' => ∃ v,e=.returned v/\s.post enc C.prog fn apart fresh handsOn again W args v W'):
 ReturnsInHanded a C os f .any (fun w args=>(s.pre enc C.prog fn conds apart w args/\X w args)/\sizedMet enc C.prog fn (OpenSpec.ofChange s) apart w args) (s.post enc C.prog fn apart fresh handsOn again):=by
 refine returnsInHanded_of_calls own started noInit witness ?_
 intro w tape i _ hsh _ hok hpre hholds
 obtain⟨_,_,_,fn',hfn',_,_,_,_,hval⟩:=hok
 have e:fn' = fn:=Option.some.inj (hfn'.symm.trans hfn)
 subst e
 obtain⟨⟨⟨ds,gs,before,hw,hc⟩,hx⟩,hz⟩:=hpre
 have hw' :=DataW.Whole.of_heap (w' :=w.forCall tape i) (by rfl) hw
 refine(contract (w.forCall tape i) w.heap.size i.args ds gs before hval hw' hc (hz.weights hw) (hX _ _ _ (by rfl) hx) hsh hholds).mono fun e W' ⟨v,he,hp⟩=>?_
 subst he
 exact ChangeSpec.post_blind hp
theorem maxL_of {W:World} (h:W.ShapedOpen Tryz.prog):MaxL W:=
 Go.Proofs.cell_of_shapedOpen_int (zero:=#[.int .i64 0]) (t:=3) h (of_decide_eq_true (by kernel_rfl)) (by kernel_rfl) rfl (by kernel_rfl) (by kernel_rfl) Tryz.underlying3
end
end
section
open Go Go.ChangeShapes Go.WideShapes Go.ChangeAt Go.RowKit
theorem ownKnobNone:ownKnob Tryz.prog.godebug=none:=by kernel_rfl
theorem rorder_lifted (os:Os) (started:os.Started) (H:Type) (enc:TypeId × Value->H):
 ReturnsInHanded {} Tryz.checked os 9 .any (fun w args=>(Rows.reviewOrderSpec.pre enc Tryz.prog Tryz.f9 Rows.reviewOrderRow.domain false w args/\laidMetH Tryz.prog Rows.reviewOrderRow.laid w)/\sizedMet enc Tryz.prog Tryz.f9 (OpenSpec.ofChange Rows.reviewOrderSpec) false w args)
  (Rows.reviewOrderSpec.post enc Tryz.prog Tryz.f9 false true false false):=by
 refine returnsInHanded_and_shaped (C:=Tryz.checked) (X:=fun w _=>laidMetH Tryz.prog Rows.reviewOrderRow.laid w) (fun _ _ _ hh h=>h.of_heap hh) ownKnobNone started (by kernel_rfl) Tryz.func9
  (ChangeSpec.witness_shaped (enc :=enc) (C :=Tryz.checked) (os :=os) (X :=fun w _ => laidMetH Tryz.prog Rows.reviewOrderRow.laid w) false (World.laidAll Tryz.prog os Rows.reviewOrderRow.laid) #[.int .u8 0,.int .u8 0] 8 (World.laidAll_os _ _ _)
    (World.shaped_of_ZipB (by kernel_rfl) (by kernel_rfl)) (by kernel_rfl) (by kernel_rfl) (by kernel_rfl)
    (by rw[MakeChecks.laidMetH_plain _ _ _ (by kernel_rfl)];exact laidMet_laidAll _ (by kernel_rfl) (by kernel_rfl))) ?_
 intro W base args ds gs before hval0 hW _ hz0 _ hsh _
 have hM:=maxL_of hsh
 have hval:∀ (j:Nat) t v,Tryz.f9.params[j]? = some t->args[j]? = some v->Value.okWide Tryz.prog W .any base t v:=hval0
 have hW' :=hW
 obtain⟨p,q,hA0,hV,rfl,_,_⟩:=hW
 have hA:DataW.TrodAll enc Tryz.prog W 0 (fun _=>true) true Tryz.f9.params.toList args.toList ds p:=hA0
 rw[Tryz.params9] at hA hval
 obtain⟨v0,v1,d0,d1,p0,p1,rfl,rfl,rfl,h0,h1⟩:=trodAll_two hA
 obtain⟨rfl,rfl⟩:=trodVars_none hV
 obtain⟨x0,rfl,rfl,rfl,wx0⟩:=open_int Tryz.underlying5 (hval 0 5 v0 rfl rfl) h0
 have hx0:0<=x0/\x0<256:=by
  have:=wx0
  simp[Lit.wf,IntKind.has] at this
  have h1:IntKind.u8.min=0:=by decide
  have h2:IntKind.u8.max=255:=by decide
  omega
 obtain⟨x1,rfl,rfl,rfl,wx1⟩:=open_int Tryz.underlying5 (hval 1 5 v1 rfl rfl) h1
 have hx1:0<=x1/\x1<256:=by
  have:=wx1
  simp[Lit.wf,IntKind.has] at this
  have h1:IntKind.u8.min=0:=by decide
  have h2:IntKind.u8.max=255:=by decide
  omega
 have e1:Rows.reviewOrderSpec.fn H ([.lit (.int .u8 x0),.lit (.int .u8 x1)]++[]) = { results:=[.lit (.bool true)],args:=[.lit (.int .u8 x0),.lit (.int .u8 x1)] } :=by simp[Rows.reviewOrderSpec]
 refine(rorder_any x0 x1 W hM hx0 hx1).mono fun e W' ⟨he,hb⟩=>?_
 subst he
 refine⟨_,rfl,_,_,_,[],[]++([]++[]),[],by simpa using hW',?_,?_,?_,hb.frame _,fun h=>by cases h⟩
 ·rw[e1];exact trodAll_mk1 (shut_bool Tryz.underlying4 true)
 ·rw[e1];exact(trodAll_cons_mk (shut_int Tryz.underlying5 wx0) (trodAll_cons_mk (shut_int Tryz.underlying5 wx1) trodAll_mk0))
 ·rw[e1];rfl
theorem rorder_holds:Rows.ReviewOrderSaid:=
 OpenClaim.holds_of_wide 9 Tryz.f9 rfl rfl rfl rfl rfl rfl rfl ⟨rfl,rfl,rfl,rfl,rfl⟩ rfl rfl rfl rfl rfl (by kernel_rfl) Tryz.func9 (by kernel_rfl)
  (of_decide_eq_true (by kernel_rfl)) (by unfold Func.isWrapper;first | (rw[if_pos (by decide +kernel)];kernel_rfl) | (rw[if_neg (by decide +kernel)];exact⟨rfl,rfl⟩))
  (fun os started H enc _=>rorder_lifted os started H enc)
theorem rorder_card:Rows.ReviewOrderCardSaid:=
 Claim7.holds_tied_plain_at .later [] [.data,.pinned] true Rows.reviewOrderCard.stood.harness false rorder_holds (fun _ h=>by cases h) (by kernel_rfl) (fun _ h=>by cases h) reviewOrder_row_tie rfl ⟨rfl,rfl⟩ (by kernel_rfl) rfl
  (fun f fn hf hfn => by
    obtain rfl : f = 9 := Option.some.inj ((show Tryz.prog.funcNamed "modcert/modcertlaw54.ReviewOrder" = some 9 by kernel_rfl).symm.trans hf) |>.symm
    obtain rfl:fn=Tryz.f9:=(Option.some.inj (Tryz.func9.symm.trans hfn)).symm
    exact⟨by kernel_rfl,fun j t ht=>by
     rw[Tryz.params9] at ht
     have hm:t∈[5,5]:=by simpa using Array.mem_of_getElem? ht
     have hall:([5,5].all fun u => !Tryz.prog.wantsStandIn u)=true:=by kernel_rfl
     exact(show Tryz.prog.wantsStandIn t=false by simpa using List.all_eq_true.1 hall t hm)⟩)
  (by kernel_rfl)
end
end Go.Proofs.YtnijhlphcjjpbaaGreatDoor
