/- The reference's comparisons answer true where both sides read as one value; The law ReviewQueues holds, for any arguments; The wrap that keeps the laid tables and the world's shape; bytealg.MaxLen stands in a world of that shape; Slices of structs that came in, with what each element reads; Members, keys, votes, spaces, proposals, queues, owners, approvals that came in; ReviewQueues returns true for every input; the input reads as it did. -/
import Derived.HandedShaped
import Derived.OpenShut
import Derived.ProofKit
import Derived.SliceStrings
import Derived.Stop.Joined
import Derived.Deep.Strs
import Derived.Deep.SlicePairs
import Derived.ChangeMaps5
import Derived.Test.YtnijhlphcjjpbaaGreatDoorRows
import Derived.Test.YtnijhlphcjjpbaaGreatDoorCards
import Derived.Test.YtnijhlphcjjpbaaGreatDoorTie
import Derived.LaidMore
import Derived.Lay
import Derived.SevenTiedAt
import Derived.Test.YtnijhlphcjjpbaaGreatDoorShkQu1
import Derived.Test.YtnijhlphcjjpbaaGreatDoorShkQu2
import Derived.Test.YtnijhlphcjjpbaaGreatDoorShkQu3
import Derived.Test.YtnijhlphcjjpbaaGreatDoorShkQu4
import Derived.Test.YtnijhlphcjjpbaaGreatDoorShkQu5
import Derived.Test.YtnijhlphcjjpbaaGreatDoorShkQu6
import Derived.Test.YtnijhlphcjjpbaaGreatDoorShkQu7
set_option linter.unusedVariables false
set_option linter.unusedSimpArgs false
set_option maxRecDepth 100000
set_option maxHeartbeats 16000000
namespace Go.Proofs.YtnijhlphcjjpbaaGreatDoor
section
open Go Go.RowKit Go.Maps
theorem equalIn_bool (D:Nat) (a c:Bool) (w:World):(Op.equalIn (D+1) 4 (.bool a) (.bool c)).run Tryz.prog w=.ok (a==c) w:=by
 rw[Op.equalIn]
 simp[Tryz.underlying4]
theorem beq_self (a:ByteArray):(a==a)=true:=by rw[ba_beq];simp
theorem neq_vote_self (a b:ByteArray) (c:Bool) (w:World):(binOp .neq 82 (.agg #[.string a,.string b,.bool c]) (.agg #[.string a,.string b,.bool c])).run Tryz.prog w=.ok (.bool false) w:=by
 have hs:Tryz.prog.stoodInHeld 82=false:=by kernel_rfl
 have e1:=equalIn_string 9998 a a w
 have e2:=equalIn_string 9998 b b w
 have e3:=equalIn_bool 9998 c c w
 have s1:∀ w,(sizeOf 9).run Tryz.prog w=.ok 1 w:=fun w=>by kernel_rfl
 have s2:∀ w,(isAgg 9).run Tryz.prog w=.ok false w:=fun w=>by kernel_rfl
 have s3:∀ w,(sizeOf 4).run Tryz.prog w=.ok 1 w:=fun w=>by kernel_rfl
 have s4:∀ w,(isAgg 4).run Tryz.prog w=.ok false w:=fun w=>by kernel_rfl
 have h2:(Op.equal 82 (.agg #[.string a,.string b,.bool c]) (.agg #[.string a,.string b,.bool c])).run Tryz.prog w=.ok true w:=by
  show(Op.equalIn (9998+2) 82 _ _).run Tryz.prog w=_
  rw[beq_self] at e1 e2
  rw[Op.equalIn]
  simp[Tryz.underlying82,hs,part,e1,e2,e3,s1,s2,s3,s4,Result.andThen]
 simp[binOp,h2,Result.andThen]
theorem r54SameP_any (p:Own.Proposal) (v1 v2:Value) (w:World) (h1:Own.VotesC w v1 p.votes) (h2:Own.VotesC w v2 p.votes) (hl:p.votes.length<=140737488355328):
 Calls Tryz.prog 32 #[.agg #[.int .i64 p.id,.string p.path,.string p.digest,.int .i64 p.opened,.int .i64 p.expires,v1],.agg #[.int .i64 p.id,.string p.path,.string p.digest,.int .i64 p.opened,.int .i64 p.expires,v2]] w fun e w' => e=.returned (.bool true)/\Below w.heap.size w w' :=by
 obtain⟨id,pa,di,op,ex,l⟩:=p
 dsimp only at*
 obtain⟨a1,c1,rfl⟩:=h1.len
 obtain⟨a2,c2,rfl⟩:=h2.len
 have F1:=zh (show Boxes w ((w.alloc (.cells #[.int .i64 id,.string pa,.string di,.int .i64 op,.int .i64 ex,.slice a1 l.length c1] 46)).alloc (.cells #[.int .i64 id,.string pa,.string di,.int .i64 op,.int .i64 ex,.slice a2 l.length c2] 46)) [(46,#[.int .i64 id,.string pa,.string di,.int .i64 op,.int .i64 ex,.slice a1 l.length c1]),(46,#[.int .i64 id,.string pa,.string di,.int .i64 op,.int .i64 ex,.slice a2 l.length c2])] from(((Fresh.nil w).push 46 #[.int .i64 id,.string pa,.string di,.int .i64 op,.int .i64 ex,.slice a1 l.length c1]).push 46 #[.int .i64 id,.string pa,.string di,.int .i64 op,.int .i64 ex,.slice a2 l.length c2]).boxes)
 have x00:((w.alloc (.cells #[.int .i64 id,.string pa,.string di,.int .i64 op,.int .i64 ex,.slice a1 l.length c1] 46)).alloc (.cells #[.int .i64 id,.string pa,.string di,.int .i64 op,.int .i64 ex,.slice a2 l.length c2] 46)).cell? ⟨w.heap.size,0,none⟩=some (.int .i64 id):=F1.out.cell 0 0 rfl rfl
 have x01:((w.alloc (.cells #[.int .i64 id,.string pa,.string di,.int .i64 op,.int .i64 ex,.slice a1 l.length c1] 46)).alloc (.cells #[.int .i64 id,.string pa,.string di,.int .i64 op,.int .i64 ex,.slice a2 l.length c2] 46)).cell? ⟨w.heap.size,1,none⟩=some (.string pa):=F1.out.cell 0 1 rfl rfl
 have x02:((w.alloc (.cells #[.int .i64 id,.string pa,.string di,.int .i64 op,.int .i64 ex,.slice a1 l.length c1] 46)).alloc (.cells #[.int .i64 id,.string pa,.string di,.int .i64 op,.int .i64 ex,.slice a2 l.length c2] 46)).cell? ⟨w.heap.size,2,none⟩=some (.string di):=F1.out.cell 0 2 rfl rfl
 have x03:((w.alloc (.cells #[.int .i64 id,.string pa,.string di,.int .i64 op,.int .i64 ex,.slice a1 l.length c1] 46)).alloc (.cells #[.int .i64 id,.string pa,.string di,.int .i64 op,.int .i64 ex,.slice a2 l.length c2] 46)).cell? ⟨w.heap.size,3,none⟩=some (.int .i64 op):=F1.out.cell 0 3 rfl rfl
 have x04:((w.alloc (.cells #[.int .i64 id,.string pa,.string di,.int .i64 op,.int .i64 ex,.slice a1 l.length c1] 46)).alloc (.cells #[.int .i64 id,.string pa,.string di,.int .i64 op,.int .i64 ex,.slice a2 l.length c2] 46)).cell? ⟨w.heap.size,4,none⟩=some (.int .i64 ex):=F1.out.cell 0 4 rfl rfl
 have x05:((w.alloc (.cells #[.int .i64 id,.string pa,.string di,.int .i64 op,.int .i64 ex,.slice a1 l.length c1] 46)).alloc (.cells #[.int .i64 id,.string pa,.string di,.int .i64 op,.int .i64 ex,.slice a2 l.length c2] 46)).cell? ⟨w.heap.size,5,none⟩=some (.slice a1 l.length c1):=F1.out.cell 0 5 rfl rfl
 have x10:((w.alloc (.cells #[.int .i64 id,.string pa,.string di,.int .i64 op,.int .i64 ex,.slice a1 l.length c1] 46)).alloc (.cells #[.int .i64 id,.string pa,.string di,.int .i64 op,.int .i64 ex,.slice a2 l.length c2] 46)).cell? ⟨w.heap.size+1,0,none⟩=some (.int .i64 id):=F1.out.cell 1 0 rfl rfl
 have x11:((w.alloc (.cells #[.int .i64 id,.string pa,.string di,.int .i64 op,.int .i64 ex,.slice a1 l.length c1] 46)).alloc (.cells #[.int .i64 id,.string pa,.string di,.int .i64 op,.int .i64 ex,.slice a2 l.length c2] 46)).cell? ⟨w.heap.size+1,1,none⟩=some (.string pa):=F1.out.cell 1 1 rfl rfl
 have x12:((w.alloc (.cells #[.int .i64 id,.string pa,.string di,.int .i64 op,.int .i64 ex,.slice a1 l.length c1] 46)).alloc (.cells #[.int .i64 id,.string pa,.string di,.int .i64 op,.int .i64 ex,.slice a2 l.length c2] 46)).cell? ⟨w.heap.size+1,2,none⟩=some (.string di):=F1.out.cell 1 2 rfl rfl
 have x13:((w.alloc (.cells #[.int .i64 id,.string pa,.string di,.int .i64 op,.int .i64 ex,.slice a1 l.length c1] 46)).alloc (.cells #[.int .i64 id,.string pa,.string di,.int .i64 op,.int .i64 ex,.slice a2 l.length c2] 46)).cell? ⟨w.heap.size+1,3,none⟩=some (.int .i64 op):=F1.out.cell 1 3 rfl rfl
 have x14:((w.alloc (.cells #[.int .i64 id,.string pa,.string di,.int .i64 op,.int .i64 ex,.slice a1 l.length c1] 46)).alloc (.cells #[.int .i64 id,.string pa,.string di,.int .i64 op,.int .i64 ex,.slice a2 l.length c2] 46)).cell? ⟨w.heap.size+1,4,none⟩=some (.int .i64 ex):=F1.out.cell 1 4 rfl rfl
 have x15:((w.alloc (.cells #[.int .i64 id,.string pa,.string di,.int .i64 op,.int .i64 ex,.slice a1 l.length c1] 46)).alloc (.cells #[.int .i64 id,.string pa,.string di,.int .i64 op,.int .i64 ex,.slice a2 l.length c2] 46)).cell? ⟨w.heap.size+1,5,none⟩=some (.slice a2 l.length c2):=F1.out.cell 1 5 rfl rfl
 have H1:=zh h1;have H2:=zh h2
 clear h1 h2
 go_enter Tryz.func32,Tryz.ntmps32
 go_wp2_with fail
 generalize ((w.alloc (.cells #[.int .i64 id,.string pa,.string di,.int .i64 op,.int .i64 ex,.slice a1 l.length c1] 46)).alloc (.cells #[.int .i64 id,.string pa,.string di,.int .i64 op,.int .i64 ex,.slice a2 l.length c2] 46))=w1 at*
 go_loopw [5] (fun i wr=>∃ k:Nat,k<=l.length/\i=.int .i64 k/\Below w1.heap.size w1 wr) (fun i _=>l.length - (intOf i).toNat)
 case atStart=>exact⟨0,by omega,rfl,Below.refl _ _⟩
 case round=>
  obtain⟨k,hk,rfl,hb⟩:=hrel
  have HBW:=zh hb;have FR:=zh (F1.out.step hb)
  clear hb
  (try clear x00);(try clear x01);(try clear x02);(try clear x03);(try clear x04);(try clear x05);(try clear x10);(try clear x11);(try clear x12);(try clear x13);(try clear x14);(try clear x15)
  have x05:wr.cell? ⟨w.heap.size,5,none⟩=some (.slice a1 l.length c1):=FR.out.cell 0 5 rfl rfl
  have x15:wr.cell? ⟨w.heap.size+1,5,none⟩=some (.slice a2 l.length c2):=FR.out.cell 1 5 rfl rfl
  by_cases hlt:k<l.length
  case neg=>
   have dk:decide ((k:Int)<l.length)=false:=decide_eq_false (by omega)
   go_wp2_with fail
   go_ret
   exact⟨rfl,FR.out.under⟩
  have dk:decide ((k:Int)<l.length)=true:=decide_eq_true (by omega)
  obtain⟨b,o,ha,hbl,e0,e1,e2⟩:=Own.VotesC.cells (H1.out.below FR.out.under) hlt
  obtain⟨b',o',ha',hbl',e0',e1',e2'⟩:=Own.VotesC.cells (H2.out.below FR.out.under) hlt
  subst ha
  subst ha'
  obtain⟨x,hx⟩:∃ x,x=l[k]:=⟨_,rfl⟩
  rw[<- hx] at e0 e1 e2 e0' e1' e2'
  obtain⟨n,pu,ag⟩:=x
  dsimp only at e0 e1 e2 e0' e1' e2'
  have hne:=neq_vote_self n pu ag
  clear hx
  go_wp2_with fail
  go_quiet (fail)
  go_wp2_with fail
  go_round
  case measure=>simp[intOf];omega
  case rel=>exact⟨k+1,by omega,by go_num,below_drewN HBW.out nq⟩
theorem r54Same_any (q:Own.Queue) (v1 v2:Value) (w:World) (h1:Own.PropsC w v1 q.props) (h2:Own.PropsC w v2 q.props) (hl:q.props.length<=140737488355328) (hv:∀ p∈q.props,p.votes.length<=140737488355328):
 Calls Tryz.prog 18 #[.agg #[.int .i64 q.next,v1],.agg #[.int .i64 q.next,v2]] w fun e w' => e=.returned (.bool true)/\Below w.heap.size w w' :=by
 obtain⟨nx,l⟩:=q
 dsimp only at*
 obtain⟨a1,c1,rfl⟩:=h1.len
 obtain⟨a2,c2,rfl⟩:=h2.len
 have F1:=zh (show Boxes w ((w.alloc (.cells #[.int .i64 nx,.slice a1 l.length c1] 24)).alloc (.cells #[.int .i64 nx,.slice a2 l.length c2] 24)) [(24,#[.int .i64 nx,.slice a1 l.length c1]),(24,#[.int .i64 nx,.slice a2 l.length c2])] from(((Fresh.nil w).push 24 #[.int .i64 nx,.slice a1 l.length c1]).push 24 #[.int .i64 nx,.slice a2 l.length c2]).boxes)
 have x00:((w.alloc (.cells #[.int .i64 nx,.slice a1 l.length c1] 24)).alloc (.cells #[.int .i64 nx,.slice a2 l.length c2] 24)).cell? ⟨w.heap.size,0,none⟩=some (.int .i64 nx):=F1.out.cell 0 0 rfl rfl
 have x01:((w.alloc (.cells #[.int .i64 nx,.slice a1 l.length c1] 24)).alloc (.cells #[.int .i64 nx,.slice a2 l.length c2] 24)).cell? ⟨w.heap.size,1,none⟩=some (.slice a1 l.length c1):=F1.out.cell 0 1 rfl rfl
 have x10:((w.alloc (.cells #[.int .i64 nx,.slice a1 l.length c1] 24)).alloc (.cells #[.int .i64 nx,.slice a2 l.length c2] 24)).cell? ⟨w.heap.size+1,0,none⟩=some (.int .i64 nx):=F1.out.cell 1 0 rfl rfl
 have x11:((w.alloc (.cells #[.int .i64 nx,.slice a1 l.length c1] 24)).alloc (.cells #[.int .i64 nx,.slice a2 l.length c2] 24)).cell? ⟨w.heap.size+1,1,none⟩=some (.slice a2 l.length c2):=F1.out.cell 1 1 rfl rfl
 have H1:=zh h1;have H2:=zh h2;have HV:=zh hv
 clear h1 h2 hv
 go_enter Tryz.func18,Tryz.ntmps18
 go_wp2_with fail
 generalize ((w.alloc (.cells #[.int .i64 nx,.slice a1 l.length c1] 24)).alloc (.cells #[.int .i64 nx,.slice a2 l.length c2] 24))=w1 at*
 go_loopw [5] (fun i wr=>∃ k:Nat,k<=l.length/\i=.int .i64 k/\Below w1.heap.size w1 wr) (fun i _=>l.length - (intOf i).toNat)
 case atStart=>exact⟨0,by omega,rfl,Below.refl _ _⟩
 case round=>
  obtain⟨k,hk,rfl,hb⟩:=hrel
  have HBW:=zh hb;have FR:=zh (F1.out.step hb)
  clear hb
  (try clear x00);(try clear x01);(try clear x10);(try clear x11)
  have x01:wr.cell? ⟨w.heap.size,1,none⟩=some (.slice a1 l.length c1):=FR.out.cell 0 1 rfl rfl
  have x11:wr.cell? ⟨w.heap.size+1,1,none⟩=some (.slice a2 l.length c2):=FR.out.cell 1 1 rfl rfl
  by_cases hlt:k<l.length
  case neg=>
   have dk:decide ((k:Int)<l.length)=false:=decide_eq_false (by omega)
   go_wp2_with fail
   go_ret
   exact⟨rfl,FR.out.under⟩
  have dk:decide ((k:Int)<l.length)=true:=decide_eq_true (by omega)
  obtain⟨b,o,u,ha,hbl,e0,e1,e2,e3,e4,e5,hu⟩:=Own.PropsC.cells (H1.out.below FR.out.under) hlt
  obtain⟨b',o',u',ha',hbl',e0',e1',e2',e3',e4',e5',hu'⟩:=Own.PropsC.cells (H2.out.below FR.out.under) hlt
  subst ha
  subst ha'
  have hvl:=HV.out l[k] (List.getElem_mem hlt)
  obtain⟨x,hx⟩:∃ x,x=l[k]:=⟨_,rfl⟩
  rw[<- hx] at e0 e1 e2 e3 e4 e0' e1' e2' e3' e4' hu hu' hvl
  have hsp:=r54SameP_any x u u' wr.drew (hu.below (Below.refl _ _).drew) (hu'.below (Below.refl _ _).drew) hvl
  have HSP:=zh hsp
  clear hx hsp hu hu'
  go_wp2_with fail
  refine Lex.wp_region_lex (by kernel_rfl) (by kernel_rfl) ?_
  go_wp2_with fail
  refine HSP.out.mono ?_
  rintro e w2 ⟨rfl,hb⟩
  have HB2:=zh (HBW.out.trans (((Below.refl wr.heap.size wr).drew.trans hb).mono HBW.out.size))
  clear hb
  go_wp2_with fail
  refine Lex.Ends.intro (by kernel_rfl) ?_
  go_wp2_with fail
  go_round
  case measure=>simp[intOf];omega
  case rel=>exact⟨k+1,by omega,by go_num,HB2.out⟩
end
section
open Go Go.RowKit Go.Maps
theorem submit_len (q:Own.Queue) (size window:Int) (s d:ByteArray) (h1:q.props.length<=1000000) (h2:∀ x∈q.props,x.votes.length<=3000000):
 (Own.submit q size window s d).1.props.length<=1000001/\(∀ x∈(Own.submit q size window s d).1.props,x.votes.length<=3000000):=by
 have z:(Own.Queue.none.props.length<=1000001)/\(∀ x∈Own.Queue.none.props,x.votes.length<=3000000):=⟨by simp[Own.Queue.none],(fun x hx=>by simp[Own.Queue.none] at hx)⟩
 unfold Own.submit
 split;exact z
 split;exact z
 split;exact z
 split;exact z
 split;exact z
 split;exact z
 refine⟨by simp;omega,fun x hx=>?_⟩
 rcases List.mem_append.1 hx with hx | hx
 ·exact h2 x hx
 ·rw[List.mem_singleton.1 hx];simp
theorem withdraw_len (q:Own.Queue) (id:Int) (h1:q.props.length<=1000000) (h2:∀ x∈q.props,x.votes.length<=3000000):
 (Own.withdraw q id).1.props.length<=1000001/\(∀ x∈(Own.withdraw q id).1.props,x.votes.length<=3000000):=by
 have z:(Own.Queue.none.props.length<=1000001)/\(∀ x∈Own.Queue.none.props,x.votes.length<=3000000):=⟨by simp[Own.Queue.none],(fun x hx=>by simp[Own.Queue.none] at hx)⟩
 unfold Own.withdraw
 split;exact z
 split;exact z
 refine⟨Nat.le_trans (List.length_filter_le _ _) (by omega),fun x hx=>h2 x (List.mem_filter.1 hx).1⟩
theorem expire_len (q:Own.Queue) (size:Int) (h1:q.props.length<=1000000) (h2:∀ x∈q.props,x.votes.length<=3000000):
 (Own.expire q size).props.length<=1000001/\(∀ x∈(Own.expire q size).props,x.votes.length<=3000000):=by
 have z:(Own.Queue.none.props.length<=1000001)/\(∀ x∈Own.Queue.none.props,x.votes.length<=3000000):=⟨by simp[Own.Queue.none],(fun x hx=>by simp[Own.Queue.none] at hx)⟩
 unfold Own.expire
 split;exact z
 refine⟨Nat.le_trans (List.length_filter_le _ _) (by omega),fun x hx=>h2 x (List.mem_filter.1 hx).1⟩
structure QB (w:World) (g:Nat) (q:Own.Queue) (qa:Option Addr) (qc:Nat):Prop where
 at_:At w g 24 #[.int .i64 q.next,.slice qa q.props.length qc]
 ps:Own.PropsC w (.slice qa q.props.length qc) q.props
theorem QB.below {w w' : World} {g:Nat} {q:Own.Queue} {qa:Option Addr} {qc:Nat} (h:QB w g q qa qc) (hb:Below w.heap.size w w'):QB w' g q qa qc:=
 ⟨h.at_.below hb h.at_.lt,h.ps.below hb⟩
theorem QB.one {w:World} {q:Own.Queue} {qa:Option Addr} {qc:Nat} (hq:Own.PropsC w (.slice qa q.props.length qc) q.props):
 QB (w.alloc (.cells #[.int .i64 q.next,.slice qa q.props.length qc] 24)) w.heap.size q qa qc/\Below w.heap.size w (w.alloc (.cells #[.int .i64 q.next,.slice qa q.props.length qc] 24)):=by
 have hb:Below w.heap.size w (w.alloc (.cells #[.int .i64 q.next,.slice qa q.props.length qc] 24)):=(Below.refl _ _).alloc (Nat.le_refl _) _
 exact⟨⟨At.new w 24 #[.int .i64 q.next,.slice qa q.props.length qc],hq.below hb⟩,hb⟩
theorem rqueues_any (q:Own.Queue) (size window id:Int) (s d:ByteArray) (qv:Value) (w:World) (hM:MaxL w) (hP:Own.PropsC w qv q.props)
 (hql:q.props.length<=140737488355328) (hqv:∀ p∈q.props,p.votes.length<=140737488355328/\p.path.size<=140737488355328/\p.digest.size<=140737488355328/\∀ v∈p.votes,v.name.size<=140737488355328/\v.pub.size<=140737488355328)
 (hs:s.size<=140737488355328) (hd:d.size<=140737488355328):
 Calls Tryz.prog 3 #[.agg #[.int .i64 q.next,qv],.int .i64 size,.int .i64 window,.int .i64 id,.string s,.string d] w fun e w' => e=.returned (.bool true)/\Below w.heap.size w w' :=by
 obtain⟨qa,qc,rfl⟩:=hP.len
 obtain⟨hl,hb⟩:=QB.one hP
 have haw:=fun W (hW:MaxL W)=>awake54_any W hW
 have HAWK:=zh haw;have HMX:=zh hM;have L0:=zh hl;have HB0:=zh hb
 clear haw hM hl hb
 go_enter Tryz.func3,Tryz.ntmps3
 go_upto_region 1 with fail
 obtain⟨gQ,hgQ⟩:∃ g,g=w.heap.size:=⟨_,rfl⟩
 rw[<- hgQ] at L0 ⊢
 clear hgQ
 generalize (w.alloc (.cells #[.int .i64 q.next,.slice qa q.props.length qc] 24))=w0 at*
 go_wp2_with fail
 refine(HAWK.out _ (HMX.out.below HB0.out)).mono ?_
 rintro e w1 ⟨rfl,hb⟩
 have L1:=zh (L0.out.below hb);have HB1:=zh (HB0.out.trans (hb.mono HB0.out.size))
 clear hb HAWK L0 HB0
 obtain⟨q0c,q1c⟩:=L1.out.at_.c2
 have HFQ:=zh (r54Few_any q _ w1 L1.out.ps hql hqv)
 have HS:=zh hs;have HD:=zh hd
 clear hs hd hql hqv
 go_wp2_with fail
 refine HFQ.out.mono ?_
 rintro e w2 ⟨b,rfl,hfq,hb⟩
 have L2:=zh (L1.out.below hb);have HB2:=zh (HB1.out.trans (hb.mono HB1.out.size))
 clear hb L1 HB1 q0c q1c HFQ
 cases b with
 | false =>
   clear hfq
   go_wp2_with fail
   go_ret
   exact⟨rfl,HB2.out⟩
 | true=>
 have hfq:=hfq rfl
 have HFQ:=zh hfq
 clear hfq
 have hs:=HS.out;have hd:=HD.out
 by_cases h1:300<(s.size:Int)+(d.size:Int)
 ·have d1:decide (300<(s.size:Int)+(d.size:Int))=true:=decide_eq_true h1
  have d1' : decide (300<s.size+d.size)=true:=decide_eq_true (by omega)
  go_wp2_with fail
  go_ret
  exact⟨rfl,HB2.out⟩
 have d1:decide (300<(s.size:Int)+(d.size:Int))=false:=decide_eq_false h1
 have d1' : decide (300<s.size+d.size)=false:=decide_eq_false (by omega)
 have hq1:q.props.length<=1000000:=by have:=HFQ.out.1;omega
 have hq2:∀ x∈q.props,x.votes.length<=3000000/\x.path.size<=140737488355328:=fun x hx=>by
  have h1:=(HFQ.out.2 x hx).1
  have h2:=(HFQ.out.2 x hx).2.1
  exact⟨by omega,by omega⟩
 have hq3:∀ x∈q.props,x.votes.length<=3000000:=fun x hx=>(hq2 x hx).1
 have HQ1:=zh hq1;have HQ2:=zh hq2;have HQ3:=zh hq3
 clear hq1 hq2 hq3 HFQ
 obtain⟨R1,hR⟩:∃ R,Own.submit q size window s d=R:=⟨_,rfl⟩
 have HR1:=zh hR
 clear hR
 obtain⟨R2,hR⟩:∃ R,Own.withdraw q id=R:=⟨_,rfl⟩
 have HR2:=zh hR
 clear hR
 obtain⟨R3,hR⟩:∃ R,Own.expire q size=R:=⟨_,rfl⟩
 have HR3:=zh hR
 clear hR
 go_upto_region 5 with fail
 clear d1 d1' h1 hs hd
 obtain⟨q0c,q1c⟩:=L2.out.at_.c2
 have HMG:=zh (rvSubmit_any q size window s d _ w2 (HMX.out.below HB2.out) L2.out.ps HQ1.out HQ3.out)
 go_wp2_with fail
 refine HMG.out.mono ?_
 rintro e wxa ⟨⟨qvx,rfl,⟨qpx,rfl,hqc⟩⟩,hb⟩
 rw[HR1.out] at hqc
 rw[HR1.out]
 obtain⟨qax,qcx,rfl⟩:=hqc.one
 have hqc:=hqc.list (F:=Own.anyF) (fun _ _ _=>trivial)
 have QC:=zh (show Own.PropsC wxa _ _ from hqc);have BC:=zh hb
 clear hqc hb HMG q0c q1c
 go_upto_region 6 with fail
 obtain⟨hm,hb⟩:=QB.one QC.out
 obtain⟨gx,hgx⟩:∃ g,g=wxa.heap.size:=⟨_,rfl⟩
 rw[<- hgx] at hm ⊢
 have BWx:=zh (BC.out.trans (hb.mono BC.out.size))
 have Mx:=zh hm;have Lx:=zh (L2.out.below BWx.out);have HBx:=zh (HB2.out.trans (BWx.out.mono HB2.out.size))
 clear hm hb hgx BC QC
 generalize wxa.alloc (.cells #[.int .i64 R1.1.next,.slice qax R1.1.props.length qcx] 24)=wx at*
 obtain⟨q0c,q1c⟩:=Lx.out.at_.c2
 have HMG:=zh (r54Submit_any q size window s d _ wx Lx.out.ps HQ1.out HQ2.out HS.out)
 go_wp2_with fail
 refine HMG.out.mono ?_
 rintro e wya ⟨⟨qvy,rfl,⟨qpy,rfl,hqc⟩⟩,hb⟩
 rw[HR1.out] at hqc
 rw[HR1.out]
 obtain⟨qay,qcy,rfl⟩:=hqc.one
 have hqc:=hqc.list (F:=Own.anyF) (fun _ _ _=>trivial)
 have QC:=zh (show Own.PropsC wya _ _ from hqc);have BC:=zh hb
 clear hqc hb HMG q0c q1c
 go_upto_region 7 with fail
 obtain⟨hm,hb⟩:=QB.one QC.out
 obtain⟨gy,hgy⟩:∃ g,g=wya.heap.size:=⟨_,rfl⟩
 rw[<- hgy] at hm ⊢
 have BWy:=zh (BC.out.trans (hb.mono BC.out.size))
 have My:=zh hm;have Ly:=zh (Lx.out.below BWy.out);have HBy:=zh (HBx.out.trans (BWy.out.mono HBx.out.size))
 clear hm hb hgy BC QC
 generalize wya.alloc (.cells #[.int .i64 R1.1.next,.slice qay R1.1.props.length qcy] 24)=wy at*
 have Mx2:=zh (Mx.out.below BWy.out)
 clear Mx BWx BWy Lx HBx L2 HB2
 obtain⟨q0c,q1c⟩:=Ly.out.at_.c2
 have HMG:=zh (rvWithdraw_any q id _ wy (HMX.out.below HBy.out) Ly.out.ps HQ1.out HQ3.out)
 go_wp2_with fail
 refine HMG.out.mono ?_
 rintro e wza ⟨⟨qvz,rfl,⟨qpz,rfl,hqc⟩⟩,hb⟩
 rw[HR2.out] at hqc
 rw[HR2.out]
 obtain⟨qaz,qcz,rfl⟩:=hqc.one
 have hqc:=hqc.list (F:=Own.anyF) (fun _ _ _=>trivial)
 have QC:=zh (show Own.PropsC wza _ _ from hqc);have BC:=zh hb
 clear hqc hb HMG q0c q1c
 go_upto_region 8 with fail
 obtain⟨hm,hb⟩:=QB.one QC.out
 obtain⟨gz,hgz⟩:∃ g,g=wza.heap.size:=⟨_,rfl⟩
 rw[<- hgz] at hm ⊢
 have BWz:=zh (BC.out.trans (hb.mono BC.out.size))
 have Mz:=zh hm;have Lz:=zh (Ly.out.below BWz.out);have HBz:=zh (HBy.out.trans (BWz.out.mono HBy.out.size))
 clear hm hb hgz BC QC
 generalize wza.alloc (.cells #[.int .i64 R2.1.next,.slice qaz R2.1.props.length qcz] 24)=wz at*
 have Mx3:=zh (Mx2.out.below BWz.out);have My3:=zh (My.out.below BWz.out)
 clear Mx2 My BWz Ly HBy
 obtain⟨q0c,q1c⟩:=Lz.out.at_.c2
 have HMG:=zh (r54Withdraw_any q id _ wz Lz.out.ps HQ1.out HQ2.out)
 go_wp2_with fail
 refine HMG.out.mono ?_
 rintro e wua ⟨⟨qvu,rfl,⟨qpu,rfl,hqc⟩⟩,hb⟩
 rw[HR2.out] at hqc
 rw[HR2.out]
 obtain⟨qau,qcu,rfl⟩:=hqc.one
 have hqc:=hqc.list (F:=Own.anyF) (fun _ _ _=>trivial)
 have QC:=zh (show Own.PropsC wua _ _ from hqc);have BC:=zh hb
 clear hqc hb HMG q0c q1c
 go_upto_region 9 with fail
 obtain⟨hm,hb⟩:=QB.one QC.out
 obtain⟨gu,hgu⟩:∃ g,g=wua.heap.size:=⟨_,rfl⟩
 rw[<- hgu] at hm ⊢
 have BWu:=zh (BC.out.trans (hb.mono BC.out.size))
 have Mu:=zh hm;have Lu:=zh (Lz.out.below BWu.out);have HBu:=zh (HBz.out.trans (BWu.out.mono HBz.out.size))
 clear hm hb hgu BC QC
 generalize wua.alloc (.cells #[.int .i64 R2.1.next,.slice qau R2.1.props.length qcu] 24)=wu at*
 have Mx4:=zh (Mx3.out.below BWu.out);have My4:=zh (My3.out.below BWu.out);have Mz4:=zh (Mz.out.below BWu.out)
 clear Mx3 My3 Mz BWu Lz HBz
 obtain⟨q0c,q1c⟩:=Lu.out.at_.c2
 have HXQ:=zh (show(wu.cell? ⟨gQ,0,none⟩).isSome=true by rw[q0c];rfl)
 have bd:Below wu.heap.size wu wu.drew:=(Below.refl _ _).drew
 obtain⟨vb,hvb⟩:∃ b,Own.queueOK q=b:=⟨_,rfl⟩
 have HV1:=zh (rvValid_any q _ wu.drew (HMX.out.below (HBu.out.trans (bd.mono HBu.out.size))) (Lu.out.below bd).ps (Nat.le_trans HQ1.out (by decide)) (fun x hx=>Nat.le_trans (HQ3.out x hx) (by decide)))
 rw[hvb] at HV1
 have HVB:=zh hvb;have BD:=zh bd
 clear bd hvb
 go_wp2_with fail
 refine Lex.wp_region_lexM (fun k=>k=gQ) [2,34] 35 [2,2,5,15,10] (by kernel_rfl) (by kernel_rfl) (by kernel_rfl) ?_
 simp only[Lex.wpCuts,List.take_succ_cons,List.take_zero,List.drop_succ_cons,List.drop_zero]
 go_wp2_with fail
 refine HV1.out.mono ?_
 rintro e w5 ⟨rfl,hb5⟩
 have hb:=BD.out.trans (hb5.mono BD.out.size)
 have BX:=zh (hb);have L5:=zh (Lu.out.below hb);have HB5:=zh (HBu.out.trans (hb.mono HBu.out.size));have Mx5:=zh (Mx4.out.below hb);have My5:=zh (My4.out.below hb);have Mz5:=zh (Mz4.out.below hb);have Mu5:=zh (Mu.out.below hb)
 clear Lu HBu Mx4 My4 Mz4 Mu
 clear hb hb5 q0c q1c HV1 BD
 go_wp2_with fail
 refine Lex.Mid.intro (fun k _ hkl=>BX.out.block _ hkl) ?_
 obtain⟨q0c,q1c⟩:=L5.out.at_.c2
 have HV2:=zh (r54Valid_any q _ w5 L5.out.ps (Nat.le_trans HQ1.out (by decide)) (fun x hx=>⟨Nat.le_trans (HQ2.out x hx).1 (by decide),(HQ2.out x hx).2⟩))
 rw[HVB.out] at HV2
 go_wp2_with fail
 refine HV2.out.mono ?_
 rintro e w6 ⟨rfl,hb⟩
 have BX:=zh (BX.out.trans (hb.mono BX.out.size));have L6:=zh (L5.out.below hb);have HB6:=zh (HB5.out.trans (hb.mono HB5.out.size));have Mx6:=zh (Mx5.out.below hb);have My6:=zh (My5.out.below hb);have Mz6:=zh (Mz5.out.below hb);have Mu6:=zh (Mu5.out.below hb)
 clear L5 HB5 Mx5 My5 Mz5 Mu5
 clear hb q0c q1c HV2
 go_wp2_with fail
 refine Lex.Mid.intro (fun k _ hkl=>BX.out.block _ hkl) ?_
 obtain⟨q0c,q1c⟩:=Mx6.out.at_.c2;obtain⟨q0d,q1d⟩:=My6.out.at_.c2
 have hrl:=submit_len q size window s d HQ1.out HQ3.out
 rw[HR1.out] at hrl
 have HS1:=zh (r54Same_any R1.1 _ _ w6 Mx6.out.ps My6.out.ps (Nat.le_trans hrl.1 (by decide)) (fun x hx=>Nat.le_trans (hrl.2 x hx) (by decide)))
 clear hrl
 go_wp2_with fail
 refine HS1.out.mono ?_
 rintro e w7 ⟨rfl,hb⟩
 have BX:=zh (BX.out.trans (hb.mono BX.out.size));have L7:=zh (L6.out.below hb);have HB7:=zh (HB6.out.trans (hb.mono HB6.out.size));have Mx7:=zh (Mx6.out.below hb);have My7:=zh (My6.out.below hb);have Mz7:=zh (Mz6.out.below hb);have Mu7:=zh (Mu6.out.below hb)
 clear L6 HB6 Mx6 My6 Mz6 Mu6
 clear hb q0c q1c q0d q1d HS1
 go_wp2_with fail
 refine Lex.Mid.intro (fun k _ hkl=>BX.out.block _ hkl) ?_
 obtain⟨q0c,q1c⟩:=Mz7.out.at_.c2;obtain⟨q0d,q1d⟩:=Mu7.out.at_.c2
 have hrl:=withdraw_len q id HQ1.out HQ3.out
 rw[HR2.out] at hrl
 have HS2:=zh (r54Same_any R2.1 _ _ w7 Mz7.out.ps Mu7.out.ps (Nat.le_trans hrl.1 (by decide)) (fun x hx=>Nat.le_trans (hrl.2 x hx) (by decide)))
 clear hrl
 go_wp2_with fail
 refine HS2.out.mono ?_
 rintro e w8 ⟨rfl,hb⟩
 have BX:=zh (BX.out.trans (hb.mono BX.out.size));have L8:=zh (L7.out.below hb);have HB8:=zh (HB7.out.trans (hb.mono HB7.out.size))
 clear hb q0c q1c q0d q1d HS2 Mx7 My7 Mz7 Mu7 HB7 L7
 go_wp2_with fail
 refine Lex.Mid.intro (fun k _ hkl=>BX.out.block _ hkl) ?_
 obtain⟨q0c,q1c⟩:=L8.out.at_.c2
 have HE1:=zh (rvExpire_any q size _ w8 (HMX.out.below HB8.out) L8.out.ps HQ1.out HQ3.out)
 rw[HR3.out] at HE1
 go_wp2_with fail
 refine HE1.out.mono ?_
 rintro e w9 ⟨⟨_,rfl,⟨p9,rfl,h9⟩⟩,hb⟩
 obtain⟨a9,c9,rfl⟩:=h9.one
 have P9:=zh (show Own.PropsC w9 _ _ from h9.list (F:=Own.anyF) (fun _ _ _=>trivial))
 have BX:=zh (BX.out.trans (hb.mono BX.out.size));have L9:=zh (L8.out.below hb);have HB9:=zh (HB8.out.trans (hb.mono HB8.out.size))
 clear hb h9 q0c q1c HE1 HB8 L8
 go_wp2_with fail
 refine Lex.Mid.intro (fun k _ hkl=>BX.out.block _ hkl) ?_
 obtain⟨q0c,q1c⟩:=L9.out.at_.c2
 have HE2:=zh (r54Expire_any q size _ w9 L9.out.ps HQ1.out HQ2.out)
 rw[HR3.out] at HE2
 go_wp2_with fail
 refine HE2.out.mono ?_
 rintro e w10 ⟨⟨_,rfl,⟨p10,rfl,h10⟩⟩,hb⟩
 obtain⟨a10,c10,rfl⟩:=h10.one
 have P10:=zh (show Own.PropsC w10 _ _ from h10.list (F:=Own.anyF) (fun _ _ _=>trivial))
 have HB10:=zh (HB9.out.trans (hb.mono HB9.out.size));have P9' :=zh (P9.out.below hb)
 have hrl:=expire_len q size HQ1.out HQ3.out
 rw[HR3.out] at hrl
 have HS3:=zh (r54Same_any R3 _ _ w10 P9'.out P10.out (Nat.le_trans hrl.1 (by decide)) (fun x hx=>Nat.le_trans (hrl.2 x hx) (by decide)))
 clear hb h10 q0c q1c HE2 HB9 L9 P9 hrl
 go_wp2_with fail
 refine HS3.out.mono ?_
 rintro e w11 ⟨rfl,hb⟩
 have HB11:=zh (HB10.out.trans (hb.mono HB10.out.size))
 clear hb HS3 HB10
 go_wp2_with fail
 refine Lex.EndsN.intro (by kernel_rfl) ⟨⟨rfl,HXQ.out⟩,⟨rfl,HXQ.out⟩,trivial⟩ ?_
 go_wp2_with fail
 go_ret
 exact⟨rfl,HB11.out⟩
end
section
open Go Go.ChangeShapes Go.WideShapes Go.RowKit Go.Maps
section
variable {H:Type} {enc:TypeId × Value->H}
theorem returnsInHanded_and_shaped {a:Assume} {C:Checked} {os:Os} {f:FuncId} {fn:Func} {s:ChangeSpec} {conds:List PathCond} {apart fresh handsOn again:Bool} {X:World->Array Value->Prop}
 (hX:∀ (w w' : World) (args:Array Value),w.heap=w'.heap->X w args->X w' args)
 (own:ownKnob C.prog.godebug=none) (started:os.Started) (noInit:C.prog.inits.idxOf? f=none) (hfn:C.prog.funcs[f]? = some fn)
 (witness : ∃ (w : World) (tape : Tape) (i : Input),w.os = os ∧ (w.forCall tape i).Shaped C.prog ∧ i.vars = [] ∧ Input.okWide C.prog (w.forCall tape i) .any w.heap.size f i ∧
   ((s.pre enc C.prog fn conds apart (w.forCall tape i).memory i.args/\X (w.forCall tape i).memory i.args)/\sizedMet enc C.prog fn (OpenSpec.ofChange s) apart (w.forCall tape i).memory i.args)/\a.holds C.prog (lone (Frame.enter C.prog f i.args .normal) [] (w.forCall tape i)))
 (contract : ∀ (W : World) (base : Nat) (args : Array Value) (ds gs : List (DataW H)) (before : List MemPlace),
   (∀ (j:Nat) t v,fn.params[j]? = some t->args[j]? = some v->Value.okWide C.prog W .any base t v)->
   DataW.Whole enc C.prog fn.params.toList s.vars apart W args.toList ds gs before->
   conds.all (PathCond.test C.prog ⟨fn.params.toList,ds,s.plain.varTypes C.prog,gs⟩)=true->
   (DataW.weightsEach C.prog (fn.params.toList++s.plain.varTypes C.prog) (ds++gs)).all (· <= reachBytes)=true->X W args->W.ShapedOpen C.prog->
   a.holds C.prog (lone (Frame.enter C.prog f args .normal) [] W)->
   Calls C.prog f args W fun e W' => ∃ v,e=.returned v/\s.post enc C.prog fn apart fresh handsOn again W args v W'):
 ReturnsInHanded a C os f .any (fun w args=>(s.pre enc C.prog fn conds apart w args/\X w args)/\sizedMet enc C.prog fn (OpenSpec.ofChange s) apart w args) (s.post enc C.prog fn apart fresh handsOn again):=by
 refine returnsInHanded_of_calls own started noInit witness ?_
 intro w tape i _ hsh _ hok hpre hholds
 obtain⟨_,_,_,fn',hfn',_,_,_,_,hval⟩:=hok
 have e:fn' = fn:=Option.some.inj (hfn'.symm.trans hfn)
 subst e
 obtain⟨⟨⟨ds,gs,before,hw,hc⟩,hx⟩,hz⟩:=hpre
 have hw' :=DataW.Whole.of_heap (w' :=w.forCall tape i) (by rfl) hw
 refine(contract (w.forCall tape i) w.heap.size i.args ds gs before hval hw' hc (hz.weights hw) (hX _ _ _ (by rfl) hx) hsh hholds).mono fun e W' ⟨v,he,hp⟩=>?_
 subst he
 exact ChangeSpec.post_blind hp
theorem maxL_of {W:World} (h:W.ShapedOpen Tryz.prog):MaxL W:=
 Go.Proofs.cell_of_shapedOpen_int (zero:=#[.int .i64 0]) (t:=3) h (of_decide_eq_true (by kernel_rfl)) (by kernel_rfl) rfl (by kernel_rfl) (by kernel_rfl) Tryz.underlying3
end
end
section
open Go Go.ChangeShapes Go.WideShapes Go.RowKit Go.Maps
section
variable {H:Type} {enc:TypeId × Value->H}
theorem weightsAll_mem {P:Program} {e:TypeId} {p:Nat->Bool} : ∀ l:List (DataW H),(DataW.weightsAll P e l).all p=true->∀ d∈l,(d.weights P e).all p=true
 | [],_,_,h=>by cases h
 | x :: l,h,d,hd => by
   have e1:DataW.weightsAll P e (x::l)=x.weights P e++DataW.weightsAll P e l:=rfl
   rw[e1,List.all_append,Bool.and_eq_true] at h
   rcases List.mem_cons.1 hd with rfl | hd
   ·exact h.1
   ·exact weightsAll_mem l h.2 d hd
theorem rows_in {α : Type} {R:Elem α} {Good : α -> Prop} {T S:TypeId} {size B:Nat} (hu:Tryz.prog.underlying S=some (.slice T)) (hsz:Tryz.prog.cellsOf T=size) (hby:Tryz.prog.bytesOf T=B) (hB:1<=B) (hs1:1<=size) {W:World}
 (open1:∀ (n:Nat) (cs:List Value) (x:DataW H × List MemPlace),cs.length=size->DataW.trod enc Tryz.prog W 0 (fun _=>true) true n T cs=some x->(x.1.weights Tryz.prog T).all (· <= reachBytes)=true->∃ o,R Own.anyF W cs o/\Good o)
 {v:Value} {d:DataW H} {ps:List MemPlace} (h:DataW.Trod enc Tryz.prog W 0 (fun _=>true) true S v d ps) (hsl:∃ b len cap,v=.slice b len cap) (hz:(d.weights Tryz.prog S).all (· <= reachBytes)=true):
 ∃ l:List α,ListF size R Own.anyF W v l/\(∀ o∈l,Good o)/\l.length<=140737488355328:=by
 obtain⟨a0,len0,cap0,rfl⟩:=hsl
 obtain⟨n,hy⟩:=h
 rcases Deep.open_slice hu hy with ⟨hcs,_⟩ | ⟨a,len,cap,m,k,D,Pl,hcs,_,hl,_,hm,hx,hc⟩
 ·have e:Value.slice a0 len0 cap0=.slice none 0 0:=by simpa [Value.cells] using hcs
  rw[e]
  exact⟨[],ListF.nil _ _,(fun z hz=>by cases hz),Nat.zero_le _⟩
 ·have e:Value.slice a0 len0 cap0=.slice (some a) len cap:=by simpa [Value.cells] using hcs
  rw[e]
  have hm' : m=cap:=by rw[hm];rfl
  have hd:=(Prod.mk.inj hx).1
  rw[hd] at hz
  have hw:(DataW.slice ((List.range len).map D) ((List.range (m - len)).map fun j=>D (len+j))).weights Tryz.prog S=
   (((List.range len).map D).length + ((List.range (m - len)).map fun j => D (len + j)).length) * Tryz.prog.bytesOf T ::
     (DataW.weightsAll Tryz.prog T ((List.range len).map D)++DataW.weightsAll Tryz.prog T ((List.range (m - len)).map fun j=>D (len+j))):=by
   simp only[DataW.weights,hu]
  rw[hw,List.all_cons,List.all_append,Bool.and_eq_true,Bool.and_eq_true,hby] at hz
  obtain⟨h1,h2,_⟩:=hz
  have h1' :=of_decide_eq_true h1
  unfold reachBytes at h1'
  rw[List.length_map,List.length_range] at h1'
  have hlen' : len<=140737488355328:=by
   have:=Nat.mul_le_mul_left (len+((List.range (m - len)).map fun j=>D (len+j)).length) hB
   omega
  have each:∀ i,i<len->∃ (cs:List Value) (o : α),cs.length=size/\(∀ j,j<size->W.cell? (a.add (i*size+j))=cs[j]?)/\R Own.anyF W cs o/\Good o:=by
   intro i hi
   obtain⟨cs',g1,g2⟩:=hc i (by omega)
   rw[hsz] at g1
   obtain⟨_,hlen,hcell⟩:=World.cells?_some g1
   have hzi:=weightsAll_mem _ h2 (D i) (List.mem_map.2 ⟨i,List.mem_range.2 hi,rfl⟩)
   obtain⟨o,q1,q2⟩:=open1 _ cs' _ hlen g2 hzi
   exact⟨cs',o,hlen,fun j hj=>by rw[<- Deep.add_add];exact hcell j hj,q1,q2⟩
  by_cases h0:len=0
  ·subst h0
   exact⟨[],ListF.nil _ _,(fun z hz=>by cases hz),Nat.zero_le _⟩
  have ho0:Nonempty α :=by
   obtain⟨_,o,_⟩:=each 0 (by omega)
   exact⟨o⟩
  obtain⟨O,hO⟩:∃ O:Nat -> α,∀ i,i<len->∃ cs:List Value,cs.length=size/\(∀ j,j<size->W.cell? (a.add (i*size+j))=cs[j]?)/\R Own.anyF W cs (O i)/\Good (O i):=by
   refine⟨fun i=>if h:i<len then (each i h).choose_spec.choose else Classical.choice ho0,fun i hi=>?_⟩
   simp only[dif_pos hi]
   exact⟨_,(each i hi).choose_spec.choose_spec⟩
  have el:((List.range len).map O).length=len:=by rw[List.length_map,List.length_range]
  refine⟨(List.range len).map O,⟨_,_,by rw[el],.inr ?_⟩,?_,by rw[el];exact hlen'⟩
  ·obtain⟨b,o,sp⟩:=a
   obtain⟨cs0,l0,hcell,_⟩:=hO 0 (by omega)
   have hc0:=hcell 0 (by omega)
   have hsome:∃ u,cs0[0]? = some u:=⟨cs0[0]'(by omega),List.getElem?_eq_getElem (by omega)⟩
   obtain⟨u,hu0⟩:=hsome
   rw[hu0] at hc0
   cases sp with
   | some p =>
     exfalso
     unfold World.cell? Addr.add at hc0
     simp at hc0
     split at hc0 <;> simp_all
   | none =>
     have ad:∀ q,(⟨b,o,none⟩:Addr).add q=⟨b,o+q,none⟩:=fun q=>by unfold Addr.add;split <;> simp_all
     refine⟨b,o,rfl,trivial,?_,?_⟩
     ·rw[ad] at hc0
      exact block_lt hc0
     ·intro i hi
      rw[el] at hi
      obtain⟨cs,k0,k1,k2,_⟩:=hO i hi
      simp only[List.getElem_map,List.getElem_range]
      refine⟨cs,k0,fun j u hj=>?_,k2⟩
      have hjl:j<cs.length:=(List.getElem?_eq_some_iff.1 hj).1
      have:=k1 j (by omega)
      rw[ad,hj] at this
      rw[Nat.add_assoc]
      exact this
  ·intro o ho
   obtain⟨i,hi,rfl⟩:=List.mem_map.1 ho
   obtain⟨_,_,_,_,q⟩:=hO i (List.mem_range.1 hi)
   exact q
end
end
section
open Go Go.ChangeShapes Go.WideShapes Go.RowKit Go.Maps
section
variable {H:Type} {enc:TypeId × Value->H}
theorem trodAll_six {P:Program} {w:World} {base:Nat} {spare:Nat->Bool} {held:Bool} {t0 t1 t2 t3 t4 t5:TypeId} {args:Array Value} {ds:List (DataW H)} {ps:List MemPlace} (h:DataW.TrodAll enc P w base spare held [t0,t1,t2,t3,t4,t5] args.toList ds ps):
 ∃ v0 v1 v2 v3 v4 v5 d0 d1 d2 d3 d4 d5 p0 p1 p2 p3 p4 p5,args=#[v0,v1,v2,v3,v4,v5]/\ds=[d0,d1,d2,d3,d4,d5]/\ps=p0++p1++p2++p3++p4++p5/\DataW.Trod enc P w base spare held t0 v0 d0 p0/\DataW.Trod enc P w base spare held t1 v1 d1 p1/\DataW.Trod enc P w base spare held t2 v2 d2 p2/\DataW.Trod enc P w base spare held t3 v3 d3 p3/\DataW.Trod enc P w base spare held t4 v4 d4 p4/\DataW.Trod enc P w base spare held t5 v5 d5 p5:=by
 obtain⟨v0,vs0,d0,ds0,p0,q0,hargs,rfl,rfl,g0,r0⟩:=trodAll_cons h
 obtain⟨v1,vs1,d1,ds1,p1,q1,rfl,rfl,rfl,g1,r1⟩:=trodAll_cons r0
 obtain⟨v2,vs2,d2,ds2,p2,q2,rfl,rfl,rfl,g2,r2⟩:=trodAll_cons r1
 obtain⟨v3,vs3,d3,ds3,p3,q3,rfl,rfl,rfl,g3,r3⟩:=trodAll_cons r2
 obtain⟨v4,vs4,d4,ds4,p4,q4,rfl,rfl,rfl,g4,r4⟩:=trodAll_cons r3
 obtain⟨v5,vs5,d5,ds5,p5,q5,rfl,rfl,rfl,g5,r5⟩:=trodAll_cons r4
 obtain⟨rfl,rfl,rfl⟩:=trodAll_nil r5
 exact⟨v0,v1,v2,v3,v4,v5,d0,d1,d2,d3,d4,d5,p0,p1,p2,p3,p4,p5,by cases args;simp_all,rfl,by simp,g0,g1,g2,g3,g4,g5⟩
theorem qcInt:Tryz.prog.cellsOf 3=1:=by kernel_rfl
theorem qcString:Tryz.prog.cellsOf 9=1:=by kernel_rfl
theorem qcBool:Tryz.prog.cellsOf 4=1:=by kernel_rfl
def GVote (v:Own.Vote):Prop:=v.name.size<=140737488355328/\v.pub.size<=140737488355328
theorem size_reach {s:ByteArray} (h:s.data.toList.length<=reachBytes):s.size<=140737488355328:=by
 unfold reachBytes at h
 have e:s.size=s.data.toList.length:=by rw[Array.length_toList];rfl
 omega
theorem vote_open {W:World} (n:Nat) (cs:List Value) (x:DataW H × List MemPlace) (hl:cs.length=3) (hy:DataW.trod enc Tryz.prog W 0 (fun _=>true) true n 82 cs=some x) (hz:(x.1.weights Tryz.prog 82).all (· <= reachBytes)=true):
 ∃ o,Own.RVote Own.anyF W cs o/\GVote o:=by
 match cs,hl with
 | [c0,c1,c2],_ =>
   obtain⟨y0,y1,y2,m,he,_,u0,u1,u2⟩:=Deep.trod_struct3 Tryz.underlying82 hy
   simp only[qcString,qcBool,List.drop,List.take] at u0 u1 u2
   obtain⟨s,hs,rfl,_⟩:=DataW.trod_string Tryz.underlying9 u0
   obtain⟨t,ht,rfl,_⟩:=DataW.trod_string Tryz.underlying9 u1
   obtain⟨b,hb,rfl⟩:=DataW.trod_bool Tryz.underlying4 u2
   simp only[List.cons.injEq,and_true] at hs ht hb
   subst hs;subst ht;subst hb
   have hw:x.1.weights Tryz.prog 82=[s.data.toList.length,t.data.toList.length]:=by
    rw[he]
    simp only[DataW.weights,Tryz.underlying82]
    rfl
   rw[hw] at hz
   simp only[List.all_cons,List.all_nil,Bool.and_true,Bool.and_eq_true,decide_eq_true_eq] at hz
   exact⟨⟨s,t,b⟩,rfl,size_reach hz.1,size_reach hz.2⟩
theorem slice_val {W:World} {S T:TypeId} (hu:Tryz.prog.underlying S=some (.slice T)) {n:Nat} {v:Value} {x:DataW H × List MemPlace} (hy:DataW.trod enc Tryz.prog W 0 (fun _=>true) true n S [v]=some x):∃ b len cap,v=.slice b len cap:=by
 rcases Deep.open_slice hu hy with ⟨hcs,_⟩ | ⟨a,len,cap,m,k,D,Pl,hcs,_⟩
 ·exact⟨none,0,0,by simpa using hcs⟩
 ·exact⟨_,len,cap,by simpa using hcs⟩
theorem rows_in1 {α : Type} {R:Elem α} {Good : α -> Prop} {T S:TypeId} {size B:Nat} (hu:Tryz.prog.underlying S=some (.slice T)) (hsz:Tryz.prog.cellsOf T=size) (hby:Tryz.prog.bytesOf T=B) (hB:1<=B) (hs1:1<=size) {W:World}
 (open1:∀ (n:Nat) (cs:List Value) (x:DataW H × List MemPlace),cs.length=size->DataW.trod enc Tryz.prog W 0 (fun _=>true) true n T cs=some x->(x.1.weights Tryz.prog T).all (· <= reachBytes)=true->∃ o,R Own.anyF W cs o/\Good o)
 {n:Nat} {v:Value} {x:DataW H × List MemPlace} (hy:DataW.trod enc Tryz.prog W 0 (fun _=>true) true n S [v]=some x) (hz:(x.1.weights Tryz.prog S).all (· <= reachBytes)=true):
 ∃ l:List α,ListF size R Own.anyF W v l/\(∀ o∈l,Good o)/\l.length<=140737488355328:=by
 obtain⟨b,len,cap,rfl⟩:=slice_val hu hy
 exact rows_in (ps:=x.2) hu hsz hby hB hs1 open1 ⟨n,hy⟩ ⟨b,len,cap,rfl⟩ hz
theorem votes_in1 {W:World} {n:Nat} {v:Value} {x:DataW H × List MemPlace} (hy:DataW.trod enc Tryz.prog W 0 (fun _=>true) true n 44 [v]=some x) (hz:(x.1.weights Tryz.prog 44).all (· <= reachBytes)=true):∃ l,Own.VotesC W v l/\(∀ o∈l,GVote o)/\l.length<=140737488355328:=
 rows_in1 (B:=40) Tryz.underlying44 (by kernel_rfl) (by kernel_rfl) (by decide) (by decide) vote_open hy hz
theorem qcVotes:Tryz.prog.cellsOf 44=1:=by kernel_rfl
theorem str_in {W:World} {base:Nat} {sp:Nat->Bool} {v:Value} {d:DataW H} {ps:List MemPlace} (hval:Value.okWide Tryz.prog W .any base 9 v) (h:DataW.Trod enc Tryz.prog W 0 sp true 9 v d ps) (hz:(d.weights Tryz.prog 9).all (· <= reachBytes)=true):
 ∃ s:ByteArray,v=.string s/\s.size<=140737488355328:=by
 obtain⟨s,rfl,rfl,_,_⟩:=ChangeMaps.open_string Tryz.underlying9 hval h
 refine⟨s,rfl,?_⟩
 simp only[DataW.weights,List.all_cons,List.all_nil,Bool.and_true,decide_eq_true_eq,Array.length_toList] at hz
 unfold reachBytes at hz
 have e:s.size=s.data.size:=rfl
 omega
theorem qcProposals:Tryz.prog.cellsOf 22=1:=by kernel_rfl
def GProp (p:Own.Proposal):Prop:=((Lit.int .i64 p.id).wf=true/\(Lit.int .i64 p.opened).wf=true/\(Lit.int .i64 p.expires).wf=true)/\p.path.size<=140737488355328/\p.digest.size<=140737488355328/\(∀ v∈p.votes,GVote v)/\p.votes.length<=140737488355328
theorem prop_open {W:World} (n:Nat) (cs:List Value) (x:DataW H × List MemPlace) (hl:cs.length=6) (hy:DataW.trod enc Tryz.prog W 0 (fun _=>true) true n 46 cs=some x) (hz:(x.1.weights Tryz.prog 46).all (· <= reachBytes)=true):
 ∃ o,Own.RProp Own.anyF W cs o/\GProp o:=by
 match cs,hl with
 | [c0,c1,c2,c3,c4,c5],_ =>
   obtain⟨xs,m,_,rfl,_,hlen,hf⟩:=DataW.trod_struct Tryz.underlying46 hy
   match xs,hlen with
   | [y0,y1,y2,y3,y4,y5],_ =>
     have u0:=hf 0 _ rfl;have u1:=hf 1 _ rfl;have u2:=hf 2 _ rfl;have u3:=hf 3 _ rfl;have u4:=hf 4 _ rfl;have u5:=hf 5 _ rfl
     change DataW.trod enc Tryz.prog W 0 (fun _=>true) true m 3 (List.take (Tryz.prog.cellsOf 3) (List.drop 0 [c0,c1,c2,c3,c4,c5]))=some y0 at u0
     change DataW.trod enc Tryz.prog W 0 (fun _=>true) true m 9 (List.take (Tryz.prog.cellsOf 9) (List.drop 1 [c0,c1,c2,c3,c4,c5]))=some y1 at u1
     change DataW.trod enc Tryz.prog W 0 (fun _=>true) true m 9 (List.take (Tryz.prog.cellsOf 9) (List.drop 2 [c0,c1,c2,c3,c4,c5]))=some y2 at u2
     change DataW.trod enc Tryz.prog W 0 (fun _=>true) true m 3 (List.take (Tryz.prog.cellsOf 3) (List.drop 3 [c0,c1,c2,c3,c4,c5]))=some y3 at u3
     change DataW.trod enc Tryz.prog W 0 (fun _=>true) true m 3 (List.take (Tryz.prog.cellsOf 3) (List.drop 4 [c0,c1,c2,c3,c4,c5]))=some y4 at u4
     change DataW.trod enc Tryz.prog W 0 (fun _=>true) true m 44 (List.take (Tryz.prog.cellsOf 44) (List.drop 5 [c0,c1,c2,c3,c4,c5]))=some y5 at u5
     simp only[qcString,qcInt,qcVotes,List.drop,List.take] at u0 u1 u2 u3 u4 u5
     obtain⟨a,ha,e0,wa⟩:=DataW.trod_int Tryz.underlying3 u0
     obtain⟨b,hb,e1,_⟩:=DataW.trod_string Tryz.underlying9 u1
     obtain⟨c,hc,e2,_⟩:=DataW.trod_string Tryz.underlying9 u2
     obtain⟨d,hd,e3,wd⟩:=DataW.trod_int Tryz.underlying3 u3
     obtain⟨e,hee,e4,we⟩:=DataW.trod_int Tryz.underlying3 u4
     have ha' : c0=.int .i64 a:=by simpa using ha
     have hb' : c1=.string b:=by simpa using hb
     have hc' : c2=.string c:=by simpa using hc
     have hd' : c3=.int .i64 d:=by simpa using hd
     have he' : c4=.int .i64 e:=by simpa using hee
     subst ha';subst hb';subst hc';subst hd';subst he'
     have hw:(DataW.agg ([y0,y1,y2,y3,y4,y5].map (·.1))).weights Tryz.prog 46=b.data.toList.length::c.data.toList.length::(y5.1.weights Tryz.prog 44++[]):=by
      simp only[DataW.weights,Tryz.underlying46,e0,e1,e2,e3,e4,List.map_cons,List.map_nil]
      rfl
     rw[hw] at hz
     simp only[List.all_cons,List.append_nil,Bool.and_eq_true,decide_eq_true_eq] at hz
     obtain⟨l,h1,h2,h3⟩:=votes_in1 u5 hz.2.2
     exact⟨⟨a,b,c,d,e,l⟩,⟨c5,rfl,h1⟩,⟨wa,wd,we⟩,size_reach hz.1,size_reach hz.2.1,h2,h3⟩
theorem props_in1 {W:World} {n:Nat} {v:Value} {x:DataW H × List MemPlace} (hy:DataW.trod enc Tryz.prog W 0 (fun _=>true) true n 22 [v]=some x) (hz:(x.1.weights Tryz.prog 22).all (· <= reachBytes)=true):∃ l,Own.PropsC W v l/\(∀ o∈l,GProp o)/\l.length<=140737488355328:=
 rows_in1 (B:=80) Tryz.underlying22 (by kernel_rfl) (by kernel_rfl) (by decide) (by decide) prop_open hy hz
theorem qcQueue:Tryz.prog.cellsOf 24=2:=by kernel_rfl
theorem queue_in {W:World} {base:Nat} {v:Value} {d:DataW H} {ps:List MemPlace} (hval:Value.okWide Tryz.prog W .any base 24 v) (h:DataW.Trod enc Tryz.prog W 0 (fun _=>true) true 24 v d ps) (hz:(d.weights Tryz.prog 24).all (· <= reachBytes)=true):
 ∃ (q:Own.Queue) (u:Value),v=.agg #[.int .i64 q.next,u]/\Own.PropsC W u q.props/\(Lit.int .i64 q.next).wf=true/\(∀ p∈q.props,GProp p)/\q.props.length<=140737488355328:=by
 obtain⟨cs,rfl,hs⟩:=okWide_struct Tryz.underlying24 hval
 rw[qcQueue] at hs
 match cs,hs with
 | ⟨[c0,c1]⟩,_ =>
   obtain⟨n,hy⟩:=h
   obtain⟨y0,y1,m,he,_,u0,u1⟩:=ChangeShapes.trod_struct2 Tryz.underlying24 hy
   simp only[qcInt,qcProposals,Value.cells,List.drop,List.take] at u0 u1
   obtain⟨a,ha,rfl,wa⟩:=DataW.trod_int Tryz.underlying3 u0
   simp only[List.cons.injEq,and_true] at ha
   subst ha
   have hd:d=.agg [.lit (.int .i64 a),y1.1]:=(Prod.mk.inj he).1
   have hw:(DataW.agg [.lit (.int .i64 a),y1.1]).weights Tryz.prog 24=y1.1.weights Tryz.prog 22++[]:=by
    simp only[DataW.weights,Tryz.underlying24]
    rfl
   rw[hd,hw,List.append_nil] at hz
   obtain⟨l,h1,h2,h3⟩:=props_in1 u1 hz
   exact⟨⟨a,l⟩,c1,rfl,h1,wa,h2,h3⟩
end
end
section
open Go Go.ChangeShapes Go.WideShapes Go.ChangeAt Go.RowKit
theorem ownKnobNone:ownKnob Tryz.prog.godebug=none:=by kernel_rfl
theorem laidOutProg:laidOutB Tryz.prog=true:=by kernel_rfl
theorem rqueues_lifted (os:Os) (started:os.Started) (H:Type) (enc:TypeId × Value->H):
 ReturnsInHanded {} Tryz.checked os 3 .any (fun w args=>(Rows.reviewQueuesSpec.pre enc Tryz.prog Tryz.f3 Rows.reviewQueuesRow.domain false w args/\laidMetH Tryz.prog Rows.reviewQueuesRow.laid w)/\sizedMet enc Tryz.prog Tryz.f3 (OpenSpec.ofChange Rows.reviewQueuesSpec) false w args)
  (Rows.reviewQueuesSpec.post enc Tryz.prog Tryz.f3 false true false false):=by
 refine returnsInHanded_and_shaped (C:=Tryz.checked) (X:=fun w _=>laidMetH Tryz.prog Rows.reviewQueuesRow.laid w) (fun _ _ _ hh h=>h.of_heap hh) ownKnobNone started (by kernel_rfl) Tryz.func3
  (ChangeSpec.witness_shaped (enc :=enc) (C :=Tryz.checked) (os :=os) (X :=fun w _ => laidMetH Tryz.prog Rows.reviewQueuesRow.laid w) false (World.laidAll Tryz.prog os Rows.reviewQueuesRow.laid) #[.agg #[.int .i64 0,.slice none 0 0],.int .i64 0,.int .i64 0,.int .i64 0,.string ⟨#[]⟩,.string ⟨#[]⟩] 8 (World.laidAll_os _ _ _)
    (World.shaped_of_ZipB (by kernel_rfl) (by kernel_rfl)) (by kernel_rfl) (by kernel_rfl) (by kernel_rfl)
    (by rw[MakeChecks.laidMetH_plain _ _ _ (by kernel_rfl)];exact laidMet_laidAll _ (by kernel_rfl) (by kernel_rfl))) ?_
 intro W base args ds gs before hval0 hW _ hz0 _ hsh _
 have hM:=maxL_of hsh
 have hval:∀ (j:Nat) t v,Tryz.f3.params[j]? = some t->args[j]? = some v->Value.okWide Tryz.prog W .any base t v:=hval0
 have hW' :=hW
 obtain⟨p,q,hA0,hV,rfl,_,_⟩:=hW
 have hA:DataW.TrodAll enc Tryz.prog W 0 (fun _=>true) true Tryz.f3.params.toList args.toList ds p:=hA0
 rw[Tryz.params3] at hA hval
 obtain⟨v0,v1,v2,v3,v4,v5,d0,d1,d2,d3,d4,d5,p0,p1,p2,p3,p4,p5,rfl,rfl,rfl,h0,h1,h2,h3,h4,h5⟩:=trodAll_six hA
 obtain⟨rfl,rfl⟩:=trodVars_none hV
 obtain⟨x1,rfl,rfl,rfl,wx1⟩:=open_int Tryz.underlying3 (hval 1 3 v1 rfl rfl) h1
 have hx1 : -9223372036854775808<=x1/\x1<9223372036854775808:=by
  have:=wx1
  simp[Lit.wf,IntKind.has] at this
  have h1:IntKind.i64.min = -9223372036854775808:=by decide
  have h2:IntKind.i64.max=9223372036854775807:=by decide
  omega
 obtain⟨x2,rfl,rfl,rfl,wx2⟩:=open_int Tryz.underlying3 (hval 2 3 v2 rfl rfl) h2
 have hx2 : -9223372036854775808<=x2/\x2<9223372036854775808:=by
  have:=wx2
  simp[Lit.wf,IntKind.has] at this
  have h1:IntKind.i64.min = -9223372036854775808:=by decide
  have h2:IntKind.i64.max=9223372036854775807:=by decide
  omega
 obtain⟨x3,rfl,rfl,rfl,wx3⟩:=open_int Tryz.underlying3 (hval 3 3 v3 rfl rfl) h3
 have hx3 : -9223372036854775808<=x3/\x3<9223372036854775808:=by
  have:=wx3
  simp[Lit.wf,IntKind.has] at this
  have h1:IntKind.i64.min = -9223372036854775808:=by decide
  have h2:IntKind.i64.max=9223372036854775807:=by decide
  omega
 have e0:DataW.weightsEach Tryz.prog (Tryz.f3.params.toList++Rows.reviewQueuesSpec.plain.varTypes Tryz.prog) ([d0,DataW.lit (.int .i64 x1),DataW.lit (.int .i64 x2),DataW.lit (.int .i64 x3),d4,d5]++[])=d0.weights Tryz.prog 24++(d4.weights Tryz.prog 9++(d5.weights Tryz.prog 9++[])):=by
  rw[Tryz.params3]
  rfl
 have hz0:=e0 ▸ hz0
 simp only[List.all_append,List.all_nil,Bool.and_true,Bool.and_eq_true] at hz0
 have g0:=h0
 obtain⟨q0,u0,rfl,hqp0,hqw0,hqg0,hql0⟩:=queue_in (hval 0 24 v0 rfl rfl) h0 hz0.1
 obtain⟨s4,rfl,hss4⟩:=str_in (hval 4 9 v4 rfl rfl) h4 hz0.2.1
 obtain⟨s5,rfl,hss5⟩:=str_in (hval 5 9 v5 rfl rfl) h5 hz0.2.2
 have e1:Rows.reviewQueuesSpec.fn H ([d0,.lit (.int .i64 x1),.lit (.int .i64 x2),.lit (.int .i64 x3),d4,d5]++[]) = { results:=[.lit (.bool true)],args:=[d0,.lit (.int .i64 x1),.lit (.int .i64 x2),.lit (.int .i64 x3),d4,d5] } :=by simp[Rows.reviewQueuesSpec]
 refine(rqueues_any q0 x1 x2 x3 s4 s5 _ W hM hqp0 hql0 (fun p hp=>⟨(hqg0 p hp).2.2.2.2,(hqg0 p hp).2.1,(hqg0 p hp).2.2.1,(hqg0 p hp).2.2.2.1⟩) hss4 hss5).mono fun e W' ⟨he,hb⟩=>?_
 subst he
 refine⟨_,rfl,_,_,_,[],p0++([]++([]++([]++(p4++(p5++[]))))),[],by simpa using hW',?_,?_,?_,hb.frame _,fun h=>by cases h⟩
 ·rw[e1];exact trodAll_mk1 (shut_bool Tryz.underlying4 true)
 ·rw[e1];exact(trodAll_cons_mk (Below.trod laidOutProg (by kernel_rfl) (of_decide_eq_true (by kernel_rfl)) h0 hb (fun z hz=>hW'.lt z (by simp[hz]))) (trodAll_cons_mk (shut_int Tryz.underlying3 wx1) (trodAll_cons_mk (shut_int Tryz.underlying3 wx2) (trodAll_cons_mk (shut_int Tryz.underlying3 wx3) (trodAll_cons_mk (Below.trod laidOutProg (by kernel_rfl) (of_decide_eq_true (by kernel_rfl)) h4 hb (fun z hz=>hW'.lt z (by simp[hz]))) (trodAll_cons_mk (Below.trod laidOutProg (by kernel_rfl) (of_decide_eq_true (by kernel_rfl)) h5 hb (fun z hz=>hW'.lt z (by simp[hz]))) trodAll_mk0))))))
 ·rw[e1];rfl
theorem rqueues_holds:Rows.ReviewQueuesSaid:=
 OpenClaim.holds_of_wide 3 Tryz.f3 rfl rfl rfl rfl rfl rfl rfl ⟨rfl,rfl,rfl,rfl,rfl⟩ rfl rfl rfl rfl rfl (by kernel_rfl) Tryz.func3 (by kernel_rfl)
  (of_decide_eq_true (by kernel_rfl)) (by unfold Func.isWrapper;first | (rw[if_pos (by decide +kernel)];kernel_rfl) | (rw[if_neg (by decide +kernel)];exact⟨rfl,rfl⟩))
  (fun os started H enc _=>rqueues_lifted os started H enc)
theorem rqueues_card:Rows.ReviewQueuesCardSaid:=
 Claim7.holds_tied_plain_at .later [] [.data,.pinned] true Rows.reviewQueuesCard.stood.harness false rqueues_holds (fun _ h=>by cases h) (by kernel_rfl) (fun _ h=>by cases h) reviewQueues_row_tie rfl ⟨rfl,rfl⟩ (by kernel_rfl) rfl
  (fun f fn hf hfn => by
    obtain rfl : f = 3 := Option.some.inj ((show Tryz.prog.funcNamed "modcert/modcertlaw54.ReviewQueues" = some 3 by kernel_rfl).symm.trans hf) |>.symm
    obtain rfl:fn=Tryz.f3:=(Option.some.inj (Tryz.func3.symm.trans hfn)).symm
    exact⟨by kernel_rfl,fun j t ht=>by
     rw[Tryz.params3] at ht
     have hm:t∈[24,3,3,3,9,9]:=by simpa using Array.mem_of_getElem? ht
     have hall:([24,3,3,3,9,9].all fun u => !Tryz.prog.wantsStandIn u)=true:=by kernel_rfl
     exact(show Tryz.prog.wantsStandIn t=false by simpa using List.all_eq_true.1 hall t hm)⟩)
  (by kernel_rfl)
end
end Go.Proofs.YtnijhlphcjjpbaaGreatDoor
