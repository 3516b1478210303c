/- The program's journal: the text of a page that Append makes, whatever the order of its parts. Condition: the rest is a string of this machine's. -/
import Derived.Test.YtfgjjdjaiddllaaDoorJourI
namespace Go.Proofs.YtfgjjdjaiddllaaDoor
set_option linter.unusedVariables false
set_option linter.unusedSimpArgs false
open Go Go.RowKit Go.Maps
/-- The operations of a region of a text. -/
def opsOf (id : Nat) : Code → Option (List Oper)
  | .region i ops _ => if i = id then some ops.toList else none
  | .seq a b => match opsOf id a with
    | some l => some l
    | none => opsOf id b
  | .cond _ a b => match opsOf id a with
    | some l => some l
    | none => opsOf id b
  | .block _ c => opsOf id c
  | .loop c => opsOf id c
  | _ => none
theorem big8_chain (n : Nat) (w : World) (hn : n < 9223372036854775808) {w0 : World} (hB : Below w0.heap.size w0 w) :
    Calls Tryd.prog 36 #[.int .i64 n, .int .i64 8] w fun e w' => e = .returned (.string (big n 8)) ∧ Below w0.heap.size w0 w' ∧ (∀ b o, b < w.heap.size → w'.cell? ⟨b, o, none⟩ = w.cell? ⟨b, o, none⟩) ∧ (∀ b o, b < w.heap.size → w'.frozen? ⟨b, o, none⟩ = w.frozen? ⟨b, o, none⟩) ∧ w.heap.size ≤ w'.heap.size :=
  (big_any n 8 w hn (by omega) (by omega)).mono fun e w' ⟨he, hb⟩ => ⟨he, hB.trans (hb.mono hB.size), fun b o h => hb.cell (p := ⟨b, o, none⟩) h, fun b o h => hb.frozen (p := ⟨b, o, none⟩) h, hb.size⟩
theorem big2_chain (n : Nat) (w : World) (hn : n < 9223372036854775808) {w0 : World} (hB : Below w0.heap.size w0 w) :
    Calls Tryd.prog 36 #[.int .i64 n, .int .i64 2] w fun e w' => e = .returned (.string (big n 2)) ∧ Below w0.heap.size w0 w' ∧ (∀ b o, b < w.heap.size → w'.cell? ⟨b, o, none⟩ = w.cell? ⟨b, o, none⟩) ∧ (∀ b o, b < w.heap.size → w'.frozen? ⟨b, o, none⟩ = w.frozen? ⟨b, o, none⟩) ∧ w.heap.size ≤ w'.heap.size :=
  (big_any n 2 w hn (by omega) (by omega)).mono fun e w' ⟨he, hb⟩ => ⟨he, hB.trans (hb.mono hB.size), fun b o h => hb.cell (p := ⟨b, o, none⟩) h, fun b o h => hb.frozen (p := ⟨b, o, none⟩) h, hb.size⟩
set_option maxRecDepth 100000 in
theorem conv_one (w : World) (b : Nat) (x : UInt8) (h : w.cell? ⟨b, 0, none⟩ = some (.int .u8 (x.toNat : Int))) : (convert 92 9 (.slice (some ⟨b, 0, none⟩) 1 1)).run Tryd.prog w = .ok (.string ⟨#[x]⟩) w := by
  have hB : Lib.Bytes w b 0 ⟨#[x]⟩ := by
    intro i hi
    have : i = 0 := by
      have h1 : (⟨#[x]⟩ : ByteArray).size = 1 := rfl
      omega
    subst this
    exact h
  exact Lib.run_convert_whole (P := Tryd.prog) w 92 5 9 rfl rfl rfl _ _ _ hB 1
theorem cell_new (w : World) (x : Value) (t : TypeId) : (w.alloc (.cells #[x] t)).cell? ⟨w.heap.size, 0, none⟩ = some x := (At.new w t #[x]).cell 0
theorem repeat_chain (z : Int) (w : World) (h0 : 0 ≤ z) (hn : z ≤ 140737488355328) {w0 : World} (hB : Below w0.heap.size w0 w) :
    Calls Tryd.prog 30 #[.string ⟨#[0]⟩, .int .i64 z] w fun e w' => e = .returned (.string (zeros z.toNat)) ∧ Below w0.heap.size w0 w' ∧ (∀ b o, b < w.heap.size → w'.cell? ⟨b, o, none⟩ = w.cell? ⟨b, o, none⟩) ∧ (∀ b o, b < w.heap.size → w'.frozen? ⟨b, o, none⟩ = w.frozen? ⟨b, o, none⟩) ∧ w.heap.size ≤ w'.heap.size := by
  obtain ⟨n, rfl⟩ : ∃ n : Nat, z = n := ⟨z.toNat, by omega⟩
  exact (Tryd.strings_Repeat ⟨#[0]⟩ n w (by omega) (by show 1 * _ ≤ _; omega)).mono fun e w' ⟨he, hb⟩ => ⟨he, hB.trans (hb.mono hB.size), fun b o h => hb.cell (p := ⟨b, o, none⟩) h, fun b o h => hb.frozen (p := ⟨b, o, none⟩) h, hb.size⟩
set_option maxRecDepth 100000 in
set_option maxHeartbeats 40000000 in
theorem append_body {l : List Oper} (hl : (Tryd.f19.body).bind (opsOf 11) = some l) {Q : Exit → Act → World → Prop} (jb ep n : Nat) (dg r : ByteArray) (x : UInt8) (w : World) {t1 t2 t3 t4 t9 t10 t11 t12 t13 t14 t15 t16 t17 t18 t19 t20 t21 t22 t23 t24 t25 t26 t27 t28 t29 t30 t31 t32 t33 t34 t35 t36 t37 t38 t39 t40 t41 t42 t43 t44 t45 t46 t47 t48 t49 t50 t51 t52 t53 t54 t55 t56 t57 t58 t59 t60 t61 t62 t63 t64 t65 t66 t67 t68 t69 t70 t71 t72 t73 t74 t75 t76 t77 t78 t79 t80 t81 t82 t83 t84 t85 t86 t87 t88 t89 t90 t91 t92 t93 t94 t95 t96 t97 t98 t99 t100 t101 t102 t103 t104 t105 t106 t107 t108 t109 t110 t111 : Value} (he : ep < 9223372036854775808) (hn : n ≤ 437) (hr : n ≤ r.size) (hrm : r.size ≤ 65536) (hd : dg.size ≤ 32)
    (hjl : jb < w.heap.size) (h3 : w.cell? ⟨jb, 3, none⟩ = some (.int .i64 ep))
    (hK : ∀ v w', Below w.heap.size w w' → Q .normal { tmps := #[.pointer (some ⟨jb, 0, none⟩), t1, t2, t3, t4, .string dg, .string r, .int .i64 n, .int .u8 (x.toNat : Int), .string (big ep 8 ++ ⟨#[x]⟩ ++ big n 2 ++ dg ++ r.extract 0 n ++ zeros (437 - n)), t10, t11, t12, t13, t14, t15, t16, t17, t18, t19, t20, t21, t22, t23, t24, t25, t26, t27, t28, t29, t30, .pointer (some ⟨jb, 0, none⟩), .pointer (some ⟨jb, 0, none⟩), .pointer (some ⟨jb, 3, none⟩), .int .i64 ep, .string (big ep 8), .int .u8 (x.toNat : Int), v, .string ⟨#[x]⟩, .string (big ep 8 ++ ⟨#[x]⟩), .int .i64 n, .string (big n 2), .string (big ep 8 ++ ⟨#[x]⟩ ++ big n 2), .string dg, .string (big ep 8 ++ ⟨#[x]⟩ ++ big n 2 ++ dg), .string r, .int .i64 n, .string (r.extract 0 n), .string (big ep 8 ++ ⟨#[x]⟩ ++ big n 2 ++ dg ++ r.extract 0 n), .int .i64 n, .int .i64 (437 - (n : Int)), .string (zeros (437 - n)), .string (big ep 8 ++ ⟨#[x]⟩ ++ big n 2 ++ dg ++ r.extract 0 n ++ zeros (437 - n)), t53, t54, t55, t56, t57, t58, t59, t60, t61, t62, t63, t64, t65, t66, t67, t68, t69, t70, t71, t72, t73, t74, t75, t76, t77, t78, t79, t80, t81, t82, t83, t84, t85, t86, t87, t88, t89, t90, t91, t92, t93, t94, t95, t96, t97, t98, t99, t100, t101, t102, t103, t104, t105, t106, t107, t108, t109, t110, t111], defers := [] } w') :
    (Code.region 11 l.toArray true).wp Tryd.prog Q { tmps := #[.pointer (some ⟨jb, 0, none⟩), t1, t2, t3, t4, .string dg, .string r, .int .i64 n, .int .u8 (x.toNat : Int), t9, t10, t11, t12, t13, t14, t15, t16, t17, t18, t19, t20, t21, t22, t23, t24, t25, t26, t27, t28, t29, t30, t31, t32, t33, t34, t35, t36, t37, t38, t39, t40, t41, t42, t43, t44, t45, t46, t47, t48, t49, t50, t51, t52, t53, t54, t55, t56, t57, t58, t59, t60, t61, t62, t63, t64, t65, t66, t67, t68, t69, t70, t71, t72, t73, t74, t75, t76, t77, t78, t79, t80, t81, t82, t83, t84, t85, t86, t87, t88, t89, t90, t91, t92, t93, t94, t95, t96, t97, t98, t99, t100, t101, t102, t103, t104, t105, t106, t107, t108, t109, t110, t111], defers := [] } w := by
  injection ((rfl : (Tryd.f19.body).bind (opsOf 11) = some _).symm.trans hl) with e
  subst e
  refine Lex.wp_region_treeV [3, 4, 6, 7, 10, 20]
    [0, 1, 3, 7, 15, 0, 32, 96, 255, 0, 543, 2047, 0, 8191, 0, 0, 49152, 131071, 0, 262144, 787999, 2097151, 4194303] [0, 1, 2, 5, 9, 12, 14, 15, 16, 18, 19]
    (.alt 3 [] (.alt 4 [] (.alt 6 [] (.alt 7 [8] (.alt 10 [11, 13, 17] (.alt 20 [21, 22] .nil .nil) .nil) (.alt 10 [] (.alt 7 [8, 11, 13, 17] (.alt 20 [21, 22] .nil .nil) (.alt 20 [] (.alt 7 [8, 11, 13, 17, 21, 22] .nil .nil) .nil)) .nil)) (.alt 10 [] (.alt 6 [] (.alt 7 [8, 11, 13, 17] (.alt 20 [21, 22] .nil .nil) (.alt 20 [] (.alt 7 [8, 11, 13, 17, 21, 22] .nil .nil) .nil)) (.alt 20 [] (.alt 6 [] (.alt 7 [8, 11, 13, 17, 21, 22] .nil .nil) .nil) .nil)) .nil)) (.alt 6 [] (.alt 4 [] (.alt 7 [8] (.alt 10 [11, 13, 17] (.alt 20 [21, 22] .nil .nil) .nil) (.alt 10 [] (.alt 7 [8, 11, 13, 17] (.alt 20 [21, 22] .nil .nil) (.alt 20 [] (.alt 7 [8, 11, 13, 17, 21, 22] .nil .nil) .nil)) .nil)) (.alt 7 [] (.alt 4 [8] (.alt 10 [11, 13, 17] (.alt 20 [21, 22] .nil .nil) .nil) .nil) .nil)) .nil)) (.alt 6 [] (.alt 3 [] (.alt 4 [] (.alt 7 [8] (.alt 10 [11, 13, 17] (.alt 20 [21, 22] .nil .nil) .nil) (.alt 10 [] (.alt 7 [8, 11, 13, 17] (.alt 20 [21, 22] .nil .nil) (.alt 20 [] (.alt 7 [8, 11, 13, 17, 21, 22] .nil .nil) .nil)) .nil)) (.alt 7 [] (.alt 4 [8] (.alt 10 [11, 13, 17] (.alt 20 [21, 22] .nil .nil) .nil) .nil) .nil)) (.alt 7 [] (.alt 3 [] (.alt 4 [8] (.alt 10 [11, 13, 17] (.alt 20 [21, 22] .nil .nil) .nil) .nil) .nil) .nil)) .nil))
    (by kernel_rfl) (by kernel_rfl) (by kernel_rfl) ?_
  intro ops E hE
  simp only [Lex.pick, List.filterMap_cons, List.filterMap_nil, List.getElem?_cons_succ, List.getElem?_cons_zero]
  have hB : Below w.heap.size w w.drew := (Below.refl _ _).drew
  have HB := Lib.hid hB; clear hB
  have hjl : jb < w.drew.heap.size := hjl
  have h3 : w.drew.cell? ⟨jb, 3, none⟩ = some (.int .i64 ep) := h3
  have q8 : (big ep 8).size ≤ 8 := by rw [big_size]; omega
  have q2 : (big n 2).size ≤ 2 := by rw [big_size]; omega
  have qz : (zeros (437 - n)).size ≤ 437 := by rw [zeros_size]; omega
  have HE := Lib.hid hE; clear hE
  have HK := Lib.hid hK; clear hK hl
  generalize w.drew = w3 at *
  go_wp2_with fail
  refine Lex.Mid.intro trivial ?_
  iterate 26 (try any_goals (first
    | exact Lex.runV_done
    | (refine Lex.runV_alt ?_ ?_)
    | (refine Lex.runV_end ?_)
    | (refine Lex.Mid.intro trivial ?_)
    | (refine HE.out _ _ (by kernel_rfl) (HK.out _ _ HB.out))
    | (refine HE.out _ _ (by kernel_rfl) (HK.out _ _ (HB.out.alloc HB.out.size _)))
    | (simp only [Lex.pick, List.filterMap_cons, List.filterMap_nil, List.getElem?_cons_succ, List.getElem?_cons_zero]
       go_wp2_with (first
        | (go_at_call 36; ((first | with_reducible refine (big8_chain _ _ he HB.out).mono ?_ | with_reducible refine (big8_chain _ _ he (HB.out.alloc HB.out.size _)).mono ?_ | with_reducible refine (big2_chain _ _ (by omega) HB.out).mono ?_ | with_reducible refine (big2_chain _ _ (by omega) (HB.out.alloc HB.out.size _)).mono ?_)); rintro e w4 ⟨rfl, hb4, hc4, hf4, hz4⟩; (try simp only [World.size_alloc] at hc4 hf4 hz4); replace HB := Lib.hid hb4; clear hb4)
        | (go_at_call 30; ((first | with_reducible refine (repeat_chain _ _ (by omega) (by omega) HB.out).mono ?_ | with_reducible refine (repeat_chain _ _ (by omega) (by omega) (HB.out.alloc HB.out.size _)).mono ?_)); rintro e w4 ⟨rfl, hb4, hc4, hf4, hz4⟩; (try simp only [World.size_alloc] at hc4 hf4 hz4); replace HB := Lib.hid hb4; clear hb4)
        | (rw [conv_one _ _ x (by simp (disch := omega) only [*, cell_new])])))))
end Go.Proofs.YtfgjjdjaiddllaaDoor
