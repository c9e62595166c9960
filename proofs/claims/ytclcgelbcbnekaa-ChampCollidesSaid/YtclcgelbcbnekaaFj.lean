/- Law 6's like: where there is a kid: its region, a law of its own. -/
import Derived.Test.YtclcgelbcbnekaaBm
import Derived.Deep.QuietTactic
import Derived.StillTailTactics
set_option linter.unusedVariables false
set_option linter.unusedSimpArgs false
namespace Go.Proofs.Ytclcgelbcbnekaa
open Go.RowKit Go.QS Go.QS.Nk
set_option linter.unusedVariables false
variable [Zero (Nat → Prop)]
set_option linter.unusedSectionVars false

theorem wpOp_goW {P : Program} {ops : Array Oper} {Q : Exit → Act → World → Prop} {i : Nat} {o : Oper} {a : Act} {w : World} {K : Act → World → Prop} (hi : ops[i]? = some o) (hw : Region.wanted o (yielded ops a.tmps) = true) (h : ∀ K' : Act → World → Prop, Hid (∀ a w, K a w → K' a w) → o.wp P a w K' Q) : wpOp P ops Q i K a w := by
  unfold wpOp
  simp only [hi]
  rw [if_pos hw]
  exact .inl (h K (Lib.hid fun _ _ h => h))
structure St9 (P : Program) (ops : Array Oper) (w : World) (Q : Act → Prop) (l : List Oper) (a : Act) : Prop where
  h : wpStill P ops w Q l a
theorem St9.yes {P : Program} {ops : Array Oper} {w : World} {Q : Act → Prop} {a : Act} {o : Oper} {rest : List Oper} (hw : Region.wanted o (yielded ops a.tmps) = true)
    (h : ∀ K : Act → Prop, (∀ a, St9 P ops w Q rest a → K a) → o.still P a w K) : St9 P ops w Q (o :: rest) a :=
  ⟨wpStill_step (fun K hK => by rw [if_pos hw]; exact h K (fun a ha => hK a ha.h))⟩
theorem St9.no {P : Program} {ops : Array Oper} {w : World} {Q : Act → Prop} {a : Act} {o : Oper} {rest : List Oper} (hw : Region.wanted o (yielded ops a.tmps) = false)
    (h : St9 P ops w Q rest (a.put o.dst undef)) : St9 P ops w Q (o :: rest) a :=
  ⟨wpStill_step (fun K hK => by rw [if_neg (by rw [hw]; decide)]; exact hK _ h.h)⟩
theorem St9.nil {P : Program} {ops : Array Oper} {w : World} {Q : Act → Prop} {a : Act} (h : Q a) : St9 P ops w Q [] a := ⟨wpStill_nil h⟩
set_option maxRecDepth 100000 in
set_option maxHeartbeats 2000000 in
theorem like_19k (wr : World) (q n9 k q2 : Nat) (hc9 : n9 < 32) (H : Hid (wr.cell? ⟨q, 2 + n9, none⟩ = some (.int .i64 2) ∧ wr.cell? ⟨q, 98 + n9, none⟩ = some (ptr q2))) (HC : Hid (∀ W, Ext wr W → Calls Try.prog 99 #[ptr k, ptr q2] W fun e w2 => e = .returned (.bool true) ∧ Ext W w2)) (c : Code) (Q : Exit → Act → World → Prop) (t0 t2 t3 t4 t5 t6 t8 t12 t13 t14 t15 t16 t17 t18 t19 t20 t21 t22 t23 t24 t25 t26 t27 t28 t29 t30 t31 t32 t33 t34 t35 t36 t37 t38 t39 t40 t41 t42 t43 t44 t45 t46 t47 t48 t49 t50 t51 t52 t53 t54 t55 t56 t57 t58 t59 t60 t61 t62 t63 t64 t65 t66 t67 t68 t69 t70 t71 t72 t73 t74 t75 t76 t77 t78 t79 t80 t81 t82 t83 t84 t85 t86 t87 t88 t89 t90 t91 t92 t93 t94 t95 t96 t97 t98 t99 t100 t101 t102 t103 t104 t105 t106 t107 t108 t109 t110 t111 t112 t113 t114 t115 t116 t117 : Value)
    (hc : (Try.f99.body.bind (findR 19)) = some c)
    (hQ : ∀ (u70 u71 u72 u73 u74 u75 u76 u77 u78 u79 u80 u81 u82 u83 u84 u85 u86 u87 u88 u89 u90 u91 u92 u93 u94 u95 u96 u97 u98 u99 u100 u101 u102 u103 u104 u105 u106 u107 u108 u109 u110 u111 u112 u113 u114 u115 : Value) (wx : World), Ext wr wx → Q .normal { tmps := List.toArray (t0 :: (ptr q) :: t2 :: t3 :: t4 :: t5 :: t6 :: (.int .i64 n9) :: t8 :: (.bool false) :: (ptr k) :: (.bool true) :: t12 :: t13 :: t14 :: t15 :: t16 :: t17 :: t18 :: t19 :: t20 :: t21 :: t22 :: t23 :: t24 :: t25 :: t26 :: t27 :: t28 :: t29 :: t30 :: t31 :: t32 :: t33 :: t34 :: t35 :: t36 :: t37 :: t38 :: t39 :: t40 :: t41 :: t42 :: t43 :: t44 :: t45 :: t46 :: t47 :: t48 :: t49 :: t50 :: t51 :: t52 :: t53 :: t54 :: t55 :: t56 :: t57 :: t58 :: t59 :: t60 :: t61 :: t62 :: t63 :: t64 :: t65 :: t66 :: t67 :: t68 :: t69 :: u70 :: u71 :: u72 :: u73 :: u74 :: u75 :: u76 :: u77 :: u78 :: u79 :: u80 :: u81 :: u82 :: u83 :: u84 :: u85 :: u86 :: u87 :: u88 :: u89 :: u90 :: u91 :: u92 :: u93 :: u94 :: u95 :: u96 :: u97 :: u98 :: u99 :: u100 :: u101 :: u102 :: u103 :: u104 :: u105 :: u106 :: u107 :: u108 :: u109 :: u110 :: u111 :: u112 :: u113 :: u114 :: u115 :: (.bool false) :: t117 :: []), defers := [] } wx) :
    c.wp Try.prog Q { tmps := List.toArray (t0 :: (ptr q) :: t2 :: t3 :: t4 :: t5 :: t6 :: (.int .i64 n9) :: t8 :: (.bool false) :: (ptr k) :: (.bool true) :: t12 :: t13 :: t14 :: t15 :: t16 :: t17 :: t18 :: t19 :: t20 :: t21 :: t22 :: t23 :: t24 :: t25 :: t26 :: t27 :: t28 :: t29 :: t30 :: t31 :: t32 :: t33 :: t34 :: t35 :: t36 :: t37 :: t38 :: t39 :: t40 :: t41 :: t42 :: t43 :: t44 :: t45 :: t46 :: t47 :: t48 :: t49 :: t50 :: t51 :: t52 :: t53 :: t54 :: t55 :: t56 :: t57 :: t58 :: t59 :: t60 :: t61 :: t62 :: t63 :: t64 :: t65 :: t66 :: t67 :: t68 :: t69 :: t70 :: t71 :: t72 :: t73 :: t74 :: t75 :: t76 :: t77 :: t78 :: t79 :: t80 :: t81 :: t82 :: t83 :: t84 :: t85 :: t86 :: t87 :: t88 :: t89 :: t90 :: t91 :: t92 :: t93 :: t94 :: t95 :: t96 :: t97 :: t98 :: t99 :: t100 :: t101 :: t102 :: t103 :: t104 :: t105 :: t106 :: t107 :: t108 :: t109 :: t110 :: t111 :: t112 :: t113 :: t114 :: t115 :: t116 :: t117 :: []), defers := [] } wr := by
  change some _ = some c at hc
  cases hc
  have HQF := Lib.hid hQ
  clear hQ
  have hc1 : (n9 : Int) < 32 := by omega
  have hc0 : (0 : Int) ≤ (n9 : Int) := by omega
  obtain ⟨z2, z3⟩ := H.out
  refine wp_region_still_tail 43 (by kernel_rfl) (by kernel_rfl) ?_
  refine St9.h ?_
  simp only [List.take_succ_cons, List.take_zero, List.drop_succ_cons, List.drop_zero]
  refine St9.yes (by kernel_rfl) (fun K hK => ?_)
  go_simp
  refine hK _ ?_
  clear hK K
  refine St9.yes (by kernel_rfl) (fun K hK => ?_)
  go_simp
  refine hK _ ?_
  clear hK K
  refine St9.yes (by kernel_rfl) (fun K hK => ?_)
  go_simp
  refine hK _ ?_
  clear hK K
  refine St9.yes (by kernel_rfl) (fun K hK => ?_)
  go_simp
  refine hK _ ?_
  clear hK K
  refine St9.yes (by kernel_rfl) (fun K hK => ?_)
  go_simp
  refine hK _ ?_
  clear hK K
  refine St9.yes (by kernel_rfl) (fun K hK => ?_)
  go_simp
  refine hK _ ?_
  clear hK K
  refine St9.yes (by kernel_rfl) (fun K hK => ?_)
  go_simp
  refine hK _ ?_
  clear hK K
  refine St9.yes (by kernel_rfl) (fun K hK => ?_)
  go_simp
  refine hK _ ?_
  clear hK K
  refine St9.yes (by kernel_rfl) (fun K hK => ?_)
  go_simp
  refine hK _ ?_
  clear hK K
  refine St9.yes (by kernel_rfl) (fun K hK => ?_)
  go_simp
  refine hK _ ?_
  clear hK K
  refine St9.yes (by kernel_rfl) (fun K hK => ?_)
  go_simp
  refine hK _ ?_
  clear hK K
  refine St9.yes (by kernel_rfl) (fun K hK => ?_)
  go_simp
  refine hK _ ?_
  clear hK K
  refine St9.yes (by kernel_rfl) (fun K hK => ?_)
  go_simp
  refine hK _ ?_
  clear hK K
  refine St9.yes (by kernel_rfl) (fun K hK => ?_)
  go_simp
  refine hK _ ?_
  clear hK K
  refine St9.yes (by kernel_rfl) (fun K hK => ?_)
  go_simp
  refine hK _ ?_
  clear hK K
  refine St9.yes (by kernel_rfl) (fun K hK => ?_)
  go_simp
  refine hK _ ?_
  clear hK K
  refine St9.yes (by kernel_rfl) (fun K hK => ?_)
  go_simp
  refine hK _ ?_
  clear hK K
  refine St9.yes (by kernel_rfl) (fun K hK => ?_)
  go_simp
  refine hK _ ?_
  clear hK K
  refine St9.yes (by kernel_rfl) (fun K hK => ?_)
  go_simp
  refine hK _ ?_
  clear hK K
  refine St9.yes (by kernel_rfl) (fun K hK => ?_)
  go_simp
  refine hK _ ?_
  clear hK K
  refine St9.yes (by kernel_rfl) (fun K hK => ?_)
  go_simp
  refine hK _ ?_
  clear hK K
  refine St9.yes (by kernel_rfl) (fun K hK => ?_)
  go_simp
  refine hK _ ?_
  clear hK K
  refine St9.yes (by kernel_rfl) (fun K hK => ?_)
  go_simp
  refine hK _ ?_
  clear hK K
  refine St9.no (by kernel_rfl) ?_
  try simp only [Act.put, List.setIfInBounds_toArray, List.set_cons_zero, List.set_cons_succ]
  refine St9.no (by kernel_rfl) ?_
  try simp only [Act.put, List.setIfInBounds_toArray, List.set_cons_zero, List.set_cons_succ]
  refine St9.no (by kernel_rfl) ?_
  try simp only [Act.put, List.setIfInBounds_toArray, List.set_cons_zero, List.set_cons_succ]
  refine St9.no (by kernel_rfl) ?_
  try simp only [Act.put, List.setIfInBounds_toArray, List.set_cons_zero, List.set_cons_succ]
  refine St9.no (by kernel_rfl) ?_
  try simp only [Act.put, List.setIfInBounds_toArray, List.set_cons_zero, List.set_cons_succ]
  refine St9.no (by kernel_rfl) ?_
  try simp only [Act.put, List.setIfInBounds_toArray, List.set_cons_zero, List.set_cons_succ]
  refine St9.no (by kernel_rfl) ?_
  try simp only [Act.put, List.setIfInBounds_toArray, List.set_cons_zero, List.set_cons_succ]
  refine St9.no (by kernel_rfl) ?_
  try simp only [Act.put, List.setIfInBounds_toArray, List.set_cons_zero, List.set_cons_succ]
  refine St9.yes (by kernel_rfl) (fun K hK => ?_)
  go_simp
  refine hK _ ?_
  clear hK K
  refine St9.yes (by kernel_rfl) (fun K hK => ?_)
  go_simp
  refine hK _ ?_
  clear hK K
  refine St9.yes (by kernel_rfl) (fun K hK => ?_)
  go_simp
  refine hK _ ?_
  clear hK K
  refine St9.yes (by kernel_rfl) (fun K hK => ?_)
  go_simp
  refine hK _ ?_
  clear hK K
  refine St9.yes (by kernel_rfl) (fun K hK => ?_)
  go_simp
  refine hK _ ?_
  clear hK K
  refine St9.yes (by kernel_rfl) (fun K hK => ?_)
  go_simp
  refine hK _ ?_
  clear hK K
  refine St9.yes (by kernel_rfl) (fun K hK => ?_)
  go_simp
  refine hK _ ?_
  clear hK K
  refine St9.yes (by kernel_rfl) (fun K hK => ?_)
  go_simp
  refine hK _ ?_
  clear hK K
  refine St9.yes (by kernel_rfl) (fun K hK => ?_)
  go_simp
  refine hK _ ?_
  clear hK K
  refine St9.yes (by kernel_rfl) (fun K hK => ?_)
  go_simp
  refine hK _ ?_
  clear hK K
  refine St9.yes (by kernel_rfl) (fun K hK => ?_)
  go_simp
  refine hK _ ?_
  clear hK K
  refine St9.yes (by kernel_rfl) (fun K hK => ?_)
  go_simp
  refine hK _ ?_
  clear hK K
  refine St9.nil ?_
  change wpList _ _ _ _ _ wr.drew
  repeat' (first | go_at_call 99 | go_skip | go_guarded | go_step)
  refine (HC.out wr.drew (ext_drew (Ext.refl wr))).mono ?_
  rintro e w2 ⟨rfl, f2⟩
  have e2 : Hid (Ext wr w2) := Lib.hid ((ext_drew (Ext.refl wr)).trans f2)
  clear f2
  go_simp
  repeat' (first | go_skip | go_guarded | go_step)
  exact HQF.out _ _ _ _ _ _ _ _ _ _ _ _ _ _ _ _ _ _ _ _ _ _ _ _ _ _ _ _ _ _ _ _ _ _ _ _ _ _ _ _ _ _ _ _ _ _ _ e2.out

end Go.Proofs.Ytclcgelbcbnekaa
