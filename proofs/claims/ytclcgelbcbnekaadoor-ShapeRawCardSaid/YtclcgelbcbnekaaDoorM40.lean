/- Texts joined. -/
import Derived.Test.YtclcgelbcbnekaaDoorM38
import Derived.Test.YtclcgelbcbnekaaDoorM33
import Derived.Test.YtclcgelbcbnekaaDoorM34
import Derived.Test.YtclcgelbcbnekaaDoorM41
set_option linter.unusedVariables false
set_option linter.unusedSimpArgs false
/- ShapeRaw: what is stored into the document's trie: laws of their own. -/
namespace Go.Proofs.YtclcgelbcbnekaaDoor
open Go Go.RowKit Go.QS Go.QS.Nk
set_option linter.unusedVariables false
variable [Zero (Nat → Prop)]
set_option linter.unusedSectionVars false

set_option maxRecDepth 100000 in
set_option maxHeartbeats 2000000 in
theorem raw_30 (wr : World) (q k gp : Nat) (A : Array Value) (p : Pr) (z0 z1 z2 : Value) (hk : k < 32) (H : Hid (wr.heap[q]? = some (.cells A TT (0, 0)) ∧ A[2 + k]? = some z0 ∧ A[34 + k * 2]? = some z1 ∧ A[34 + k * 2 + 1]? = some z2 ∧ wr.cell? ⟨gp, 0, none⟩ = some (str p.1) ∧ wr.cell? ⟨gp, 1, none⟩ = some (str p.2) ∧ gp ≠ q)) (c : Code) (Q : Exit → Act → World → Prop) (t0 t1 t2 t3 t4 t5 t6 t7 t10 t11 t12 t13 t14 t16 t17 t18 t19 t20 t21 t22 t23 t24 t25 t26 t27 t28 t29 t30 t31 t32 t33 t34 t35 t36 t37 t38 t39 t40 t41 t42 t43 t44 t45 t46 t47 t48 t49 t50 t51 t52 t53 t54 t55 t56 t57 t58 t59 t60 t61 t62 t63 t64 t65 t66 t67 t68 t69 t70 t71 t72 t73 t74 t75 t76 t77 t78 t79 t80 t81 t82 t83 t84 t85 t86 t87 t88 t89 t90 t91 t92 t93 t94 t95 t96 t97 t98 t99 t100 t101 t102 t103 t104 t105 t106 t107 t108 t109 t110 t111 t112 t113 t114 t115 t116 t117 t118 t119 t120 t121 t122 t123 t124 t125 t126 t127 t128 t129 t130 t131 t132 t133 t134 t135 t136 t137 t138 t139 t140 t141 t142 t143 t144 t145 t146 t147 t148 t149 t150 t151 t152 t153 : Value)
    (hc : (Tryd.f7.body.bind (findR 30)) = some c)
    (hQ : ∀ (u129 u130 u131 u132 u133 u134 u135 u136 u137 u138 u139 : Value) (wx : World), wx.heap[q]? = some (.cells (setP A k p) TT (0, 0)) ∧ Only (fun k => k = q) wr wx → Q .normal { tmps := List.toArray (t0 :: t1 :: t2 :: t3 :: t4 :: t5 :: t6 :: t7 :: (.int .i64 k) :: (ptr gp) :: t10 :: t11 :: t12 :: t13 :: t14 :: (ptr q) :: t16 :: t17 :: t18 :: t19 :: t20 :: t21 :: t22 :: t23 :: t24 :: t25 :: t26 :: t27 :: t28 :: t29 :: t30 :: t31 :: t32 :: t33 :: t34 :: t35 :: t36 :: t37 :: t38 :: t39 :: t40 :: t41 :: t42 :: t43 :: t44 :: t45 :: t46 :: t47 :: t48 :: t49 :: t50 :: t51 :: t52 :: t53 :: t54 :: t55 :: t56 :: t57 :: t58 :: t59 :: t60 :: t61 :: t62 :: t63 :: t64 :: t65 :: t66 :: t67 :: t68 :: t69 :: t70 :: t71 :: t72 :: t73 :: t74 :: t75 :: t76 :: t77 :: t78 :: t79 :: t80 :: t81 :: t82 :: t83 :: t84 :: t85 :: t86 :: t87 :: t88 :: t89 :: t90 :: t91 :: t92 :: t93 :: t94 :: t95 :: t96 :: t97 :: t98 :: t99 :: t100 :: t101 :: t102 :: t103 :: t104 :: t105 :: t106 :: t107 :: t108 :: t109 :: t110 :: t111 :: t112 :: t113 :: t114 :: t115 :: t116 :: t117 :: t118 :: t119 :: t120 :: t121 :: t122 :: t123 :: t124 :: t125 :: t126 :: t127 :: t128 :: u129 :: u130 :: u131 :: u132 :: u133 :: u134 :: u135 :: u136 :: u137 :: u138 :: u139 :: t140 :: t141 :: t142 :: t143 :: t144 :: t145 :: t146 :: t147 :: t148 :: t149 :: t150 :: t151 :: t152 :: t153 :: []), defers := [] } wx) :
    c.wp Tryd.prog Q { tmps := List.toArray (t0 :: t1 :: t2 :: t3 :: t4 :: t5 :: t6 :: t7 :: (.int .i64 k) :: (ptr gp) :: t10 :: t11 :: t12 :: t13 :: t14 :: (ptr q) :: t16 :: t17 :: t18 :: t19 :: t20 :: t21 :: t22 :: t23 :: t24 :: t25 :: t26 :: t27 :: t28 :: t29 :: t30 :: t31 :: t32 :: t33 :: t34 :: t35 :: t36 :: t37 :: t38 :: t39 :: t40 :: t41 :: t42 :: t43 :: t44 :: t45 :: t46 :: t47 :: t48 :: t49 :: t50 :: t51 :: t52 :: t53 :: t54 :: t55 :: t56 :: t57 :: t58 :: t59 :: t60 :: t61 :: t62 :: t63 :: t64 :: t65 :: t66 :: t67 :: t68 :: t69 :: t70 :: t71 :: t72 :: t73 :: t74 :: t75 :: t76 :: t77 :: t78 :: t79 :: t80 :: t81 :: t82 :: t83 :: t84 :: t85 :: t86 :: t87 :: t88 :: t89 :: t90 :: t91 :: t92 :: t93 :: t94 :: t95 :: t96 :: t97 :: t98 :: t99 :: t100 :: t101 :: t102 :: t103 :: t104 :: t105 :: t106 :: t107 :: t108 :: t109 :: t110 :: t111 :: t112 :: t113 :: t114 :: t115 :: t116 :: t117 :: t118 :: t119 :: t120 :: t121 :: t122 :: t123 :: t124 :: t125 :: t126 :: t127 :: t128 :: t129 :: t130 :: t131 :: t132 :: t133 :: t134 :: t135 :: t136 :: t137 :: t138 :: t139 :: t140 :: t141 :: t142 :: t143 :: t144 :: t145 :: t146 :: t147 :: t148 :: t149 :: t150 :: t151 :: t152 :: t153 :: []), defers := [] } wr := by
  change some _ = some c at hc
  cases hc
  have HQF := Lib.hid hQ
  clear hQ
  have hc1 : (k : Int) < 32 := by omega
  have hc0 : (0 : Int) ≤ (k : Int) := by omega
  obtain ⟨hq, a0, a1, a2, o0, o1, hne⟩ := H.out
  have c0 := cell_at hq a0
  have c1 := cell_at hq a1
  have c2 := cell_at hq a2
  have cf : ∀ j, wr.frozen? ⟨q, j, none⟩ = false := fun j => by simp [World.frozen?, hq]
  clear hq a0 a1 a2 hne
  refine wp_region_noPanic ?_
  refine wp_region_T (n := 13) (S := (fun w' : World => w'.cell? ⟨gp, 0, none⟩ = some (str p.1) ∧ w'.cell? ⟨gp, 1, none⟩ = some (str p.2))) (by kernel_rfl) ?_
  change wpAnyT _ _ _ _ _ _ 13 _ _ wr.drew
  have hH : (fun w' : World => w'.cell? ⟨gp, 0, none⟩ = some (str p.1) ∧ w'.cell? ⟨gp, 1, none⟩ = some (str p.2)) wr.drew := ⟨o0, o1⟩
  refine wpAnyT_take (i := 0) (v := ?_) rfl (by kernel_rfl) (by kernel_rfl) (by kernel_rfl) (by kernel_rfl) (fun _ _ _ h => h) (Or.inl ⟨by rfl, ?_⟩) hH ?_
  rotate_left
  · (intro w hSw; (try dsimp only at hSw); obtain ⟨s0, s1⟩ := hSw; go_simp; try with_reducible rfl)
  try simp only [Act.put, List.setIfInBounds_toArray, List.set_cons_zero, List.set_cons_succ]
  refine wpAnyT_take (i := 1) (v := ?_) rfl (by kernel_rfl) (by kernel_rfl) (by kernel_rfl) (by kernel_rfl) (fun _ _ _ h => h) (Or.inl ⟨by rfl, ?_⟩) hH ?_
  rotate_left
  · (intro w hSw; (try dsimp only at hSw); obtain ⟨s0, s1⟩ := hSw; go_simp; try with_reducible rfl)
  try simp only [Act.put, List.setIfInBounds_toArray, List.set_cons_zero, List.set_cons_succ]
  refine wpAnyT_take (i := 2) (v := ?_) rfl (by kernel_rfl) (by kernel_rfl) (by kernel_rfl) (by kernel_rfl) (fun _ _ _ h => h) (Or.inl ⟨by rfl, ?_⟩) hH ?_
  rotate_left
  · (intro w hSw; (try dsimp only at hSw); obtain ⟨s0, s1⟩ := hSw; go_simp; try with_reducible rfl)
  try simp only [Act.put, List.setIfInBounds_toArray, List.set_cons_zero, List.set_cons_succ]
  refine wpAnyT_take (i := 3) (v := ?_) rfl (by kernel_rfl) (by kernel_rfl) (by kernel_rfl) (by kernel_rfl) (fun _ _ _ h => h) (Or.inl ⟨by rfl, ?_⟩) hH ?_
  rotate_left
  · (intro w hSw; (try dsimp only at hSw); obtain ⟨s0, s1⟩ := hSw; go_simp; try with_reducible rfl)
  try simp only [Act.put, List.setIfInBounds_toArray, List.set_cons_zero, List.set_cons_succ]
  refine wpAnyT_take (i := 4) (v := ?_) rfl (by kernel_rfl) (by kernel_rfl) (by kernel_rfl) (by kernel_rfl) (fun _ _ _ h => h) (Or.inl ⟨by rfl, ?_⟩) hH ?_
  rotate_left
  · (intro w hSw; (try dsimp only at hSw); obtain ⟨s0, s1⟩ := hSw; go_simp; try with_reducible rfl)
  try simp only [Act.put, List.setIfInBounds_toArray, List.set_cons_zero, List.set_cons_succ]
  refine wpAnyT_take (i := 5) (v := ?_) rfl (by kernel_rfl) (by kernel_rfl) (by kernel_rfl) (by kernel_rfl) (fun _ _ _ h => h) (Or.inl ⟨by rfl, ?_⟩) hH ?_
  rotate_left
  · (intro w hSw; (try dsimp only at hSw); obtain ⟨s0, s1⟩ := hSw; go_simp; try with_reducible rfl)
  try simp only [Act.put, List.setIfInBounds_toArray, List.set_cons_zero, List.set_cons_succ]
  refine wpAnyT_take (i := 6) (v := ?_) rfl (by kernel_rfl) (by kernel_rfl) (by kernel_rfl) (by kernel_rfl) (fun _ _ _ h => h) (Or.inl ⟨by rfl, ?_⟩) hH ?_
  rotate_left
  · (intro w hSw; (try dsimp only at hSw); obtain ⟨s0, s1⟩ := hSw; go_simp; try with_reducible rfl)
  try simp only [Act.put, List.setIfInBounds_toArray, List.set_cons_zero, List.set_cons_succ]
  refine wpAnyT_take (i := 7) (v := ?_) rfl (by kernel_rfl) (by kernel_rfl) (by kernel_rfl) (by kernel_rfl) (fun _ _ _ h => h) (Or.inl ⟨by rfl, ?_⟩) hH ?_
  rotate_left
  · (intro w hSw; (try dsimp only at hSw); obtain ⟨s0, s1⟩ := hSw; go_simp; try with_reducible rfl)
  try simp only [Act.put, List.setIfInBounds_toArray, List.set_cons_zero, List.set_cons_succ]
  refine wpAnyT_take (i := 9) (v := ?_) rfl (by kernel_rfl) (by kernel_rfl) (by kernel_rfl) (by kernel_rfl) (fun _ _ _ h => h) (Or.inl ⟨by rfl, ?_⟩) hH ?_
  rotate_left
  · (intro w hSw; (try dsimp only at hSw); obtain ⟨s0, s1⟩ := hSw; go_simp; try with_reducible rfl)
  try simp only [Act.put, List.setIfInBounds_toArray, List.set_cons_zero, List.set_cons_succ]
  refine wpAnyT_take (i := 10) (v := ?_) rfl (by kernel_rfl) (by kernel_rfl) (by kernel_rfl) (by kernel_rfl) (fun _ _ _ h => h) (Or.inl ⟨by rfl, ?_⟩) hH ?_
  rotate_left
  · (intro w hSw; (try dsimp only at hSw); obtain ⟨s0, s1⟩ := hSw; go_simp; try with_reducible rfl)
  try simp only [Act.put, List.setIfInBounds_toArray, List.set_cons_zero, List.set_cons_succ]
  refine wpAnyT_one (i := 8) (by kernel_rfl) ?_
  refine wpOp_goK rfl rfl (fun K9 hK9 => ?_)
  go_simp
  have O1 : Only (fun j => j = q) wr ((wr.setCell ⟨q, 2 + k, none⟩ (.int .i64 1)).drew) := (Only.setCell (S := fun j => j = q) (p := ⟨q, 2 + k, none⟩) (Only.refl wr) (.inl rfl) _).drew
  obtain ⟨hq, a0, a1, a2, _, _, hne⟩ := H.out
  have hq1 : ((wr.setCell ⟨q, 2 + k, none⟩ (.int .i64 1)).drew).heap[q]? = some (.cells (A.setIfInBounds (2 + k) (.int .i64 1)) TT (0, 0)) := heap_set hq (2 + k) _
  refine hK9.out _ _ ⟨.inr ⟨O1.cell o0 hne, O1.cell o1 hne⟩, ?_⟩
  clear hK9 K9 hH
  have hH : (fun w' : World => w'.cell? ⟨gp, 0, none⟩ = some (str p.1) ∧ w'.cell? ⟨gp, 1, none⟩ = some (str p.2)) ((wr.setCell ⟨q, 2 + k, none⟩ (.int .i64 1)).drew) := ⟨O1.cell o0 hne, O1.cell o1 hne⟩
  obtain ⟨w1, hw1⟩ : ∃ w1, w1 = (wr.setCell ⟨q, 2 + k, none⟩ (.int .i64 1)).drew := ⟨_, rfl⟩
  rw [← hw1] at O1 hq1 hH ⊢
  clear hw1 c0 c1 c2 cf hq
  have c1 := cell_at hq1 (j := 34 + k * 2) (by rw [Array.getElem?_setIfInBounds_ne (by omega)]; exact a1)
  have c2 := cell_at hq1 (j := 34 + k * 2 + 1) (by rw [Array.getElem?_setIfInBounds_ne (by omega)]; exact a2)
  have cf : ∀ j, w1.frozen? ⟨q, j, none⟩ = false := fun j => by simp [World.frozen?, hq1]
  have H1 := Lib.hid (And.intro hq1 (And.intro O1 hne))
  clear hq1 O1 a0 a1 a2 hne
  refine wpAnyT_take (i := 11) (v := ?_) rfl (by kernel_rfl) (by kernel_rfl) (by kernel_rfl) (by kernel_rfl) (fun _ _ _ h => h) (Or.inl ⟨by rfl, ?_⟩) hH ?_
  rotate_left
  · (intro w hSw; (try dsimp only at hSw); obtain ⟨s0, s1⟩ := hSw; go_simp; try with_reducible rfl)
  try simp only [Act.put, List.setIfInBounds_toArray, List.set_cons_zero, List.set_cons_succ]
  refine wpAnyT_one (i := 12) (by kernel_rfl) ?_
  refine wpOp_goK rfl rfl (fun K9 hK9 => ?_)
  go_simp
  have O2 : Only (fun j => j = q) wr ((w1.setCell ⟨q, 34 + k * 2, none⟩ (str p.1)).setCell ⟨q, 34 + k * 2 + 1, none⟩ (str p.2)) := (H1.out.2.1.setCell (p := ⟨q, 34 + k * 2, none⟩) (.inl rfl) _).setCell (p := ⟨q, 34 + k * 2 + 1, none⟩) (.inl rfl) _
  refine hK9.out _ _ ⟨.inr ⟨O2.cell H.out.2.2.2.2.1 H1.out.2.2, O2.cell H.out.2.2.2.2.2.1 H1.out.2.2⟩, (by kernel_rfl), ?_⟩
  refine NoPanic.normal ?_
  exact HQF.out _ _ _ _ _ _ _ _ _ _ _ _ ⟨heap_set (heap_set H1.out.1 _ _) _ _, O2⟩

set_option maxRecDepth 100000 in
set_option maxHeartbeats 2000000 in
theorem raw_10 (wr : World) (q k gp : Nat) (A : Array Value) (p : Pr) (z0 z1 z2 : Value) (hk : k < 32) (H : Hid (wr.heap[q]? = some (.cells A TT (0, 0)) ∧ A[2 + k]? = some z0 ∧ A[34 + k * 2]? = some z1 ∧ A[34 + k * 2 + 1]? = some z2 ∧ wr.cell? ⟨gp, 0, none⟩ = some (str p.1) ∧ wr.cell? ⟨gp, 1, none⟩ = some (str p.2) ∧ gp ≠ q)) (c : Code) (Q : Exit → Act → World → Prop) (t0 t1 t2 t3 t4 t6 t7 t10 t11 t12 t13 t14 t15 t16 t17 t18 t19 t20 t21 t22 t23 t24 t25 t26 t27 t28 t29 t30 t31 t32 t33 t34 t35 t36 t37 t38 t39 t40 t41 t42 t43 t44 t45 t46 t47 t48 t49 t50 t51 t52 t53 t54 t55 t56 t57 t58 t59 t60 t61 t62 t63 t64 t65 t66 t67 t68 t69 t70 t71 t72 t73 t74 t75 t76 t77 t78 t79 t80 t81 t82 t83 t84 t85 t86 t87 t88 t89 t90 t91 t92 t93 t94 t95 t96 t97 t98 t99 t100 t101 t102 t103 t104 t105 t106 t107 t108 t109 t110 t111 t112 t113 t114 t115 t116 t117 t118 t119 t120 t121 t122 t123 t124 t125 t126 t127 t128 t129 t130 t131 t132 t133 t134 t135 t136 t137 t138 t139 t140 t141 t142 t143 t144 t145 t146 t147 t148 t149 t150 t151 t152 t153 : Value)
    (hc : (Tryd.f7.body.bind (findR 10)) = some c)
    (hQ : ∀ (u42 u43 u44 u45 u46 u47 u48 u49 u50 u51 u52 : Value) (wx : World), wx.heap[q]? = some (.cells (setP A k p) TT (0, 0)) ∧ Only (fun k => k = q) wr wx → Q .normal { tmps := List.toArray (t0 :: t1 :: t2 :: t3 :: t4 :: (ptr q) :: t6 :: t7 :: (.int .i64 k) :: (ptr gp) :: t10 :: t11 :: t12 :: t13 :: t14 :: t15 :: t16 :: t17 :: t18 :: t19 :: t20 :: t21 :: t22 :: t23 :: t24 :: t25 :: t26 :: t27 :: t28 :: t29 :: t30 :: t31 :: t32 :: t33 :: t34 :: t35 :: t36 :: t37 :: t38 :: t39 :: t40 :: t41 :: u42 :: u43 :: u44 :: u45 :: u46 :: u47 :: u48 :: u49 :: u50 :: u51 :: u52 :: t53 :: t54 :: t55 :: t56 :: t57 :: t58 :: t59 :: t60 :: t61 :: t62 :: t63 :: t64 :: t65 :: t66 :: t67 :: t68 :: t69 :: t70 :: t71 :: t72 :: t73 :: t74 :: t75 :: t76 :: t77 :: t78 :: t79 :: t80 :: t81 :: t82 :: t83 :: t84 :: t85 :: t86 :: t87 :: t88 :: t89 :: t90 :: t91 :: t92 :: t93 :: t94 :: t95 :: t96 :: t97 :: t98 :: t99 :: t100 :: t101 :: t102 :: t103 :: t104 :: t105 :: t106 :: t107 :: t108 :: t109 :: t110 :: t111 :: t112 :: t113 :: t114 :: t115 :: t116 :: t117 :: t118 :: t119 :: t120 :: t121 :: t122 :: t123 :: t124 :: t125 :: t126 :: t127 :: t128 :: t129 :: t130 :: t131 :: t132 :: t133 :: t134 :: t135 :: t136 :: t137 :: t138 :: t139 :: t140 :: t141 :: t142 :: t143 :: t144 :: t145 :: t146 :: t147 :: t148 :: t149 :: t150 :: t151 :: t152 :: t153 :: []), defers := [] } wx) :
    c.wp Tryd.prog Q { tmps := List.toArray (t0 :: t1 :: t2 :: t3 :: t4 :: (ptr q) :: t6 :: t7 :: (.int .i64 k) :: (ptr gp) :: t10 :: t11 :: t12 :: t13 :: t14 :: t15 :: t16 :: t17 :: t18 :: t19 :: t20 :: t21 :: t22 :: t23 :: t24 :: t25 :: t26 :: t27 :: t28 :: t29 :: t30 :: t31 :: t32 :: t33 :: t34 :: t35 :: t36 :: t37 :: t38 :: t39 :: t40 :: t41 :: t42 :: t43 :: t44 :: t45 :: t46 :: t47 :: t48 :: t49 :: t50 :: t51 :: t52 :: t53 :: t54 :: t55 :: t56 :: t57 :: t58 :: t59 :: t60 :: t61 :: t62 :: t63 :: t64 :: t65 :: t66 :: t67 :: t68 :: t69 :: t70 :: t71 :: t72 :: t73 :: t74 :: t75 :: t76 :: t77 :: t78 :: t79 :: t80 :: t81 :: t82 :: t83 :: t84 :: t85 :: t86 :: t87 :: t88 :: t89 :: t90 :: t91 :: t92 :: t93 :: t94 :: t95 :: t96 :: t97 :: t98 :: t99 :: t100 :: t101 :: t102 :: t103 :: t104 :: t105 :: t106 :: t107 :: t108 :: t109 :: t110 :: t111 :: t112 :: t113 :: t114 :: t115 :: t116 :: t117 :: t118 :: t119 :: t120 :: t121 :: t122 :: t123 :: t124 :: t125 :: t126 :: t127 :: t128 :: t129 :: t130 :: t131 :: t132 :: t133 :: t134 :: t135 :: t136 :: t137 :: t138 :: t139 :: t140 :: t141 :: t142 :: t143 :: t144 :: t145 :: t146 :: t147 :: t148 :: t149 :: t150 :: t151 :: t152 :: t153 :: []), defers := [] } wr := by
  change some _ = some c at hc
  cases hc
  have HQF := Lib.hid hQ
  clear hQ
  have hc1 : (k : Int) < 32 := by omega
  have hc0 : (0 : Int) ≤ (k : Int) := by omega
  obtain ⟨hq, a0, a1, a2, o0, o1, hne⟩ := H.out
  have c0 := cell_at hq a0
  have c1 := cell_at hq a1
  have c2 := cell_at hq a2
  have cf : ∀ j, wr.frozen? ⟨q, j, none⟩ = false := fun j => by simp [World.frozen?, hq]
  clear hq a0 a1 a2 hne
  refine wp_region_noPanic ?_
  refine wp_region_T (n := 13) (S := (fun w' : World => w'.cell? ⟨gp, 0, none⟩ = some (str p.1) ∧ w'.cell? ⟨gp, 1, none⟩ = some (str p.2))) (by kernel_rfl) ?_
  change wpAnyT _ _ _ _ _ _ 13 _ _ wr.drew
  have hH : (fun w' : World => w'.cell? ⟨gp, 0, none⟩ = some (str p.1) ∧ w'.cell? ⟨gp, 1, none⟩ = some (str p.2)) wr.drew := ⟨o0, o1⟩
  refine wpAnyT_take (i := 0) (v := ?_) rfl (by kernel_rfl) (by kernel_rfl) (by kernel_rfl) (by kernel_rfl) (fun _ _ _ h => h) (Or.inl ⟨by rfl, ?_⟩) hH ?_
  rotate_left
  · (intro w hSw; (try dsimp only at hSw); obtain ⟨s0, s1⟩ := hSw; go_simp; try with_reducible rfl)
  try simp only [Act.put, List.setIfInBounds_toArray, List.set_cons_zero, List.set_cons_succ]
  refine wpAnyT_take (i := 1) (v := ?_) rfl (by kernel_rfl) (by kernel_rfl) (by kernel_rfl) (by kernel_rfl) (fun _ _ _ h => h) (Or.inl ⟨by rfl, ?_⟩) hH ?_
  rotate_left
  · (intro w hSw; (try dsimp only at hSw); obtain ⟨s0, s1⟩ := hSw; go_simp; try with_reducible rfl)
  try simp only [Act.put, List.setIfInBounds_toArray, List.set_cons_zero, List.set_cons_succ]
  refine wpAnyT_take (i := 2) (v := ?_) rfl (by kernel_rfl) (by kernel_rfl) (by kernel_rfl) (by kernel_rfl) (fun _ _ _ h => h) (Or.inl ⟨by rfl, ?_⟩) hH ?_
  rotate_left
  · (intro w hSw; (try dsimp only at hSw); obtain ⟨s0, s1⟩ := hSw; go_simp; try with_reducible rfl)
  try simp only [Act.put, List.setIfInBounds_toArray, List.set_cons_zero, List.set_cons_succ]
  refine wpAnyT_take (i := 3) (v := ?_) rfl (by kernel_rfl) (by kernel_rfl) (by kernel_rfl) (by kernel_rfl) (fun _ _ _ h => h) (Or.inl ⟨by rfl, ?_⟩) hH ?_
  rotate_left
  · (intro w hSw; (try dsimp only at hSw); obtain ⟨s0, s1⟩ := hSw; go_simp; try with_reducible rfl)
  try simp only [Act.put, List.setIfInBounds_toArray, List.set_cons_zero, List.set_cons_succ]
  refine wpAnyT_take (i := 4) (v := ?_) rfl (by kernel_rfl) (by kernel_rfl) (by kernel_rfl) (by kernel_rfl) (fun _ _ _ h => h) (Or.inl ⟨by rfl, ?_⟩) hH ?_
  rotate_left
  · (intro w hSw; (try dsimp only at hSw); obtain ⟨s0, s1⟩ := hSw; go_simp; try with_reducible rfl)
  try simp only [Act.put, List.setIfInBounds_toArray, List.set_cons_zero, List.set_cons_succ]
  refine wpAnyT_take (i := 5) (v := ?_) rfl (by kernel_rfl) (by kernel_rfl) (by kernel_rfl) (by kernel_rfl) (fun _ _ _ h => h) (Or.inl ⟨by rfl, ?_⟩) hH ?_
  rotate_left
  · (intro w hSw; (try dsimp only at hSw); obtain ⟨s0, s1⟩ := hSw; go_simp; try with_reducible rfl)
  try simp only [Act.put, List.setIfInBounds_toArray, List.set_cons_zero, List.set_cons_succ]
  refine wpAnyT_take (i := 6) (v := ?_) rfl (by kernel_rfl) (by kernel_rfl) (by kernel_rfl) (by kernel_rfl) (fun _ _ _ h => h) (Or.inl ⟨by rfl, ?_⟩) hH ?_
  rotate_left
  · (intro w hSw; (try dsimp only at hSw); obtain ⟨s0, s1⟩ := hSw; go_simp; try with_reducible rfl)
  try simp only [Act.put, List.setIfInBounds_toArray, List.set_cons_zero, List.set_cons_succ]
  refine wpAnyT_take (i := 7) (v := ?_) rfl (by kernel_rfl) (by kernel_rfl) (by kernel_rfl) (by kernel_rfl) (fun _ _ _ h => h) (Or.inl ⟨by rfl, ?_⟩) hH ?_
  rotate_left
  · (intro w hSw; (try dsimp only at hSw); obtain ⟨s0, s1⟩ := hSw; go_simp; try with_reducible rfl)
  try simp only [Act.put, List.setIfInBounds_toArray, List.set_cons_zero, List.set_cons_succ]
  refine wpAnyT_take (i := 9) (v := ?_) rfl (by kernel_rfl) (by kernel_rfl) (by kernel_rfl) (by kernel_rfl) (fun _ _ _ h => h) (Or.inl ⟨by rfl, ?_⟩) hH ?_
  rotate_left
  · (intro w hSw; (try dsimp only at hSw); obtain ⟨s0, s1⟩ := hSw; go_simp; try with_reducible rfl)
  try simp only [Act.put, List.setIfInBounds_toArray, List.set_cons_zero, List.set_cons_succ]
  refine wpAnyT_take (i := 10) (v := ?_) rfl (by kernel_rfl) (by kernel_rfl) (by kernel_rfl) (by kernel_rfl) (fun _ _ _ h => h) (Or.inl ⟨by rfl, ?_⟩) hH ?_
  rotate_left
  · (intro w hSw; (try dsimp only at hSw); obtain ⟨s0, s1⟩ := hSw; go_simp; try with_reducible rfl)
  try simp only [Act.put, List.setIfInBounds_toArray, List.set_cons_zero, List.set_cons_succ]
  refine wpAnyT_one (i := 8) (by kernel_rfl) ?_
  refine wpOp_goK rfl rfl (fun K9 hK9 => ?_)
  go_simp
  have O1 : Only (fun j => j = q) wr ((wr.setCell ⟨q, 2 + k, none⟩ (.int .i64 1)).drew) := (Only.setCell (S := fun j => j = q) (p := ⟨q, 2 + k, none⟩) (Only.refl wr) (.inl rfl) _).drew
  obtain ⟨hq, a0, a1, a2, _, _, hne⟩ := H.out
  have hq1 : ((wr.setCell ⟨q, 2 + k, none⟩ (.int .i64 1)).drew).heap[q]? = some (.cells (A.setIfInBounds (2 + k) (.int .i64 1)) TT (0, 0)) := heap_set hq (2 + k) _
  refine hK9.out _ _ ⟨.inr ⟨O1.cell o0 hne, O1.cell o1 hne⟩, ?_⟩
  clear hK9 K9 hH
  have hH : (fun w' : World => w'.cell? ⟨gp, 0, none⟩ = some (str p.1) ∧ w'.cell? ⟨gp, 1, none⟩ = some (str p.2)) ((wr.setCell ⟨q, 2 + k, none⟩ (.int .i64 1)).drew) := ⟨O1.cell o0 hne, O1.cell o1 hne⟩
  obtain ⟨w1, hw1⟩ : ∃ w1, w1 = (wr.setCell ⟨q, 2 + k, none⟩ (.int .i64 1)).drew := ⟨_, rfl⟩
  rw [← hw1] at O1 hq1 hH ⊢
  clear hw1 c0 c1 c2 cf hq
  have c1 := cell_at hq1 (j := 34 + k * 2) (by rw [Array.getElem?_setIfInBounds_ne (by omega)]; exact a1)
  have c2 := cell_at hq1 (j := 34 + k * 2 + 1) (by rw [Array.getElem?_setIfInBounds_ne (by omega)]; exact a2)
  have cf : ∀ j, w1.frozen? ⟨q, j, none⟩ = false := fun j => by simp [World.frozen?, hq1]
  have H1 := Lib.hid (And.intro hq1 (And.intro O1 hne))
  clear hq1 O1 a0 a1 a2 hne
  refine wpAnyT_take (i := 11) (v := ?_) rfl (by kernel_rfl) (by kernel_rfl) (by kernel_rfl) (by kernel_rfl) (fun _ _ _ h => h) (Or.inl ⟨by rfl, ?_⟩) hH ?_
  rotate_left
  · (intro w hSw; (try dsimp only at hSw); obtain ⟨s0, s1⟩ := hSw; go_simp; try with_reducible rfl)
  try simp only [Act.put, List.setIfInBounds_toArray, List.set_cons_zero, List.set_cons_succ]
  refine wpAnyT_one (i := 12) (by kernel_rfl) ?_
  refine wpOp_goK rfl rfl (fun K9 hK9 => ?_)
  go_simp
  have O2 : Only (fun j => j = q) wr ((w1.setCell ⟨q, 34 + k * 2, none⟩ (str p.1)).setCell ⟨q, 34 + k * 2 + 1, none⟩ (str p.2)) := (H1.out.2.1.setCell (p := ⟨q, 34 + k * 2, none⟩) (.inl rfl) _).setCell (p := ⟨q, 34 + k * 2 + 1, none⟩) (.inl rfl) _
  refine hK9.out _ _ ⟨.inr ⟨O2.cell H.out.2.2.2.2.1 H1.out.2.2, O2.cell H.out.2.2.2.2.2.1 H1.out.2.2⟩, (by kernel_rfl), ?_⟩
  refine NoPanic.normal ?_
  exact HQF.out _ _ _ _ _ _ _ _ _ _ _ _ ⟨heap_set (heap_set H1.out.1 _ _) _ _, O2⟩

set_option maxRecDepth 100000 in
set_option maxHeartbeats 2000000 in
theorem raw_14 (wr : World) (q k q2 : Nat) (A : Array Value) (z0 z1 : Value) (hk : k < 32) (H : Hid (wr.heap[q]? = some (.cells A TT (0, 0)) ∧ A[2 + k]? = some z0 ∧ A[98 + k]? = some z1)) (c : Code) (Q : Exit → Act → World → Prop) (t0 t1 t2 t3 t4 t6 t7 t9 t11 t12 t13 t14 t15 t16 t17 t18 t19 t20 t21 t22 t23 t24 t25 t26 t27 t28 t29 t30 t31 t32 t33 t34 t35 t36 t37 t38 t39 t40 t41 t42 t43 t44 t45 t46 t47 t48 t49 t50 t51 t52 t53 t54 t55 t56 t57 t58 t59 t60 t61 t62 t63 t64 t65 t66 t67 t68 t69 t70 t71 t72 t73 t74 t75 t76 t77 t78 t79 t80 t81 t82 t83 t84 t85 t86 t87 t88 t89 t90 t91 t92 t93 t94 t95 t96 t97 t98 t99 t100 t101 t102 t103 t104 t105 t106 t107 t108 t109 t110 t111 t112 t113 t114 t115 t116 t117 t118 t119 t120 t121 t122 t123 t124 t125 t126 t127 t128 t129 t130 t131 t132 t133 t134 t135 t136 t137 t138 t139 t140 t141 t142 t143 t144 t145 t146 t147 t148 t149 t150 t151 t152 t153 : Value)
    (hc : (Tryd.f7.body.bind (findR 14)) = some c)
    (hQ : ∀ (u61 u62 u63 u64 u65 u66 u67 u68 u69 u70 u71 : Value) (wx : World), wx.heap[q]? = some (.cells (setK A k q2) TT (0, 0)) ∧ Only (fun k => k = q) wr wx → Q .normal { tmps := List.toArray (t0 :: t1 :: t2 :: t3 :: t4 :: (ptr q2) :: t6 :: t7 :: (.int .i64 k) :: t9 :: (ptr q) :: t11 :: t12 :: t13 :: t14 :: t15 :: t16 :: t17 :: t18 :: t19 :: t20 :: t21 :: t22 :: t23 :: t24 :: t25 :: t26 :: t27 :: t28 :: t29 :: t30 :: t31 :: t32 :: t33 :: t34 :: t35 :: t36 :: t37 :: t38 :: t39 :: t40 :: t41 :: t42 :: t43 :: t44 :: t45 :: t46 :: t47 :: t48 :: t49 :: t50 :: t51 :: t52 :: t53 :: t54 :: t55 :: t56 :: t57 :: t58 :: t59 :: t60 :: u61 :: u62 :: u63 :: u64 :: u65 :: u66 :: u67 :: u68 :: u69 :: u70 :: u71 :: t72 :: t73 :: t74 :: t75 :: t76 :: t77 :: t78 :: t79 :: t80 :: t81 :: t82 :: t83 :: t84 :: t85 :: t86 :: t87 :: t88 :: t89 :: t90 :: t91 :: t92 :: t93 :: t94 :: t95 :: t96 :: t97 :: t98 :: t99 :: t100 :: t101 :: t102 :: t103 :: t104 :: t105 :: t106 :: t107 :: t108 :: t109 :: t110 :: t111 :: t112 :: t113 :: t114 :: t115 :: t116 :: t117 :: t118 :: t119 :: t120 :: t121 :: t122 :: t123 :: t124 :: t125 :: t126 :: t127 :: t128 :: t129 :: t130 :: t131 :: t132 :: t133 :: t134 :: t135 :: t136 :: t137 :: t138 :: t139 :: t140 :: t141 :: t142 :: t143 :: t144 :: t145 :: t146 :: t147 :: t148 :: t149 :: t150 :: t151 :: t152 :: t153 :: []), defers := [] } wx) :
    c.wp Tryd.prog Q { tmps := List.toArray (t0 :: t1 :: t2 :: t3 :: t4 :: (ptr q2) :: t6 :: t7 :: (.int .i64 k) :: t9 :: (ptr q) :: t11 :: t12 :: t13 :: t14 :: t15 :: t16 :: t17 :: t18 :: t19 :: t20 :: t21 :: t22 :: t23 :: t24 :: t25 :: t26 :: t27 :: t28 :: t29 :: t30 :: t31 :: t32 :: t33 :: t34 :: t35 :: t36 :: t37 :: t38 :: t39 :: t40 :: t41 :: t42 :: t43 :: t44 :: t45 :: t46 :: t47 :: t48 :: t49 :: t50 :: t51 :: t52 :: t53 :: t54 :: t55 :: t56 :: t57 :: t58 :: t59 :: t60 :: t61 :: t62 :: t63 :: t64 :: t65 :: t66 :: t67 :: t68 :: t69 :: t70 :: t71 :: t72 :: t73 :: t74 :: t75 :: t76 :: t77 :: t78 :: t79 :: t80 :: t81 :: t82 :: t83 :: t84 :: t85 :: t86 :: t87 :: t88 :: t89 :: t90 :: t91 :: t92 :: t93 :: t94 :: t95 :: t96 :: t97 :: t98 :: t99 :: t100 :: t101 :: t102 :: t103 :: t104 :: t105 :: t106 :: t107 :: t108 :: t109 :: t110 :: t111 :: t112 :: t113 :: t114 :: t115 :: t116 :: t117 :: t118 :: t119 :: t120 :: t121 :: t122 :: t123 :: t124 :: t125 :: t126 :: t127 :: t128 :: t129 :: t130 :: t131 :: t132 :: t133 :: t134 :: t135 :: t136 :: t137 :: t138 :: t139 :: t140 :: t141 :: t142 :: t143 :: t144 :: t145 :: t146 :: t147 :: t148 :: t149 :: t150 :: t151 :: t152 :: t153 :: []), defers := [] } wr := by
  change some _ = some c at hc
  cases hc
  have HQF := Lib.hid hQ
  clear hQ
  have hc1 : (k : Int) < 32 := by omega
  have hc0 : (0 : Int) ≤ (k : Int) := by omega
  obtain ⟨hq, a0, a1⟩ := H.out
  have c0 := cell_at hq a0
  have c1 := cell_at hq a1
  have cf : ∀ j, wr.frozen? ⟨q, j, none⟩ = false := fun j => by simp [World.frozen?, hq]
  clear hq a0 a1
  refine wp_region_noPanic ?_
  refine wp_region_T (n := 13) (S := (fun _ : World => True)) (by kernel_rfl) ?_
  change wpAnyT _ _ _ _ _ _ 13 _ _ wr.drew
  have hH : (fun _ : World => True) wr.drew := trivial
  refine wpAnyT_take (i := 0) (v := ?_) rfl (by kernel_rfl) (by kernel_rfl) (by kernel_rfl) (by kernel_rfl) (fun _ _ _ h => h) (Or.inl ⟨by rfl, ?_⟩) hH ?_
  rotate_left
  · (intro w hSw; skip; go_simp; try with_reducible rfl)
  try simp only [Act.put, List.setIfInBounds_toArray, List.set_cons_zero, List.set_cons_succ]
  refine wpAnyT_take (i := 1) (v := ?_) rfl (by kernel_rfl) (by kernel_rfl) (by kernel_rfl) (by kernel_rfl) (fun _ _ _ h => h) (Or.inl ⟨by rfl, ?_⟩) hH ?_
  rotate_left
  · (intro w hSw; skip; go_simp; try with_reducible rfl)
  try simp only [Act.put, List.setIfInBounds_toArray, List.set_cons_zero, List.set_cons_succ]
  refine wpAnyT_take (i := 2) (v := ?_) rfl (by kernel_rfl) (by kernel_rfl) (by kernel_rfl) (by kernel_rfl) (fun _ _ _ h => h) (Or.inl ⟨by rfl, ?_⟩) hH ?_
  rotate_left
  · (intro w hSw; skip; go_simp; try with_reducible rfl)
  try simp only [Act.put, List.setIfInBounds_toArray, List.set_cons_zero, List.set_cons_succ]
  refine wpAnyT_take (i := 3) (v := ?_) rfl (by kernel_rfl) (by kernel_rfl) (by kernel_rfl) (by kernel_rfl) (fun _ _ _ h => h) (Or.inl ⟨by rfl, ?_⟩) hH ?_
  rotate_left
  · (intro w hSw; skip; go_simp; try with_reducible rfl)
  try simp only [Act.put, List.setIfInBounds_toArray, List.set_cons_zero, List.set_cons_succ]
  refine wpAnyT_take (i := 4) (v := ?_) rfl (by kernel_rfl) (by kernel_rfl) (by kernel_rfl) (by kernel_rfl) (fun _ _ _ h => h) (Or.inl ⟨by rfl, ?_⟩) hH ?_
  rotate_left
  · (intro w hSw; skip; go_simp; try with_reducible rfl)
  try simp only [Act.put, List.setIfInBounds_toArray, List.set_cons_zero, List.set_cons_succ]
  refine wpAnyT_take (i := 5) (v := ?_) rfl (by kernel_rfl) (by kernel_rfl) (by kernel_rfl) (by kernel_rfl) (fun _ _ _ h => h) (Or.inl ⟨by rfl, ?_⟩) hH ?_
  rotate_left
  · (intro w hSw; skip; go_simp; try with_reducible rfl)
  try simp only [Act.put, List.setIfInBounds_toArray, List.set_cons_zero, List.set_cons_succ]
  refine wpAnyT_take (i := 6) (v := ?_) rfl (by kernel_rfl) (by kernel_rfl) (by kernel_rfl) (by kernel_rfl) (fun _ _ _ h => h) (Or.inl ⟨by rfl, ?_⟩) hH ?_
  rotate_left
  · (intro w hSw; skip; go_simp; try with_reducible rfl)
  try simp only [Act.put, List.setIfInBounds_toArray, List.set_cons_zero, List.set_cons_succ]
  refine wpAnyT_take (i := 7) (v := ?_) rfl (by kernel_rfl) (by kernel_rfl) (by kernel_rfl) (by kernel_rfl) (fun _ _ _ h => h) (Or.inl ⟨by rfl, ?_⟩) hH ?_
  rotate_left
  · (intro w hSw; skip; go_simp; try with_reducible rfl)
  try simp only [Act.put, List.setIfInBounds_toArray, List.set_cons_zero, List.set_cons_succ]
  refine wpAnyT_take (i := 9) (v := ?_) rfl (by kernel_rfl) (by kernel_rfl) (by kernel_rfl) (by kernel_rfl) (fun _ _ _ h => h) (Or.inl ⟨by rfl, ?_⟩) hH ?_
  rotate_left
  · (intro w hSw; skip; go_simp; try with_reducible rfl)
  try simp only [Act.put, List.setIfInBounds_toArray, List.set_cons_zero, List.set_cons_succ]
  refine wpAnyT_take (i := 10) (v := ?_) rfl (by kernel_rfl) (by kernel_rfl) (by kernel_rfl) (by kernel_rfl) (fun _ _ _ h => h) (Or.inl ⟨by rfl, ?_⟩) hH ?_
  rotate_left
  · (intro w hSw; skip; go_simp; try with_reducible rfl)
  try simp only [Act.put, List.setIfInBounds_toArray, List.set_cons_zero, List.set_cons_succ]
  refine wpAnyT_one (i := 8) (by kernel_rfl) ?_
  refine wpOp_goK rfl rfl (fun K9 hK9 => ?_)
  go_simp
  have O1 : Only (fun j => j = q) wr ((wr.setCell ⟨q, 2 + k, none⟩ (.int .i64 2)).drew) := (Only.setCell (S := fun j => j = q) (p := ⟨q, 2 + k, none⟩) (Only.refl wr) (.inl rfl) _).drew
  obtain ⟨hq, a0, a1⟩ := H.out
  have hq1 : ((wr.setCell ⟨q, 2 + k, none⟩ (.int .i64 2)).drew).heap[q]? = some (.cells (A.setIfInBounds (2 + k) (.int .i64 2)) TT (0, 0)) := heap_set hq (2 + k) _
  refine hK9.out _ _ ⟨.inr trivial, ?_⟩
  clear hK9 K9 hH
  have hH : (fun _ : World => True) ((wr.setCell ⟨q, 2 + k, none⟩ (.int .i64 2)).drew) := trivial
  obtain ⟨w1, hw1⟩ : ∃ w1, w1 = (wr.setCell ⟨q, 2 + k, none⟩ (.int .i64 2)).drew := ⟨_, rfl⟩
  rw [← hw1] at O1 hq1 hH ⊢
  clear hw1 c0 c1 cf hq
  have c1 := cell_at hq1 (j := 98 + k) (by rw [Array.getElem?_setIfInBounds_ne (by omega)]; exact a1)
  have cf : ∀ j, w1.frozen? ⟨q, j, none⟩ = false := fun j => by simp [World.frozen?, hq1]
  have H1 := Lib.hid (And.intro hq1 O1)
  clear hq1 O1 a0 a1
  refine wpAnyT_take (i := 11) (v := ?_) rfl (by kernel_rfl) (by kernel_rfl) (by kernel_rfl) (by kernel_rfl) (fun _ _ _ h => h) (Or.inl ⟨by rfl, ?_⟩) hH ?_
  rotate_left
  · (intro w hSw; skip; go_simp; try with_reducible rfl)
  try simp only [Act.put, List.setIfInBounds_toArray, List.set_cons_zero, List.set_cons_succ]
  refine wpAnyT_one (i := 12) (by kernel_rfl) ?_
  refine wpOp_goK rfl rfl (fun K9 hK9 => ?_)
  go_simp
  refine hK9.out _ _ ⟨.inr trivial, (by kernel_rfl), ?_⟩
  refine NoPanic.normal ?_
  exact HQF.out _ _ _ _ _ _ _ _ _ _ _ _ ⟨heap_set H1.out.1 _ _, H1.out.2.setCell (p := ⟨q, 98 + k, none⟩) (.inl rfl) _⟩

set_option maxRecDepth 100000 in
set_option maxHeartbeats 2000000 in
theorem raw_26 (wr : World) (q k q2 : Nat) (A : Array Value) (z0 z1 : Value) (hk : k < 32) (H : Hid (wr.heap[q]? = some (.cells A TT (0, 0)) ∧ A[2 + k]? = some z0 ∧ A[98 + k]? = some z1)) (c : Code) (Q : Exit → Act → World → Prop) (t0 t1 t2 t3 t4 t6 t7 t9 t10 t11 t13 t14 t15 t16 t17 t18 t19 t20 t21 t22 t23 t24 t25 t26 t27 t28 t29 t30 t31 t32 t33 t34 t35 t36 t37 t38 t39 t40 t41 t42 t43 t44 t45 t46 t47 t48 t49 t50 t51 t52 t53 t54 t55 t56 t57 t58 t59 t60 t61 t62 t63 t64 t65 t66 t67 t68 t69 t70 t71 t72 t73 t74 t75 t76 t77 t78 t79 t80 t81 t82 t83 t84 t85 t86 t87 t88 t89 t90 t91 t92 t93 t94 t95 t96 t97 t98 t99 t100 t101 t102 t103 t104 t105 t106 t107 t108 t109 t110 t111 t112 t113 t114 t115 t116 t117 t118 t119 t120 t121 t122 t123 t124 t125 t126 t127 t128 t129 t130 t131 t132 t133 t134 t135 t136 t137 t138 t139 t140 t141 t142 t143 t144 t145 t146 t147 t148 t149 t150 t151 t152 t153 : Value)
    (hc : (Tryd.f7.body.bind (findR 26)) = some c)
    (hQ : ∀ (u107 u108 u109 u110 u111 u112 u113 u114 u115 u116 u117 : Value) (wx : World), wx.heap[q]? = some (.cells (setK A k q2) TT (0, 0)) ∧ Only (fun k => k = q) wr wx → Q .normal { tmps := List.toArray (t0 :: t1 :: t2 :: t3 :: t4 :: (ptr q) :: t6 :: t7 :: (.int .i64 k) :: t9 :: t10 :: t11 :: (ptr q2) :: t13 :: t14 :: t15 :: t16 :: t17 :: t18 :: t19 :: t20 :: t21 :: t22 :: t23 :: t24 :: t25 :: t26 :: t27 :: t28 :: t29 :: t30 :: t31 :: t32 :: t33 :: t34 :: t35 :: t36 :: t37 :: t38 :: t39 :: t40 :: t41 :: t42 :: t43 :: t44 :: t45 :: t46 :: t47 :: t48 :: t49 :: t50 :: t51 :: t52 :: t53 :: t54 :: t55 :: t56 :: t57 :: t58 :: t59 :: t60 :: t61 :: t62 :: t63 :: t64 :: t65 :: t66 :: t67 :: t68 :: t69 :: t70 :: t71 :: t72 :: t73 :: t74 :: t75 :: t76 :: t77 :: t78 :: t79 :: t80 :: t81 :: t82 :: t83 :: t84 :: t85 :: t86 :: t87 :: t88 :: t89 :: t90 :: t91 :: t92 :: t93 :: t94 :: t95 :: t96 :: t97 :: t98 :: t99 :: t100 :: t101 :: t102 :: t103 :: t104 :: t105 :: t106 :: u107 :: u108 :: u109 :: u110 :: u111 :: u112 :: u113 :: u114 :: u115 :: u116 :: u117 :: t118 :: t119 :: t120 :: t121 :: t122 :: t123 :: t124 :: t125 :: t126 :: t127 :: t128 :: t129 :: t130 :: t131 :: t132 :: t133 :: t134 :: t135 :: t136 :: t137 :: t138 :: t139 :: t140 :: t141 :: t142 :: t143 :: t144 :: t145 :: t146 :: t147 :: t148 :: t149 :: t150 :: t151 :: t152 :: t153 :: []), defers := [] } wx) :
    c.wp Tryd.prog Q { tmps := List.toArray (t0 :: t1 :: t2 :: t3 :: t4 :: (ptr q) :: t6 :: t7 :: (.int .i64 k) :: t9 :: t10 :: t11 :: (ptr q2) :: t13 :: t14 :: t15 :: t16 :: t17 :: t18 :: t19 :: t20 :: t21 :: t22 :: t23 :: t24 :: t25 :: t26 :: t27 :: t28 :: t29 :: t30 :: t31 :: t32 :: t33 :: t34 :: t35 :: t36 :: t37 :: t38 :: t39 :: t40 :: t41 :: t42 :: t43 :: t44 :: t45 :: t46 :: t47 :: t48 :: t49 :: t50 :: t51 :: t52 :: t53 :: t54 :: t55 :: t56 :: t57 :: t58 :: t59 :: t60 :: t61 :: t62 :: t63 :: t64 :: t65 :: t66 :: t67 :: t68 :: t69 :: t70 :: t71 :: t72 :: t73 :: t74 :: t75 :: t76 :: t77 :: t78 :: t79 :: t80 :: t81 :: t82 :: t83 :: t84 :: t85 :: t86 :: t87 :: t88 :: t89 :: t90 :: t91 :: t92 :: t93 :: t94 :: t95 :: t96 :: t97 :: t98 :: t99 :: t100 :: t101 :: t102 :: t103 :: t104 :: t105 :: t106 :: t107 :: t108 :: t109 :: t110 :: t111 :: t112 :: t113 :: t114 :: t115 :: t116 :: t117 :: t118 :: t119 :: t120 :: t121 :: t122 :: t123 :: t124 :: t125 :: t126 :: t127 :: t128 :: t129 :: t130 :: t131 :: t132 :: t133 :: t134 :: t135 :: t136 :: t137 :: t138 :: t139 :: t140 :: t141 :: t142 :: t143 :: t144 :: t145 :: t146 :: t147 :: t148 :: t149 :: t150 :: t151 :: t152 :: t153 :: []), defers := [] } wr := by
  change some _ = some c at hc
  cases hc
  have HQF := Lib.hid hQ
  clear hQ
  have hc1 : (k : Int) < 32 := by omega
  have hc0 : (0 : Int) ≤ (k : Int) := by omega
  obtain ⟨hq, a0, a1⟩ := H.out
  have c0 := cell_at hq a0
  have c1 := cell_at hq a1
  have cf : ∀ j, wr.frozen? ⟨q, j, none⟩ = false := fun j => by simp [World.frozen?, hq]
  clear hq a0 a1
  refine wp_region_noPanic ?_
  refine wp_region_T (n := 13) (S := (fun _ : World => True)) (by kernel_rfl) ?_
  change wpAnyT _ _ _ _ _ _ 13 _ _ wr.drew
  have hH : (fun _ : World => True) wr.drew := trivial
  refine wpAnyT_take (i := 0) (v := ?_) rfl (by kernel_rfl) (by kernel_rfl) (by kernel_rfl) (by kernel_rfl) (fun _ _ _ h => h) (Or.inl ⟨by rfl, ?_⟩) hH ?_
  rotate_left
  · (intro w hSw; skip; go_simp; try with_reducible rfl)
  try simp only [Act.put, List.setIfInBounds_toArray, List.set_cons_zero, List.set_cons_succ]
  refine wpAnyT_take (i := 1) (v := ?_) rfl (by kernel_rfl) (by kernel_rfl) (by kernel_rfl) (by kernel_rfl) (fun _ _ _ h => h) (Or.inl ⟨by rfl, ?_⟩) hH ?_
  rotate_left
  · (intro w hSw; skip; go_simp; try with_reducible rfl)
  try simp only [Act.put, List.setIfInBounds_toArray, List.set_cons_zero, List.set_cons_succ]
  refine wpAnyT_take (i := 2) (v := ?_) rfl (by kernel_rfl) (by kernel_rfl) (by kernel_rfl) (by kernel_rfl) (fun _ _ _ h => h) (Or.inl ⟨by rfl, ?_⟩) hH ?_
  rotate_left
  · (intro w hSw; skip; go_simp; try with_reducible rfl)
  try simp only [Act.put, List.setIfInBounds_toArray, List.set_cons_zero, List.set_cons_succ]
  refine wpAnyT_take (i := 3) (v := ?_) rfl (by kernel_rfl) (by kernel_rfl) (by kernel_rfl) (by kernel_rfl) (fun _ _ _ h => h) (Or.inl ⟨by rfl, ?_⟩) hH ?_
  rotate_left
  · (intro w hSw; skip; go_simp; try with_reducible rfl)
  try simp only [Act.put, List.setIfInBounds_toArray, List.set_cons_zero, List.set_cons_succ]
  refine wpAnyT_take (i := 4) (v := ?_) rfl (by kernel_rfl) (by kernel_rfl) (by kernel_rfl) (by kernel_rfl) (fun _ _ _ h => h) (Or.inl ⟨by rfl, ?_⟩) hH ?_
  rotate_left
  · (intro w hSw; skip; go_simp; try with_reducible rfl)
  try simp only [Act.put, List.setIfInBounds_toArray, List.set_cons_zero, List.set_cons_succ]
  refine wpAnyT_take (i := 5) (v := ?_) rfl (by kernel_rfl) (by kernel_rfl) (by kernel_rfl) (by kernel_rfl) (fun _ _ _ h => h) (Or.inl ⟨by rfl, ?_⟩) hH ?_
  rotate_left
  · (intro w hSw; skip; go_simp; try with_reducible rfl)
  try simp only [Act.put, List.setIfInBounds_toArray, List.set_cons_zero, List.set_cons_succ]
  refine wpAnyT_take (i := 6) (v := ?_) rfl (by kernel_rfl) (by kernel_rfl) (by kernel_rfl) (by kernel_rfl) (fun _ _ _ h => h) (Or.inl ⟨by rfl, ?_⟩) hH ?_
  rotate_left
  · (intro w hSw; skip; go_simp; try with_reducible rfl)
  try simp only [Act.put, List.setIfInBounds_toArray, List.set_cons_zero, List.set_cons_succ]
  refine wpAnyT_take (i := 7) (v := ?_) rfl (by kernel_rfl) (by kernel_rfl) (by kernel_rfl) (by kernel_rfl) (fun _ _ _ h => h) (Or.inl ⟨by rfl, ?_⟩) hH ?_
  rotate_left
  · (intro w hSw; skip; go_simp; try with_reducible rfl)
  try simp only [Act.put, List.setIfInBounds_toArray, List.set_cons_zero, List.set_cons_succ]
  refine wpAnyT_take (i := 9) (v := ?_) rfl (by kernel_rfl) (by kernel_rfl) (by kernel_rfl) (by kernel_rfl) (fun _ _ _ h => h) (Or.inl ⟨by rfl, ?_⟩) hH ?_
  rotate_left
  · (intro w hSw; skip; go_simp; try with_reducible rfl)
  try simp only [Act.put, List.setIfInBounds_toArray, List.set_cons_zero, List.set_cons_succ]
  refine wpAnyT_take (i := 10) (v := ?_) rfl (by kernel_rfl) (by kernel_rfl) (by kernel_rfl) (by kernel_rfl) (fun _ _ _ h => h) (Or.inl ⟨by rfl, ?_⟩) hH ?_
  rotate_left
  · (intro w hSw; skip; go_simp; try with_reducible rfl)
  try simp only [Act.put, List.setIfInBounds_toArray, List.set_cons_zero, List.set_cons_succ]
  refine wpAnyT_one (i := 8) (by kernel_rfl) ?_
  refine wpOp_goK rfl rfl (fun K9 hK9 => ?_)
  go_simp
  have O1 : Only (fun j => j = q) wr ((wr.setCell ⟨q, 2 + k, none⟩ (.int .i64 2)).drew) := (Only.setCell (S := fun j => j = q) (p := ⟨q, 2 + k, none⟩) (Only.refl wr) (.inl rfl) _).drew
  obtain ⟨hq, a0, a1⟩ := H.out
  have hq1 : ((wr.setCell ⟨q, 2 + k, none⟩ (.int .i64 2)).drew).heap[q]? = some (.cells (A.setIfInBounds (2 + k) (.int .i64 2)) TT (0, 0)) := heap_set hq (2 + k) _
  refine hK9.out _ _ ⟨.inr trivial, ?_⟩
  clear hK9 K9 hH
  have hH : (fun _ : World => True) ((wr.setCell ⟨q, 2 + k, none⟩ (.int .i64 2)).drew) := trivial
  obtain ⟨w1, hw1⟩ : ∃ w1, w1 = (wr.setCell ⟨q, 2 + k, none⟩ (.int .i64 2)).drew := ⟨_, rfl⟩
  rw [← hw1] at O1 hq1 hH ⊢
  clear hw1 c0 c1 cf hq
  have c1 := cell_at hq1 (j := 98 + k) (by rw [Array.getElem?_setIfInBounds_ne (by omega)]; exact a1)
  have cf : ∀ j, w1.frozen? ⟨q, j, none⟩ = false := fun j => by simp [World.frozen?, hq1]
  have H1 := Lib.hid (And.intro hq1 O1)
  clear hq1 O1 a0 a1
  refine wpAnyT_take (i := 11) (v := ?_) rfl (by kernel_rfl) (by kernel_rfl) (by kernel_rfl) (by kernel_rfl) (fun _ _ _ h => h) (Or.inl ⟨by rfl, ?_⟩) hH ?_
  rotate_left
  · (intro w hSw; skip; go_simp; try with_reducible rfl)
  try simp only [Act.put, List.setIfInBounds_toArray, List.set_cons_zero, List.set_cons_succ]
  refine wpAnyT_one (i := 12) (by kernel_rfl) ?_
  refine wpOp_goK rfl rfl (fun K9 hK9 => ?_)
  go_simp
  refine hK9.out _ _ ⟨.inr trivial, (by kernel_rfl), ?_⟩
  refine NoPanic.normal ?_
  exact HQF.out _ _ _ _ _ _ _ _ _ _ _ _ ⟨heap_set H1.out.1 _ _, H1.out.2.setCell (p := ⟨q, 98 + k, none⟩) (.inl rfl) _⟩

set_option maxRecDepth 100000 in
set_option maxHeartbeats 2000000 in
theorem raw_31 (wr : World) (q k q2 : Nat) (A : Array Value) (z0 z1 : Value) (hk : k < 32) (H : Hid (wr.heap[q]? = some (.cells A TT (0, 0)) ∧ A[2 + k]? = some z0 ∧ A[98 + k]? = some z1)) (c : Code) (Q : Exit → Act → World → Prop) (t0 t1 t2 t3 t4 t6 t7 t9 t10 t11 t12 t13 t14 t16 t17 t18 t19 t20 t21 t22 t23 t24 t25 t26 t27 t28 t29 t30 t31 t32 t33 t34 t35 t36 t37 t38 t39 t40 t41 t42 t43 t44 t45 t46 t47 t48 t49 t50 t51 t52 t53 t54 t55 t56 t57 t58 t59 t60 t61 t62 t63 t64 t65 t66 t67 t68 t69 t70 t71 t72 t73 t74 t75 t76 t77 t78 t79 t80 t81 t82 t83 t84 t85 t86 t87 t88 t89 t90 t91 t92 t93 t94 t95 t96 t97 t98 t99 t100 t101 t102 t103 t104 t105 t106 t107 t108 t109 t110 t111 t112 t113 t114 t115 t116 t117 t118 t119 t120 t121 t122 t123 t124 t125 t126 t127 t128 t129 t130 t131 t132 t133 t134 t135 t136 t137 t138 t139 t140 t141 t142 t143 t144 t145 t146 t147 t148 t149 t150 t151 t152 t153 : Value)
    (hc : (Tryd.f7.body.bind (findR 31)) = some c)
    (hQ : ∀ (u140 u141 u142 u143 u144 u145 u146 u147 u148 u149 u150 : Value) (wx : World), wx.heap[q]? = some (.cells (setK A k q2) TT (0, 0)) ∧ Only (fun k => k = q) wr wx → Q .normal { tmps := List.toArray (t0 :: t1 :: t2 :: t3 :: t4 :: (ptr q) :: t6 :: t7 :: (.int .i64 k) :: t9 :: t10 :: t11 :: t12 :: t13 :: t14 :: (ptr q2) :: t16 :: t17 :: t18 :: t19 :: t20 :: t21 :: t22 :: t23 :: t24 :: t25 :: t26 :: t27 :: t28 :: t29 :: t30 :: t31 :: t32 :: t33 :: t34 :: t35 :: t36 :: t37 :: t38 :: t39 :: t40 :: t41 :: t42 :: t43 :: t44 :: t45 :: t46 :: t47 :: t48 :: t49 :: t50 :: t51 :: t52 :: t53 :: t54 :: t55 :: t56 :: t57 :: t58 :: t59 :: t60 :: t61 :: t62 :: t63 :: t64 :: t65 :: t66 :: t67 :: t68 :: t69 :: t70 :: t71 :: t72 :: t73 :: t74 :: t75 :: t76 :: t77 :: t78 :: t79 :: t80 :: t81 :: t82 :: t83 :: t84 :: t85 :: t86 :: t87 :: t88 :: t89 :: t90 :: t91 :: t92 :: t93 :: t94 :: t95 :: t96 :: t97 :: t98 :: t99 :: t100 :: t101 :: t102 :: t103 :: t104 :: t105 :: t106 :: t107 :: t108 :: t109 :: t110 :: t111 :: t112 :: t113 :: t114 :: t115 :: t116 :: t117 :: t118 :: t119 :: t120 :: t121 :: t122 :: t123 :: t124 :: t125 :: t126 :: t127 :: t128 :: t129 :: t130 :: t131 :: t132 :: t133 :: t134 :: t135 :: t136 :: t137 :: t138 :: t139 :: u140 :: u141 :: u142 :: u143 :: u144 :: u145 :: u146 :: u147 :: u148 :: u149 :: u150 :: t151 :: t152 :: t153 :: []), defers := [] } wx) :
    c.wp Tryd.prog Q { tmps := List.toArray (t0 :: t1 :: t2 :: t3 :: t4 :: (ptr q) :: t6 :: t7 :: (.int .i64 k) :: t9 :: t10 :: t11 :: t12 :: t13 :: t14 :: (ptr q2) :: t16 :: t17 :: t18 :: t19 :: t20 :: t21 :: t22 :: t23 :: t24 :: t25 :: t26 :: t27 :: t28 :: t29 :: t30 :: t31 :: t32 :: t33 :: t34 :: t35 :: t36 :: t37 :: t38 :: t39 :: t40 :: t41 :: t42 :: t43 :: t44 :: t45 :: t46 :: t47 :: t48 :: t49 :: t50 :: t51 :: t52 :: t53 :: t54 :: t55 :: t56 :: t57 :: t58 :: t59 :: t60 :: t61 :: t62 :: t63 :: t64 :: t65 :: t66 :: t67 :: t68 :: t69 :: t70 :: t71 :: t72 :: t73 :: t74 :: t75 :: t76 :: t77 :: t78 :: t79 :: t80 :: t81 :: t82 :: t83 :: t84 :: t85 :: t86 :: t87 :: t88 :: t89 :: t90 :: t91 :: t92 :: t93 :: t94 :: t95 :: t96 :: t97 :: t98 :: t99 :: t100 :: t101 :: t102 :: t103 :: t104 :: t105 :: t106 :: t107 :: t108 :: t109 :: t110 :: t111 :: t112 :: t113 :: t114 :: t115 :: t116 :: t117 :: t118 :: t119 :: t120 :: t121 :: t122 :: t123 :: t124 :: t125 :: t126 :: t127 :: t128 :: t129 :: t130 :: t131 :: t132 :: t133 :: t134 :: t135 :: t136 :: t137 :: t138 :: t139 :: t140 :: t141 :: t142 :: t143 :: t144 :: t145 :: t146 :: t147 :: t148 :: t149 :: t150 :: t151 :: t152 :: t153 :: []), defers := [] } wr := by
  change some _ = some c at hc
  cases hc
  have HQF := Lib.hid hQ
  clear hQ
  have hc1 : (k : Int) < 32 := by omega
  have hc0 : (0 : Int) ≤ (k : Int) := by omega
  obtain ⟨hq, a0, a1⟩ := H.out
  have c0 := cell_at hq a0
  have c1 := cell_at hq a1
  have cf : ∀ j, wr.frozen? ⟨q, j, none⟩ = false := fun j => by simp [World.frozen?, hq]
  clear hq a0 a1
  refine wp_region_noPanic ?_
  refine wp_region_T (n := 13) (S := (fun _ : World => True)) (by kernel_rfl) ?_
  change wpAnyT _ _ _ _ _ _ 13 _ _ wr.drew
  have hH : (fun _ : World => True) wr.drew := trivial
  refine wpAnyT_take (i := 0) (v := ?_) rfl (by kernel_rfl) (by kernel_rfl) (by kernel_rfl) (by kernel_rfl) (fun _ _ _ h => h) (Or.inl ⟨by rfl, ?_⟩) hH ?_
  rotate_left
  · (intro w hSw; skip; go_simp; try with_reducible rfl)
  try simp only [Act.put, List.setIfInBounds_toArray, List.set_cons_zero, List.set_cons_succ]
  refine wpAnyT_take (i := 1) (v := ?_) rfl (by kernel_rfl) (by kernel_rfl) (by kernel_rfl) (by kernel_rfl) (fun _ _ _ h => h) (Or.inl ⟨by rfl, ?_⟩) hH ?_
  rotate_left
  · (intro w hSw; skip; go_simp; try with_reducible rfl)
  try simp only [Act.put, List.setIfInBounds_toArray, List.set_cons_zero, List.set_cons_succ]
  refine wpAnyT_take (i := 2) (v := ?_) rfl (by kernel_rfl) (by kernel_rfl) (by kernel_rfl) (by kernel_rfl) (fun _ _ _ h => h) (Or.inl ⟨by rfl, ?_⟩) hH ?_
  rotate_left
  · (intro w hSw; skip; go_simp; try with_reducible rfl)
  try simp only [Act.put, List.setIfInBounds_toArray, List.set_cons_zero, List.set_cons_succ]
  refine wpAnyT_take (i := 3) (v := ?_) rfl (by kernel_rfl) (by kernel_rfl) (by kernel_rfl) (by kernel_rfl) (fun _ _ _ h => h) (Or.inl ⟨by rfl, ?_⟩) hH ?_
  rotate_left
  · (intro w hSw; skip; go_simp; try with_reducible rfl)
  try simp only [Act.put, List.setIfInBounds_toArray, List.set_cons_zero, List.set_cons_succ]
  refine wpAnyT_take (i := 4) (v := ?_) rfl (by kernel_rfl) (by kernel_rfl) (by kernel_rfl) (by kernel_rfl) (fun _ _ _ h => h) (Or.inl ⟨by rfl, ?_⟩) hH ?_
  rotate_left
  · (intro w hSw; skip; go_simp; try with_reducible rfl)
  try simp only [Act.put, List.setIfInBounds_toArray, List.set_cons_zero, List.set_cons_succ]
  refine wpAnyT_take (i := 5) (v := ?_) rfl (by kernel_rfl) (by kernel_rfl) (by kernel_rfl) (by kernel_rfl) (fun _ _ _ h => h) (Or.inl ⟨by rfl, ?_⟩) hH ?_
  rotate_left
  · (intro w hSw; skip; go_simp; try with_reducible rfl)
  try simp only [Act.put, List.setIfInBounds_toArray, List.set_cons_zero, List.set_cons_succ]
  refine wpAnyT_take (i := 6) (v := ?_) rfl (by kernel_rfl) (by kernel_rfl) (by kernel_rfl) (by kernel_rfl) (fun _ _ _ h => h) (Or.inl ⟨by rfl, ?_⟩) hH ?_
  rotate_left
  · (intro w hSw; skip; go_simp; try with_reducible rfl)
  try simp only [Act.put, List.setIfInBounds_toArray, List.set_cons_zero, List.set_cons_succ]
  refine wpAnyT_take (i := 7) (v := ?_) rfl (by kernel_rfl) (by kernel_rfl) (by kernel_rfl) (by kernel_rfl) (fun _ _ _ h => h) (Or.inl ⟨by rfl, ?_⟩) hH ?_
  rotate_left
  · (intro w hSw; skip; go_simp; try with_reducible rfl)
  try simp only [Act.put, List.setIfInBounds_toArray, List.set_cons_zero, List.set_cons_succ]
  refine wpAnyT_take (i := 9) (v := ?_) rfl (by kernel_rfl) (by kernel_rfl) (by kernel_rfl) (by kernel_rfl) (fun _ _ _ h => h) (Or.inl ⟨by rfl, ?_⟩) hH ?_
  rotate_left
  · (intro w hSw; skip; go_simp; try with_reducible rfl)
  try simp only [Act.put, List.setIfInBounds_toArray, List.set_cons_zero, List.set_cons_succ]
  refine wpAnyT_take (i := 10) (v := ?_) rfl (by kernel_rfl) (by kernel_rfl) (by kernel_rfl) (by kernel_rfl) (fun _ _ _ h => h) (Or.inl ⟨by rfl, ?_⟩) hH ?_
  rotate_left
  · (intro w hSw; skip; go_simp; try with_reducible rfl)
  try simp only [Act.put, List.setIfInBounds_toArray, List.set_cons_zero, List.set_cons_succ]
  refine wpAnyT_one (i := 8) (by kernel_rfl) ?_
  refine wpOp_goK rfl rfl (fun K9 hK9 => ?_)
  go_simp
  have O1 : Only (fun j => j = q) wr ((wr.setCell ⟨q, 2 + k, none⟩ (.int .i64 2)).drew) := (Only.setCell (S := fun j => j = q) (p := ⟨q, 2 + k, none⟩) (Only.refl wr) (.inl rfl) _).drew
  obtain ⟨hq, a0, a1⟩ := H.out
  have hq1 : ((wr.setCell ⟨q, 2 + k, none⟩ (.int .i64 2)).drew).heap[q]? = some (.cells (A.setIfInBounds (2 + k) (.int .i64 2)) TT (0, 0)) := heap_set hq (2 + k) _
  refine hK9.out _ _ ⟨.inr trivial, ?_⟩
  clear hK9 K9 hH
  have hH : (fun _ : World => True) ((wr.setCell ⟨q, 2 + k, none⟩ (.int .i64 2)).drew) := trivial
  obtain ⟨w1, hw1⟩ : ∃ w1, w1 = (wr.setCell ⟨q, 2 + k, none⟩ (.int .i64 2)).drew := ⟨_, rfl⟩
  rw [← hw1] at O1 hq1 hH ⊢
  clear hw1 c0 c1 cf hq
  have c1 := cell_at hq1 (j := 98 + k) (by rw [Array.getElem?_setIfInBounds_ne (by omega)]; exact a1)
  have cf : ∀ j, w1.frozen? ⟨q, j, none⟩ = false := fun j => by simp [World.frozen?, hq1]
  have H1 := Lib.hid (And.intro hq1 O1)
  clear hq1 O1 a0 a1
  refine wpAnyT_take (i := 11) (v := ?_) rfl (by kernel_rfl) (by kernel_rfl) (by kernel_rfl) (by kernel_rfl) (fun _ _ _ h => h) (Or.inl ⟨by rfl, ?_⟩) hH ?_
  rotate_left
  · (intro w hSw; skip; go_simp; try with_reducible rfl)
  try simp only [Act.put, List.setIfInBounds_toArray, List.set_cons_zero, List.set_cons_succ]
  refine wpAnyT_one (i := 12) (by kernel_rfl) ?_
  refine wpOp_goK rfl rfl (fun K9 hK9 => ?_)
  go_simp
  refine hK9.out _ _ ⟨.inr trivial, (by kernel_rfl), ?_⟩
  refine NoPanic.normal ?_
  exact HQF.out _ _ _ _ _ _ _ _ _ _ _ _ ⟨heap_set H1.out.1 _ _, H1.out.2.setCell (p := ⟨q, 98 + k, none⟩) (.inl rfl) _⟩

end Go.Proofs.YtclcgelbcbnekaaDoor
/- ShapeRaw: the document's bucket takes a pair: a law of its own. -/
namespace Go.Proofs.YtclcgelbcbnekaaDoor
open Go Go.RowKit Go.QS Go.QS.Nk
set_option linter.unusedVariables false
variable [Zero (Nat → Prop)]
set_option linter.unusedSectionVars false

set_option maxRecDepth 100000 in
set_option maxHeartbeats 2000000 in
theorem raw_23 (wr : World) (x gb : Nat) (A : Array Value) (v : Value) (l : List Pr) (p : Pr) (hl : l.length ≤ 1000) (H : Hid (wr.heap[x]? = some (.cells A TT (0, 0)) ∧ A[1]? = some v ∧ PS wr v l ∧ PrAt wr gb p ∧ gb ≠ x)) (c : Code) (Q : Exit → Act → World → Prop) (t0 t1 t2 t3 t4 t5 t6 t7 t8 t9 t10 t11 t13 t15 t16 t17 t18 t19 t20 t21 t22 t23 t24 t25 t26 t27 t28 t29 t30 t31 t32 t33 t34 t35 t36 t37 t38 t39 t40 t41 t42 t43 t44 t45 t46 t47 t48 t49 t50 t51 t52 t53 t54 t55 t56 t57 t58 t59 t60 t61 t62 t63 t64 t65 t66 t67 t68 t69 t70 t71 t72 t73 t74 t75 t76 t77 t78 t79 t80 t81 t82 t83 t84 t85 t86 t87 t88 t89 t90 t91 t92 t93 t94 t95 t96 t97 t98 t99 t100 t101 t102 t103 t104 t105 t106 t107 t108 t109 t110 t111 t112 t113 t114 t115 t116 t117 t118 t119 t120 t121 t122 t123 t124 t125 t126 t127 t128 t129 t130 t131 t132 t133 t134 t135 t136 t137 t138 t139 t140 t141 t142 t143 t144 t145 t146 t147 t148 t149 t150 t151 t152 t153 : Value)
    (hc : (Tryd.f7.body.bind (findR 23)) = some c)
    (hQ : ∀ (u92 u93 u94 u95 u96 u97 u98 u99 u100 u101 : Value) (wx : World), (∃ v2, wx.heap[x]? = some (.cells (A.setIfInBounds 1 v2) TT (0, 0)) ∧ wx.ownsRow wr.heap.size RP 2 v2 (rput l (cutP p)).length (flat (rput l (cutP p))) ∧ Only (fun k => k = x) wr wx) → Q .normal { tmps := List.toArray (t0 :: t1 :: t2 :: t3 :: t4 :: t5 :: t6 :: t7 :: t8 :: t9 :: t10 :: t11 :: (ptr x) :: t13 :: (ptr gb) :: t15 :: t16 :: t17 :: t18 :: t19 :: t20 :: t21 :: t22 :: t23 :: t24 :: t25 :: t26 :: t27 :: t28 :: t29 :: t30 :: t31 :: t32 :: t33 :: t34 :: t35 :: t36 :: t37 :: t38 :: t39 :: t40 :: t41 :: t42 :: t43 :: t44 :: t45 :: t46 :: t47 :: t48 :: t49 :: t50 :: t51 :: t52 :: t53 :: t54 :: t55 :: t56 :: t57 :: t58 :: t59 :: t60 :: t61 :: t62 :: t63 :: t64 :: t65 :: t66 :: t67 :: t68 :: t69 :: t70 :: t71 :: t72 :: t73 :: t74 :: t75 :: t76 :: t77 :: t78 :: t79 :: t80 :: t81 :: t82 :: t83 :: t84 :: t85 :: t86 :: t87 :: t88 :: t89 :: t90 :: t91 :: u92 :: u93 :: u94 :: u95 :: u96 :: u97 :: u98 :: u99 :: u100 :: u101 :: t102 :: t103 :: t104 :: t105 :: t106 :: t107 :: t108 :: t109 :: t110 :: t111 :: t112 :: t113 :: t114 :: t115 :: t116 :: t117 :: t118 :: t119 :: t120 :: t121 :: t122 :: t123 :: t124 :: t125 :: t126 :: t127 :: t128 :: t129 :: t130 :: t131 :: t132 :: t133 :: t134 :: t135 :: t136 :: t137 :: t138 :: t139 :: t140 :: t141 :: t142 :: t143 :: t144 :: t145 :: t146 :: t147 :: t148 :: t149 :: t150 :: t151 :: t152 :: t153 :: []), defers := [] } wx) :
    c.wp Tryd.prog Q { tmps := List.toArray (t0 :: t1 :: t2 :: t3 :: t4 :: t5 :: t6 :: t7 :: t8 :: t9 :: t10 :: t11 :: (ptr x) :: t13 :: (ptr gb) :: t15 :: t16 :: t17 :: t18 :: t19 :: t20 :: t21 :: t22 :: t23 :: t24 :: t25 :: t26 :: t27 :: t28 :: t29 :: t30 :: t31 :: t32 :: t33 :: t34 :: t35 :: t36 :: t37 :: t38 :: t39 :: t40 :: t41 :: t42 :: t43 :: t44 :: t45 :: t46 :: t47 :: t48 :: t49 :: t50 :: t51 :: t52 :: t53 :: t54 :: t55 :: t56 :: t57 :: t58 :: t59 :: t60 :: t61 :: t62 :: t63 :: t64 :: t65 :: t66 :: t67 :: t68 :: t69 :: t70 :: t71 :: t72 :: t73 :: t74 :: t75 :: t76 :: t77 :: t78 :: t79 :: t80 :: t81 :: t82 :: t83 :: t84 :: t85 :: t86 :: t87 :: t88 :: t89 :: t90 :: t91 :: t92 :: t93 :: t94 :: t95 :: t96 :: t97 :: t98 :: t99 :: t100 :: t101 :: t102 :: t103 :: t104 :: t105 :: t106 :: t107 :: t108 :: t109 :: t110 :: t111 :: t112 :: t113 :: t114 :: t115 :: t116 :: t117 :: t118 :: t119 :: t120 :: t121 :: t122 :: t123 :: t124 :: t125 :: t126 :: t127 :: t128 :: t129 :: t130 :: t131 :: t132 :: t133 :: t134 :: t135 :: t136 :: t137 :: t138 :: t139 :: t140 :: t141 :: t142 :: t143 :: t144 :: t145 :: t146 :: t147 :: t148 :: t149 :: t150 :: t151 :: t152 :: t153 :: []), defers := [] } wr := by
  change some _ = some c at hc
  cases hc
  have HQF := Lib.hid hQ
  clear hQ
  obtain ⟨hx, a1, hP, hb, hne⟩ := H.out
  have c1 := cell_at hx a1
  obtain ⟨o0, o1⟩ := hb.cells
  have HQ : Hid (∀ W, Ext wr W → W.cell? ⟨x, 1, none⟩ = some v ∧ W.cell? ⟨gb, 0, none⟩ = some (str p.1) ∧ W.cell? ⟨gb, 1, none⟩ = some (str p.2)) := Lib.hid (fun W f => ⟨Ext.cell' f c1, Ext.cell' f o0, Ext.cell' f o1⟩)
  clear hx a1 hP hb hne
  refine wp_region_noPanic ?_
  refine wp_region_T (n := 10) (S := (fun w' : World => w'.cell? ⟨x, 1, none⟩ = some v ∧ w'.cell? ⟨gb, 0, none⟩ = some (str p.1) ∧ w'.cell? ⟨gb, 1, none⟩ = some (str p.2))) (by kernel_rfl) ?_
  change wpAnyT _ _ _ _ _ _ 11 _ _ wr.drew
  have hH : (fun w' : World => w'.cell? ⟨x, 1, none⟩ = some v ∧ w'.cell? ⟨gb, 0, none⟩ = some (str p.1) ∧ w'.cell? ⟨gb, 1, none⟩ = some (str p.2)) wr.drew := HQ.out _ (ext_drew (Ext.refl wr))
  refine wpAnyT_take (i := 0) (v := ?_) rfl (by kernel_rfl) (by kernel_rfl) (by kernel_rfl) (by kernel_rfl) (fun _ _ _ h => h) (Or.inl ⟨by rfl, ?_⟩) hH ?_
  rotate_left
  · (intro w hSw; (try dsimp only at hSw); obtain ⟨s0, s1, s2⟩ := hSw; go_simp; try with_reducible rfl)
  try simp only [Act.put, List.setIfInBounds_toArray, List.set_cons_zero, List.set_cons_succ]
  refine wpAnyT_take (i := 1) (v := ?_) rfl (by kernel_rfl) (by kernel_rfl) (by kernel_rfl) (by kernel_rfl) (fun _ _ _ h => h) (Or.inl ⟨by rfl, ?_⟩) hH ?_
  rotate_left
  · (intro w hSw; (try dsimp only at hSw); obtain ⟨s0, s1, s2⟩ := hSw; go_simp; try with_reducible rfl)
  try simp only [Act.put, List.setIfInBounds_toArray, List.set_cons_zero, List.set_cons_succ]
  refine wpAnyT_take (i := 2) (v := ?_) rfl (by kernel_rfl) (by kernel_rfl) (by kernel_rfl) (by kernel_rfl) (fun _ _ _ h => h) (Or.inl ⟨by rfl, ?_⟩) hH ?_
  rotate_left
  · (intro w hSw; (try dsimp only at hSw); obtain ⟨s0, s1, s2⟩ := hSw; go_simp; try with_reducible rfl)
  try simp only [Act.put, List.setIfInBounds_toArray, List.set_cons_zero, List.set_cons_succ]
  refine wpAnyT_take (i := 3) (v := ?_) rfl (by kernel_rfl) (by kernel_rfl) (by kernel_rfl) (by kernel_rfl) (fun _ _ _ h => h) (Or.inl ⟨by rfl, ?_⟩) hH ?_
  rotate_left
  · (intro w hSw; (try dsimp only at hSw); obtain ⟨s0, s1, s2⟩ := hSw; go_simp; try with_reducible rfl)
  try simp only [Act.put, List.setIfInBounds_toArray, List.set_cons_zero, List.set_cons_succ]
  refine wpAnyT_take (i := 4) (v := ?_) rfl (by kernel_rfl) (by kernel_rfl) (by kernel_rfl) (by kernel_rfl) (fun _ _ _ h => h) (Or.inl ⟨by rfl, ?_⟩) hH ?_
  rotate_left
  · (intro w hSw; (try dsimp only at hSw); obtain ⟨s0, s1, s2⟩ := hSw; go_simp; try with_reducible rfl)
  try simp only [Act.put, List.setIfInBounds_toArray, List.set_cons_zero, List.set_cons_succ]
  refine wpAnyT_take (i := 5) (v := ?_) rfl (by kernel_rfl) (by kernel_rfl) (by kernel_rfl) (by kernel_rfl) (fun _ _ _ h => h) (Or.inl ⟨by rfl, ?_⟩) hH ?_
  rotate_left
  · (intro w hSw; (try dsimp only at hSw); obtain ⟨s0, s1, s2⟩ := hSw; go_simp; try with_reducible rfl)
  try simp only [Act.put, List.setIfInBounds_toArray, List.set_cons_zero, List.set_cons_succ]
  refine wpAnyT_one (i := 6) (by kernel_rfl) ?_
  refine wpOp_goK rfl rfl (fun K9 hK9 => ?_)
  go_simp
  refine (few07_c _ p).mono ?_
  rintro e x1 ⟨rfl, f1⟩
  have k1 : Hid (Ext wr x1) := Lib.hid (Ext.trans (ext_drew (Ext.refl wr)) f1)
  have hH1 : (fun w' : World => w'.cell? ⟨x, 1, none⟩ = some v ∧ w'.cell? ⟨gb, 0, none⟩ = some (str p.1) ∧ w'.cell? ⟨gb, 1, none⟩ = some (str p.2)) x1 := HQ.out _ k1.out
  clear f1
  go_simp
  refine hK9.out _ _ ⟨.inr hH1, ?_⟩
  clear hK9 K9 hH
  refine wpAnyT_one (i := 7) (by kernel_rfl) ?_
  refine wpOp_goK rfl rfl (fun K9 hK9 => ?_)
  go_simp
  refine (rput_c x1 v l (cutP p) (H.out.2.2.1.below k1.out) (by omega) (by have := (cutP_short p).1; omega)).mono ?_
  rintro e x2 ⟨v2, rfl, o2, f2⟩
  obtain ⟨A2, C2, rfl⟩ := own_slice o2
  have k2 : Hid (Ext wr x2 ∧ x2.ownsRow wr.heap.size RP 2 (.slice A2 (rput l (cutP p)).length C2) (rput l (cutP p)).length (flat (rput l (cutP p)))) := Lib.hid ⟨Ext.trans k1.out f2, own_up o2 k1.out.size⟩
  have hH2 : (fun w' : World => w'.cell? ⟨x, 1, none⟩ = some v ∧ w'.cell? ⟨gb, 0, none⟩ = some (str p.1) ∧ w'.cell? ⟨gb, 1, none⟩ = some (str p.2)) x2 := HQ.out _ k2.out.1
  clear f2 o2 hH1
  go_simp
  refine hK9.out _ _ ⟨.inr hH2, ?_⟩
  clear hK9 K9
  have hH := hH2
  refine wpAnyT_one (i := 8) (by kernel_rfl) ?_
  refine wpOp_goK rfl rfl (fun K9 hK9 => ?_)
  go_simp
  refine hK9.out _ _ ⟨.inr hH, ?_⟩
  clear hK9 K9
  refine wpAnyT_one (i := 9) (by kernel_rfl) ?_
  refine wpOp_goK rfl rfl (fun K9 hK9 => ?_)
  go_simp
  refine hK9.out _ _ ⟨.inr hH, ?_⟩
  clear hK9 K9
  refine wpAnyT_one (i := 10) (by kernel_rfl) ?_
  refine wpOp_goK rfl rfl (fun K9 hK9 => ?_)
  have hx2 := (k2.out.1.block x (heap_lt H.out.1)).trans H.out.1
  have c2 := cell_at hx2 H.out.2.1
  have cf : ∀ j, x2.frozen? ⟨x, j, none⟩ = false := fun j => by simp [World.frozen?, hx2]
  have O2 : Only (fun j => j = x) wr (x2.setCell ⟨x, 1, none⟩ (.slice A2 (rput l (cutP p)).length C2)) := (Only.of_ext (S := fun j => j = x) k2.out.1).setCell (p := ⟨x, 1, none⟩) (.inl rfl) _
  have r2 : (x2.setCell ⟨x, 1, none⟩ (.slice A2 (rput l (cutP p)).length C2)).ownsRow wr.heap.size RP 2 (.slice A2 (rput l (cutP p)).length C2) (rput l (cutP p)).length (flat (rput l (cutP p))) := own_other k2.out.2 hx2 (by decide) 1 _
  have F2 := Lib.hid (And.intro (heap_set hx2 1 (.slice A2 (rput l (cutP p)).length C2)) (And.intro r2 O2))
  clear hx2 O2 r2 hH hH2
  go_simp
  refine hK9.out _ _ ⟨.inl (Nat.le_refl _), (by kernel_rfl), ?_⟩
  refine NoPanic.normal ?_
  exact HQF.out _ _ _ _ _ _ _ _ _ _ _ ⟨_, F2.out⟩

end Go.Proofs.YtclcgelbcbnekaaDoor
/- ShapeRaw: the document's nodes by their blocks; how large a tree is; what a round keeps. -/
namespace Go.QS
/-- All blocks but these. -/
abbrev SF (F : Nat → Prop) : Zero (Nat → Prop) := ⟨fun b => ¬ F b⟩
end Go.QS
namespace Go.Proofs.YtclcgelbcbnekaaDoor
open Go Go.RowKit Go.QS Go.QS.Nk
set_option linter.unusedVariables false

theorem SlT.map {is : Nat → Nat} {p : Nat → Pr} {R R' : Nat → Nat → Prop} {c : Nat} {s : Slot Nat} (h : SlT is p R c s) (hR : ∀ q, R c q → R' c q) : SlT is p R' c s := by
  cases s with
  | no => exact h
  | pr q => exact h
  | kid q => exact ⟨h.1, hR q h.2⟩
/-- A tree in memory, from one set of blocks to another. -/
theorem RN.turn9 {w w' : World} {T0 : Nat → Prop} {i1 i2 : Zero (Nat → Prop)} (f : Only T0 w w') (hT : ∀ b, T0 b → ¬ @S9 i1 b) (h1 : ∀ b, b < w.heap.size → @S9 i1 b → @S9 i2 b) (h2 : ∀ b, w'.heap.size ≤ b → @S9 i2 b) : ∀ {t : NT} {g : Nat}, @RN i1 w t g → @RN i2 w' t g
  | .bk l, g, h => Bk.turn9 f hT h1 h2 h
  | .inn is p k, g, ⟨sl, a, b⟩ => ⟨sl, In.turn9 f hT h1 h2 a, fun c s hs => SlT.map (b c s hs) fun q hq => RN.turn9 f hT h1 h2 hq⟩
variable [Zero (Nat → Prop)]
set_option linter.unusedSectionVars false
/-- The document's node, its blocks among these. -/
def DNs (w : World) (F : Nat → Prop) : NT → Nat → Prop
  | .bk l, q => F q ∧ ∃ A v, w.heap[q]? = some (.cells A TTY (0, 0)) ∧ A[0]? = some (.bool true) ∧ A[1]? = some v ∧ PS w v l ∧ (∀ b, v.ownBlock = some b → F b) ∧ ∀ c, c < 32 → A[2 + c]? = some (.int .i64 0)
  | .inn is p k, q => F q ∧ ∃ A, w.heap[q]? = some (.cells A TTY (0, 0)) ∧ A[0]? = some (.bool false) ∧ A[1]? = some (.slice none 0 0) ∧ ∀ c, c < 32 → DE (fun q' => DNs w F (k c) q') A c (is c) (p c)
theorem DNs.root {w : World} {F : Nat → Prop} : ∀ {t : NT} {q : Nat}, DNs w F t q → F q
  | .bk _, _, h => h.1
  | .inn _ _ _, _, h => h.1
theorem DNs.only {w w' : World} {F T0 : Nat → Prop} (f : Only T0 w w') (hT : ∀ b, T0 b → ¬ F b) : ∀ {t : NT} {q : Nat}, DNs w F t q → DNs w' F t q
  | .bk l, q, ⟨h0, A, v, h1, h2, h3, h4, h5, h6⟩ => ⟨h0, A, v, f.heap h1 (fun e => hT q e h0), h2, h3, Sl.only9 h4 f (fun b hb e => hT b e (h5 b hb)), h5, h6⟩
  | .inn is p k, q, ⟨h0, A, h1, h2, h3, h4⟩ => ⟨h0, A, f.heap h1 (fun e => hT q e h0), h2, h3, fun c hc => (h4 c hc).mono fun q' hq => DNs.only f hT hq⟩
theorem DNs.mono {w : World} {F F' : Nat → Prop} (hF : ∀ b, F b → F' b) : ∀ {t : NT} {q : Nat}, DNs w F t q → DNs w F' t q
  | .bk l, q, ⟨h0, A, v, h1, h2, h3, h4, h5, h6⟩ => ⟨hF _ h0, A, v, h1, h2, h3, h4, fun b hb => hF b (h5 b hb), h6⟩
  | .inn is p k, q, ⟨h0, A, h1, h2, h3, h4⟩ => ⟨hF _ h0, A, h1, h2, h3, fun c hc => (h4 c hc).mono fun q' hq => DNs.mono hF hq⟩
theorem DNs.dn {w : World} {F : Nat → Prop} : ∀ {t : NT} {q : Nat}, DNs w F t q → DN w t q
  | .bk l, q, ⟨h0, A, v, h1, h2, h3, h4, h5, h6⟩ => ⟨A, v, h1, h2, h3, h4, h6⟩
  | .inn is p k, q, ⟨h0, A, h1, h2, h3, h4⟩ => ⟨A, h1, h2, h3, fun c hc => (h4 c hc).mono fun q' hq => DNs.dn hq⟩
/-! ### How large a tree is, to all its depth -/
def fsN : NT → Nat
  | .bk l => 9 + (prsB l).length
  | .inn is p k => 9 + ((List.range 32).map (fun c => if is c = 1 then (prB (p c)).length else if is c = 2 then fsN (k c) else 0)).sum
theorem sum_le_map {f g : Nat → Nat} : ∀ {cs : List Nat}, (∀ c ∈ cs, f c ≤ g c) → (cs.map f).sum ≤ (cs.map g).sum
  | [], _ => Nat.le_refl _
  | c :: cs, h => by
    rw [List.map_cons, List.map_cons, List.sum_cons, List.sum_cons]
    have h1 := h c (List.mem_cons_self ..)
    have h2 := sum_le_map (fun d hd => h d (List.mem_cons_of_mem _ hd))
    omega
theorem look_fs : ∀ (f : Nat) (t : NT), (lookN t f).length ≤ fsN t
  | f, .bk l => by
    have e : lookN (.bk l) f = buckB l := by cases f <;> rfl
    rw [e, buckB, List.length_append, List.length_cons, layB_len, fsN]; omega
  | 0, .inn is p k => by
    have h := look_sums (is := is) (p := p) (k := k) (fun _ => []) (List.range 32)
    have e : lookN (.inn is p k) 0 = headB (dataOf (slsN is p k)) (nodesOf (slsN is p k)) (prsOf (slsN is p k)) := by
      show headB _ _ _ ++ [] = _
      rw [List.append_nil]
    rw [e, headB, List.length_append, List.length_append, List.length_cons, layB_len, layB_len, fsN]
    have h2 : ((List.range 32).map (shr (fun q => (prB q).length) (fun t => ([] : List UInt8).length) is p k)).sum ≤ ((List.range 32).map (fun c => if is c = 1 then (prB (p c)).length else if is c = 2 then fsN (k c) else 0)).sum := sum_le_map fun c _ => by
      unfold shr
      by_cases i1 : is c = 1
      · rw [if_pos i1, if_pos i1]; exact Nat.le_refl _
      · rw [if_neg i1, if_neg i1]
        by_cases i2 : is c = 2
        · rw [if_pos i2, if_pos i2]; exact Nat.zero_le _
        · rw [if_neg i2, if_neg i2]; exact Nat.le_refl _
    unfold slsN
    omega
  | f + 1, .inn is p k => by
    rw [look_sum f, fsN]
    have h2 : ((List.range 32).map (shr (fun q => (prB q).length) (fun t => (lookN t f).length) is p k)).sum ≤ ((List.range 32).map (fun c => if is c = 1 then (prB (p c)).length else if is c = 2 then fsN (k c) else 0)).sum := sum_le_map fun c _ => by
      unfold shr
      by_cases i1 : is c = 1
      · rw [if_pos i1, if_pos i1]; exact Nat.le_refl _
      · rw [if_neg i1, if_neg i1]
        by_cases i2 : is c = 2
        · rw [if_pos i2, if_pos i2]; exact look_fs f (k c)
        · rw [if_neg i2, if_neg i2]; exact Nat.le_refl _
    omega
theorem all_prs : ∀ (t : NT) (f : Nat), (allN t f).length ≤ (prsN t).length
  | .bk l, f => Nat.le_refl _
  | .inn is p k, f => by
    rw [prs_sum]
    show ((List.range 32).flatMap _).length ≤ _
    rw [List.length_flatMap]
    refine sum_le_map fun c _ => ?_
    unfold shr
    by_cases i1 : is c = 1
    · rw [if_pos i1, if_pos i1]; exact Nat.le_refl _
    · rw [if_neg i1, if_neg i1]
      by_cases i2 : is c = 2
      · rw [if_pos i2, if_pos i2]
        match f with
        | 0 => exact Nat.zero_le _
        | f + 1 => exact all_prs (k c) f
      · rw [if_neg i2, if_neg i2]; exact Nat.le_refl _
/-- A tree that is not too large. -/
structure NOk (t : NT) (n m : Nat) : Prop where
  sm : NSm t
  few : NFew t
  fs : fsN t ≤ n
  prs : (prsN t).length ≤ m
theorem NOk.bend {is : Nat → Nat} {p : Nat → Pr} {k : Nat → NT} {c i' n m n1 m1 : Nat} {p' : Pr} {k' : NT} (hc : c < 32) (h : NOk (.inn is p k) n m) (h1 : i' = 1 → (p'.1.length ≤ 40 ∧ p'.2.length ≤ 40) ∧ 90 ≤ n1 ∧ 1 ≤ m1) (h2 : i' = 2 → NOk k' n1 m1) : NOk (.inn (upN is c i') (upN p c p') (upN k c k')) (n + n1) (m + m1) := by
  refine ⟨fun j hj => ?_, fun j hj => ?_, ?_, ?_⟩
  · by_cases e : j = c
    · subst e
      rw [upN_same, upN_same, upN_same]
      exact ⟨fun e => by have := (h1 e).1; omega, fun e => (h2 e).sm⟩
    · rw [upN_ne _ _ e, upN_ne _ _ e, upN_ne _ _ e]; exact h.sm j hj
  · by_cases e : j = c
    · subst e
      rw [upN_same, upN_same]
      exact fun e => (h2 e).few
    · rw [upN_ne _ _ e, upN_ne _ _ e]; exact h.few j hj
  · have h0 := h.fs
    rw [fsN] at h0 ⊢
    have hb := sum_bend (F := fun c => if is c = 1 then (prB (p c)).length else if is c = 2 then fsN (k c) else 0) (F' := fun j => if upN is c i' j = 1 then (prB (upN p c p' j)).length else if upN is c i' j = 2 then fsN (upN k c k' j) else 0) (c := c) (fun j hj => by rw [upN_ne _ _ hj, upN_ne _ _ hj, upN_ne _ _ hj]) (cs := List.range 32) List.nodup_range
    rw [upN_same, upN_same, upN_same] at hb
    have hl : (if i' = 1 then (prB p').length else if i' = 2 then fsN k' else 0) ≤ n1 := by
      by_cases i1 : i' = 1
      · rw [if_pos i1, prB, List.length_append, textB_len, textB_len]; have := h1 i1; omega
      · rw [if_neg i1]
        by_cases i2 : i' = 2
        · rw [if_pos i2]; exact (h2 i2).fs
        · rw [if_neg i2]; exact Nat.zero_le _
    omega
  · have h0 := h.prs
    rw [prs_sum] at h0 ⊢
    have hb := shr_bend (fun _ => 1) (fun t => (prsN t).length) is p k c i' p' k'
    have e : shr (fun _ => 1) (fun t => (prsN t).length) (upN is c i') (upN p c p') (upN k c k') c = if i' = 1 then 1 else if i' = 2 then (prsN k').length else 0 := by unfold shr; rw [upN_same, upN_same, upN_same]
    rw [e] at hb
    have hl : (if i' = 1 then 1 else if i' = 2 then (prsN k').length else 0) ≤ m1 := by
      by_cases i1 : i' = 1
      · rw [if_pos i1]; exact (h1 i1).2.2
      · rw [if_neg i1]
        by_cases i2 : i' = 2
        · rw [if_pos i2]; exact (h2 i2).prs
        · rw [if_neg i2]; exact Nat.zero_le _
    omega
theorem NOk.zero : NOk nt0 9 0 := ⟨fun c _ => ⟨fun e => (by cases e), fun e => (by cases e)⟩, fun c _ e => (by cases e), (by decide), (by decide)⟩
theorem NOk.mono {t : NT} {n m n' m' : Nat} (h : NOk t n m) (h1 : n ≤ n') (h2 : m ≤ m') : NOk t n' m' := ⟨h.sm, h.few, Nat.le_trans h.fs h1, Nat.le_trans h.prs h2⟩
end Go.Proofs.YtclcgelbcbnekaaDoor
/- ShapeRaw: what a round keeps; one chunk of the root turns. -/
namespace Go.Proofs.YtclcgelbcbnekaaDoor
open Go Go.RowKit Go.QS Go.QS.Nk
set_option linter.unusedVariables false

/-- The blocks of the document's nodes, its root among them. -/
abbrev FQ (F : Nat → Prop) (q : Nat) (b : Nat) : Prop := F b ∨ b = q
/-- The program's root g and the document's root q are the same tree; the document's kids lie in F. -/
structure Rw (w0 wx : World) (g q : Nat) (F : Nat → Prop) (is : Nat → Nat) (p : Nat → Pr) (k : Nat → NT) (A : Array Value) (n m : Nat) : Prop where
  ext : Ext w0 wx
  hq : wx.heap[q]? = some (.cells A TTY (0, 0))
  sz : A.size = 130
  bk : A[0]? = some (.bool false)
  sl : A[1]? = some (.slice none 0 0)
  ent : ∀ c, c < 32 → DE (fun q' => DNs wx F (k c) q') A c (is c) (p c)
  nf : ¬ F q
  fl : ∀ b, F b → b < wx.heap.size ∧ w0.heap.size ≤ b
  ql : w0.heap.size ≤ q
  rn : @RN (SF (FQ F q)) wx (.inn is p k) g
  ok : NOk (.inn is p k) n m
theorem Rw.up {w0 wx wy : World} {g q n m : Nat} {F : Nat → Prop} {is : Nat → Nat} {p : Nat → Pr} {k : Nat → NT} {A : Array Value} (h : Rw w0 wx g q F is p k A n m) (f : Ext wx wy) : Rw w0 wy g q F is p k A n m :=
  ⟨Ext.trans h.ext f, (f.block q (heap_lt h.hq)).trans h.hq, h.sz, h.bk, h.sl, fun c hc => @DE.mono (SF F) _ _ _ _ _ _ (h.ent c hc) fun q' hq => @DNs.only (SF F) _ _ _ _ (Only.none f) (fun _ e => e.elim) _ _ hq, h.nf, fun b hb => ⟨Nat.lt_of_lt_of_le (h.fl b hb).1 f.size, (h.fl b hb).2⟩, h.ql, @RN.ext (SF (FQ F q)) _ _ f _ _ h.rn, h.ok⟩
theorem Rw.dn {w0 wx : World} {g q n m : Nat} {F : Nat → Prop} {is : Nat → Nat} {p : Nat → Pr} {k : Nat → NT} {A : Array Value} (h : Rw w0 wx g q F is p k A n m) : DN wx (.inn is p k) q :=
  ⟨A, h.hq, h.bk, h.sl, fun c hc => @DE.mono (SF F) _ _ _ _ _ _ (h.ent c hc) fun q' hq => @DNs.dn (SF F) _ _ _ _ hq⟩
/-- As a kid. -/
theorem Rw.dns {w0 wx : World} {g q n m : Nat} {F : Nat → Prop} {is : Nat → Nat} {p : Nat → Pr} {k : Nat → NT} {A : Array Value} (h : Rw w0 wx g q F is p k A n m) : DNs wx (FQ F q) (.inn is p k) q :=
  ⟨.inr rfl, A, h.hq, h.bk, h.sl, fun c hc => @DE.mono (SF F) _ _ _ _ _ _ (h.ent c hc) fun q' hq => @DNs.mono (SF F) _ _ _ (fun b hb => .inl hb) _ _ hq⟩
theorem Rw.bend {w0 wr wx : World} {g g1 q c i' n m n1 m1 : Nat} {F F' : Nat → Prop} {is : Nat → Nat} {p : Nat → Pr} {k : Nat → NT} {A A' : Array Value} {p' : Pr} {k' : NT} (h : Rw w0 wr g q F is p k A n m) (hc : c < 32) (o : Only (fun b => b = q) wr wx)
    (hF : ∀ b, F b → F' b) (hF' : ∀ b, F' b → b ≠ q ∧ b < wx.heap.size ∧ w0.heap.size ≤ b) (hR : @RN (SF (FQ F' q)) wx (.inn (upN is c i') (upN p c p') (upN k c k')) g1)
    (hq : wx.heap[q]? = some (.cells A' TTY (0, 0))) (hsz : A'.size = 130) (h0 : A'[0]? = A[0]?) (h1 : A'[1]? = A[1]?)
    (hne : ∀ j, j < 32 → j ≠ c → A'[2 + j]? = A[2 + j]? ∧ A'[34 + j * 2]? = A[34 + j * 2]? ∧ A'[34 + j * 2 + 1]? = A[34 + j * 2 + 1]? ∧ A'[98 + j]? = A[98 + j]?)
    (hk : DE (fun q' => DNs wx F' k' q') A' c i' p') (k1 : i' = 1 → (p'.1.length ≤ 40 ∧ p'.2.length ≤ 40) ∧ 90 ≤ n1 ∧ 1 ≤ m1) (k2 : i' = 2 → NOk k' n1 m1) :
    Rw w0 wx g1 q F' (upN is c i') (upN p c p') (upN k c k') A' (n + n1) (m + m1) := by
  refine ⟨((Only.of_ext h.ext).trans' (T := fun b => b = q) (S := fun b => b = q) o (fun _ _ e => e)).ext (fun i hi e => by subst e; have := h.ql; omega), hq, hsz, h0.trans h.bk, h1.trans h.sl, fun j hj => ?_, fun e => (hF' q e).1 rfl, fun b hb => ⟨(hF' b hb).2.1, (hF' b hb).2.2⟩, h.ql, hR, @NOk.bend (SF F) _ _ _ _ _ _ _ _ _ _ _ hc h.ok k1 k2⟩
  by_cases e : j = c
  · subst e
    rw [@upN_same (SF F), @upN_same (SF F), @upN_same (SF F)]; exact hk
  · rw [@upN_ne (SF F) _ _ _ _ _ e, @upN_ne (SF F) _ _ _ _ _ e, @upN_ne (SF F) _ _ _ _ _ e]
    obtain ⟨a, b, c', d⟩ := hne j hj e
    exact @DE.same (SF F) _ _ _ _ _ _ (@DE.mono (SF F) _ _ _ _ _ _ (h.ent j hj) fun q' hq' => @DNs.mono (SF F) _ _ _ hF _ _ (@DNs.only (SF F) _ _ _ _ o (fun b hb e2 => by subst hb; exact h.nf e2) _ _ hq')) a b c' d
end Go.Proofs.YtclcgelbcbnekaaDoor
