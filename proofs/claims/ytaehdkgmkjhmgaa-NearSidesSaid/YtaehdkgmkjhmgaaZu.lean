/- NearSides: the test in its loop, as a law of its own (a). -/
import Derived.Test.YtaehdkgmkjhmgaaZt
namespace Go.Proofs.Ytaehdkgmkjhmgaa
open Go.RowKit Go.QS
set_option linter.unusedVariables false

set_option maxRecDepth 100000 in
set_option maxHeartbeats 2000000 in
theorem sides_r15a (wr : World) (k a11 v11 a13 v13 qk qv : List UInt8) (b11 b13 qb : Nat) (c13 : Bool) (hk : k.length ≤ 1000) (h11 : a11.length ≤ 1000) (hq : qk.length ≤ 1000)
     (h2 : c13 = true → ¬ (k < qk ∧ qk < a13))
    (HB : Hid (wr.heap[b11]? = some (.cells #[str a11, str v11] 29 (0, 0)) ∧ wr.heap[b13]? = some (.cells #[str a13, str v13] 29 (0, 0)) ∧ wr.heap[qb]? = some (.cells #[str qk, str qv] 40 (0, 0)))) (c : Code) (Q : Exit → Act → World → Prop) (t0 t2 t3 t4 t5 t6 t7 t8 t9 t10 t15 t16 t17 t19 t20 t21 t22 t23 t24 t25 t26 t27 t28 t29 t30 t31 t32 t33 t34 t35 t36 t37 t38 t39 t40 t41 t42 t43 t44 t45 t46 t47 t48 t49 t50 t51 t52 t53 t54 t55 t56 t57 t58 t59 t60 t61 t62 t63 t64 t65 t66 t67 t68 t69 t70 t71 t72 t73 t74 t75 t76 t77 t78 t79 t80 t81 t82 t83 t84 t85 t86 t87 t88 t89 t90 t91 t92 t93 t94 t95 t96 t97 t98 t99 t100 t101 t102 t103 t104 t105 t106 t107 t108 t109 t110 t111 t112 t113 t114 t115 t116 t117 t118 t119 t120 t121 t122 t123 t124 t125 t126 t127 t128 t129 t130 t131 t132 t133 t134 t135 t136 t137 t138 t139 t140 t141 t142 t143 t144 t145 t146 t147 t148 t149 t150 t151 t152 t153 t154 t155 t156 t157 t158 t159 t160 t161 t162 t163 t164 t165 t166 t167 t168 t169 t170 t171 t172 t173 t174 t175 : Value)
    (hc : (Try.f12.body.bind (findR 15)) = some c)
    (hQ : ∀ (u108 u109 u110 u111 u112 u113 u114 u115 u116 u117 u118 u119 u120 u121 u122 u123 u124 u125 u126 u127 u128 u129 u130 u131 u132 u133 u134 u135 u136 : Value) (wx : World), Ext wr wx → Q .normal { tmps := List.toArray (t0 :: (str k) :: t2 :: t3 :: t4 :: t5 :: t6 :: t7 :: t8 :: t9 :: t10 :: (ptr b11) :: (.bool false) :: (ptr b13) :: (.bool c13) :: t15 :: t16 :: t17 :: (ptr qb) :: t19 :: t20 :: t21 :: t22 :: t23 :: t24 :: t25 :: t26 :: t27 :: t28 :: t29 :: t30 :: t31 :: t32 :: t33 :: t34 :: t35 :: t36 :: t37 :: t38 :: t39 :: t40 :: t41 :: t42 :: t43 :: t44 :: t45 :: t46 :: t47 :: t48 :: t49 :: t50 :: t51 :: t52 :: t53 :: t54 :: t55 :: t56 :: t57 :: t58 :: t59 :: t60 :: t61 :: t62 :: t63 :: t64 :: t65 :: t66 :: t67 :: t68 :: t69 :: t70 :: t71 :: t72 :: t73 :: t74 :: t75 :: t76 :: t77 :: t78 :: t79 :: t80 :: t81 :: t82 :: t83 :: t84 :: t85 :: t86 :: t87 :: t88 :: t89 :: t90 :: t91 :: t92 :: t93 :: t94 :: t95 :: t96 :: t97 :: t98 :: t99 :: t100 :: t101 :: t102 :: t103 :: t104 :: t105 :: t106 :: t107 :: u108 :: u109 :: u110 :: u111 :: u112 :: u113 :: u114 :: u115 :: u116 :: u117 :: u118 :: u119 :: u120 :: u121 :: u122 :: u123 :: u124 :: u125 :: u126 :: u127 :: u128 :: u129 :: u130 :: u131 :: u132 :: u133 :: u134 :: u135 :: u136 :: (.bool false) :: t138 :: t139 :: t140 :: t141 :: t142 :: t143 :: t144 :: t145 :: t146 :: t147 :: t148 :: t149 :: t150 :: t151 :: t152 :: t153 :: t154 :: t155 :: t156 :: t157 :: t158 :: t159 :: t160 :: t161 :: t162 :: t163 :: t164 :: t165 :: t166 :: t167 :: t168 :: t169 :: t170 :: t171 :: t172 :: t173 :: t174 :: t175 :: []), defers := [] } wx) :
    c.wp Try.prog Q { tmps := List.toArray (t0 :: (str k) :: t2 :: t3 :: t4 :: t5 :: t6 :: t7 :: t8 :: t9 :: t10 :: (ptr b11) :: (.bool false) :: (ptr b13) :: (.bool c13) :: t15 :: t16 :: t17 :: (ptr qb) :: t19 :: t20 :: t21 :: t22 :: t23 :: t24 :: t25 :: t26 :: t27 :: t28 :: t29 :: t30 :: t31 :: t32 :: t33 :: t34 :: t35 :: t36 :: t37 :: t38 :: t39 :: t40 :: t41 :: t42 :: t43 :: t44 :: t45 :: t46 :: t47 :: t48 :: t49 :: t50 :: t51 :: t52 :: t53 :: t54 :: t55 :: t56 :: t57 :: t58 :: t59 :: t60 :: t61 :: t62 :: t63 :: t64 :: t65 :: t66 :: t67 :: t68 :: t69 :: t70 :: t71 :: t72 :: t73 :: t74 :: t75 :: t76 :: t77 :: t78 :: t79 :: t80 :: t81 :: t82 :: t83 :: t84 :: t85 :: t86 :: t87 :: t88 :: t89 :: t90 :: t91 :: t92 :: t93 :: t94 :: t95 :: t96 :: t97 :: t98 :: t99 :: t100 :: t101 :: t102 :: t103 :: t104 :: t105 :: t106 :: t107 :: t108 :: t109 :: t110 :: t111 :: t112 :: t113 :: t114 :: t115 :: t116 :: t117 :: t118 :: t119 :: t120 :: t121 :: t122 :: t123 :: t124 :: t125 :: t126 :: t127 :: t128 :: t129 :: t130 :: t131 :: t132 :: t133 :: t134 :: t135 :: t136 :: t137 :: t138 :: t139 :: t140 :: t141 :: t142 :: t143 :: t144 :: t145 :: t146 :: t147 :: t148 :: t149 :: t150 :: t151 :: t152 :: t153 :: t154 :: t155 :: t156 :: t157 :: t158 :: t159 :: t160 :: t161 :: t162 :: t163 :: t164 :: t165 :: t166 :: t167 :: t168 :: t169 :: t170 :: t171 :: t172 :: t173 :: t174 :: t175 :: []), defers := [] } wr := by
  change some _ = some c at hc
  cases hc
  have HQF := Lib.hid hQ
  clear hQ
  have H2 := Lib.hid h2
  have h0 := Ext.refl wr
  have HE := Lib.hid h0
  have HC : Hid (∀ x, Ext wr x → (x.cell? ⟨b11, 0, none⟩ = some (str a11) ∧ x.cell? ⟨b13, 0, none⟩ = some (str a13)) ∧ x.cell? ⟨qb, 0, none⟩ = some (str qk)) := Lib.hid fun x hx => ⟨⟨(bx_cells (bx_ext HB.out.1 hx)).1, (bx_cells (bx_ext HB.out.2.1 hx)).1⟩, (bx_cells (bx_ext HB.out.2.2 hx)).1⟩
  obtain ⟨⟨l0, g0⟩, q0⟩ := HC.out wr h0
  clear h2 h0
  cases c13 with
  | false =>
    repeat' (first | go_skip | go_guarded | go_step)
    exact HQF.out _ _ _ _ _ _ _ _ _ _ _ _ _ _ _ _ _ _ _ _ _ _ _ _ _ _ _ _ _ _ HE.out
  | true =>
    by_cases h5 : k < qk
    · have h6 : ¬ qk < a13 := fun h => H2.out rfl ⟨h5, h⟩
      repeat' (first | go_at_call 49 | go_skip | go_guarded | go_step)
      refine (less_c' _ k qk (by omega)).mono ?_
      rintro e x ⟨rfl, f⟩
      rw [show decide (k < qk) = true by simpa using h5]
      replace HE := Lib.hid (Ext.trans HE.out f)
      clear f l0 g0 q0
      obtain ⟨⟨l0, g0⟩, q0⟩ := HC.out x HE.out
      go_simp
      repeat' (first | go_at_call 49 | go_skip | go_guarded | go_step)
      refine (less_c' _ qk a13 (by omega)).mono ?_
      rintro e x ⟨rfl, f⟩
      rw [show decide (qk < a13) = false by simpa using h6]
      replace HE := Lib.hid (Ext.trans HE.out f)
      clear f l0 g0 q0
      obtain ⟨⟨l0, g0⟩, q0⟩ := HC.out x HE.out
      go_simp
      repeat' (first | go_skip | go_guarded | go_step)
      exact HQF.out _ _ _ _ _ _ _ _ _ _ _ _ _ _ _ _ _ _ _ _ _ _ _ _ _ _ _ _ _ _ HE.out
    · skip
      repeat' (first | go_at_call 49 | go_skip | go_guarded | go_step)
      refine (less_c' _ k qk (by omega)).mono ?_
      rintro e x ⟨rfl, f⟩
      rw [show decide (k < qk) = false by simpa using h5]
      replace HE := Lib.hid (Ext.trans HE.out f)
      clear f l0 g0 q0
      obtain ⟨⟨l0, g0⟩, q0⟩ := HC.out x HE.out
      go_simp
      repeat' (first | go_skip | go_guarded | go_step)
      exact HQF.out _ _ _ _ _ _ _ _ _ _ _ _ _ _ _ _ _ _ _ _ _ _ _ _ _ _ _ _ _ _ HE.out

end Go.Proofs.Ytaehdkgmkjhmgaa
