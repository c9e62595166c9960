/- NearSides: its first test, as a law of its own. -/
import Derived.Test.YtaehdkgmkjhmgaaZe
namespace Go.Proofs.Ytaehdkgmkjhmgaa
open Go.RowKit Go.QS
set_option linter.unusedVariables false

def lead : Code → Option Nat
  | .region id _ _ => some id
  | .seq a _ => lead a
  | _ => none
def findS (n : Nat) : Code → Option Code
  | .region id ops d => if id = n then some (.region id ops d) else none
  | .seq a b => if lead a = some n then some (.seq a b) else match findS n a with | some c => some c | none => findS n b
  | .cond _ a b => match findS n a with | some c => some c | none => findS n b
  | .block _ b => findS n b
  | .loop b => findS n b
  | .scope b => findS n b
  | _ => none
def findR (n : Nat) : Code → Option Code
  | .region id ops d => if id = n then some (.region id ops d) else none
  | .seq a b => match findR n a with | some c => some c | none => findR n b
  | .cond _ a b => match findR n a with | some c => some c | none => findR n b
  | .block _ b => findR n b
  | .loop b => findR n b
  | .scope b => findR n b
  | _ => none

set_option maxRecDepth 100000 in
theorem neqNP (w : World) (a b : List UInt8) : (binOp .neq 29 (.agg #[str a, str b]) (.agg #[str a, str b])).run Try.prog w = .ok (.bool false) w := by
  simp only [go_sem]
  simp [go_sem]
set_option maxRecDepth 100000 in
theorem eqNP (w : World) (a b : List UInt8) : (binOp .eql 29 (.agg #[str a, str b]) (.agg #[str a, str b])).run Try.prog w = .ok (.bool true) w := by
  simp only [go_sem]
  simp [go_sem]

set_option maxRecDepth 100000 in
set_option maxHeartbeats 2000000 in
theorem sides_r10 (wr : World) (k : List UInt8) (b7 b9 b11 b13 : Nat) (a7 v7 a9 v9 a11 v11 a13 v13 : List UInt8) (c7 c9 c11 c13 th : Bool)
    (h1 : th = true → a7 = k ∧ a9 = a7 ∧ v9 = v7) (h2 : th = false → (c7 = c11 ∧ a7 = a11 ∧ v7 = v11) ∧ (c9 = c13 ∧ a9 = a13 ∧ v9 = v13))
    (HB : Hid (wr.heap[b7]? = some (.cells #[str a7, str v7] 29 (0, 0)) ∧ wr.heap[b9]? = some (.cells #[str a9, str v9] 29 (0, 0)) ∧ wr.heap[b11]? = some (.cells #[str a11, str v11] 29 (0, 0)) ∧ wr.heap[b13]? = some (.cells #[str a13, str v13] 29 (0, 0)))) (c : Code) (Q : Exit → Act → World → Prop) (t0 t2 t3 t4 t5 t6 t15 t17 t18 t19 t20 t21 t22 t23 t24 t25 t26 t27 t28 t29 t30 t31 t32 t33 t34 t35 t36 t37 t38 t39 t40 t41 t42 t43 t44 t45 t46 t47 t48 t49 t50 t51 t52 t53 t54 t55 t56 t57 t58 t59 t60 t61 t62 t63 t64 t65 t66 t67 t68 t69 t70 t71 t72 t73 t74 t75 t76 t77 t78 t79 t80 t81 t82 t83 t84 t85 t86 t87 t88 t89 t90 t91 t92 t93 t94 t95 t96 t97 t98 t99 t100 t101 t102 t103 t104 t105 t106 t107 t108 t109 t110 t111 t112 t113 t114 t115 t116 t117 t118 t119 t120 t121 t122 t123 t124 t125 t126 t127 t128 t129 t130 t131 t132 t133 t134 t135 t136 t137 t138 t139 t140 t141 t142 t143 t144 t145 t146 t147 t148 t149 t150 t151 t152 t153 t154 t155 t156 t157 t158 t159 t160 t161 t162 t163 t164 t165 t166 t167 t168 t169 t170 t171 t172 t173 t174 t175 : Value)
    (hc : (Try.f12.body.bind (findR 10)) = some c)
    (hQ : ∀ (u66 u67 u68 u69 u70 u71 u72 u73 u74 u75 u76 u77 u78 u79 u80 u81 u82 u83 u84 u85 u86 u87 u88 u89 u90 u91 u92 u93 u94 u95 u96 u97 u98 u99 u100 : Value) (wx : World), wx = wr → Q .normal { tmps := List.toArray (t0 :: (str k) :: t2 :: t3 :: t4 :: t5 :: t6 :: (ptr b7) :: (.bool c7) :: (ptr b9) :: (.bool c9) :: (ptr b11) :: (.bool c11) :: (ptr b13) :: (.bool c13) :: t15 :: (.bool th) :: t17 :: t18 :: t19 :: t20 :: t21 :: t22 :: t23 :: t24 :: t25 :: t26 :: t27 :: t28 :: t29 :: t30 :: t31 :: t32 :: t33 :: t34 :: t35 :: t36 :: t37 :: t38 :: t39 :: t40 :: t41 :: t42 :: t43 :: t44 :: t45 :: t46 :: t47 :: t48 :: t49 :: t50 :: t51 :: t52 :: t53 :: t54 :: t55 :: t56 :: t57 :: t58 :: t59 :: t60 :: t61 :: t62 :: t63 :: t64 :: t65 :: u66 :: u67 :: u68 :: u69 :: u70 :: u71 :: u72 :: u73 :: u74 :: u75 :: u76 :: u77 :: u78 :: u79 :: u80 :: u81 :: u82 :: u83 :: u84 :: u85 :: u86 :: u87 :: u88 :: u89 :: u90 :: u91 :: u92 :: u93 :: u94 :: u95 :: u96 :: u97 :: u98 :: u99 :: u100 :: (.bool false) :: t102 :: t103 :: t104 :: t105 :: t106 :: t107 :: t108 :: t109 :: t110 :: t111 :: t112 :: t113 :: t114 :: t115 :: t116 :: t117 :: t118 :: t119 :: t120 :: t121 :: t122 :: t123 :: t124 :: t125 :: t126 :: t127 :: t128 :: t129 :: t130 :: t131 :: t132 :: t133 :: t134 :: t135 :: t136 :: t137 :: t138 :: t139 :: t140 :: t141 :: t142 :: t143 :: t144 :: t145 :: t146 :: t147 :: t148 :: t149 :: t150 :: t151 :: t152 :: t153 :: t154 :: t155 :: t156 :: t157 :: t158 :: t159 :: t160 :: t161 :: t162 :: t163 :: t164 :: t165 :: t166 :: t167 :: t168 :: t169 :: t170 :: t171 :: t172 :: t173 :: t174 :: t175 :: []), defers := [] } wx) :
    c.wp Try.prog Q { tmps := List.toArray (t0 :: (str k) :: t2 :: t3 :: t4 :: t5 :: t6 :: (ptr b7) :: (.bool c7) :: (ptr b9) :: (.bool c9) :: (ptr b11) :: (.bool c11) :: (ptr b13) :: (.bool c13) :: t15 :: (.bool th) :: t17 :: t18 :: t19 :: t20 :: t21 :: t22 :: t23 :: t24 :: t25 :: t26 :: t27 :: t28 :: t29 :: t30 :: t31 :: t32 :: t33 :: t34 :: t35 :: t36 :: t37 :: t38 :: t39 :: t40 :: t41 :: t42 :: t43 :: t44 :: t45 :: t46 :: t47 :: t48 :: t49 :: t50 :: t51 :: t52 :: t53 :: t54 :: t55 :: t56 :: t57 :: t58 :: t59 :: t60 :: t61 :: t62 :: t63 :: t64 :: t65 :: t66 :: t67 :: t68 :: t69 :: t70 :: t71 :: t72 :: t73 :: t74 :: t75 :: t76 :: t77 :: t78 :: t79 :: t80 :: t81 :: t82 :: t83 :: t84 :: t85 :: t86 :: t87 :: t88 :: t89 :: t90 :: t91 :: t92 :: t93 :: t94 :: t95 :: t96 :: t97 :: t98 :: t99 :: t100 :: t101 :: t102 :: t103 :: t104 :: t105 :: t106 :: t107 :: t108 :: t109 :: t110 :: t111 :: t112 :: t113 :: t114 :: t115 :: t116 :: t117 :: t118 :: t119 :: t120 :: t121 :: t122 :: t123 :: t124 :: t125 :: t126 :: t127 :: t128 :: t129 :: t130 :: t131 :: t132 :: t133 :: t134 :: t135 :: t136 :: t137 :: t138 :: t139 :: t140 :: t141 :: t142 :: t143 :: t144 :: t145 :: t146 :: t147 :: t148 :: t149 :: t150 :: t151 :: t152 :: t153 :: t154 :: t155 :: t156 :: t157 :: t158 :: t159 :: t160 :: t161 :: t162 :: t163 :: t164 :: t165 :: t166 :: t167 :: t168 :: t169 :: t170 :: t171 :: t172 :: t173 :: t174 :: t175 :: []), defers := [] } wr := by
  change some _ = some c at hc
  cases hc
  have HQF := Lib.hid hQ
  clear hQ
  have H1 := Lib.hid h1
  have H2 := Lib.hid h2
  clear h1 h2
  cases th with
  | true =>
    obtain ⟨rfl, rfl, rfl⟩ := H1.out rfl
    obtain ⟨p0, p1⟩ := bx_cells HB.out.1
    obtain ⟨q0, q1⟩ := bx_cells HB.out.2.1
    have hn := fun w => neqNP w a9 v9
    clear H1 H2
    repeat' (first | go_skip | go_guarded | go_step)
    exact HQF.out _ _ _ _ _ _ _ _ _ _ _ _ _ _ _ _ _ _ _ _ _ _ _ _ _ _ _ _ _ _ _ _ _ _ _ _ rfl
  | false =>
    obtain ⟨⟨rfl, rfl, rfl⟩, rfl, rfl, rfl⟩ := H2.out rfl
    obtain ⟨p0, p1⟩ := bx_cells HB.out.1
    obtain ⟨q0, q1⟩ := bx_cells HB.out.2.1
    obtain ⟨r0, r1⟩ := bx_cells HB.out.2.2.1
    obtain ⟨s0, s1⟩ := bx_cells HB.out.2.2.2
    have hn1 := fun w => neqNP w a7 v7
    have hn2 := fun w => neqNP w a9 v9
    have hc1 : (c7 != c7) = false := by simp
    have hc2 : (c9 != c9) = false := by simp
    clear H1 H2
    repeat' (first | go_skip | go_guarded | go_step)
    exact HQF.out _ _ _ _ _ _ _ _ _ _ _ _ _ _ _ _ _ _ _ _ _ _ _ _ _ _ _ _ _ _ _ _ _ _ _ _ rfl

end Go.Proofs.Ytaehdkgmkjhmgaa
