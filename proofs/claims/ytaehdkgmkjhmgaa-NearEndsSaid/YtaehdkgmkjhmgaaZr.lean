/- NearEnds: its first test, as a law of its own. -/
import Derived.Test.YtaehdkgmkjhmgaaZq
import Derived.Test.YtaehdkgmkjhmgaaYr
import Derived.Test.YtaehdkgmkjhmgaaYs
namespace Go.Proofs.Ytaehdkgmkjhmgaa
open Go.RowKit Go.QS
set_option linter.unusedVariables false

set_option maxRecDepth 100000 in
set_option maxHeartbeats 2000000 in
theorem ends_r10 (wr : World) (b7 b9 b11 b13 b15 b17 : Nat) (a7 v7 a9 v9 a11 v11 : List UInt8) (c7 c9 c11 : Bool)
    (HB : Hid ((wr.heap[b7]? = some (.cells #[str a7, str v7] 29 (0, 0)) ∧ wr.heap[b13]? = some (.cells #[str a7, str v7] 40 (0, 0))) ∧ (wr.heap[b9]? = some (.cells #[str a9, str v9] 29 (0, 0)) ∧ wr.heap[b15]? = some (.cells #[str a9, str v9] 40 (0, 0))) ∧ (wr.heap[b11]? = some (.cells #[str a11, str v11] 29 (0, 0)) ∧ wr.heap[b17]? = some (.cells #[str a11, str v11] 40 (0, 0))))) (c : Code) (Q : Exit → Act → World → Prop) (t0 t1 t2 t3 t4 t5 t6 t19 t20 t21 t22 t23 t24 t25 t26 t27 t28 t29 t30 t31 t32 t33 t34 t35 t36 t37 t38 t39 t40 t41 t42 t43 t44 t45 t46 t47 t48 t49 t50 t51 t52 t53 t54 t55 t56 t57 t58 t59 t60 t61 t62 t63 t64 t65 t66 t67 t68 t69 t70 t71 t72 t73 t74 t75 t76 t77 t78 t79 t80 t81 t82 t83 t84 t85 t86 t87 t88 t89 t90 t91 t92 t93 t94 t95 t96 t97 t98 t99 t100 t101 t102 t103 t104 t105 t106 t107 t108 t109 t110 t111 t112 t113 : Value)
    (hc : (Try.f11.body.bind (findR 10)) = some c)
    (hQ : ∀ (u64 u65 u66 u67 u68 u69 u70 u71 u72 u73 u74 u75 u76 u77 u78 u79 u80 u81 u82 u83 u84 : Value) (wx : World), Ext wr wx → Q .normal { tmps := List.toArray (t0 :: t1 :: t2 :: t3 :: t4 :: t5 :: t6 :: (ptr b7) :: (.bool c7) :: (ptr b9) :: (.bool c9) :: (ptr b11) :: (.bool c11) :: (ptr b13) :: (.bool c7) :: (ptr b15) :: (.bool c9) :: (ptr b17) :: (.bool c11) :: t19 :: t20 :: t21 :: t22 :: t23 :: t24 :: t25 :: t26 :: t27 :: t28 :: t29 :: t30 :: t31 :: t32 :: t33 :: t34 :: t35 :: t36 :: t37 :: t38 :: t39 :: t40 :: t41 :: t42 :: t43 :: t44 :: t45 :: t46 :: t47 :: t48 :: t49 :: t50 :: t51 :: t52 :: t53 :: t54 :: t55 :: t56 :: t57 :: t58 :: t59 :: t60 :: t61 :: t62 :: t63 :: u64 :: u65 :: u66 :: u67 :: u68 :: u69 :: u70 :: u71 :: u72 :: u73 :: u74 :: u75 :: u76 :: u77 :: u78 :: u79 :: u80 :: u81 :: u82 :: u83 :: u84 :: (.bool false) :: t86 :: t87 :: t88 :: t89 :: t90 :: t91 :: t92 :: t93 :: t94 :: t95 :: t96 :: t97 :: t98 :: t99 :: t100 :: t101 :: t102 :: t103 :: t104 :: t105 :: t106 :: t107 :: t108 :: t109 :: t110 :: t111 :: t112 :: t113 :: []), defers := [] } wx) :
    c.wp Try.prog Q { tmps := List.toArray (t0 :: t1 :: t2 :: t3 :: t4 :: t5 :: t6 :: (ptr b7) :: (.bool c7) :: (ptr b9) :: (.bool c9) :: (ptr b11) :: (.bool c11) :: (ptr b13) :: (.bool c7) :: (ptr b15) :: (.bool c9) :: (ptr b17) :: (.bool c11) :: t19 :: t20 :: t21 :: t22 :: t23 :: t24 :: t25 :: t26 :: t27 :: t28 :: t29 :: t30 :: t31 :: t32 :: t33 :: t34 :: t35 :: t36 :: t37 :: t38 :: t39 :: t40 :: t41 :: t42 :: t43 :: t44 :: t45 :: t46 :: t47 :: t48 :: t49 :: t50 :: t51 :: t52 :: t53 :: t54 :: t55 :: t56 :: t57 :: t58 :: t59 :: t60 :: t61 :: t62 :: t63 :: t64 :: t65 :: t66 :: t67 :: t68 :: t69 :: t70 :: t71 :: t72 :: t73 :: t74 :: t75 :: t76 :: t77 :: t78 :: t79 :: t80 :: t81 :: t82 :: t83 :: t84 :: t85 :: t86 :: t87 :: t88 :: t89 :: t90 :: t91 :: t92 :: t93 :: t94 :: t95 :: t96 :: t97 :: t98 :: t99 :: t100 :: t101 :: t102 :: t103 :: t104 :: t105 :: t106 :: t107 :: t108 :: t109 :: t110 :: t111 :: t112 :: t113 :: []), defers := [] } wr := by
  change some _ = some c at hc
  cases hc
  have HQF := Lib.hid hQ
  clear hQ
  have h0 := Ext.refl wr
  have HE := Lib.hid h0
  clear h0
  obtain ⟨p0, p1⟩ := bx_cells HB.out.1.1
  obtain ⟨r0, r1⟩ := bx_cells HB.out.1.2
  repeat' (first | go_at_call 44 | go_skip | go_guarded | go_step)
  refine (same_c _ a7 v7 c7).mono ?_
  rintro e x1 ⟨rfl, f1⟩
  clear p0 p1 r0 r1
  replace HE := Lib.hid f1
  obtain ⟨p0, p1⟩ := bx_cells (bx_ext HB.out.2.1.1 HE.out)
  obtain ⟨r0, r1⟩ := bx_cells (bx_ext HB.out.2.1.2 HE.out)
  clear f1
  go_simp
  repeat' (first | go_at_call 44 | go_skip | go_guarded | go_step)
  refine (same_c _ a9 v9 c9).mono ?_
  rintro e x2 ⟨rfl, f2⟩
  clear p0 p1 r0 r1
  replace HE := Lib.hid (Ext.trans HE.out f2)
  obtain ⟨p0, p1⟩ := bx_cells (bx_ext HB.out.2.2.1 HE.out)
  obtain ⟨r0, r1⟩ := bx_cells (bx_ext HB.out.2.2.2 HE.out)
  clear f2
  go_simp
  repeat' (first | go_at_call 44 | go_skip | go_guarded | go_step)
  refine (same_c _ a11 v11 c11).mono ?_
  rintro e x3 ⟨rfl, f3⟩
  clear p0 p1 r0 r1
  replace HE := Lib.hid (Ext.trans HE.out f3)
  clear f3
  go_simp
  repeat' (first | go_skip | go_guarded | go_step)
  refine HQF.out _ _ _ _ _ _ _ _ _ _ _ _ _ _ _ _ _ _ _ _ _ _ ?_
  exact HE.out

end Go.Proofs.Ytaehdkgmkjhmgaa
