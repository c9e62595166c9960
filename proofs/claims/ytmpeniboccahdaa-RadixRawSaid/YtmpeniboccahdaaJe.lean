/- RadixRaw: a label and a value, not too long: a law of its own. -/
import Derived.Test.YtmpeniboccahdaaJd
import Derived.Deep.RegionHeld3
namespace Go.Proofs.Ytmpeniboccahdaa
open Go.RowKit Go.QS
set_option linter.unusedVariables false

theorem keep2r {w w' : World} {a1 a2 : Addr} {u1 u2 : Value} (f : Ext w w') (h : w.cell? a1 = some u1 ∧ w.cell? a2 = some u2) : w'.cell? a1 = some u1 ∧ w'.cell? a2 = some u2 :=
  ⟨(f.cell (World.block_lt_of_cell? w _ h.1)).trans h.1, (f.cell (World.block_lt_of_cell? w _ h.2)).trans h.2⟩
set_option maxRecDepth 100000 in
theorem fieldP1 (a x : Value) (w : World) : (Instr.field 24 (.agg #[a, x]) 1).run Try.prog w = .ok x w := by
  unfold Instr.field
  simp [go_sem, asAgg]

set_option maxRecDepth 100000 in
set_option maxHeartbeats 2000000 in
theorem raw_9 (wr : World) (g6 : Nat) (lab val : List UInt8) (H : Hid (wr.cell? ⟨g6, 1, none⟩ = some (str lab) ∧ wr.cell? ⟨g6, 3, none⟩ = some (str val))) (c : Code) (Q : Exit → Act → World → Prop) (t0 t1 t2 t3 t4 t5 t7 t8 t9 t10 t11 t12 t13 t14 t15 t16 t17 t18 t19 t20 t21 t22 t23 t24 t25 t26 t27 t28 t29 t30 t31 t32 t33 t34 t35 t36 t37 t38 t39 t40 t41 t42 t43 t44 t45 t46 t47 t48 t49 t50 t51 t52 t53 t54 t55 t56 t57 t58 t59 t60 t61 t62 t63 t64 t65 t66 t67 t68 t69 t70 t71 t72 t73 t74 t75 t76 t77 t78 t79 t80 t81 t82 t83 t84 t85 t86 t87 t88 t89 t90 t91 t92 t93 t94 t95 t96 t97 t98 t99 t100 t101 t102 t103 t104 t105 t106 t107 t108 t109 t110 t111 t112 t113 t114 t115 t116 t117 t118 t119 t120 t121 t122 t123 t124 t125 t126 t127 t128 t129 : Value)
    (hc : (Try.f4.body.bind (findR 9)) = some c)
    (hQ : ∀ (u26 u27 u28 u29 u30 u31 u32 u33 u34 u35 u36 u37 : Value) (wx : World), Ext wr wx → Q .normal { tmps := List.toArray (t0 :: t1 :: t2 :: t3 :: t4 :: t5 :: (ptr g6) :: ((str (cutP (lab, val)).1)) :: ((str (cutP (([] : List UInt8), val)).2)) :: t9 :: t10 :: t11 :: t12 :: t13 :: t14 :: t15 :: t16 :: t17 :: t18 :: t19 :: t20 :: t21 :: t22 :: t23 :: t24 :: t25 :: u26 :: u27 :: u28 :: u29 :: u30 :: u31 :: u32 :: u33 :: u34 :: u35 :: u36 :: u37 :: t38 :: t39 :: t40 :: t41 :: t42 :: t43 :: t44 :: t45 :: t46 :: t47 :: t48 :: t49 :: t50 :: t51 :: t52 :: t53 :: t54 :: t55 :: t56 :: t57 :: t58 :: t59 :: t60 :: t61 :: t62 :: t63 :: t64 :: t65 :: t66 :: t67 :: t68 :: t69 :: t70 :: t71 :: t72 :: t73 :: t74 :: t75 :: t76 :: t77 :: t78 :: t79 :: t80 :: t81 :: t82 :: t83 :: t84 :: t85 :: t86 :: t87 :: t88 :: t89 :: t90 :: t91 :: t92 :: t93 :: t94 :: t95 :: t96 :: t97 :: t98 :: t99 :: t100 :: t101 :: t102 :: t103 :: t104 :: t105 :: t106 :: t107 :: t108 :: t109 :: t110 :: t111 :: t112 :: t113 :: t114 :: t115 :: t116 :: t117 :: t118 :: t119 :: t120 :: t121 :: t122 :: t123 :: t124 :: t125 :: t126 :: t127 :: t128 :: t129 :: []), defers := [] } wx) :
    c.wp Try.prog Q { tmps := List.toArray (t0 :: t1 :: t2 :: t3 :: t4 :: t5 :: (ptr g6) :: t7 :: t8 :: t9 :: t10 :: t11 :: t12 :: t13 :: t14 :: t15 :: t16 :: t17 :: t18 :: t19 :: t20 :: t21 :: t22 :: t23 :: t24 :: t25 :: t26 :: t27 :: t28 :: t29 :: t30 :: t31 :: t32 :: t33 :: t34 :: t35 :: t36 :: t37 :: t38 :: t39 :: t40 :: t41 :: t42 :: t43 :: t44 :: t45 :: t46 :: t47 :: t48 :: t49 :: t50 :: t51 :: t52 :: t53 :: t54 :: t55 :: t56 :: t57 :: t58 :: t59 :: t60 :: t61 :: t62 :: t63 :: t64 :: t65 :: t66 :: t67 :: t68 :: t69 :: t70 :: t71 :: t72 :: t73 :: t74 :: t75 :: t76 :: t77 :: t78 :: t79 :: t80 :: t81 :: t82 :: t83 :: t84 :: t85 :: t86 :: t87 :: t88 :: t89 :: t90 :: t91 :: t92 :: t93 :: t94 :: t95 :: t96 :: t97 :: t98 :: t99 :: t100 :: t101 :: t102 :: t103 :: t104 :: t105 :: t106 :: t107 :: t108 :: t109 :: t110 :: t111 :: t112 :: t113 :: t114 :: t115 :: t116 :: t117 :: t118 :: t119 :: t120 :: t121 :: t122 :: t123 :: t124 :: t125 :: t126 :: t127 :: t128 :: t129 :: []), defers := [] } wr := by
  change some _ = some c at hc
  cases hc
  have HQF := Lib.hid hQ
  clear hQ
  have fp0 := fieldP
  have fp1 := fieldP1
  obtain ⟨q1, q2⟩ := H.out
  have HF1 : Hid (∀ w, Calls Try.prog 14 #[.agg #[str lab, str val]] w fun e w' => e = .returned (.agg #[str (cutP (lab, val)).1, str (cutP (lab, val)).2]) ∧ Ext w w') := Lib.hid (fun w => fewp_c w (lab, val))
  have HF2 : Hid (∀ w, Calls Try.prog 14 #[.agg #[.string ⟨#[]⟩, str val]] w fun e w' => e = .returned (.agg #[str (cutP (([] : List UInt8), val)).1, str (cutP (([] : List UInt8), val)).2]) ∧ Ext w w') := Lib.hid (fun w => fewp_c w ([], val))
  go_region_held3 (fun w' => w'.cell? ⟨g6, 1, none⟩ = some (str lab) ∧ w'.cell? ⟨g6, 3, none⟩ = some (str val))
    (first | exact keep2r k2.out H.out | exact keep2r k1.out H.out | exact keep2r (below_drewN (Ext.refl _) 1) H.out)
    (first
      | (go_at_call 14; ((with_reducible refine (HF1.out _).mono ?_); rintro e x1 ⟨rfl, f1⟩; have k1 : Hid (Ext wr x1) := Lib.hid (Ext.trans (by repeat' (first | exact Ext.refl _ | apply ext_alloc | apply ext_drew | exact below_drewN (Ext.refl _) _)) f1); clear f1))
      | (go_at_call 14; ((with_reducible refine (HF2.out _).mono ?_); rintro e x2 ⟨rfl, f2⟩; have k2 : Hid (Ext wr x2) := Lib.hid (Ext.trans k1.out (Ext.trans (by repeat' (first | exact Ext.refl _ | apply ext_alloc | apply ext_drew | exact below_drewN (Ext.refl _) _)) f2)); clear f2)))
  repeat' (first | go_skip | go_guarded | go_step)
  exact HQF.out _ _ _ _ _ _ _ _ _ _ _ _ _ k2.out

end Go.Proofs.Ytmpeniboccahdaa
