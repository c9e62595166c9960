/- NodeNil: the last region's middle: a law of its own. -/
import Derived.Test.YtlgnokhfioglaaaOc
namespace Go.Proofs.Ytlgnokhfioglaaa
open Go.RowKit Go.QS Go.QS.Nk
set_option linter.unusedVariables false

set_option maxRecDepth 100000 in
set_option maxHeartbeats 2000000 in
theorem nn_7b (wr : World) (gp : Nat) (i : Int) (p : Pr) (g3 : Nat) (N3 : Hid (In ND wr g3 (sl0 Nat))) (H : Hid (wr.cell? ⟨gp, 0, none⟩ = some (str p.1) ∧ wr.cell? ⟨gp, 1, none⟩ = some (str p.2))) (ops : Array Oper) (l : List Oper) (Q : Exit → Act → World → Prop) (t1 t2 t4 t6 t8 t11 t12 t13 t14 t15 t16 t17 t18 t19 t20 t21 t22 t23 t24 t25 t26 t27 t28 t29 t30 t31 t32 t33 t34 t35 t36 t37 t38 t39 t40 t41 t42 t43 t44 t45 t46 t47 t48 t49 t50 t51 t52 t53 t54 t55 t56 t57 t58 t59 t60 t61 t62 t64 t66 t67 t68 t69 t70 t71 t72 t73 t74 t75 t76 t77 t78 t79 t80 t81 t82 t83 t84 t85 t86 t87 t88 t89 t90 t91 t92 t93 t94 t95 t96 t97 t98 t99 t100 t101 t102 t103 t104 t105 t106 t107 t108 t109 t110 t111 t112 t113 t114 t115 t116 t117 t118 t119 t120 : Value)
    (ho : ((Try.f4.body.bind (findR 7)).bind opsOf) = some ops) (hl : (((Try.f4.body.bind (findR 7)).bind opsOf).bind fun o => dropO 37 o.toList) = some l)
    (hQ : ∀ (u66 u67 u68 u69 u70 u71 u72 u73 u74 u75 u76 u77 u78 u79 u80 u81 u82 u83 u84 u85 u86 u87 u88 u89 u90 u91 u92 u93 u94 u95 u96 u97 u98 u99 u100 u101 u102 u103 u104 u105 u106 u107 u108 u109 u110 u111 u112 u113 u114 u115 u116 u117 u118 u119 : Value) (wx : World), Ext wr wx → Q .normal { tmps := List.toArray ((.int .i64 i) :: t1 :: t2 :: (ptr gp) :: (.bool true) :: nil0 :: t6 :: (.bool false) :: t8 :: (.bool false) :: (ptr g3) :: t11 :: t12 :: t13 :: t14 :: t15 :: t16 :: t17 :: t18 :: t19 :: t20 :: t21 :: t22 :: t23 :: t24 :: t25 :: t26 :: t27 :: t28 :: t29 :: t30 :: t31 :: t32 :: t33 :: t34 :: t35 :: t36 :: t37 :: t38 :: t39 :: t40 :: t41 :: t42 :: t43 :: t44 :: t45 :: t46 :: t47 :: t48 :: t49 :: t50 :: t51 :: t52 :: t53 :: t54 :: t55 :: t56 :: t57 :: t58 :: t59 :: t60 :: t61 :: t62 :: (.bool true) :: t64 :: (.bool false) :: u66 :: u67 :: u68 :: u69 :: u70 :: u71 :: u72 :: u73 :: u74 :: u75 :: u76 :: u77 :: u78 :: u79 :: u80 :: u81 :: u82 :: u83 :: u84 :: u85 :: u86 :: u87 :: u88 :: u89 :: u90 :: u91 :: u92 :: u93 :: u94 :: u95 :: u96 :: u97 :: u98 :: u99 :: u100 :: u101 :: u102 :: u103 :: u104 :: u105 :: u106 :: u107 :: u108 :: u109 :: u110 :: u111 :: u112 :: u113 :: u114 :: u115 :: u116 :: u117 :: u118 :: u119 :: (.bool true) :: []), defers := [] } wx) :
    wpList Try.prog ops Q l { tmps := List.toArray ((.int .i64 i) :: t1 :: t2 :: (ptr gp) :: t4 :: nil0 :: t6 :: (.bool false) :: t8 :: (.bool false) :: (ptr g3) :: t11 :: t12 :: t13 :: t14 :: t15 :: t16 :: t17 :: t18 :: t19 :: t20 :: t21 :: t22 :: t23 :: t24 :: t25 :: t26 :: t27 :: t28 :: t29 :: t30 :: t31 :: t32 :: t33 :: t34 :: t35 :: t36 :: t37 :: t38 :: t39 :: t40 :: t41 :: t42 :: t43 :: t44 :: t45 :: t46 :: t47 :: t48 :: t49 :: t50 :: t51 :: t52 :: t53 :: t54 :: t55 :: t56 :: t57 :: t58 :: t59 :: t60 :: t61 :: t62 :: (.bool true) :: t64 :: (.bool false) :: t66 :: t67 :: t68 :: t69 :: t70 :: t71 :: t72 :: t73 :: t74 :: t75 :: t76 :: t77 :: t78 :: t79 :: t80 :: t81 :: t82 :: t83 :: t84 :: t85 :: t86 :: t87 :: t88 :: t89 :: t90 :: t91 :: t92 :: t93 :: t94 :: t95 :: t96 :: t97 :: t98 :: t99 :: t100 :: t101 :: t102 :: t103 :: t104 :: t105 :: t106 :: t107 :: t108 :: t109 :: t110 :: t111 :: t112 :: t113 :: t114 :: t115 :: t116 :: t117 :: t118 :: t119 :: t120 :: []), defers := [] } wr := by
  change some _ = some ops at ho
  cases ho
  change some _ = some l at hl
  cases hl
  have HQF := Lib.hid hQ
  clear hQ
  have SPZ : Hid (∀ w1, Calls Try.prog 18 #[nil0, nil0, .int .i64 i, .agg #[str p.1, str p.2]] w1 fun e w' => e = .returned nil0 ∧ Ext w1 w') := Lib.hid (fun w1 => setPair_same w1 nil0 nil0 i p (Lib.hid fun w2 _ => inner_nil w2 i))
  have CZ : Hid (∀ w1, Calls Try.prog 21 #[nil0, nil0, .int .i64 i] w1 fun e w' => e = .returned nil0 ∧ Ext w1 w') := Lib.hid (fun w1 => clear_same w1 nil0 nil0 i (Lib.hid fun w2 _ => inner_nil w2 i))
  have SKZ : Hid (∀ w1, Calls Try.prog 25 #[nil0, nil0, .int .i64 i, nil0] w1 fun e w' => e = .returned nil0 ∧ Ext w1 w') := Lib.hid (fun w1 => by
    refine setKid_nil w1 nil0 nil0 i (Lib.hid ?_)
    refine (CZ.out w1).mono ?_
    rintro e w' ⟨rfl, h⟩
    exact ⟨_, rfl, rfl, h⟩)
  have SKN : Hid (∀ w1 k, Calls Try.prog 25 #[nil0, nil0, .int .i64 i, ptr k] w1 fun e w' => e = .returned nil0 ∧ Ext w1 w') := Lib.hid (fun w1 k => setKid_same w1 nil0 nil0 i k (Lib.hid fun w2 _ => inner_nil w2 i))
  have kc : Hid (Ext wr wr) := Lib.hid (Ext.refl _)
  obtain ⟨q1, q2⟩ := H.out
  repeat' (first | go_at_call 18 | go_skip | go_guarded | go_step)
  (with_reducible refine (SPZ.out _).mono ?_)
  rintro e xc ⟨rfl, fc⟩
  replace kc := Lib.hid (Ext.trans kc.out fc)
  clear fc q1 q2
  obtain ⟨q1, q2⟩ := keep2n kc.out H.out
  go_simp
  repeat' (first | go_at_call 25 | go_skip | go_guarded | go_step)
  (with_reducible refine (SKZ.out _).mono ?_)
  rintro e xc ⟨rfl, fc⟩
  replace kc := Lib.hid (Ext.trans kc.out fc)
  clear fc q1 q2
  obtain ⟨q1, q2⟩ := keep2n kc.out H.out
  go_simp
  repeat' (first | go_at_call 25 | go_skip | go_guarded | go_step)
  (with_reducible refine (SKN.out _ _).mono ?_)
  rintro e xc ⟨rfl, fc⟩
  replace kc := Lib.hid (Ext.trans kc.out fc)
  clear fc q1 q2
  obtain ⟨q1, q2⟩ := keep2n kc.out H.out
  go_simp
  repeat' (first | go_at_call 21 | go_skip | go_guarded | go_step)
  (with_reducible refine (CZ.out _).mono ?_)
  rintro e xc ⟨rfl, fc⟩
  replace kc := Lib.hid (Ext.trans kc.out fc)
  clear fc q1 q2
  obtain ⟨q1, q2⟩ := keep2n kc.out H.out
  go_simp
  repeat' (first | go_at_call 31 | go_skip | go_guarded | go_step)
  (with_reducible refine (nput_nil _ _ _).mono ?_)
  rintro e xc ⟨rfl, fc⟩
  replace kc := Lib.hid (Ext.trans kc.out fc)
  clear fc q1 q2
  obtain ⟨q1, q2⟩ := keep2n kc.out H.out
  go_simp
  apply_assumption
  refine nn_7c _ gp i p g3 (Lib.hid (N3.out.ext kc.out)) (Lib.hid ⟨q1, q2⟩) _ _ _ _ _ _ _ _ _ _ _ _ _ _ _ _ _ _ _ _ _ _ _ _ _ _ _ _ _ _ _ _ _ _ _ _ _ _ _ _ _ _ _ _ _ _ _ _ _ _ _ _ _ _ _ _ _ _ _ _ _ _ _ _ _ _ _ _ _ _ _ _ _ _ _ _ _ _ _ _ _ _ _ _ _ _ _ _ _ _ _ _ _ _ _ _ _ _ _ _ _ _ _ _ _ _ _ _ _ _ _ _ _ _ _ _ (by kernel_rfl) (by kernel_rfl) ?_
  intro y98 y99 y100 y101 y102 y103 y104 y105 y106 y107 y108 y109 y110 y111 y112 y113 y114 y115 y116 y117 y118 y119 wx fx
  exact HQF.out _ _ _ _ _ _ _ _ _ _ _ _ _ _ _ _ _ _ _ _ _ _ _ _ _ _ _ _ _ _ _ _ _ _ _ _ _ _ _ _ _ _ _ _ _ _ _ _ _ _ _ _ _ _ _ (Ext.trans kc.out fx)

end Go.Proofs.Ytlgnokhfioglaaa
