/- RadixPlays: a pair is put: a law of its own. -/
import Derived.Test.YtmpeniboccahdaaVn
namespace Go.Proofs.Ytmpeniboccahdaa
open Go.RowKit Go.QS
set_option linter.unusedVariables false

set_option maxRecDepth 100000 in
set_option maxHeartbeats 2000000 in
theorem plays_16 (wr : World) (g gp : Nat) (v6 : Value) (T : RT) (X : List Pr) (p : Pr) (H : Hid (Box wr gp p ∧ Rep NT wr g T ∧ Ok T X ∧ PS wr v6 X)) (hX : X.length ≤ 1000) (hp : p.1.length ≤ 40 ∧ p.2.length ≤ 40) (th : Bool) (hth : Hid (hasK X p.1 = th)) (was : List UInt8) (hw : Hid (th = true → was = p.2 → p ∈ X)) (c d : Code) (K : Act → World → Prop) (Q : Exit → Act → World → Prop) (t0 t1 t2 t3 t4 t7 t8 t12 t13 t14 t15 t16 t17 t18 t19 t20 t21 t22 t23 t24 t25 t26 t27 t28 t29 t30 t31 t32 t33 t34 t35 t36 t37 t38 t39 t40 t41 t42 t43 t44 t45 t46 t47 t48 t49 t50 t51 t52 t53 t54 t55 t56 t57 t58 t59 t60 t61 t62 t63 t64 t65 t66 t67 t68 t69 t70 t71 t72 t73 t74 t75 t76 t77 t78 t79 t80 t81 t82 t83 t84 t85 t86 t87 t88 t89 t90 t91 t92 t93 t94 t95 t96 t97 t98 t99 t100 t101 t102 t103 t104 t105 t106 t107 t108 t109 t110 t111 t112 t113 t114 t115 t116 t117 t118 t119 t120 t121 t122 t123 t124 t125 t126 t127 t128 t129 t130 t131 t132 t133 t134 t135 t136 t137 t138 t139 t140 t141 t142 t143 t144 t145 t146 t147 t148 t149 t150 t151 t152 t153 t154 t155 t156 t157 t158 t159 t160 t161 t162 t163 t164 t165 : Value)
    (hc : (Try.f7.body.bind (findR 16)) = some c) (hd : (Try.f7.body.bind (findS 17)) = some d)
    (hK : ∀ a w, d.wp Try.prog Q a w → K a w)
    (hQ : ∀ (g2 : Nat) (T2 : RT) (v2 : Value) (u14 u15 u76 u77 u78 u79 u80 u81 u82 u83 u84 u85 u86 u87 u88 u89 u90 u91 u92 u93 u94 u95 u96 u97 u98 u99 u100 u101 u102 : Value) (wx : World), Ext wr wx ∧ Rep NT wx g2 T2 ∧ Ok T2 (rput X p) ∧ PS wx v2 (rput X p) → Q .normal { tmps := List.toArray (t0 :: t1 :: t2 :: t3 :: t4 :: (ptr g2) :: v2 :: t7 :: t8 :: (ptr gp) :: (str was) :: (.bool th) :: t12 :: t13 :: u14 :: u15 :: t16 :: t17 :: t18 :: t19 :: t20 :: t21 :: t22 :: t23 :: t24 :: t25 :: t26 :: t27 :: t28 :: t29 :: t30 :: t31 :: t32 :: t33 :: t34 :: t35 :: t36 :: t37 :: t38 :: t39 :: t40 :: t41 :: t42 :: t43 :: t44 :: t45 :: t46 :: t47 :: t48 :: t49 :: t50 :: t51 :: t52 :: t53 :: t54 :: t55 :: t56 :: t57 :: t58 :: t59 :: t60 :: t61 :: t62 :: t63 :: t64 :: t65 :: t66 :: t67 :: t68 :: t69 :: t70 :: t71 :: t72 :: t73 :: t74 :: t75 :: u76 :: u77 :: u78 :: u79 :: u80 :: u81 :: u82 :: u83 :: u84 :: u85 :: u86 :: u87 :: u88 :: u89 :: u90 :: u91 :: u92 :: u93 :: u94 :: u95 :: u96 :: u97 :: u98 :: u99 :: u100 :: u101 :: u102 :: t103 :: t104 :: t105 :: t106 :: t107 :: t108 :: t109 :: t110 :: t111 :: t112 :: t113 :: t114 :: t115 :: t116 :: t117 :: t118 :: t119 :: t120 :: t121 :: t122 :: t123 :: t124 :: t125 :: t126 :: t127 :: t128 :: t129 :: t130 :: t131 :: t132 :: t133 :: t134 :: t135 :: t136 :: t137 :: t138 :: t139 :: t140 :: t141 :: t142 :: t143 :: t144 :: t145 :: t146 :: t147 :: t148 :: t149 :: t150 :: t151 :: t152 :: t153 :: t154 :: t155 :: t156 :: t157 :: t158 :: t159 :: t160 :: t161 :: t162 :: t163 :: t164 :: t165 :: []), defers := [] } wx) :
    c.wp Try.prog (Exit.then K Q) { tmps := List.toArray (t0 :: t1 :: t2 :: t3 :: t4 :: (ptr g) :: v6 :: t7 :: t8 :: (ptr gp) :: (str was) :: (.bool th) :: t12 :: t13 :: t14 :: t15 :: t16 :: t17 :: t18 :: t19 :: t20 :: t21 :: t22 :: t23 :: t24 :: t25 :: t26 :: t27 :: t28 :: t29 :: t30 :: t31 :: t32 :: t33 :: t34 :: t35 :: t36 :: t37 :: t38 :: t39 :: t40 :: t41 :: t42 :: t43 :: t44 :: t45 :: t46 :: t47 :: t48 :: t49 :: t50 :: t51 :: t52 :: t53 :: t54 :: t55 :: t56 :: t57 :: t58 :: t59 :: t60 :: t61 :: t62 :: t63 :: t64 :: t65 :: t66 :: t67 :: t68 :: t69 :: t70 :: t71 :: t72 :: t73 :: t74 :: t75 :: t76 :: t77 :: t78 :: t79 :: t80 :: t81 :: t82 :: t83 :: t84 :: t85 :: t86 :: t87 :: t88 :: t89 :: t90 :: t91 :: t92 :: t93 :: t94 :: t95 :: t96 :: t97 :: t98 :: t99 :: t100 :: t101 :: t102 :: t103 :: t104 :: t105 :: t106 :: t107 :: t108 :: t109 :: t110 :: t111 :: t112 :: t113 :: t114 :: t115 :: t116 :: t117 :: t118 :: t119 :: t120 :: t121 :: t122 :: t123 :: t124 :: t125 :: t126 :: t127 :: t128 :: t129 :: t130 :: t131 :: t132 :: t133 :: t134 :: t135 :: t136 :: t137 :: t138 :: t139 :: t140 :: t141 :: t142 :: t143 :: t144 :: t145 :: t146 :: t147 :: t148 :: t149 :: t150 :: t151 :: t152 :: t153 :: t154 :: t155 :: t156 :: t157 :: t158 :: t159 :: t160 :: t161 :: t162 :: t163 :: t164 :: t165 :: []), defers := [] } wr := by
  change some _ = some c at hc
  cases hc
  change some _ = some d at hd
  cases hd
  have HQF := Lib.hid hQ
  clear hQ
  obtain ⟨c0, c1⟩ := H.out.1.cells
  repeat' (first | go_at_call 13 | go_skip | go_guarded | go_step)
  refine (putO_c wr g T X p H.out.2.1 H.out.2.2.1 hp).mono ?_
  rintro e w1 ⟨g1, T1, rfl, f1, r1, o1, s1⟩
  rw [hth.out]
  have H1 : Hid (Ext wr w1 ∧ Rep NT w1 g1 T1 ∧ Ok T1 (rput X p) ∧ PS w1 v6 X) := Lib.hid ⟨f1, r1, o1, H.out.2.2.2.below f1⟩
  obtain ⟨c0, c1⟩ := (H.out.1.ext f1).cells
  clear f1 r1 o1
  obtain ⟨pk, pv⟩ := p
  cases th with
  | false =>
    clear s1
    have n1 : (!false) = true := rfl
    rw [n1]
    clear n1
    go_simp
    repeat' (first | go_at_call 15 | go_skip | go_guarded | go_step)
    refine (rput_c w1 v6 X (pk, pv) H1.out.2.2.2 (by omega) (by omega)).mono ?_
    rintro e w2 ⟨v2, rfl, o2, f2⟩
    have H2 : Hid (Ext wr w2 ∧ Rep NT w2 g1 T1 ∧ Ok T1 (rput X (pk, pv)) ∧ PS w2 v2 (rput X (pk, pv))) := Lib.hid ⟨H1.out.1.trans f2, H1.out.2.1.ext f2, H1.out.2.2.1, PS.of_own o2⟩
    clear f2 o2
    go_simp
    repeat' (first | go_skip | go_guarded | go_step)
    exact HQF.out g1 T1 v2 _ _ _ _ _ _ _ _ _ _ _ _ _ _ _ _ _ _ _ _ _ _ _ _ _ _ _ _ _ _ H2.out
  | true =>
    have n1 : (!true) = false := rfl
    rw [n1]
    clear n1
    by_cases hv : was = pv
    · have e1 := s1 (hw.out rfl hv)
      subst hv e1
      clear s1
      have hpn := neqP g1
      go_simp
      repeat' (first | go_at_call 15 | go_skip | go_guarded | go_step)
      refine (rput_c w1 v6 X (pk, was) H1.out.2.2.2 (by omega) (by omega)).mono ?_
      rintro e w2 ⟨v2, rfl, o2, f2⟩
      have H2 : Hid (Ext wr w2 ∧ Rep NT w2 g1 T1 ∧ Ok T1 (rput X (pk, was)) ∧ PS w2 v2 (rput X (pk, was))) := Lib.hid ⟨H1.out.1.trans f2, H1.out.2.1.ext f2, H1.out.2.2.1, PS.of_own o2⟩
      clear f2 o2
      go_simp
      repeat' (first | go_skip | go_guarded | go_step)
      exact HQF.out g1 T1 v2 _ _ _ _ _ _ _ _ _ _ _ _ _ _ _ _ _ _ _ _ _ _ _ _ _ _ _ _ _ _ H2.out
    · clear s1
      have hb1 : (was == pv) = false := by simp [hv]
      have hb3 : decide (bs was = bs pv) = false := by
        rw [decide_eq_false_iff_not]; intro e; exact hv (bs_inj e)
      clear hv
      go_simp
      repeat' (first | go_at_call 15 | go_skip | go_guarded | go_step)
      refine (rput_c w1 v6 X (pk, pv) H1.out.2.2.2 (by omega) (by omega)).mono ?_
      rintro e w2 ⟨v2, rfl, o2, f2⟩
      have H2 : Hid (Ext wr w2 ∧ Rep NT w2 g1 T1 ∧ Ok T1 (rput X (pk, pv)) ∧ PS w2 v2 (rput X (pk, pv))) := Lib.hid ⟨H1.out.1.trans f2, H1.out.2.1.ext f2, H1.out.2.2.1, PS.of_own o2⟩
      clear f2 o2
      go_simp
      repeat' (first | go_skip | go_guarded | go_step)
      exact HQF.out g1 T1 v2 _ _ _ _ _ _ _ _ _ _ _ _ _ _ _ _ _ _ _ _ _ _ _ _ _ _ _ _ _ _ H2.out

end Go.Proofs.Ytmpeniboccahdaa
