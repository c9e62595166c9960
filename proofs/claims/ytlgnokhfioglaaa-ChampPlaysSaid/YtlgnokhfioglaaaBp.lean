/- Texts joined. -/
import Derived.Test.YtlgnokhfioglaaaLe
import Derived.Deep.LoopGhost
set_option linter.unusedVariables false
set_option linter.unusedSimpArgs false
/- ChampPlays: a pair is dropped: a law of its own. -/
namespace Go.Proofs.Ytlgnokhfioglaaa
open Go.RowKit Go.QS Go.QS.Nk
set_option linter.unusedVariables false

set_option maxRecDepth 100000 in
set_option maxHeartbeats 2000000 in
theorem plays6_12 (wr : World) (gh g gp : Nat) (h : Hs) (hk : h.Ok) (v8 : Value) (X : List Pr) (p : Pr) (H : Hid (PrAt wr gp p ∧ St6 wr gh h g v8 X)) (hX : X.length ≤ 1000) (hp : p.1.length ≤ 40 ∧ p.2.length ≤ 40) (th : Bool) (hth : Hid (hasK X p.1 = th)) (c d : Code) (K : Act → World → Prop) (Q : Exit → Act → World → Prop) (t0 t1 t2 t4 t5 t6 t9 t10 t12 t14 t15 t16 t17 t18 t19 t20 t21 t22 t23 t24 t25 t26 t27 t28 t29 t30 t31 t32 t33 t34 t35 t36 t37 t38 t39 t40 t41 t42 t43 t44 t45 t46 t47 t48 t49 t50 t51 t52 t53 t54 t55 t56 t57 t58 t59 t60 t61 t62 t63 t64 t65 t66 t67 t68 t69 t70 t71 t72 t73 t74 t75 t76 t77 t78 t79 t80 t81 t82 t83 t84 t85 t86 t87 t88 t89 t90 t91 t92 t93 t94 t95 t96 t97 t98 t99 t100 t101 t102 t103 t104 t105 t106 t107 t108 t109 t110 t111 t112 t113 t114 t115 t116 t117 t118 t119 t120 t121 t122 t123 t124 t125 t126 t127 t128 t129 t130 t131 t132 t133 t134 t135 t136 t137 t138 t139 t140 t141 t142 t143 t144 t145 t146 t147 t148 t149 t150 t151 t152 t153 t154 t155 t156 t157 t158 t159 t160 t161 t162 t163 t164 t165 t166 t167 t168 t169 : Value)
    (hc : (Try.f7.body.bind (findR 12)) = some c) (hd : (Try.f7.body.bind (findS 13)) = some d)
    (hK : ∀ a w, d.wp Try.prog Q a w → K a w)
    (hQ : ∀ (g2 : Nat) (v2 : Value) (u14 u15 u54 u55 u56 u57 u58 u59 u60 u61 u62 u63 u64 u65 u66 u67 u68 u69 u70 u71 u72 u73 u74 u75 u76 u77 u78 : Value) (wx : World), Ext wr wx ∧ St6 wx gh h g2 v2 (rdrop X p.1) → Q .normal { tmps := List.toArray (t0 :: t1 :: t2 :: (ptr gh) :: t4 :: t5 :: t6 :: (ptr g2) :: v2 :: t9 :: t10 :: (ptr gp) :: t12 :: (.bool th) :: u14 :: u15 :: t16 :: t17 :: t18 :: t19 :: t20 :: t21 :: t22 :: t23 :: t24 :: t25 :: t26 :: t27 :: t28 :: t29 :: t30 :: t31 :: t32 :: t33 :: t34 :: t35 :: t36 :: t37 :: t38 :: t39 :: t40 :: t41 :: t42 :: t43 :: t44 :: t45 :: t46 :: t47 :: t48 :: t49 :: t50 :: t51 :: t52 :: t53 :: u54 :: u55 :: u56 :: u57 :: u58 :: u59 :: u60 :: u61 :: u62 :: u63 :: u64 :: u65 :: u66 :: u67 :: u68 :: u69 :: u70 :: u71 :: u72 :: u73 :: u74 :: u75 :: u76 :: u77 :: u78 :: t79 :: t80 :: t81 :: t82 :: t83 :: t84 :: t85 :: t86 :: t87 :: t88 :: t89 :: t90 :: t91 :: t92 :: t93 :: t94 :: t95 :: t96 :: t97 :: t98 :: t99 :: t100 :: t101 :: t102 :: t103 :: t104 :: t105 :: t106 :: t107 :: t108 :: t109 :: t110 :: t111 :: t112 :: t113 :: t114 :: t115 :: t116 :: t117 :: t118 :: t119 :: t120 :: t121 :: t122 :: t123 :: t124 :: t125 :: t126 :: t127 :: t128 :: t129 :: t130 :: t131 :: t132 :: t133 :: t134 :: t135 :: t136 :: t137 :: t138 :: t139 :: t140 :: t141 :: t142 :: t143 :: t144 :: t145 :: t146 :: t147 :: t148 :: t149 :: t150 :: t151 :: t152 :: t153 :: t154 :: t155 :: t156 :: t157 :: t158 :: t159 :: t160 :: t161 :: t162 :: t163 :: t164 :: t165 :: t166 :: t167 :: t168 :: t169 :: []), defers := [] } wx) :
    c.wp Try.prog (Exit.then K Q) { tmps := List.toArray (t0 :: t1 :: t2 :: (ptr gh) :: t4 :: t5 :: t6 :: (ptr g) :: v8 :: t9 :: t10 :: (ptr gp) :: t12 :: (.bool th) :: t14 :: t15 :: t16 :: t17 :: t18 :: t19 :: t20 :: t21 :: t22 :: t23 :: t24 :: t25 :: t26 :: t27 :: t28 :: t29 :: t30 :: t31 :: t32 :: t33 :: t34 :: t35 :: t36 :: t37 :: t38 :: t39 :: t40 :: t41 :: t42 :: t43 :: t44 :: t45 :: t46 :: t47 :: t48 :: t49 :: t50 :: t51 :: t52 :: t53 :: t54 :: t55 :: t56 :: t57 :: t58 :: t59 :: t60 :: t61 :: t62 :: t63 :: t64 :: t65 :: t66 :: t67 :: t68 :: t69 :: t70 :: t71 :: t72 :: t73 :: t74 :: t75 :: t76 :: t77 :: t78 :: t79 :: t80 :: t81 :: t82 :: t83 :: t84 :: t85 :: t86 :: t87 :: t88 :: t89 :: t90 :: t91 :: t92 :: t93 :: t94 :: t95 :: t96 :: t97 :: t98 :: t99 :: t100 :: t101 :: t102 :: t103 :: t104 :: t105 :: t106 :: t107 :: t108 :: t109 :: t110 :: t111 :: t112 :: t113 :: t114 :: t115 :: t116 :: t117 :: t118 :: t119 :: t120 :: t121 :: t122 :: t123 :: t124 :: t125 :: t126 :: t127 :: t128 :: t129 :: t130 :: t131 :: t132 :: t133 :: t134 :: t135 :: t136 :: t137 :: t138 :: t139 :: t140 :: t141 :: t142 :: t143 :: t144 :: t145 :: t146 :: t147 :: t148 :: t149 :: t150 :: t151 :: t152 :: t153 :: t154 :: t155 :: t156 :: t157 :: t158 :: t159 :: t160 :: t161 :: t162 :: t163 :: t164 :: t165 :: t166 :: t167 :: t168 :: t169 :: []), defers := [] } wr := by
  change some _ = some c at hc
  cases hc
  change some _ = some d at hd
  cases hd
  have HQF := Lib.hid hQ
  clear hQ
  obtain ⟨c0, c1, c2⟩ := H.out.2.hs.cells
  obtain ⟨b0, b1⟩ := H.out.1.cells
  repeat' (first | go_at_call 41 | go_skip | go_guarded | go_step)
  refine (cdrop6 hk H.out.2 p.1 hX hp.1).mono ?_
  rintro e w1 ⟨g1, rfl, f1, r1, o1, s1⟩
  rw [hth.out] at s1 ⊢
  have H1 : Hid (Ext wr w1 ∧ PrAt w1 gp p ∧ TR ND h.hash w1 13 g1 (rdrop X p.1) ∧ OkL (rdrop X p.1) ∧ PS w1 v8 X) := Lib.hid ⟨f1, H.out.1.ext f1, r1, o1, H.out.2.ps.below f1⟩
  clear f1 r1 o1 c0 c1 c2 b0 b1
  obtain ⟨b0, b1⟩ := H1.out.2.1.cells
  cases th with
  | true =>
    clear s1
    go_simp
    repeat' (first | go_at_call 42 | go_skip | go_guarded | go_step)
    refine (rdrop_c w1 v8 X p.1 H1.out.2.2.2.2 (by omega)).mono ?_
    rintro e w2 ⟨v2, rfl, o2, f2⟩
    have H2 : Hid (Ext wr w2 ∧ St6 w2 gh h g1 v2 (rdrop X p.1)) := Lib.hid ⟨H1.out.1.trans f2, ⟨(H.out.2.hs.ext H1.out.1).ext f2, TR.ext f2 13 H1.out.2.2.1, H1.out.2.2.2.1, PS.of_own o2⟩⟩
    clear f2 o2
    go_simp
    repeat' (first | go_skip | go_guarded | go_step)
    exact HQF.out g1 v2 _ _ _ _ _ _ _ _ _ _ _ _ _ _ _ _ _ _ _ _ _ _ _ _ _ _ _ _ H2.out
  | false =>
    have e1 := s1 rfl
    subst e1
    clear s1
    have hpn := neqN g1
    go_simp
    repeat' (first | go_at_call 42 | go_skip | go_guarded | go_step)
    refine (rdrop_c w1 v8 X p.1 H1.out.2.2.2.2 (by omega)).mono ?_
    rintro e w2 ⟨v2, rfl, o2, f2⟩
    have H2 : Hid (Ext wr w2 ∧ St6 w2 gh h g1 v2 (rdrop X p.1)) := Lib.hid ⟨H1.out.1.trans f2, ⟨(H.out.2.hs.ext H1.out.1).ext f2, TR.ext f2 13 H1.out.2.2.1, H1.out.2.2.2.1, PS.of_own o2⟩⟩
    clear f2 o2
    go_simp
    repeat' (first | go_skip | go_guarded | go_step)
    exact HQF.out g1 v2 _ _ _ _ _ _ _ _ _ _ _ _ _ _ _ _ _ _ _ _ _ _ _ _ _ _ _ _ H2.out

end Go.Proofs.Ytlgnokhfioglaaa
/- ChampPlays: a pair is put: a law of its own. -/
namespace Go.Proofs.Ytlgnokhfioglaaa
open Go.RowKit Go.QS Go.QS.Nk
set_option linter.unusedVariables false

set_option maxRecDepth 100000 in
set_option maxHeartbeats 2000000 in
theorem plays6_16 (wr : World) (gh g gp : Nat) (h : Hs) (hk : h.Ok) (v8 : Value) (X : List Pr) (p : Pr) (H : Hid (PrAt wr gp p ∧ St6 wr gh h g v8 X)) (hX : X.length ≤ 1000) (hp : p.1.length ≤ 40 ∧ p.2.length ≤ 40) (th : Bool) (hth : Hid (hasK X p.1 = th)) (was : List UInt8) (hw : Hid (th = true → was = p.2 → p ∈ X)) (c d : Code) (K : Act → World → Prop) (Q : Exit → Act → World → Prop) (t0 t1 t2 t4 t5 t6 t9 t10 t14 t15 t16 t17 t18 t19 t20 t21 t22 t23 t24 t25 t26 t27 t28 t29 t30 t31 t32 t33 t34 t35 t36 t37 t38 t39 t40 t41 t42 t43 t44 t45 t46 t47 t48 t49 t50 t51 t52 t53 t54 t55 t56 t57 t58 t59 t60 t61 t62 t63 t64 t65 t66 t67 t68 t69 t70 t71 t72 t73 t74 t75 t76 t77 t78 t79 t80 t81 t82 t83 t84 t85 t86 t87 t88 t89 t90 t91 t92 t93 t94 t95 t96 t97 t98 t99 t100 t101 t102 t103 t104 t105 t106 t107 t108 t109 t110 t111 t112 t113 t114 t115 t116 t117 t118 t119 t120 t121 t122 t123 t124 t125 t126 t127 t128 t129 t130 t131 t132 t133 t134 t135 t136 t137 t138 t139 t140 t141 t142 t143 t144 t145 t146 t147 t148 t149 t150 t151 t152 t153 t154 t155 t156 t157 t158 t159 t160 t161 t162 t163 t164 t165 t166 t167 t168 t169 : Value)
    (hc : (Try.f7.body.bind (findR 16)) = some c) (hd : (Try.f7.body.bind (findS 17)) = some d)
    (hK : ∀ a w, d.wp Try.prog Q a w → K a w)
    (hQ : ∀ (g2 : Nat) (v2 : Value) (u16 u17 u79 u80 u81 u82 u83 u84 u85 u86 u87 u88 u89 u90 u91 u92 u93 u94 u95 u96 u97 u98 u99 u100 u101 u102 u103 u104 u105 u106 : Value) (wx : World), Ext wr wx ∧ St6 wx gh h g2 v2 (rput X p) → Q .normal { tmps := List.toArray (t0 :: t1 :: t2 :: (ptr gh) :: t4 :: t5 :: t6 :: (ptr g2) :: v2 :: t9 :: t10 :: (ptr gp) :: (str was) :: (.bool th) :: t14 :: t15 :: u16 :: u17 :: t18 :: t19 :: t20 :: t21 :: t22 :: t23 :: t24 :: t25 :: t26 :: t27 :: t28 :: t29 :: t30 :: t31 :: t32 :: t33 :: t34 :: t35 :: t36 :: t37 :: t38 :: t39 :: t40 :: t41 :: t42 :: t43 :: t44 :: t45 :: t46 :: t47 :: t48 :: t49 :: t50 :: t51 :: t52 :: t53 :: t54 :: t55 :: t56 :: t57 :: t58 :: t59 :: t60 :: t61 :: t62 :: t63 :: t64 :: t65 :: t66 :: t67 :: t68 :: t69 :: t70 :: t71 :: t72 :: t73 :: t74 :: t75 :: t76 :: t77 :: t78 :: u79 :: u80 :: u81 :: u82 :: u83 :: u84 :: u85 :: u86 :: u87 :: u88 :: u89 :: u90 :: u91 :: u92 :: u93 :: u94 :: u95 :: u96 :: u97 :: u98 :: u99 :: u100 :: u101 :: u102 :: u103 :: u104 :: u105 :: u106 :: t107 :: t108 :: t109 :: t110 :: t111 :: t112 :: t113 :: t114 :: t115 :: t116 :: t117 :: t118 :: t119 :: t120 :: t121 :: t122 :: t123 :: t124 :: t125 :: t126 :: t127 :: t128 :: t129 :: t130 :: t131 :: t132 :: t133 :: t134 :: t135 :: t136 :: t137 :: t138 :: t139 :: t140 :: t141 :: t142 :: t143 :: t144 :: t145 :: t146 :: t147 :: t148 :: t149 :: t150 :: t151 :: t152 :: t153 :: t154 :: t155 :: t156 :: t157 :: t158 :: t159 :: t160 :: t161 :: t162 :: t163 :: t164 :: t165 :: t166 :: t167 :: t168 :: t169 :: []), defers := [] } wx) :
    c.wp Try.prog (Exit.then K Q) { tmps := List.toArray (t0 :: t1 :: t2 :: (ptr gh) :: t4 :: t5 :: t6 :: (ptr g) :: v8 :: t9 :: t10 :: (ptr gp) :: (str was) :: (.bool th) :: t14 :: t15 :: t16 :: t17 :: t18 :: t19 :: t20 :: t21 :: t22 :: t23 :: t24 :: t25 :: t26 :: t27 :: t28 :: t29 :: t30 :: t31 :: t32 :: t33 :: t34 :: t35 :: t36 :: t37 :: t38 :: t39 :: t40 :: t41 :: t42 :: t43 :: t44 :: t45 :: t46 :: t47 :: t48 :: t49 :: t50 :: t51 :: t52 :: t53 :: t54 :: t55 :: t56 :: t57 :: t58 :: t59 :: t60 :: t61 :: t62 :: t63 :: t64 :: t65 :: t66 :: t67 :: t68 :: t69 :: t70 :: t71 :: t72 :: t73 :: t74 :: t75 :: t76 :: t77 :: t78 :: t79 :: t80 :: t81 :: t82 :: t83 :: t84 :: t85 :: t86 :: t87 :: t88 :: t89 :: t90 :: t91 :: t92 :: t93 :: t94 :: t95 :: t96 :: t97 :: t98 :: t99 :: t100 :: t101 :: t102 :: t103 :: t104 :: t105 :: t106 :: t107 :: t108 :: t109 :: t110 :: t111 :: t112 :: t113 :: t114 :: t115 :: t116 :: t117 :: t118 :: t119 :: t120 :: t121 :: t122 :: t123 :: t124 :: t125 :: t126 :: t127 :: t128 :: t129 :: t130 :: t131 :: t132 :: t133 :: t134 :: t135 :: t136 :: t137 :: t138 :: t139 :: t140 :: t141 :: t142 :: t143 :: t144 :: t145 :: t146 :: t147 :: t148 :: t149 :: t150 :: t151 :: t152 :: t153 :: t154 :: t155 :: t156 :: t157 :: t158 :: t159 :: t160 :: t161 :: t162 :: t163 :: t164 :: t165 :: t166 :: t167 :: t168 :: t169 :: []), defers := [] } wr := by
  change some _ = some c at hc
  cases hc
  change some _ = some d at hd
  cases hd
  have HQF := Lib.hid hQ
  clear hQ
  obtain ⟨c0, c1, c2⟩ := H.out.2.hs.cells
  obtain ⟨b0, b1⟩ := H.out.1.cells
  repeat' (first | go_at_call 43 | go_skip | go_guarded | go_step)
  refine (cput6 hk H.out.2 p hX hp).mono ?_
  rintro e w1 ⟨g1, rfl, f1, r1, o1, s1⟩
  rw [hth.out]
  have H1 : Hid (Ext wr w1 ∧ PrAt w1 gp p ∧ TR ND h.hash w1 13 g1 (rput X p) ∧ OkL (rput X p) ∧ PS w1 v8 X) := Lib.hid ⟨f1, H.out.1.ext f1, r1, o1, H.out.2.ps.below f1⟩
  clear f1 r1 o1 c0 c1 c2 b0 b1
  obtain ⟨b0, b1⟩ := H1.out.2.1.cells
  obtain ⟨pk, pv⟩ := p
  cases th with
  | false =>
    clear s1
    have n1 : (!false) = true := rfl
    rw [n1]
    clear n1
    go_simp
    repeat' (first | go_at_call 44 | go_skip | go_guarded | go_step)
    refine (rput_c w1 v8 X (pk, pv) H1.out.2.2.2.2 (by omega) (by have := hp.1; simp only at this; omega)).mono ?_
    rintro e w2 ⟨v2, rfl, o2, f2⟩
    have H2 : Hid (Ext wr w2 ∧ St6 w2 gh h g1 v2 (rput X (pk, pv))) := Lib.hid ⟨H1.out.1.trans f2, ⟨(H.out.2.hs.ext H1.out.1).ext f2, TR.ext f2 13 H1.out.2.2.1, H1.out.2.2.2.1, PS.of_own o2⟩⟩
    clear f2 o2
    go_simp
    repeat' (first | go_skip | go_guarded | go_step)
    exact HQF.out g1 v2 _ _ _ _ _ _ _ _ _ _ _ _ _ _ _ _ _ _ _ _ _ _ _ _ _ _ _ _ _ _ _ H2.out
  | true =>
    have n1 : (!true) = false := rfl
    rw [n1]
    clear n1
    by_cases hv : was = pv
    · have e1 := s1 (hw.out rfl hv)
      subst hv e1
      clear s1
      have hpn := neqN g1
      go_simp
      repeat' (first | go_at_call 44 | go_skip | go_guarded | go_step)
      refine (rput_c w1 v8 X (pk, was) H1.out.2.2.2.2 (by omega) (by have := hp.1; simp only at this; omega)).mono ?_
      rintro e w2 ⟨v2, rfl, o2, f2⟩
      have H2 : Hid (Ext wr w2 ∧ St6 w2 gh h g1 v2 (rput X (pk, was))) := Lib.hid ⟨H1.out.1.trans f2, ⟨(H.out.2.hs.ext H1.out.1).ext f2, TR.ext f2 13 H1.out.2.2.1, H1.out.2.2.2.1, PS.of_own o2⟩⟩
      clear f2 o2
      go_simp
      repeat' (first | go_skip | go_guarded | go_step)
      exact HQF.out g1 v2 _ _ _ _ _ _ _ _ _ _ _ _ _ _ _ _ _ _ _ _ _ _ _ _ _ _ _ _ _ _ _ H2.out
    · clear s1
      have hb1 : (was == pv) = false := by simp [hv]
      have hb3 : decide (bs was = bs pv) = false := by
        rw [decide_eq_false_iff_not]; intro e; exact hv (bs_inj e)
      clear hv
      go_simp
      repeat' (first | go_at_call 44 | go_skip | go_guarded | go_step)
      refine (rput_c w1 v8 X (pk, pv) H1.out.2.2.2.2 (by omega) (by have := hp.1; simp only at this; omega)).mono ?_
      rintro e w2 ⟨v2, rfl, o2, f2⟩
      have H2 : Hid (Ext wr w2 ∧ St6 w2 gh h g1 v2 (rput X (pk, pv))) := Lib.hid ⟨H1.out.1.trans f2, ⟨(H.out.2.hs.ext H1.out.1).ext f2, TR.ext f2 13 H1.out.2.2.1, H1.out.2.2.2.1, PS.of_own o2⟩⟩
      clear f2 o2
      go_simp
      repeat' (first | go_skip | go_guarded | go_step)
      exact HQF.out g1 v2 _ _ _ _ _ _ _ _ _ _ _ _ _ _ _ _ _ _ _ _ _ _ _ _ _ _ _ _ _ _ _ H2.out

end Go.Proofs.Ytlgnokhfioglaaa
/- ChampPlays: a trie is asked: a law of its own. -/
namespace Go.Proofs.Ytlgnokhfioglaaa
open Go.RowKit Go.QS Go.QS.Nk
set_option linter.unusedVariables false

set_option maxRecDepth 100000 in
set_option maxHeartbeats 2000000 in
theorem plays6_20 (wr : World) (gh g gp : Nat) (h : Hs) (hk : h.Ok) (v8 : Value) (X : List Pr) (p : Pr) (H : Hid (PrAt wr gp p ∧ St6 wr gh h g v8 X)) (hX : X.length ≤ 1000) (hp : p.1.length ≤ 40 ∧ p.2.length ≤ 40) (c d : Code) (K : Act → World → Prop) (Q : Exit → Act → World → Prop) (t0 t1 t2 t4 t5 t6 t9 t10 t12 t13 t14 t15 t16 t17 t18 t19 t20 t21 t22 t23 t24 t25 t26 t27 t28 t29 t30 t31 t32 t33 t34 t35 t36 t37 t38 t39 t40 t41 t42 t43 t44 t45 t46 t47 t48 t49 t50 t51 t52 t53 t54 t55 t56 t57 t58 t59 t60 t61 t62 t63 t64 t65 t66 t67 t68 t69 t70 t71 t72 t73 t74 t75 t76 t77 t78 t79 t80 t81 t82 t83 t84 t85 t86 t87 t88 t89 t90 t91 t92 t93 t94 t95 t96 t97 t98 t99 t100 t101 t102 t103 t104 t105 t106 t107 t108 t109 t110 t111 t112 t113 t114 t115 t116 t117 t118 t119 t120 t121 t122 t123 t124 t125 t126 t127 t128 t129 t130 t131 t132 t133 t134 t135 t136 t137 t138 t139 t140 t141 t142 t143 t144 t145 t146 t147 t148 t149 t150 t151 t152 t153 t154 t155 t156 t157 t158 t159 t160 t161 t162 t163 t164 t165 t166 t167 t168 t169 : Value)
    (hc : (Try.f7.body.bind (findR 20)) = some c) (hd : (Try.f7.body.bind (findS 21)) = some d)
    (hK : ∀ a w, d.wp Try.prog Q a w → K a w)
    (hQ : ∀ (u18 u19 u20 u21 u107 u108 u109 u110 u111 u112 u113 u114 u115 u116 u117 u118 u119 u120 u121 u122 u123 u124 u125 u126 u127 u128 u129 : Value) (wx : World), Ext wr wx → Q .normal { tmps := List.toArray (t0 :: t1 :: t2 :: (ptr gh) :: t4 :: t5 :: t6 :: (ptr g) :: v8 :: t9 :: t10 :: (ptr gp) :: t12 :: t13 :: t14 :: t15 :: t16 :: t17 :: u18 :: u19 :: u20 :: u21 :: t22 :: t23 :: t24 :: t25 :: t26 :: t27 :: t28 :: t29 :: t30 :: t31 :: t32 :: t33 :: t34 :: t35 :: t36 :: t37 :: t38 :: t39 :: t40 :: t41 :: t42 :: t43 :: t44 :: t45 :: t46 :: t47 :: t48 :: t49 :: t50 :: t51 :: t52 :: t53 :: t54 :: t55 :: t56 :: t57 :: t58 :: t59 :: t60 :: t61 :: t62 :: t63 :: t64 :: t65 :: t66 :: t67 :: t68 :: t69 :: t70 :: t71 :: t72 :: t73 :: t74 :: t75 :: t76 :: t77 :: t78 :: t79 :: t80 :: t81 :: t82 :: t83 :: t84 :: t85 :: t86 :: t87 :: t88 :: t89 :: t90 :: t91 :: t92 :: t93 :: t94 :: t95 :: t96 :: t97 :: t98 :: t99 :: t100 :: t101 :: t102 :: t103 :: t104 :: t105 :: t106 :: u107 :: u108 :: u109 :: u110 :: u111 :: u112 :: u113 :: u114 :: u115 :: u116 :: u117 :: u118 :: u119 :: u120 :: u121 :: u122 :: u123 :: u124 :: u125 :: u126 :: u127 :: u128 :: u129 :: t130 :: t131 :: t132 :: t133 :: t134 :: t135 :: t136 :: t137 :: t138 :: t139 :: t140 :: t141 :: t142 :: t143 :: t144 :: t145 :: t146 :: t147 :: t148 :: t149 :: t150 :: t151 :: t152 :: t153 :: t154 :: t155 :: t156 :: t157 :: t158 :: t159 :: t160 :: t161 :: t162 :: t163 :: t164 :: t165 :: t166 :: t167 :: t168 :: t169 :: []), defers := [] } wx) :
    c.wp Try.prog (Exit.then K Q) { tmps := List.toArray (t0 :: t1 :: t2 :: (ptr gh) :: t4 :: t5 :: t6 :: (ptr g) :: v8 :: t9 :: t10 :: (ptr gp) :: t12 :: t13 :: t14 :: t15 :: t16 :: t17 :: t18 :: t19 :: t20 :: t21 :: t22 :: t23 :: t24 :: t25 :: t26 :: t27 :: t28 :: t29 :: t30 :: t31 :: t32 :: t33 :: t34 :: t35 :: t36 :: t37 :: t38 :: t39 :: t40 :: t41 :: t42 :: t43 :: t44 :: t45 :: t46 :: t47 :: t48 :: t49 :: t50 :: t51 :: t52 :: t53 :: t54 :: t55 :: t56 :: t57 :: t58 :: t59 :: t60 :: t61 :: t62 :: t63 :: t64 :: t65 :: t66 :: t67 :: t68 :: t69 :: t70 :: t71 :: t72 :: t73 :: t74 :: t75 :: t76 :: t77 :: t78 :: t79 :: t80 :: t81 :: t82 :: t83 :: t84 :: t85 :: t86 :: t87 :: t88 :: t89 :: t90 :: t91 :: t92 :: t93 :: t94 :: t95 :: t96 :: t97 :: t98 :: t99 :: t100 :: t101 :: t102 :: t103 :: t104 :: t105 :: t106 :: t107 :: t108 :: t109 :: t110 :: t111 :: t112 :: t113 :: t114 :: t115 :: t116 :: t117 :: t118 :: t119 :: t120 :: t121 :: t122 :: t123 :: t124 :: t125 :: t126 :: t127 :: t128 :: t129 :: t130 :: t131 :: t132 :: t133 :: t134 :: t135 :: t136 :: t137 :: t138 :: t139 :: t140 :: t141 :: t142 :: t143 :: t144 :: t145 :: t146 :: t147 :: t148 :: t149 :: t150 :: t151 :: t152 :: t153 :: t154 :: t155 :: t156 :: t157 :: t158 :: t159 :: t160 :: t161 :: t162 :: t163 :: t164 :: t165 :: t166 :: t167 :: t168 :: t169 :: []), defers := [] } wr := by
  change some _ = some c at hc
  cases hc
  change some _ = some d at hd
  cases hd
  have HQF := Lib.hid hQ
  clear hQ
  have H0 : Hid (Ext wr wr) := Lib.hid (Ext.refl _)
  have hkl : p.1.length ≤ 40 := hp.1
  obtain ⟨c0, c1, c2⟩ := H.out.2.hs.cells
  obtain ⟨b0, b1⟩ := H.out.1.cells
  have hG := cget6 hk (H.out.2.ext H0.out) p.1 hX hkl
  have hR : ∀ w1, Ext wr w1 → _ := fun w1 (f : Ext wr w1) => rget_c w1 v8 X p.1 (H.out.2.ps.below f) H.out.2.ok.rise hX H.out.2.ok.keys'
  obtain ⟨u, hu⟩ : ∃ u, u = (getL p.1 X).getD [] := ⟨_, rfl⟩
  obtain ⟨th, hth⟩ : ∃ th, th = hasK X p.1 := ⟨_, rfl⟩
  rw [← hu, ← hth] at hG hR
  have HG := Lib.hid hG
  have HR := Lib.hid hR
  clear hG hR hu hth
  repeat' (first | go_at_call 45 | go_skip | go_guarded | go_step)
  refine HG.out.mono ?_
  rintro e w1 ⟨rfl, f1⟩
  have H1 : Hid (Ext wr w1) := Lib.hid f1
  clear HG c0 c1 c2 b0 b1
  obtain ⟨b0, b1⟩ := (H.out.1.ext f1).cells
  clear f1
  go_simp
  repeat' (first | go_at_call 40 | go_skip | go_guarded | go_step)
  refine (HR.out w1 H1.out).mono ?_
  rintro e w2 ⟨rfl, f2⟩
  have H2 : Hid (Ext wr w2) := Lib.hid (H1.out.trans f2)
  have he1 : (th != th) = false := by simp
  clear f2 HR H1 b0 b1
  go_simp
  repeat' (first | go_skip | go_guarded | go_step)
  exact HQF.out _ _ _ _ _ _ _ _ _ _ _ _ _ _ _ _ _ _ _ _ _ _ _ _ _ _ _ _ H2.out

end Go.Proofs.Ytlgnokhfioglaaa
