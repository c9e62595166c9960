/- Texts joined. -/
import Derived.Test.YtlgnokhfioglaaaLe
import Derived.Deep.LoopGhost
import Derived.Test.YtlgnokhfioglaaaBo
set_option linter.unusedVariables false
set_option linter.unusedSimpArgs false
/- ChampPlays: a trie is asked for any key: a law of its own. -/
namespace Go.Proofs.Ytlgnokhfioglaaa
open Go.RowKit Go.QS Go.QS.Nk
set_option linter.unusedVariables false

set_option maxRecDepth 100000 in
set_option maxHeartbeats 2000000 in
theorem plays6_29 (wr : World) (gh g : Nat) (h : Hs) (hk : h.Ok) (v8 : Value) (X : List Pr) (key : List UInt8) (H : Hid (True ∧ St6 wr gh h g v8 X)) (hX : X.length ≤ 1000) (c d : Code) (K : Act → World → Prop) (Q : Exit → Act → World → Prop) (t0 t1 t2 t4 t5 t6 t9 t10 t11 t12 t13 t14 t15 t16 t17 t18 t19 t20 t21 t22 t24 t25 t26 t27 t28 t29 t30 t31 t32 t33 t34 t35 t36 t37 t38 t39 t40 t41 t42 t43 t44 t45 t46 t47 t48 t49 t50 t51 t52 t53 t54 t55 t56 t57 t58 t59 t60 t61 t62 t63 t64 t65 t66 t67 t68 t69 t70 t71 t72 t73 t74 t75 t76 t77 t78 t79 t80 t81 t82 t83 t84 t85 t86 t87 t88 t89 t90 t91 t92 t93 t94 t95 t96 t97 t98 t99 t100 t101 t102 t103 t104 t105 t106 t107 t108 t109 t110 t111 t112 t113 t114 t115 t116 t117 t118 t119 t120 t121 t122 t123 t124 t125 t126 t127 t128 t129 t130 t131 t132 t133 t134 t135 t136 t137 t138 t139 t140 t141 t142 t143 t144 t145 t146 t147 t148 t149 t150 t151 t152 t153 t154 t155 t156 t157 t158 t159 t160 t161 t162 t163 t164 t165 t166 t167 t168 t169 : Value)
    (hc : (Try.f7.body.bind (findR 29)) = some c) (hd : (Try.f7.body.bind (findS 30)) = some d)
    (hK : ∀ a w, d.wp Try.prog Q a w → K a w)
    (hQ : ∀ (u23 u24 u25 u26 u27 u140 u141 u142 u143 u144 u145 u146 u147 u148 u149 u150 u151 u152 u153 u154 u155 u156 u157 u158 u159 u160 u161 u162 u163 u164 : Value) (wx : World), Ext wr wx → Q .normal { tmps := List.toArray (t0 :: t1 :: t2 :: (ptr gh) :: t4 :: t5 :: t6 :: (ptr g) :: v8 :: t9 :: t10 :: t11 :: t12 :: t13 :: t14 :: t15 :: t16 :: t17 :: t18 :: t19 :: t20 :: t21 :: t22 :: u23 :: u24 :: u25 :: u26 :: u27 :: t28 :: t29 :: t30 :: t31 :: t32 :: t33 :: t34 :: t35 :: t36 :: t37 :: t38 :: t39 :: t40 :: t41 :: t42 :: t43 :: t44 :: t45 :: t46 :: t47 :: t48 :: t49 :: t50 :: t51 :: t52 :: t53 :: t54 :: t55 :: t56 :: t57 :: t58 :: t59 :: t60 :: t61 :: t62 :: t63 :: t64 :: t65 :: t66 :: t67 :: t68 :: t69 :: t70 :: t71 :: t72 :: t73 :: t74 :: t75 :: t76 :: t77 :: t78 :: t79 :: t80 :: t81 :: t82 :: t83 :: t84 :: t85 :: t86 :: t87 :: t88 :: t89 :: t90 :: t91 :: t92 :: t93 :: t94 :: t95 :: t96 :: t97 :: t98 :: t99 :: t100 :: t101 :: t102 :: t103 :: t104 :: t105 :: t106 :: t107 :: t108 :: t109 :: t110 :: t111 :: t112 :: t113 :: t114 :: t115 :: t116 :: t117 :: t118 :: t119 :: t120 :: t121 :: t122 :: t123 :: t124 :: t125 :: t126 :: t127 :: t128 :: t129 :: t130 :: t131 :: t132 :: t133 :: t134 :: t135 :: t136 :: t137 :: t138 :: t139 :: u140 :: u141 :: u142 :: u143 :: u144 :: u145 :: u146 :: u147 :: u148 :: u149 :: u150 :: u151 :: u152 :: u153 :: u154 :: u155 :: u156 :: u157 :: u158 :: u159 :: u160 :: u161 :: u162 :: u163 :: u164 :: t165 :: t166 :: t167 :: t168 :: t169 :: []), defers := [] } wx) :
    c.wp Try.prog (Exit.then K Q) { tmps := List.toArray (t0 :: t1 :: t2 :: (ptr gh) :: t4 :: t5 :: t6 :: (ptr g) :: v8 :: t9 :: t10 :: t11 :: t12 :: t13 :: t14 :: t15 :: t16 :: t17 :: t18 :: t19 :: t20 :: t21 :: t22 :: (str key) :: t24 :: t25 :: t26 :: t27 :: t28 :: t29 :: t30 :: t31 :: t32 :: t33 :: t34 :: t35 :: t36 :: t37 :: t38 :: t39 :: t40 :: t41 :: t42 :: t43 :: t44 :: t45 :: t46 :: t47 :: t48 :: t49 :: t50 :: t51 :: t52 :: t53 :: t54 :: t55 :: t56 :: t57 :: t58 :: t59 :: t60 :: t61 :: t62 :: t63 :: t64 :: t65 :: t66 :: t67 :: t68 :: t69 :: t70 :: t71 :: t72 :: t73 :: t74 :: t75 :: t76 :: t77 :: t78 :: t79 :: t80 :: t81 :: t82 :: t83 :: t84 :: t85 :: t86 :: t87 :: t88 :: t89 :: t90 :: t91 :: t92 :: t93 :: t94 :: t95 :: t96 :: t97 :: t98 :: t99 :: t100 :: t101 :: t102 :: t103 :: t104 :: t105 :: t106 :: t107 :: t108 :: t109 :: t110 :: t111 :: t112 :: t113 :: t114 :: t115 :: t116 :: t117 :: t118 :: t119 :: t120 :: t121 :: t122 :: t123 :: t124 :: t125 :: t126 :: t127 :: t128 :: t129 :: t130 :: t131 :: t132 :: t133 :: t134 :: t135 :: t136 :: t137 :: t138 :: t139 :: t140 :: t141 :: t142 :: t143 :: t144 :: t145 :: t146 :: t147 :: t148 :: t149 :: t150 :: t151 :: t152 :: t153 :: t154 :: t155 :: t156 :: t157 :: t158 :: t159 :: t160 :: t161 :: t162 :: t163 :: t164 :: t165 :: t166 :: t167 :: t168 :: t169 :: []), defers := [] } wr := by
  change some _ = some c at hc
  cases hc
  change some _ = some d at hd
  cases hd
  have HQF := Lib.hid hQ
  clear hQ
  repeat' (first | go_at_call 39 | go_skip | go_guarded | go_step)
  refine (fewp_c wr (key, [])).mono ?_
  rintro e w0 ⟨rfl, f0⟩
  have H0 : Hid (Ext wr w0) := Lib.hid f0
  obtain ⟨kq, hkq⟩ : ∃ k, k = (cutP (key, [])).1 := ⟨_, rfl⟩
  have hkl : kq.length ≤ 40 := by rw [hkq]; exact (cutP_short _).1
  rw [← hkq]
  have hG := cget6 hk (H.out.2.ext H0.out) kq hX hkl
  have hR : ∀ w1, Ext wr w1 → _ := fun w1 (f : Ext wr w1) => rget_c w1 v8 X kq (H.out.2.ps.below f) H.out.2.ok.rise hX H.out.2.ok.keys'
  obtain ⟨u, hu⟩ : ∃ u, u = (getL kq X).getD [] := ⟨_, rfl⟩
  obtain ⟨th, hth⟩ : ∃ th, th = hasK X kq := ⟨_, rfl⟩
  rw [← hu, ← hth] at hG hR
  have HG := Lib.hid hG
  have HR := Lib.hid hR
  clear hG hR hu hth
  have hfl := fieldP (str kq) (str (cutP (key, [])).2)
  obtain ⟨c0, c1, c2⟩ := (H.out.2.hs.ext f0).cells
  clear f0 hkq
  go_simp
  repeat' (first | go_at_call 45 | go_skip | go_guarded | go_step)
  refine HG.out.mono ?_
  rintro e w1 ⟨rfl, f1⟩
  have H1 : Hid (Ext wr w1) := Lib.hid (H0.out.trans f1)
  clear f1 HG c0 c1 c2
  go_simp
  repeat' (first | go_at_call 40 | go_skip | go_guarded | go_step)
  refine (HR.out w1 H1.out).mono ?_
  rintro e w2 ⟨rfl, f2⟩
  have H2 : Hid (Ext wr w2) := Lib.hid (H1.out.trans f2)
  have he1 : (th != th) = false := by simp
  clear f2 HR H1
  go_simp
  repeat' (first | go_skip | go_guarded | go_step)
  exact HQF.out _ _ _ _ _ _ _ _ _ _ _ _ _ _ _ _ _ _ _ _ _ _ _ _ _ _ _ _ _ _ _ H2.out

end Go.Proofs.Ytlgnokhfioglaaa
/- ChampPlays: the rest behind its first loop: a law of its own. -/
namespace Go.Proofs.Ytlgnokhfioglaaa
open Go.RowKit Go.QS Go.QS.Nk
set_option linter.unusedVariables false

set_option maxRecDepth 100000 in
set_option maxHeartbeats 2000000 in
theorem plays6_25 (w wr : World) (gh g : Nat) (h : Hs) (hk : h.Ok) (v8 : Value) (B : Option Addr) (m D : Nat) (S : List (List UInt8)) (X : List Pr) (H : Hid (St6 wr gh h g v8 X ∧ Ext w wr ∧ Seg w B (flatE encS S) ∧ m = S.length)) (hX : X.length ≤ 1000) (hm9 : m ≤ 9223372036854775807) (c d : Code) (K : Act → World → Prop) (Q : Exit → Act → World → Prop) (t0 t1 t4 t5 t6 t9 t10 t11 t12 t13 t14 t15 t16 t17 t18 t19 t20 t21 t22 t23 t24 t25 t26 t27 t28 t29 t30 t31 t32 t33 t34 t35 t36 t37 t38 t39 t40 t41 t42 t43 t44 t45 t46 t47 t48 t49 t50 t51 t52 t53 t54 t55 t56 t57 t58 t59 t60 t61 t62 t63 t64 t65 t66 t67 t68 t69 t70 t71 t72 t73 t74 t75 t76 t77 t78 t79 t80 t81 t82 t83 t84 t85 t86 t87 t88 t89 t90 t91 t92 t93 t94 t95 t96 t97 t98 t99 t100 t101 t102 t103 t104 t105 t106 t107 t108 t109 t110 t111 t112 t113 t114 t115 t116 t117 t118 t119 t120 t121 t122 t123 t124 t125 t126 t127 t128 t129 t130 t131 t132 t133 t134 t135 t136 t137 t138 t139 t140 t141 t142 t143 t144 t145 t146 t147 t148 t149 t150 t151 t152 t153 t154 t155 t156 t157 t158 t159 t160 t161 t162 t163 t164 t165 t166 t167 t168 t169 : Value)
    (hc : (Try.f7.body.bind (findR 25)) = some c) (hd : (Try.f7.body.bind (findT 25)) = some d)
    (hK : ∀ a w, d.wp Try.prog Q a w → K a w)
    (hQ : ∀ (u6 u22 u23 u24 u25 u26 u27 u131 u132 u133 u134 u135 u136 u137 u138 u139 u140 u141 u142 u143 u144 u145 u146 u147 u148 u149 u150 u151 u152 u153 u154 u155 u156 u157 u158 u159 u160 u161 u162 u163 u164 u165 : Value) (wx : World), Ext wr wx → Q .normal { tmps := List.toArray (t0 :: t1 :: (.slice B m D) :: (ptr gh) :: t4 :: t5 :: u6 :: (ptr g) :: v8 :: t9 :: t10 :: t11 :: t12 :: t13 :: t14 :: t15 :: t16 :: t17 :: t18 :: t19 :: t20 :: t21 :: u22 :: u23 :: u24 :: u25 :: u26 :: u27 :: t28 :: t29 :: t30 :: t31 :: t32 :: t33 :: t34 :: t35 :: t36 :: t37 :: t38 :: t39 :: t40 :: t41 :: t42 :: t43 :: t44 :: t45 :: t46 :: t47 :: t48 :: t49 :: t50 :: t51 :: t52 :: t53 :: t54 :: t55 :: t56 :: t57 :: t58 :: t59 :: t60 :: t61 :: t62 :: t63 :: t64 :: t65 :: t66 :: t67 :: t68 :: t69 :: t70 :: t71 :: t72 :: t73 :: t74 :: t75 :: t76 :: t77 :: t78 :: t79 :: t80 :: t81 :: t82 :: t83 :: t84 :: t85 :: t86 :: t87 :: t88 :: t89 :: t90 :: t91 :: t92 :: t93 :: t94 :: t95 :: t96 :: t97 :: t98 :: t99 :: t100 :: t101 :: t102 :: t103 :: t104 :: t105 :: t106 :: t107 :: t108 :: t109 :: t110 :: t111 :: t112 :: t113 :: t114 :: t115 :: t116 :: t117 :: t118 :: t119 :: t120 :: t121 :: t122 :: t123 :: t124 :: t125 :: t126 :: t127 :: t128 :: t129 :: t130 :: u131 :: u132 :: u133 :: u134 :: u135 :: u136 :: u137 :: u138 :: u139 :: u140 :: u141 :: u142 :: u143 :: u144 :: u145 :: u146 :: u147 :: u148 :: u149 :: u150 :: u151 :: u152 :: u153 :: u154 :: u155 :: u156 :: u157 :: u158 :: u159 :: u160 :: u161 :: u162 :: u163 :: u164 :: u165 :: t166 :: t167 :: t168 :: t169 :: []), defers := [] } wx) :
    c.wp Try.prog (Exit.then K Q) { tmps := List.toArray (t0 :: t1 :: (.slice B m D) :: (ptr gh) :: t4 :: t5 :: t6 :: (ptr g) :: v8 :: t9 :: t10 :: t11 :: t12 :: t13 :: t14 :: t15 :: t16 :: t17 :: t18 :: t19 :: t20 :: t21 :: t22 :: t23 :: t24 :: t25 :: t26 :: t27 :: t28 :: t29 :: t30 :: t31 :: t32 :: t33 :: t34 :: t35 :: t36 :: t37 :: t38 :: t39 :: t40 :: t41 :: t42 :: t43 :: t44 :: t45 :: t46 :: t47 :: t48 :: t49 :: t50 :: t51 :: t52 :: t53 :: t54 :: t55 :: t56 :: t57 :: t58 :: t59 :: t60 :: t61 :: t62 :: t63 :: t64 :: t65 :: t66 :: t67 :: t68 :: t69 :: t70 :: t71 :: t72 :: t73 :: t74 :: t75 :: t76 :: t77 :: t78 :: t79 :: t80 :: t81 :: t82 :: t83 :: t84 :: t85 :: t86 :: t87 :: t88 :: t89 :: t90 :: t91 :: t92 :: t93 :: t94 :: t95 :: t96 :: t97 :: t98 :: t99 :: t100 :: t101 :: t102 :: t103 :: t104 :: t105 :: t106 :: t107 :: t108 :: t109 :: t110 :: t111 :: t112 :: t113 :: t114 :: t115 :: t116 :: t117 :: t118 :: t119 :: t120 :: t121 :: t122 :: t123 :: t124 :: t125 :: t126 :: t127 :: t128 :: t129 :: t130 :: t131 :: t132 :: t133 :: t134 :: t135 :: t136 :: t137 :: t138 :: t139 :: t140 :: t141 :: t142 :: t143 :: t144 :: t145 :: t146 :: t147 :: t148 :: t149 :: t150 :: t151 :: t152 :: t153 :: t154 :: t155 :: t156 :: t157 :: t158 :: t159 :: t160 :: t161 :: t162 :: t163 :: t164 :: t165 :: t166 :: t167 :: t168 :: t169 :: []), defers := [] } wr := by
  change some _ = some c at hc
  cases hc
  change some _ = some d at hd
  cases hd
  have HQF := Lib.hid hQ
  clear hQ
  repeat' (go_not_at_region 26; (first | go_skip | go_guarded | go_step))
  go_loopg [133] m (fun gk v133 wx => ∃ i : Nat, v133 = .int .i64 i ∧ i ≤ m ∧ m - i ≤ gk ∧ Hid (Ext wr wx))
  case atStart => exact ⟨0, rfl, Nat.zero_le _, by omega, Lib.hid (Ext.refl _)⟩
  case round =>
    obtain ⟨wx, rfl⟩ : ∃ x, x = wr := ⟨_, rfl⟩
    obtain ⟨i, rfl, hin, hgk, HI⟩ := hrel
    obtain ⟨c0, c1, c2⟩ := (H.out.1.hs.ext HI.out).cells
    rcases Nat.lt_or_ge i m with hlt | hge
    · have d1 : decide (i < m) = true := by simp [hlt]
      have hi1 : (i : Int) < (m : Int) := by omega
      obtain ⟨key, hp⟩ := get_of_lt S (show i < S.length by have := H.out.2.2.2; omega)
      obtain ⟨b, o, rfl, q0⟩ := seg_str (H.out.2.2.1.below (H.out.2.1.trans HI.out)) hp
      clear hp
      by_cases h20 : i < 20
      · have d2 : decide (20 ≤ i) = false := by simp; omega
        have d2' : decide ((20 : Int) ≤ (i : Int)) = false := by simp; omega
        repeat' (go_not_at_region 29; (first | go_skip | go_guarded | go_step))
        rename_i K hK
        refine plays6_29 _ gh g h hk v8 X key (Lib.hid ⟨trivial, H.out.1.ext HI.out⟩) hX _ _ K _ _ _ _ _ _ _ _ _ _ _ _ _ _ _ _ _ _ _ _ _ _ _ _ _ _ _ _ _ _ _ _ _ _ _ _ _ _ _ _ _ _ _ _ _ _ _ _ _ _ _ _ _ _ _ _ _ _ _ _ _ _ _ _ _ _ _ _ _ _ _ _ _ _ _ _ _ _ _ _ _ _ _ _ _ _ _ _ _ _ _ _ _ _ _ _ _ _ _ _ _ _ _ _ _ _ _ _ _ _ _ _ _ _ _ _ _ _ _ _ _ _ _ _ _ _ _ _ _ _ _ _ _ _ _ _ _ _ _ _ _ _ _ _ _ _ _ _ _ _ _ _ _ _ _ _ _ _ _ _ _ _ _ _ _ _ _ (by kernel_rfl) (by kernel_rfl) hK ?_
        intro z23 z24 z25 z26 z27 z140 z141 z142 z143 z144 z145 z146 z147 z148 z149 z150 z151 z152 z153 z154 z155 z156 z157 z158 z159 z160 z161 z162 z163 z164 wy hpo
        have H6 := Lib.hid (HI.out.trans hpo)
        clear hpo c0 c1 c2 q0
        repeat' (first | go_skip | go_guarded | go_step)
        go_roundg (m - (i + 1))
        case measure => omega
        case rel => exact ⟨i + 1, by go_num, by omega, Nat.le_refl _, H6⟩
      · have d2 : decide (20 ≤ i) = true := by simp; omega
        have d2' : decide ((20 : Int) ≤ (i : Int)) = true := by simp; omega
        repeat' (first | go_skip | go_guarded | go_step)
        exact HQF.out _ _ _ _ _ _ _ _ _ _ _ _ _ _ _ _ _ _ _ _ _ _ _ _ _ _ _ _ _ _ _ _ _ _ _ _ _ _ _ _ _ _ _ HI.out
    · obtain rfl : i = m := by omega
      have d1 : decide (i < i) = false := by simp
      repeat' (first | go_skip | go_guarded | go_step)
      exact HQF.out _ _ _ _ _ _ _ _ _ _ _ _ _ _ _ _ _ _ _ _ _ _ _ _ _ _ _ _ _ _ _ _ _ _ _ _ _ _ _ _ _ _ _ HI.out

end Go.Proofs.Ytlgnokhfioglaaa
