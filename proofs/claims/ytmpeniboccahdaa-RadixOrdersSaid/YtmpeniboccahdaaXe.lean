/- RadixOrders: what comes and goes, and all, in another order: its fifth and sixth loops: laws of their own. -/
import Derived.Test.YtmpeniboccahdaaVr
import Derived.Test.YtmpeniboccahdaaWr
import Derived.Deep.LoopGhost
namespace Go.Proofs.Ytmpeniboccahdaa
open Go.RowKit Go.QS
set_option linter.unusedVariables false

/-- A key of those that come and go. -/
def GoneK (l : List Pr) (k : List UInt8) : Prop := ∃ (i : Nat) (p : Pr), i < 20 ∧ l[i]? = some p ∧ k = (cutP p).1

set_option maxRecDepth 100000 in
set_option maxHeartbeats 2000000 in
theorem ord_34 (wr : World) (g n C : Nat) (A : Option Addr) (l : List Pr) (H : Hid (Rep NT wr g (RT.node [] none []) ∧ Seg wr A (flat l) ∧ n = l.length)) (hn9 : n ≤ 9223372036854775807) (c d : Code) (K : Act → World → Prop) (Q : Exit → Act → World → Prop) (t0 t1 t3 t4 t5 t6 t7 t8 t9 t10 t11 t12 t14 t15 t16 t17 t18 t19 t20 t21 t22 t23 t24 t25 t26 t27 t28 t29 t30 t31 t32 t33 t34 t35 t36 t37 t38 t39 t40 t41 t42 t43 t44 t45 t46 t47 t48 t49 t50 t51 t52 t53 t54 t55 t56 t57 t58 t59 t60 t61 t62 t63 t64 t65 t66 t67 t68 t69 t70 t71 t72 t73 t74 t75 t76 t77 t78 t79 t80 t81 t82 t83 t84 t85 t86 t87 t88 t89 t90 t91 t92 t93 t94 t95 t96 t97 t98 t99 t100 t101 t102 t103 t104 t105 t106 t107 t108 t109 t110 t111 t112 t113 t114 t115 t116 t117 t118 t119 t120 t121 t122 t123 t124 t125 t126 t127 t128 t129 t130 t131 t132 t133 t134 t135 t136 t137 t138 t139 t140 t141 t142 t143 t144 t145 t146 t147 t148 t149 t150 t151 t152 t153 t154 t155 t156 t157 t158 t159 t160 t161 t162 t163 t164 t165 t166 t167 t168 t169 t170 t171 t172 t173 t174 t175 t176 t177 t178 t179 t180 t181 t182 t183 t184 t185 t186 t187 t188 t189 t190 t191 t192 t193 t194 t195 t196 t197 t198 t199 t200 t201 t202 t203 t204 t205 t206 t207 t208 t209 t210 t211 t212 : Value)
    (hc : (Try.f10.body.bind (findR 34)) = some c) (hd : (Try.f10.body.bind (findT 34)) = some d)
    (hK : ∀ a w, d.wp Try.prog Q a w → K a w)
    (hQ : ∀ (g2 : Nat) (T2 : RT) (M : List Pr) (u24 u25 u131 u132 u133 u134 u135 u136 u137 u138 u139 u140 u141 u142 u143 u144 u145 u146 u147 : Value) (wx : World), Ext wr wx ∧ Rep NT wx g2 T2 ∧ Ok T2 M ∧ (∀ q ∈ M, GoneK l q.1) → Q .normal { tmps := List.toArray (t0 :: t1 :: (.slice A n C) :: t3 :: t4 :: t5 :: t6 :: t7 :: t8 :: t9 :: t10 :: t11 :: t12 :: (ptr g2) :: t14 :: t15 :: t16 :: t17 :: t18 :: t19 :: t20 :: t21 :: t22 :: t23 :: u24 :: u25 :: t26 :: t27 :: t28 :: t29 :: t30 :: t31 :: t32 :: t33 :: t34 :: t35 :: t36 :: t37 :: t38 :: t39 :: t40 :: t41 :: t42 :: t43 :: t44 :: t45 :: t46 :: t47 :: t48 :: t49 :: t50 :: t51 :: t52 :: t53 :: t54 :: t55 :: t56 :: t57 :: t58 :: t59 :: t60 :: t61 :: t62 :: t63 :: t64 :: t65 :: t66 :: t67 :: t68 :: t69 :: t70 :: t71 :: t72 :: t73 :: t74 :: t75 :: t76 :: t77 :: t78 :: t79 :: t80 :: t81 :: t82 :: t83 :: t84 :: t85 :: t86 :: t87 :: t88 :: t89 :: t90 :: t91 :: t92 :: t93 :: t94 :: t95 :: t96 :: t97 :: t98 :: t99 :: t100 :: t101 :: t102 :: t103 :: t104 :: t105 :: t106 :: t107 :: t108 :: t109 :: t110 :: t111 :: t112 :: t113 :: t114 :: t115 :: t116 :: t117 :: t118 :: t119 :: t120 :: t121 :: t122 :: t123 :: t124 :: t125 :: t126 :: t127 :: t128 :: t129 :: t130 :: u131 :: u132 :: u133 :: u134 :: u135 :: u136 :: u137 :: u138 :: u139 :: u140 :: u141 :: u142 :: u143 :: u144 :: u145 :: u146 :: u147 :: t148 :: t149 :: t150 :: t151 :: t152 :: t153 :: t154 :: t155 :: t156 :: t157 :: t158 :: t159 :: t160 :: t161 :: t162 :: t163 :: t164 :: t165 :: t166 :: t167 :: t168 :: t169 :: t170 :: t171 :: t172 :: t173 :: t174 :: t175 :: t176 :: t177 :: t178 :: t179 :: t180 :: t181 :: t182 :: t183 :: t184 :: t185 :: t186 :: t187 :: t188 :: t189 :: t190 :: t191 :: t192 :: t193 :: t194 :: t195 :: t196 :: t197 :: t198 :: t199 :: t200 :: t201 :: t202 :: t203 :: t204 :: t205 :: t206 :: t207 :: t208 :: t209 :: t210 :: t211 :: t212 :: []), defers := [] } wx) :
    c.wp Try.prog (Exit.then K Q) { tmps := List.toArray (t0 :: t1 :: (.slice A n C) :: t3 :: t4 :: t5 :: t6 :: t7 :: t8 :: t9 :: t10 :: t11 :: t12 :: (ptr g) :: t14 :: t15 :: t16 :: t17 :: t18 :: t19 :: t20 :: t21 :: t22 :: t23 :: t24 :: t25 :: t26 :: t27 :: t28 :: t29 :: t30 :: t31 :: t32 :: t33 :: t34 :: t35 :: t36 :: t37 :: t38 :: t39 :: t40 :: t41 :: t42 :: t43 :: t44 :: t45 :: t46 :: t47 :: t48 :: t49 :: t50 :: t51 :: t52 :: t53 :: t54 :: t55 :: t56 :: t57 :: t58 :: t59 :: t60 :: t61 :: t62 :: t63 :: t64 :: t65 :: t66 :: t67 :: t68 :: t69 :: t70 :: t71 :: t72 :: t73 :: t74 :: t75 :: t76 :: t77 :: t78 :: t79 :: t80 :: t81 :: t82 :: t83 :: t84 :: t85 :: t86 :: t87 :: t88 :: t89 :: t90 :: t91 :: t92 :: t93 :: t94 :: t95 :: t96 :: t97 :: t98 :: t99 :: t100 :: t101 :: t102 :: t103 :: t104 :: t105 :: t106 :: t107 :: t108 :: t109 :: t110 :: t111 :: t112 :: t113 :: t114 :: t115 :: t116 :: t117 :: t118 :: t119 :: t120 :: t121 :: t122 :: t123 :: t124 :: t125 :: t126 :: t127 :: t128 :: t129 :: t130 :: t131 :: t132 :: t133 :: t134 :: t135 :: t136 :: t137 :: t138 :: t139 :: t140 :: t141 :: t142 :: t143 :: t144 :: t145 :: t146 :: t147 :: t148 :: t149 :: t150 :: t151 :: t152 :: t153 :: t154 :: t155 :: t156 :: t157 :: t158 :: t159 :: t160 :: t161 :: t162 :: t163 :: t164 :: t165 :: t166 :: t167 :: t168 :: t169 :: t170 :: t171 :: t172 :: t173 :: t174 :: t175 :: t176 :: t177 :: t178 :: t179 :: t180 :: t181 :: t182 :: t183 :: t184 :: t185 :: t186 :: t187 :: t188 :: t189 :: t190 :: t191 :: t192 :: t193 :: t194 :: t195 :: t196 :: t197 :: t198 :: t199 :: t200 :: t201 :: t202 :: t203 :: t204 :: t205 :: t206 :: t207 :: t208 :: t209 :: t210 :: t211 :: t212 :: []), defers := [] } wr := by
  change some _ = some c at hc
  cases hc
  change some _ = some d at hd
  cases hd
  have HQF := Lib.hid hQ
  clear hQ
  repeat' (go_not_at_region 35; (first | go_skip | go_guarded | go_step))
  go_loopg [13, 133] n (fun gk v13 v133 wx => ∃ (i g2 : Nat) (T2 : RT) (M : List Pr), v13 = ptr g2 ∧ v133 = .int .i64 i ∧ i ≤ n ∧ n - i ≤ gk ∧ Hid (Ext wr wx ∧ Rep NT wx g2 T2 ∧ Ok T2 M ∧ ∀ q ∈ M, GoneK l q.1))
  case atStart => exact ⟨0, g, _, [], rfl, rfl, Nat.zero_le _, by omega, Lib.hid ⟨Ext.refl _, H.out.1, Ok.nil, fun q hq => by cases hq⟩⟩
  case round =>
    obtain ⟨i, g2, T2, M, rfl, rfl, hin, hgk, HI⟩ := hrel
    rcases Nat.lt_or_ge i n with hlt | hge
    · have d1 : decide (i < n) = true := by simp [hlt]
      have hi1 : (i : Int) < (n : Int) := by omega
      obtain ⟨p, hp⟩ := get_of_lt l (show i < l.length by have := H.out.2.2; omega)
      obtain ⟨b, o, rfl, q0, q1⟩ := seg_pair (H.out.2.1.below HI.out.1) hp
      have HP := Lib.hid hp
      clear hp
      repeat' (go_not_at_region 37; (first | go_skip | go_guarded | go_step))
      obtain ⟨w1, hw1⟩ : ∃ x, x = wr.alloc (.cells #[str p.1, str p.2] 24) := ⟨_, rfl⟩
      obtain ⟨gp, hgp⟩ : ∃ g, g = wr.heap.size := ⟨_, rfl⟩
      have hbp := heap_new wr (.cells #[str p.1, str p.2] 24)
      have hE1 : Ext wr w1 := by rw [hw1]; exact (Ext.refl _).alloc (Nat.le_refl _) _
      have hw1' : wr.alloc (.cells #[Value.string (bs p.1), Value.string (bs p.2)] 24) = w1 := hw1.symm
      rw [← hw1, ← hgp] at hbp
      rw [hw1', ← hgp]
      have HA : Hid (Ext wr w1 ∧ Box w1 gp p) := Lib.hid ⟨hE1, hbp⟩
      clear hw1 hw1' hgp hbp hE1 q0 q1
      by_cases h20 : i < 20
      · have d2 : decide (i < 20) = true := by simp [h20]
        have d2' : decide ((i : Int) < 20) = true := by simp; omega
        obtain ⟨c0, c1⟩ := HA.out.2.cells
        repeat' (first | go_at_call 14 | go_skip | go_guarded | go_step)
        refine (fewp_c _ p).mono ?_
        rintro e w2 ⟨rfl, f2⟩
        obtain ⟨q, hq⟩ : ∃ q, q = cutP p := ⟨_, rfl⟩
        have hql : q.1.length ≤ 40 ∧ q.2.length ≤ 40 := by rw [hq]; exact cutP_short _
        rw [← hq]
        have HQ := Lib.hid hq
        have H2 : Hid (Ext wr w2 ∧ Box w2 gp p) := Lib.hid ⟨HA.out.1.trans f2, HA.out.2.ext f2⟩
        clear f2 hq c0 c1
        go_simp
        repeat' (first | go_at_call 13 | go_skip | go_guarded | go_step)
        refine (putO_c w2 g2 T2 M q (HI.out.2.1.ext H2.out.1) HI.out.2.2.1 hql).mono ?_
        rintro e w3 ⟨g3, T3, rfl, f3, r3, o3, _⟩
        have H3 : Hid (Ext wr w3 ∧ Rep NT w3 g3 T3 ∧ Ok T3 (rput M q)) := Lib.hid ⟨H2.out.1.trans f3, r3, o3⟩
        clear f3 r3 o3
        go_simp
        repeat' (first | go_skip | go_guarded | go_step)
        go_roundg (n - (i + 1))
        case measure => omega
        case rel => 
          refine ⟨i + 1, g3, T3, _, rfl, by go_num, by omega, Nat.le_refl _, Lib.hid ⟨HI.out.1.trans H3.out.1, H3.out.2.1, H3.out.2.2, fun x hx => ?_⟩⟩
          rcases mem_rput.1 hx with rfl | ⟨hx, _⟩
          · exact ⟨i, p, h20, HP.out, by rw [HQ.out]⟩
          · exact HI.out.2.2.2 x hx
      · have d2 : decide (i < 20) = false := by simp; omega
        have d2' : decide ((i : Int) < 20) = false := by simp; omega
        repeat' (first | go_skip | go_guarded | go_step)
        go_roundg (n - (i + 1))
        case measure => omega
        case rel => exact ⟨i + 1, g2, T2, M, rfl, by go_num, by omega, Nat.le_refl _, Lib.hid ⟨HI.out.1.trans HA.out.1, HI.out.2.1.ext HA.out.1, HI.out.2.2⟩⟩
    · obtain rfl : i = n := by omega
      have d1 : decide (i < i) = false := by simp
      repeat' (first | go_skip | go_guarded | go_step)
      exact HQF.out g2 T2 M _ _ _ _ _ _ _ _ _ _ _ _ _ _ _ _ _ _ _ _ HI.out

set_option maxRecDepth 100000 in
set_option maxHeartbeats 2000000 in
theorem ord_40 (wr : World) (g : Nat) (v21 : Value) (T : RT) (M L : List Pr) (H : Hid (Rep NT wr g T ∧ Ok T M ∧ PS wr v21 L ∧ ∀ q ∈ L, q.1.length ≤ 40 ∧ q.2.length ≤ 40)) (c d : Code) (K : Act → World → Prop) (Q : Exit → Act → World → Prop) (t0 t1 t2 t3 t4 t5 t6 t7 t8 t9 t10 t11 t12 t14 t15 t16 t17 t18 t19 t20 t22 t23 t24 t25 t26 t27 t28 t29 t30 t31 t32 t33 t34 t35 t36 t37 t38 t39 t40 t41 t42 t43 t44 t45 t46 t47 t48 t49 t50 t51 t52 t53 t54 t55 t56 t57 t58 t59 t60 t61 t62 t63 t64 t65 t66 t67 t68 t69 t70 t71 t72 t73 t74 t75 t76 t77 t78 t79 t80 t81 t82 t83 t84 t85 t86 t87 t88 t89 t90 t91 t92 t93 t94 t95 t96 t97 t98 t99 t100 t101 t102 t103 t104 t105 t106 t107 t108 t109 t110 t111 t112 t113 t114 t115 t116 t117 t118 t119 t120 t121 t122 t123 t124 t125 t126 t127 t128 t129 t130 t131 t132 t133 t134 t135 t136 t137 t138 t139 t140 t141 t142 t143 t144 t145 t146 t147 t148 t149 t150 t151 t152 t153 t154 t155 t156 t157 t158 t159 t160 t161 t162 t163 t164 t165 t166 t167 t168 t169 t170 t171 t172 t173 t174 t175 t176 t177 t178 t179 t180 t181 t182 t183 t184 t185 t186 t187 t188 t189 t190 t191 t192 t193 t194 t195 t196 t197 t198 t199 t200 t201 t202 t203 t204 t205 t206 t207 t208 t209 t210 t211 t212 : Value)
    (hc : (Try.f10.body.bind (findR 40)) = some c) (hd : (Try.f10.body.bind (findT 40)) = some d)
    (hK : ∀ a w, d.wp Try.prog Q a w → K a w)
    (hQ : ∀ (g2 : Nat) (T2 : RT) (u27 u148 u149 u150 u151 u152 u153 u154 u155 u156 u157 u158 u159 u160 : Value) (wx : World), Ext wr wx ∧ Rep NT wx g2 T2 ∧ Ok T2 (L.foldl rput M) → Q .normal { tmps := List.toArray (t0 :: t1 :: t2 :: t3 :: t4 :: t5 :: t6 :: t7 :: t8 :: t9 :: t10 :: t11 :: t12 :: (ptr g2) :: t14 :: t15 :: t16 :: t17 :: t18 :: t19 :: t20 :: v21 :: t22 :: t23 :: t24 :: t25 :: t26 :: u27 :: t28 :: t29 :: t30 :: t31 :: t32 :: t33 :: t34 :: t35 :: t36 :: t37 :: t38 :: t39 :: t40 :: t41 :: t42 :: t43 :: t44 :: t45 :: t46 :: t47 :: t48 :: t49 :: t50 :: t51 :: t52 :: t53 :: t54 :: t55 :: t56 :: t57 :: t58 :: t59 :: t60 :: t61 :: t62 :: t63 :: t64 :: t65 :: t66 :: t67 :: t68 :: t69 :: t70 :: t71 :: t72 :: t73 :: t74 :: t75 :: t76 :: t77 :: t78 :: t79 :: t80 :: t81 :: t82 :: t83 :: t84 :: t85 :: t86 :: t87 :: t88 :: t89 :: t90 :: t91 :: t92 :: t93 :: t94 :: t95 :: t96 :: t97 :: t98 :: t99 :: t100 :: t101 :: t102 :: t103 :: t104 :: t105 :: t106 :: t107 :: t108 :: t109 :: t110 :: t111 :: t112 :: t113 :: t114 :: t115 :: t116 :: t117 :: t118 :: t119 :: t120 :: t121 :: t122 :: t123 :: t124 :: t125 :: t126 :: t127 :: t128 :: t129 :: t130 :: t131 :: t132 :: t133 :: t134 :: t135 :: t136 :: t137 :: t138 :: t139 :: t140 :: t141 :: t142 :: t143 :: t144 :: t145 :: t146 :: t147 :: u148 :: u149 :: u150 :: u151 :: u152 :: u153 :: u154 :: u155 :: u156 :: u157 :: u158 :: u159 :: u160 :: t161 :: t162 :: t163 :: t164 :: t165 :: t166 :: t167 :: t168 :: t169 :: t170 :: t171 :: t172 :: t173 :: t174 :: t175 :: t176 :: t177 :: t178 :: t179 :: t180 :: t181 :: t182 :: t183 :: t184 :: t185 :: t186 :: t187 :: t188 :: t189 :: t190 :: t191 :: t192 :: t193 :: t194 :: t195 :: t196 :: t197 :: t198 :: t199 :: t200 :: t201 :: t202 :: t203 :: t204 :: t205 :: t206 :: t207 :: t208 :: t209 :: t210 :: t211 :: t212 :: []), defers := [] } wx) :
    c.wp Try.prog (Exit.then K Q) { tmps := List.toArray (t0 :: t1 :: t2 :: t3 :: t4 :: t5 :: t6 :: t7 :: t8 :: t9 :: t10 :: t11 :: t12 :: (ptr g) :: t14 :: t15 :: t16 :: t17 :: t18 :: t19 :: t20 :: v21 :: t22 :: t23 :: t24 :: t25 :: t26 :: t27 :: t28 :: t29 :: t30 :: t31 :: t32 :: t33 :: t34 :: t35 :: t36 :: t37 :: t38 :: t39 :: t40 :: t41 :: t42 :: t43 :: t44 :: t45 :: t46 :: t47 :: t48 :: t49 :: t50 :: t51 :: t52 :: t53 :: t54 :: t55 :: t56 :: t57 :: t58 :: t59 :: t60 :: t61 :: t62 :: t63 :: t64 :: t65 :: t66 :: t67 :: t68 :: t69 :: t70 :: t71 :: t72 :: t73 :: t74 :: t75 :: t76 :: t77 :: t78 :: t79 :: t80 :: t81 :: t82 :: t83 :: t84 :: t85 :: t86 :: t87 :: t88 :: t89 :: t90 :: t91 :: t92 :: t93 :: t94 :: t95 :: t96 :: t97 :: t98 :: t99 :: t100 :: t101 :: t102 :: t103 :: t104 :: t105 :: t106 :: t107 :: t108 :: t109 :: t110 :: t111 :: t112 :: t113 :: t114 :: t115 :: t116 :: t117 :: t118 :: t119 :: t120 :: t121 :: t122 :: t123 :: t124 :: t125 :: t126 :: t127 :: t128 :: t129 :: t130 :: t131 :: t132 :: t133 :: t134 :: t135 :: t136 :: t137 :: t138 :: t139 :: t140 :: t141 :: t142 :: t143 :: t144 :: t145 :: t146 :: t147 :: t148 :: t149 :: t150 :: t151 :: t152 :: t153 :: t154 :: t155 :: t156 :: t157 :: t158 :: t159 :: t160 :: t161 :: t162 :: t163 :: t164 :: t165 :: t166 :: t167 :: t168 :: t169 :: t170 :: t171 :: t172 :: t173 :: t174 :: t175 :: t176 :: t177 :: t178 :: t179 :: t180 :: t181 :: t182 :: t183 :: t184 :: t185 :: t186 :: t187 :: t188 :: t189 :: t190 :: t191 :: t192 :: t193 :: t194 :: t195 :: t196 :: t197 :: t198 :: t199 :: t200 :: t201 :: t202 :: t203 :: t204 :: t205 :: t206 :: t207 :: t208 :: t209 :: t210 :: t211 :: t212 :: []), defers := [] } wr := by
  change some _ = some c at hc
  cases hc
  change some _ = some d at hd
  cases hd
  have HQF := Lib.hid hQ
  clear hQ
  obtain ⟨PA, pc, rfl, hl1, hn, hC, hs⟩ := H.out.2.2.1
  obtain ⟨n, hn2⟩ : ∃ n, n = L.length := ⟨_, rfl⟩
  rw [← hn2] at hn HQF ⊢
  have hn9 : n ≤ 9223372036854775807 := by unfold maxLen at hC; omega
  have HS : Hid (n = L.length ∧ Seg wr PA (flat L)) := Lib.hid ⟨hn2, hs⟩
  have HG : Hid (Rep NT wr g T ∧ Ok T M ∧ ∀ q ∈ L, q.1.length ≤ 40 ∧ q.2.length ≤ 40) := Lib.hid ⟨H.out.1, H.out.2.1, H.out.2.2.2⟩
  clear H hs hn2 hl1
  repeat' (go_not_at_region 41; (first | go_skip | go_guarded | go_step))
  go_loopg [13, 150] n (fun gk v13 v150 wx => ∃ (i g2 : Nat) (T2 : RT), v13 = ptr g2 ∧ v150 = .int .i64 i ∧ i ≤ n ∧ n - i ≤ gk ∧ Hid (Ext wr wx ∧ Rep NT wx g2 T2 ∧ Ok T2 ((L.take i).foldl rput M)))
  case atStart => exact ⟨0, g, T, rfl, rfl, Nat.zero_le _, by omega, Lib.hid ⟨Ext.refl _, HG.out.1, HG.out.2.1⟩⟩
  case round =>
    obtain ⟨i, g2, T2, rfl, rfl, hin, hgk, HI⟩ := hrel
    rcases Nat.lt_or_ge i n with hlt | hge
    · have d1 : decide (i < n) = true := by simp [hlt]
      have hi1 : (i : Int) < (n : Int) := by omega
      obtain ⟨p, hp⟩ := get_of_lt L (show i < L.length by have := HS.out.1; omega)
      obtain ⟨b, o, rfl, q0, q1⟩ := seg_pair (HS.out.2.below HI.out.1) hp
      have HP := Lib.hid hp
      clear hp
      repeat' (go_not_at_region 43; (first | go_skip | go_guarded | go_step))
      obtain ⟨w1, hw1⟩ : ∃ x, x = wr.alloc (.cells #[str p.1, str p.2] 24) := ⟨_, rfl⟩
      obtain ⟨gp, hgp⟩ : ∃ g, g = wr.heap.size := ⟨_, rfl⟩
      have hbp := heap_new wr (.cells #[str p.1, str p.2] 24)
      have hE1 : Ext wr w1 := by rw [hw1]; exact (Ext.refl _).alloc (Nat.le_refl _) _
      have hw1' : wr.alloc (.cells #[Value.string (bs p.1), Value.string (bs p.2)] 24) = w1 := hw1.symm
      rw [← hw1, ← hgp] at hbp
      rw [hw1', ← hgp]
      have HA : Hid (Ext wr w1 ∧ Box w1 gp p) := Lib.hid ⟨hE1, hbp⟩
      clear hw1 hw1' hgp hbp hE1 q0 q1
      have hps := HG.out.2.2 p (List.mem_of_getElem? HP.out)
      obtain ⟨c0, c1⟩ := HA.out.2.cells
      repeat' (first | go_at_call 13 | go_skip | go_guarded | go_step)
      refine (putO_c w1 g2 T2 _ p (HI.out.2.1.ext HA.out.1) HI.out.2.2 hps).mono ?_
      rintro e w3 ⟨g3, T3, rfl, f3, r3, o3, _⟩
      have e : rput ((L.take i).foldl rput M) p = (L.take (i + 1)).foldl rput M := by rw [take_snoc HP.out, List.foldl_append]; rfl
      rw [e] at o3
      have H3 : Hid (Ext wr w3 ∧ Rep NT w3 g3 T3 ∧ Ok T3 ((L.take (i + 1)).foldl rput M)) := Lib.hid ⟨HA.out.1.trans f3, r3, o3⟩
      clear f3 r3 o3 e
      go_simp
      repeat' (first | go_skip | go_guarded | go_step)
      go_roundg (n - (i + 1))
      case measure => omega
      case rel => exact ⟨i + 1, g3, T3, rfl, by go_num, by omega, Nat.le_refl _, Lib.hid ⟨HI.out.1.trans H3.out.1, H3.out.2.1, H3.out.2.2⟩⟩
    · obtain rfl : i = n := by omega
      have d1 : decide (i < i) = false := by simp
      repeat' (first | go_skip | go_guarded | go_step)
      have ht : L.take i = L := List.take_of_length_le (by have := HS.out.1; omega)
      have hI := HI.out
      rw [ht] at hI
      exact HQF.out g2 T2 _ _ _ _ _ _ _ _ _ _ _ _ _ _ _ hI

end Go.Proofs.Ytmpeniboccahdaa
