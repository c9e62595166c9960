/- Texts joined. -/
import Derived.Test.YtmpeniboccahdaaVr
import Derived.Test.YtmpeniboccahdaaWr
import Derived.Deep.LoopGhost
import Derived.Test.YtmpeniboccahdaaWq
/- RadixOrders: its pairs are taken: its first loop: a law of its own. -/
namespace Go.Proofs.Ytmpeniboccahdaa
open Go.RowKit Go.QS
set_option linter.unusedVariables false

set_option maxRecDepth 100000 in
set_option maxHeartbeats 2000000 in
theorem ord_4 (wr : World) (n C : Nat) (A : Option Addr) (l : List Pr) (H : Hid (Seg wr A (flat l) ∧ n = l.length)) (hn9 : n ≤ 9223372036854775807) (c d : Code) (K : Act → World → Prop) (Q : Exit → Act → World → Prop) (t1 t2 t3 t4 t5 t6 t7 t8 t10 t11 t12 t13 t14 t15 t16 t17 t18 t19 t20 t21 t22 t23 t24 t25 t26 t27 t28 t29 t30 t31 t32 t33 t34 t35 t36 t37 t38 t39 t40 t41 t42 t43 t44 t45 t46 t47 t48 t49 t50 t51 t52 t53 t54 t55 t56 t57 t58 t59 t60 t61 t62 t63 t64 t65 t66 t67 t68 t69 t70 t71 t72 t73 t74 t75 t76 t77 t78 t79 t80 t81 t82 t83 t84 t85 t86 t87 t88 t89 t90 t91 t92 t93 t94 t95 t96 t97 t98 t99 t100 t101 t102 t103 t104 t105 t106 t107 t108 t109 t110 t111 t112 t113 t114 t115 t116 t117 t118 t119 t120 t121 t122 t123 t124 t125 t126 t127 t128 t129 t130 t131 t132 t133 t134 t135 t136 t137 t138 t139 t140 t141 t142 t143 t144 t145 t146 t147 t148 t149 t150 t151 t152 t153 t154 t155 t156 t157 t158 t159 t160 t161 t162 t163 t164 t165 t166 t167 t168 t169 t170 t171 t172 t173 t174 t175 t176 t177 t178 t179 t180 t181 t182 t183 t184 t185 t186 t187 t188 t189 t190 t191 t192 t193 t194 t195 t196 t197 t198 t199 t200 t201 t202 t203 t204 t205 t206 t207 t208 t209 t210 t211 t212 : Value)
    (hc : (Try.f10.body.bind (findR 4)) = some c) (hd : (Try.f10.body.bind (findT 4)) = some d)
    (hK : ∀ a w, d.wp Try.prog Q a w → K a w)
    (hQ : ∀ (v2 : Value) (u10 u11 u34 u35 u36 u37 u38 u39 u40 u41 u42 u43 u44 u45 u46 u47 u48 : Value) (wx : World), Ext wr wx ∧ PS wx v2 (cutM 30 l n) → Q .normal { tmps := List.toArray ((.slice A n C) :: t1 :: t2 :: t3 :: t4 :: t5 :: t6 :: t7 :: t8 :: v2 :: u10 :: u11 :: t12 :: t13 :: t14 :: t15 :: t16 :: t17 :: t18 :: t19 :: t20 :: t21 :: t22 :: t23 :: t24 :: t25 :: t26 :: t27 :: t28 :: t29 :: t30 :: t31 :: t32 :: t33 :: u34 :: u35 :: u36 :: u37 :: u38 :: u39 :: u40 :: u41 :: u42 :: u43 :: u44 :: u45 :: u46 :: u47 :: u48 :: t49 :: t50 :: t51 :: t52 :: t53 :: t54 :: t55 :: t56 :: t57 :: t58 :: t59 :: t60 :: t61 :: t62 :: t63 :: t64 :: t65 :: t66 :: t67 :: t68 :: t69 :: t70 :: t71 :: t72 :: t73 :: t74 :: t75 :: t76 :: t77 :: t78 :: t79 :: t80 :: t81 :: t82 :: t83 :: t84 :: t85 :: t86 :: t87 :: t88 :: t89 :: t90 :: t91 :: t92 :: t93 :: t94 :: t95 :: t96 :: t97 :: t98 :: t99 :: t100 :: t101 :: t102 :: t103 :: t104 :: t105 :: t106 :: t107 :: t108 :: t109 :: t110 :: t111 :: t112 :: t113 :: t114 :: t115 :: t116 :: t117 :: t118 :: t119 :: t120 :: t121 :: t122 :: t123 :: t124 :: t125 :: t126 :: t127 :: t128 :: t129 :: t130 :: t131 :: t132 :: t133 :: t134 :: t135 :: t136 :: t137 :: t138 :: t139 :: t140 :: t141 :: t142 :: t143 :: t144 :: t145 :: t146 :: t147 :: t148 :: t149 :: t150 :: t151 :: t152 :: t153 :: t154 :: t155 :: t156 :: t157 :: t158 :: t159 :: t160 :: t161 :: t162 :: t163 :: t164 :: t165 :: t166 :: t167 :: t168 :: t169 :: t170 :: t171 :: t172 :: t173 :: t174 :: t175 :: t176 :: t177 :: t178 :: t179 :: t180 :: t181 :: t182 :: t183 :: t184 :: t185 :: t186 :: t187 :: t188 :: t189 :: t190 :: t191 :: t192 :: t193 :: t194 :: t195 :: t196 :: t197 :: t198 :: t199 :: t200 :: t201 :: t202 :: t203 :: t204 :: t205 :: t206 :: t207 :: t208 :: t209 :: t210 :: t211 :: t212 :: []), defers := [] } wx) :
    c.wp Try.prog (Exit.then K Q) { tmps := List.toArray ((.slice A n C) :: t1 :: t2 :: t3 :: t4 :: t5 :: t6 :: t7 :: t8 :: (.slice none 0 0) :: t10 :: t11 :: t12 :: t13 :: t14 :: t15 :: t16 :: t17 :: t18 :: t19 :: t20 :: t21 :: t22 :: t23 :: t24 :: t25 :: t26 :: t27 :: t28 :: t29 :: t30 :: t31 :: t32 :: t33 :: t34 :: t35 :: t36 :: t37 :: t38 :: t39 :: t40 :: t41 :: t42 :: t43 :: t44 :: t45 :: t46 :: t47 :: t48 :: t49 :: t50 :: t51 :: t52 :: t53 :: t54 :: t55 :: t56 :: t57 :: t58 :: t59 :: t60 :: t61 :: t62 :: t63 :: t64 :: t65 :: t66 :: t67 :: t68 :: t69 :: t70 :: t71 :: t72 :: t73 :: t74 :: t75 :: t76 :: t77 :: t78 :: t79 :: t80 :: t81 :: t82 :: t83 :: t84 :: t85 :: t86 :: t87 :: t88 :: t89 :: t90 :: t91 :: t92 :: t93 :: t94 :: t95 :: t96 :: t97 :: t98 :: t99 :: t100 :: t101 :: t102 :: t103 :: t104 :: t105 :: t106 :: t107 :: t108 :: t109 :: t110 :: t111 :: t112 :: t113 :: t114 :: t115 :: t116 :: t117 :: t118 :: t119 :: t120 :: t121 :: t122 :: t123 :: t124 :: t125 :: t126 :: t127 :: t128 :: t129 :: t130 :: t131 :: t132 :: t133 :: t134 :: t135 :: t136 :: t137 :: t138 :: t139 :: t140 :: t141 :: t142 :: t143 :: t144 :: t145 :: t146 :: t147 :: t148 :: t149 :: t150 :: t151 :: t152 :: t153 :: t154 :: t155 :: t156 :: t157 :: t158 :: t159 :: t160 :: t161 :: t162 :: t163 :: t164 :: t165 :: t166 :: t167 :: t168 :: t169 :: t170 :: t171 :: t172 :: t173 :: t174 :: t175 :: t176 :: t177 :: t178 :: t179 :: t180 :: t181 :: t182 :: t183 :: t184 :: t185 :: t186 :: t187 :: t188 :: t189 :: t190 :: t191 :: t192 :: t193 :: t194 :: t195 :: t196 :: t197 :: t198 :: t199 :: t200 :: t201 :: t202 :: t203 :: t204 :: t205 :: t206 :: t207 :: t208 :: t209 :: t210 :: t211 :: t212 :: []), defers := [] } wr := by
  change some _ = some c at hc
  cases hc
  change some _ = some d at hd
  cases hd
  have HQF := Lib.hid hQ
  clear hQ
  repeat' (go_not_at_region 5; (first | go_skip | go_guarded | go_step))
  go_loopg [9, 36] n (fun gk v9 v36 wx => ∃ i : Nat, v36 = .int .i64 i ∧ i ≤ n ∧ n - i ≤ gk ∧ Hid (Ext wr wx ∧ wx.ownsRow wr.heap.size 24 2 v9 (cutM 30 l i).length (flat (cutM 30 l i))))
  case atStart => exact ⟨0, rfl, Nat.zero_le _, by omega, Lib.hid ⟨Ext.refl _, World.ownsRow_nil _ _ _ _⟩⟩
  case round =>
    obtain ⟨i, rfl, hin, hgk, HI⟩ := hrel
    rcases Nat.lt_or_ge i n with hlt | hge
    · have d1 : decide (i < n) = true := by simp [hlt]
      have hi1 : (i : Int) < (n : Int) := by omega
      obtain ⟨p, hp⟩ := get_of_lt l (show i < l.length by have := H.out.2; omega)
      obtain ⟨b, o, rfl, q0, q1⟩ := seg_pair (H.out.1.below HI.out.1) hp
      have HP := Lib.hid hp
      clear hp
      repeat' (go_not_at_region 7; (first | go_skip | go_guarded | go_step))
      obtain ⟨w1, hw1⟩ : ∃ x, x = wr.alloc (.cells #[str p.1, str p.2] 24) := ⟨_, rfl⟩
      obtain ⟨gp, hgp⟩ : ∃ g, g = wr.heap.size := ⟨_, rfl⟩
      have hbp := heap_new wr (.cells #[str p.1, str p.2] 24)
      have hE1 : Ext wr w1 := by rw [hw1]; exact (Ext.refl _).alloc (Nat.le_refl _) _
      have hw1' : wr.alloc (.cells #[Value.string (bs p.1), Value.string (bs p.2)] 24) = w1 := hw1.symm
      rw [← hw1, ← hgp] at hbp
      rw [hw1', ← hgp]
      have HA : Hid (Ext wr w1 ∧ Box w1 gp p) := Lib.hid ⟨hE1, hbp⟩
      clear hw1 hw1' hgp hbp hE1 q0 q1
      by_cases h20 : i < 30
      · have d2 : decide (i < 30) = true := by simp [h20]
        have d2' : decide ((i : Int) < 30) = true := by simp; omega
        obtain ⟨c0, c1⟩ := HA.out.2.cells
        repeat' (first | go_at_call 14 | go_skip | go_guarded | go_step)
        refine (fewp_c _ p).mono ?_
        rintro e w2 ⟨rfl, f2⟩
        obtain ⟨q, hq⟩ : ∃ q, q = cutP p := ⟨_, rfl⟩
        have hql : q.1.length ≤ 40 ∧ q.2.length ≤ 40 := by rw [hq]; exact cutP_short _
        rw [← hq]
        have HQ := Lib.hid hq
        have H2 : Hid (Ext wr w2 ∧ Box w2 gp p) := Lib.hid ⟨HA.out.1.trans f2, HA.out.2.ext f2⟩
        clear f2 hq c0 c1
        go_simp
        have hE2 : Ext wr (w2.alloc (.cells #[str q.1, str q.2] 24)) := H2.out.1.trans ((Ext.refl _).alloc (Nat.le_refl _) _)
        have HO : Hid (_ ∧ _) := Lib.hid ⟨row_ext HI.out.2 hE2, HI.out.1.trans hE2⟩
        have hcl := cutM_length 30 l i
        clear hE2
        repeat' (first | (at_builtin; refine wpList_appE (W := _) rfl (.tmp 43) (.tmp 46) _ rfl 24 2 32 Try.underlying22 infoP (by decide) _ _ _ rfl HO.out.1 HO.out.2 _ 1 1 [str q.1, str q.2] rfl rfl (Seg.new _ [_, _] _ (by simp)) (by intro u hu; simp at hu; rcases hu with rfl | rfl <;> rfl) (by unfold maxLen; omega) (by omega) ?_; intro v5 w5 hown5 hb5) | go_skip | go_guarded | go_step)
        have e : cutM 30 l (i + 1) = cutM 30 l i ++ [q] := by rw [HQ.out]; exact cutM_step HP.out h20
        have H5 : Hid (Ext _ w5 ∧ w5.ownsRow _ 24 2 v5 (cutM 30 l (i + 1)).length (flat (cutM 30 l (i + 1)))) := Lib.hid ⟨hb5, by rw [e, List.length_append, flat_append]; exact hown5⟩
        clear e hown5 hb5 hcl
        repeat' (first | go_skip | go_guarded | go_step)
        go_roundg (n - (i + 1))
        case measure => omega
        case rel => exact ⟨i + 1, by go_num, by omega, Nat.le_refl _, H5⟩
      · have d2 : decide (i < 30) = false := by simp; omega
        have d2' : decide ((i : Int) < 30) = false := by simp; omega
        have e : cutM 30 l (i + 1) = cutM 30 l i := cutM_stay (by omega)
        have H5 : Hid (Ext _ w1 ∧ w1.ownsRow _ 24 2 u9 (cutM 30 l (i + 1)).length (flat (cutM 30 l (i + 1)))) := Lib.hid ⟨HI.out.1.trans HA.out.1, by rw [e]; exact row_ext HI.out.2 HA.out.1⟩
        clear e
        repeat' (first | go_skip | go_guarded | go_step)
        go_roundg (n - (i + 1))
        case measure => omega
        case rel => exact ⟨i + 1, by go_num, by omega, Nat.le_refl _, H5⟩
    · obtain rfl : i = n := by omega
      have d1 : decide (i < i) = false := by simp
      repeat' (first | go_skip | go_guarded | go_step)
      exact HQF.out _ _ _ _ _ _ _ _ _ _ _ _ _ _ _ _ _ _ _ ⟨HI.out.1, PS.of_own HI.out.2⟩

end Go.Proofs.Ytmpeniboccahdaa
/- RadixOrders: its pairs, as they rise: its second loop: a law of its own. -/
namespace Go.Proofs.Ytmpeniboccahdaa
open Go.RowKit Go.QS
set_option linter.unusedVariables false

/-- A string's cell. -/
def FS (u : Value) : Prop := ∃ s : List UInt8, u = str s
theorem fs_ptr (g : Nat) : ¬ FS (ptr g) := fun ⟨s, h⟩ => by cases h
theorem infoRK : ∃ i z, Try.prog.info? 33 = some i ∧ i.zero = some z ∧ i.size = 2 ∧ i.bytes = 32 ∧ z.cells.size = 2 ∧ ∀ u ∈ z.cells, FS u :=
  info_ofK (z := .agg #[str [], str []]) (by kernel_rfl) rfl (fun u hu => ⟨[], by simpa [Value.cells] using hu⟩)
set_option maxRecDepth 100000 in
set_option maxHeartbeats 2000000 in
theorem ord_13 (wr : World) (g : Nat) (v9 : Value) (X : List Pr) (H : Hid (Rep NT wr g (RT.node [] none []) ∧ PS wr v9 X ∧ Rise X ∧ ∀ q ∈ X, q.1.length ≤ 40 ∧ q.2.length ≤ 40)) (hX : X.length ≤ 100) (c d : Code) (K : Act → World → Prop) (Q : Exit → Act → World → Prop) (t0 t1 t2 t3 t4 t5 t6 t7 t8 t10 t11 t13 t14 t16 t17 t18 t19 t20 t21 t22 t23 t24 t25 t26 t27 t28 t29 t30 t31 t32 t33 t34 t35 t36 t37 t38 t39 t40 t41 t42 t43 t44 t45 t46 t47 t48 t49 t50 t51 t52 t53 t54 t55 t56 t57 t58 t59 t60 t61 t62 t63 t64 t65 t66 t67 t68 t69 t70 t71 t72 t73 t74 t75 t76 t77 t78 t79 t80 t81 t82 t83 t84 t85 t86 t87 t88 t89 t90 t91 t92 t93 t94 t95 t96 t97 t98 t99 t100 t101 t102 t103 t104 t105 t106 t107 t108 t109 t110 t111 t112 t113 t114 t115 t116 t117 t118 t119 t120 t121 t122 t123 t124 t125 t126 t127 t128 t129 t130 t131 t132 t133 t134 t135 t136 t137 t138 t139 t140 t141 t142 t143 t144 t145 t146 t147 t148 t149 t150 t151 t152 t153 t154 t155 t156 t157 t158 t159 t160 t161 t162 t163 t164 t165 t166 t167 t168 t169 t170 t171 t172 t173 t174 t175 t176 t177 t178 t179 t180 t181 t182 t183 t184 t185 t186 t187 t188 t189 t190 t191 t192 t193 t194 t195 t196 t197 t198 t199 t200 t201 t202 t203 t204 t205 t206 t207 t208 t209 t210 t211 t212 : Value)
    (hc : (Try.f10.body.bind (findR 13)) = some c) (hd : (Try.f10.body.bind (findT 13)) = some d)
    (hK : ∀ a w, d.wp Try.prog Q a w → K a w)
    (hQ : ∀ (g2 : Nat) (v2 : Value) (T2 : RT) (u18 u54 u55 u56 u57 u58 u59 u60 u61 u62 u63 u64 u65 u66 u67 u68 u69 u70 : Value) (wx : World), Ext wr wx ∧ Rep NT wx g2 T2 ∧ Ok T2 X ∧ PS wx v2 X → Q .normal { tmps := List.toArray (t0 :: t1 :: t2 :: t3 :: t4 :: t5 :: t6 :: t7 :: t8 :: v9 :: t10 :: t11 :: (ptr g2) :: t13 :: t14 :: v2 :: t16 :: t17 :: u18 :: t19 :: t20 :: t21 :: t22 :: t23 :: t24 :: t25 :: t26 :: t27 :: t28 :: t29 :: t30 :: t31 :: t32 :: t33 :: t34 :: t35 :: t36 :: t37 :: t38 :: t39 :: t40 :: t41 :: t42 :: t43 :: t44 :: t45 :: t46 :: t47 :: t48 :: t49 :: t50 :: t51 :: t52 :: t53 :: u54 :: u55 :: u56 :: u57 :: u58 :: u59 :: u60 :: u61 :: u62 :: u63 :: u64 :: u65 :: u66 :: u67 :: u68 :: u69 :: u70 :: t71 :: t72 :: t73 :: t74 :: t75 :: t76 :: t77 :: t78 :: t79 :: t80 :: t81 :: t82 :: t83 :: t84 :: t85 :: t86 :: t87 :: t88 :: t89 :: t90 :: t91 :: t92 :: t93 :: t94 :: t95 :: t96 :: t97 :: t98 :: t99 :: t100 :: t101 :: t102 :: t103 :: t104 :: t105 :: t106 :: t107 :: t108 :: t109 :: t110 :: t111 :: t112 :: t113 :: t114 :: t115 :: t116 :: t117 :: t118 :: t119 :: t120 :: t121 :: t122 :: t123 :: t124 :: t125 :: t126 :: t127 :: t128 :: t129 :: t130 :: t131 :: t132 :: t133 :: t134 :: t135 :: t136 :: t137 :: t138 :: t139 :: t140 :: t141 :: t142 :: t143 :: t144 :: t145 :: t146 :: t147 :: t148 :: t149 :: t150 :: t151 :: t152 :: t153 :: t154 :: t155 :: t156 :: t157 :: t158 :: t159 :: t160 :: t161 :: t162 :: t163 :: t164 :: t165 :: t166 :: t167 :: t168 :: t169 :: t170 :: t171 :: t172 :: t173 :: t174 :: t175 :: t176 :: t177 :: t178 :: t179 :: t180 :: t181 :: t182 :: t183 :: t184 :: t185 :: t186 :: t187 :: t188 :: t189 :: t190 :: t191 :: t192 :: t193 :: t194 :: t195 :: t196 :: t197 :: t198 :: t199 :: t200 :: t201 :: t202 :: t203 :: t204 :: t205 :: t206 :: t207 :: t208 :: t209 :: t210 :: t211 :: t212 :: []), defers := [] } wx) :
    c.wp Try.prog (Exit.then K Q) { tmps := List.toArray (t0 :: t1 :: t2 :: t3 :: t4 :: t5 :: t6 :: t7 :: t8 :: v9 :: t10 :: t11 :: (ptr g) :: t13 :: t14 :: (.slice none 0 0) :: t16 :: t17 :: t18 :: t19 :: t20 :: t21 :: t22 :: t23 :: t24 :: t25 :: t26 :: t27 :: t28 :: t29 :: t30 :: t31 :: t32 :: t33 :: t34 :: t35 :: t36 :: t37 :: t38 :: t39 :: t40 :: t41 :: t42 :: t43 :: t44 :: t45 :: t46 :: t47 :: t48 :: t49 :: t50 :: t51 :: t52 :: t53 :: t54 :: t55 :: t56 :: t57 :: t58 :: t59 :: t60 :: t61 :: t62 :: t63 :: t64 :: t65 :: t66 :: t67 :: t68 :: t69 :: t70 :: t71 :: t72 :: t73 :: t74 :: t75 :: t76 :: t77 :: t78 :: t79 :: t80 :: t81 :: t82 :: t83 :: t84 :: t85 :: t86 :: t87 :: t88 :: t89 :: t90 :: t91 :: t92 :: t93 :: t94 :: t95 :: t96 :: t97 :: t98 :: t99 :: t100 :: t101 :: t102 :: t103 :: t104 :: t105 :: t106 :: t107 :: t108 :: t109 :: t110 :: t111 :: t112 :: t113 :: t114 :: t115 :: t116 :: t117 :: t118 :: t119 :: t120 :: t121 :: t122 :: t123 :: t124 :: t125 :: t126 :: t127 :: t128 :: t129 :: t130 :: t131 :: t132 :: t133 :: t134 :: t135 :: t136 :: t137 :: t138 :: t139 :: t140 :: t141 :: t142 :: t143 :: t144 :: t145 :: t146 :: t147 :: t148 :: t149 :: t150 :: t151 :: t152 :: t153 :: t154 :: t155 :: t156 :: t157 :: t158 :: t159 :: t160 :: t161 :: t162 :: t163 :: t164 :: t165 :: t166 :: t167 :: t168 :: t169 :: t170 :: t171 :: t172 :: t173 :: t174 :: t175 :: t176 :: t177 :: t178 :: t179 :: t180 :: t181 :: t182 :: t183 :: t184 :: t185 :: t186 :: t187 :: t188 :: t189 :: t190 :: t191 :: t192 :: t193 :: t194 :: t195 :: t196 :: t197 :: t198 :: t199 :: t200 :: t201 :: t202 :: t203 :: t204 :: t205 :: t206 :: t207 :: t208 :: t209 :: t210 :: t211 :: t212 :: []), defers := [] } wr := by
  change some _ = some c at hc
  cases hc
  change some _ = some d at hd
  cases hd
  have HQF := Lib.hid hQ
  clear hQ
  obtain ⟨PA, pc, rfl, hl1, hn, hC, hs⟩ := H.out.2.1
  obtain ⟨n, hn2⟩ : ∃ n, n = X.length := ⟨_, rfl⟩
  rw [← hn2] at hn HQF ⊢
  have hn9 : n ≤ 9223372036854775807 := by unfold maxLen at hC; omega
  have HS : Hid (n = X.length ∧ Seg wr PA (flat X)) := Lib.hid ⟨hn2, hs⟩
  have HX : Hid (Rep NT wr g (RT.node [] none []) ∧ Rise X ∧ ∀ q ∈ X, q.1.length ≤ 40 ∧ q.2.length ≤ 40) := Lib.hid ⟨H.out.1, H.out.2.2⟩
  have hn1 : n ≤ 100 := by omega
  clear H hs hn2 hl1
  repeat' (go_not_at_region 14; (first | go_skip | go_guarded | go_step))
  go_loopg [12, 15, 56] n (fun gk v12 v15 v56 wx => ∃ (i g2 : Nat) (T2 : RT), v12 = ptr g2 ∧ v56 = .int .i64 i ∧ i ≤ n ∧ n - i ≤ gk ∧ Hid (Ext wr wx ∧ Rep NT wx g2 T2 ∧ Ok T2 (X.take i) ∧ ZK FS wr.heap.size 33 2 wx v15 i (flat (X.take i))))
  case atStart => exact ⟨0, g, _, rfl, rfl, Nat.zero_le _, by omega, Lib.hid ⟨Ext.refl _, HX.out.1, Ok.nil, ZK.nil _ _ _ _⟩⟩
  case round =>
    obtain ⟨i, g2, T2, rfl, rfl, hin, hgk, HI⟩ := hrel
    rcases Nat.lt_or_ge i n with hlt | hge
    · have d1 : decide (i < n) = true := by simp [hlt]
      have hi1 : (i : Int) < (n : Int) := by omega
      obtain ⟨p, hp⟩ := get_of_lt X (show i < X.length by have := HS.out.1; omega)
      obtain ⟨b, o, rfl, q0, q1⟩ := seg_pair (HS.out.2.below HI.out.1) hp
      have HP := Lib.hid hp
      clear hp
      repeat' (go_not_at_region 16; (first | go_skip | go_guarded | go_step))
      obtain ⟨w1, hw1⟩ : ∃ x, x = wr.alloc (.cells #[str p.1, str p.2] 24) := ⟨_, rfl⟩
      obtain ⟨gp, hgp⟩ : ∃ g, g = wr.heap.size := ⟨_, rfl⟩
      have hbp := heap_new wr (.cells #[str p.1, str p.2] 24)
      have hE1 : Ext wr w1 := by rw [hw1]; exact (Ext.refl _).alloc (Nat.le_refl _) _
      have hw1' : wr.alloc (.cells #[Value.string (bs p.1), Value.string (bs p.2)] 24) = w1 := hw1.symm
      rw [← hw1, ← hgp] at hbp
      rw [hw1', ← hgp]
      have HA : Hid (Ext wr w1 ∧ Box w1 gp p) := Lib.hid ⟨hE1, hbp⟩
      clear hw1 hw1' hgp hbp hE1 q0 q1
      have hps := HX.out.2.2 p (List.mem_of_getElem? HP.out)
      obtain ⟨c0, c1⟩ := HA.out.2.cells
      repeat' (first | go_at_call 13 | go_skip | go_guarded | go_step)
      refine (putO_c w1 g2 T2 (X.take i) p (HI.out.2.1.ext HA.out.1) HI.out.2.2.1 hps).mono ?_
      rintro e w2 ⟨g3, T3, rfl, f2, r2, o2, _⟩
      rw [rput_take HX.out.2.1 HP.out] at o2
      have H2 : Hid (Ext wr w2 ∧ Rep NT w2 g3 T3 ∧ Ok T3 (X.take (i + 1))) := Lib.hid ⟨HA.out.1.trans f2, r2, o2⟩
      obtain ⟨c0, c1⟩ := (HA.out.2.ext f2).cells
      have hE2 : Ext wr (w2.alloc (.cells #[str p.1, str p.2] 33)) := H2.out.1.trans ((Ext.refl _).alloc (Nat.le_refl _) _)
      have HO : Hid (_ ∧ _) := Lib.hid ⟨HI.out.2.2.2.ext hE2, HI.out.1.trans hE2⟩
      clear hE2 f2 r2 o2
      go_simp
      repeat' (first | (at_builtin; refine wpList_appK (W := _) rfl (.tmp 66) (.tmp 68) _ rfl FS 33 2 32 Try.underlying28 infoRK (by decide) _ _ _ rfl HO.out.1 HO.out.2 _ _ 1 [str p.1, str p.2] rfl rfl (Seg.new _ [_, _] _ (by simp)) (by intro u hu; simp at hu; rcases hu with rfl | rfl <;> rfl) (by unfold maxLen; omega) (by omega) ?_; intro v5 w5 hz5 hb5 ht5) | go_skip | go_guarded | go_step)
      have e : flat (X.take (i + 1)) = flat (X.take i) ++ [str p.1, str p.2] := by rw [take_snoc HP.out, flat_append]; rfl
      rw [← e] at hz5
      have H5 := Lib.hid (And.intro hb5 (And.intro (ht5.rep fs_ptr (T := NT) (by decide) (H2.out.2.1.ext ((Ext.refl _).alloc (Nat.le_refl _) _))) (And.intro H2.out.2.2 hz5)))
      clear e hz5 hb5 ht5
      repeat' (first | go_skip | go_guarded | go_step)
      go_roundg (n - (i + 1))
      case measure => omega
      case rel => exact ⟨i + 1, g3, T3, rfl, by go_num, by omega, Nat.le_refl _, H5⟩
    · obtain rfl : i = n := by omega
      have d1 : decide (i < i) = false := by simp
      repeat' (first | go_skip | go_guarded | go_step)
      have ht : X.take i = X := List.take_of_length_le (by have := HS.out.1; omega)
      have hI := HI.out
      rw [ht] at hI
      exact HQF.out g2 _ T2 _ _ _ _ _ _ _ _ _ _ _ _ _ _ _ _ _ _ _ ⟨hI.1, hI.2.1, hI.2.2.1, PS.of_own hI.2.2.2.1⟩

end Go.Proofs.Ytmpeniboccahdaa
