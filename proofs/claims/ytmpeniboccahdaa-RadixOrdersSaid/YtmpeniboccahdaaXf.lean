/- RadixOrders: what came goes: its seventh loop: a law of its own. -/
import Derived.Test.YtmpeniboccahdaaXe
import Derived.Test.YtmpeniboccahdaaKb
import Derived.Deep.LoopGhost
namespace Go.Proofs.Ytmpeniboccahdaa
open Go.RowKit Go.QS
set_option linter.unusedVariables false

set_option maxRecDepth 100000 in
set_option maxHeartbeats 2000000 in
theorem ord_45 (wr : World) (g n C : Nat) (A : Option Addr) (v9 : Value) (T : RT) (X M l : List Pr) (H : Hid (Rep NT wr g T ∧ Ok T M ∧ Seg wr A (flat l) ∧ n = l.length)) (HX : Hid (PS wr v9 X ∧ Rise X)) (hX : X.length ≤ 1000) (hn9 : n ≤ 9223372036854775807) (c d : Code) (K : Act → World → Prop) (Q : Exit → Act → World → Prop) (t0 t1 t3 t4 t5 t6 t7 t8 t10 t11 t12 t14 t15 t16 t17 t18 t19 t20 t21 t22 t23 t24 t25 t26 t27 t28 t29 t30 t31 t32 t33 t34 t35 t36 t37 t38 t39 t40 t41 t42 t43 t44 t45 t46 t47 t48 t49 t50 t51 t52 t53 t54 t55 t56 t57 t58 t59 t60 t61 t62 t63 t64 t65 t66 t67 t68 t69 t70 t71 t72 t73 t74 t75 t76 t77 t78 t79 t80 t81 t82 t83 t84 t85 t86 t87 t88 t89 t90 t91 t92 t93 t94 t95 t96 t97 t98 t99 t100 t101 t102 t103 t104 t105 t106 t107 t108 t109 t110 t111 t112 t113 t114 t115 t116 t117 t118 t119 t120 t121 t122 t123 t124 t125 t126 t127 t128 t129 t130 t131 t132 t133 t134 t135 t136 t137 t138 t139 t140 t141 t142 t143 t144 t145 t146 t147 t148 t149 t150 t151 t152 t153 t154 t155 t156 t157 t158 t159 t160 t161 t162 t163 t164 t165 t166 t167 t168 t169 t170 t171 t172 t173 t174 t175 t176 t177 t178 t179 t180 t181 t182 t183 t184 t185 t186 t187 t188 t189 t190 t191 t192 t193 t194 t195 t196 t197 t198 t199 t200 t201 t202 t203 t204 t205 t206 t207 t208 t209 t210 t211 t212 : Value)
    (hc : (Try.f10.body.bind (findR 45)) = some c) (hd : (Try.f10.body.bind (findT 45)) = some d)
    (hK : ∀ a w, d.wp Try.prog Q a w → K a w)
    (hQ : ∀ (g2 : Nat) (T2 : RT) (N : List Pr) (u28 u29 u30 u31 u161 u162 u163 u164 u165 u166 u167 u168 u169 u170 u171 u172 u173 u174 u175 u176 u177 u178 u179 u180 u181 u182 u183 u184 u185 u186 u187 u188 u189 u190 : Value) (wx : World), Ext wr wx ∧ Rep NT wx g2 T2 ∧ Ok T2 N ∧ (∀ q ∈ X, q ∈ M → q ∈ N) ∧ (∀ q ∈ N, q ∈ M) ∧ (∀ q ∈ N, GoneK l q.1 → hasK X q.1 = true) → Q .normal { tmps := List.toArray (t0 :: t1 :: (.slice A n C) :: t3 :: t4 :: t5 :: t6 :: t7 :: t8 :: v9 :: t10 :: t11 :: t12 :: (ptr g2) :: t14 :: t15 :: t16 :: t17 :: t18 :: t19 :: t20 :: t21 :: t22 :: t23 :: t24 :: t25 :: t26 :: t27 :: u28 :: u29 :: u30 :: u31 :: t32 :: t33 :: t34 :: t35 :: t36 :: t37 :: t38 :: t39 :: t40 :: t41 :: t42 :: t43 :: t44 :: t45 :: t46 :: t47 :: t48 :: t49 :: t50 :: t51 :: t52 :: t53 :: t54 :: t55 :: t56 :: t57 :: t58 :: t59 :: t60 :: t61 :: t62 :: t63 :: t64 :: t65 :: t66 :: t67 :: t68 :: t69 :: t70 :: t71 :: t72 :: t73 :: t74 :: t75 :: t76 :: t77 :: t78 :: t79 :: t80 :: t81 :: t82 :: t83 :: t84 :: t85 :: t86 :: t87 :: t88 :: t89 :: t90 :: t91 :: t92 :: t93 :: t94 :: t95 :: t96 :: t97 :: t98 :: t99 :: t100 :: t101 :: t102 :: t103 :: t104 :: t105 :: t106 :: t107 :: t108 :: t109 :: t110 :: t111 :: t112 :: t113 :: t114 :: t115 :: t116 :: t117 :: t118 :: t119 :: t120 :: t121 :: t122 :: t123 :: t124 :: t125 :: t126 :: t127 :: t128 :: t129 :: t130 :: t131 :: t132 :: t133 :: t134 :: t135 :: t136 :: t137 :: t138 :: t139 :: t140 :: t141 :: t142 :: t143 :: t144 :: t145 :: t146 :: t147 :: t148 :: t149 :: t150 :: t151 :: t152 :: t153 :: t154 :: t155 :: t156 :: t157 :: t158 :: t159 :: t160 :: u161 :: u162 :: u163 :: u164 :: u165 :: u166 :: u167 :: u168 :: u169 :: u170 :: u171 :: u172 :: u173 :: u174 :: u175 :: u176 :: u177 :: u178 :: u179 :: u180 :: u181 :: u182 :: u183 :: u184 :: u185 :: u186 :: u187 :: u188 :: u189 :: u190 :: t191 :: t192 :: t193 :: t194 :: t195 :: t196 :: t197 :: t198 :: t199 :: t200 :: t201 :: t202 :: t203 :: t204 :: t205 :: t206 :: t207 :: t208 :: t209 :: t210 :: t211 :: t212 :: []), defers := [] } wx) :
    c.wp Try.prog (Exit.then K Q) { tmps := List.toArray (t0 :: t1 :: (.slice A n C) :: t3 :: t4 :: t5 :: t6 :: t7 :: t8 :: v9 :: t10 :: t11 :: t12 :: (ptr g) :: t14 :: t15 :: t16 :: t17 :: t18 :: t19 :: t20 :: t21 :: t22 :: t23 :: t24 :: t25 :: t26 :: t27 :: t28 :: t29 :: t30 :: t31 :: t32 :: t33 :: t34 :: t35 :: t36 :: t37 :: t38 :: t39 :: t40 :: t41 :: t42 :: t43 :: t44 :: t45 :: t46 :: t47 :: t48 :: t49 :: t50 :: t51 :: t52 :: t53 :: t54 :: t55 :: t56 :: t57 :: t58 :: t59 :: t60 :: t61 :: t62 :: t63 :: t64 :: t65 :: t66 :: t67 :: t68 :: t69 :: t70 :: t71 :: t72 :: t73 :: t74 :: t75 :: t76 :: t77 :: t78 :: t79 :: t80 :: t81 :: t82 :: t83 :: t84 :: t85 :: t86 :: t87 :: t88 :: t89 :: t90 :: t91 :: t92 :: t93 :: t94 :: t95 :: t96 :: t97 :: t98 :: t99 :: t100 :: t101 :: t102 :: t103 :: t104 :: t105 :: t106 :: t107 :: t108 :: t109 :: t110 :: t111 :: t112 :: t113 :: t114 :: t115 :: t116 :: t117 :: t118 :: t119 :: t120 :: t121 :: t122 :: t123 :: t124 :: t125 :: t126 :: t127 :: t128 :: t129 :: t130 :: t131 :: t132 :: t133 :: t134 :: t135 :: t136 :: t137 :: t138 :: t139 :: t140 :: t141 :: t142 :: t143 :: t144 :: t145 :: t146 :: t147 :: t148 :: t149 :: t150 :: t151 :: t152 :: t153 :: t154 :: t155 :: t156 :: t157 :: t158 :: t159 :: t160 :: t161 :: t162 :: t163 :: t164 :: t165 :: t166 :: t167 :: t168 :: t169 :: t170 :: t171 :: t172 :: t173 :: t174 :: t175 :: t176 :: t177 :: t178 :: t179 :: t180 :: t181 :: t182 :: t183 :: t184 :: t185 :: t186 :: t187 :: t188 :: t189 :: t190 :: t191 :: t192 :: t193 :: t194 :: t195 :: t196 :: t197 :: t198 :: t199 :: t200 :: t201 :: t202 :: t203 :: t204 :: t205 :: t206 :: t207 :: t208 :: t209 :: t210 :: t211 :: t212 :: []), defers := [] } wr := by
  change some _ = some c at hc
  cases hc
  change some _ = some d at hd
  cases hd
  have HQF := Lib.hid hQ
  clear hQ
  repeat' (go_not_at_region 46; (first | go_skip | go_guarded | go_step))
  go_loopg [13, 163] n (fun gk v13 v163 wx => ∃ (i g2 : Nat) (T2 : RT) (N : List Pr), v13 = ptr g2 ∧ v163 = .int .i64 i ∧ i ≤ n ∧ n - i ≤ gk ∧ Hid (Ext wr wx ∧ Rep NT wx g2 T2 ∧ Ok T2 N ∧ (∀ q ∈ X, q ∈ M → q ∈ N) ∧ (∀ q ∈ N, q ∈ M) ∧ ∀ (j : Nat) (p : Pr), j < i → j < 20 → l[j]? = some p → hasK X (cutP p).1 = false → ∀ q ∈ N, q.1 ≠ (cutP p).1))
  case atStart => exact ⟨0, g, T, M, rfl, rfl, Nat.zero_le _, by omega, Lib.hid ⟨Ext.refl _, H.out.1, H.out.2.1, fun q _ h => h, fun q h => h, fun j p hj => by omega⟩⟩
  case round =>
    obtain ⟨i, g2, T2, N, rfl, rfl, hin, hgk, HI⟩ := hrel
    rcases Nat.lt_or_ge i n with hlt | hge
    · have d1 : decide (i < n) = true := by simp [hlt]
      have hi1 : (i : Int) < (n : Int) := by omega
      obtain ⟨p, hp⟩ := get_of_lt l (show i < l.length by have := H.out.2.2.2; omega)
      obtain ⟨b, o, rfl, q0, q1⟩ := seg_pair (H.out.2.2.1.below HI.out.1) hp
      have HP := Lib.hid hp
      clear hp
      repeat' (go_not_at_region 48; (first | go_skip | go_guarded | go_step))
      obtain ⟨w1, hw1⟩ : ∃ x, x = wr.alloc (.cells #[str p.1, str p.2] 24) := ⟨_, rfl⟩
      obtain ⟨gp, hgp⟩ : ∃ g, g = wr.heap.size := ⟨_, rfl⟩
      have hbp := heap_new wr (.cells #[str p.1, str p.2] 24)
      have hE1 : Ext wr w1 := by rw [hw1]; exact (Ext.refl _).alloc (Nat.le_refl _) _
      have hw1' : wr.alloc (.cells #[Value.string (bs p.1), Value.string (bs p.2)] 24) = w1 := hw1.symm
      rw [← hw1, ← hgp] at hbp
      rw [hw1', ← hgp]
      have HA : Hid (Ext wr w1 ∧ Box w1 gp p) := Lib.hid ⟨hE1, hbp⟩
      clear hw1 hw1' hgp hbp hE1 q0 q1
      obtain ⟨c0, c1⟩ := HA.out.2.cells
      repeat' (first | go_at_call 14 | go_skip | go_guarded | go_step)
      refine (fewp_c _ p).mono ?_
      rintro e w2 ⟨rfl, f2⟩
      obtain ⟨q, hq⟩ : ∃ q, q = cutP p := ⟨_, rfl⟩
      have hql : q.1.length ≤ 40 ∧ q.2.length ≤ 40 := by rw [hq]; exact cutP_short _
      rw [← hq]
      have HQ := Lib.hid hq
      have H2 : Hid (Ext wr w2 ∧ Box w2 gp p) := Lib.hid ⟨HA.out.1.trans f2, HA.out.2.ext f2⟩
      clear f2 hq c0 c1
      go_simp
      have hfl := fieldP (str q.1) (str q.2)
      have hF := Pch.find_c w2 v9 X q.1 (HX.out.1.below (HI.out.1.trans H2.out.1)) HX.out.2 (by omega)
      obtain ⟨fi, hfi⟩ : ∃ u, u = fndI X q.1 := ⟨_, rfl⟩
      obtain ⟨th, hth⟩ : ∃ th, th = hasK X q.1 := ⟨_, rfl⟩
      rw [← hfi, ← hth] at hF
      have HF := Lib.hid hF
      have HT : Hid (hasK X q.1 = th) := Lib.hid hth.symm
      clear hF hfi hth HA
      repeat' (first | go_at_call 41 | go_skip | go_guarded | go_step)
      refine HF.out.mono ?_
      rintro e w3 ⟨rfl, f3⟩
      have H3 : Hid (Ext wr w3 ∧ Box w3 gp p) := Lib.hid ⟨H2.out.1.trans f3, H2.out.2.ext f3⟩
      clear f3 HF H2
      go_simp
      repeat' (go_not_at_region 49; (first | go_skip | go_guarded | go_step))
      by_cases h20 : i < 20
      · have d2 : decide (i < 20) = true := by simp [h20]
        have d2' : decide ((i : Int) < 20) = true := by simp; omega
        cases th with
        | true =>
          repeat' (first | go_skip | go_guarded | go_step)
          go_roundg (n - (i + 1))
          case measure => omega
          case rel => exact ⟨i + 1, g2, T2, N, rfl, by go_num, by omega, Nat.le_refl _, Lib.hid ⟨HI.out.1.trans H3.out.1, HI.out.2.1.ext H3.out.1, HI.out.2.2.1, HI.out.2.2.2.1, HI.out.2.2.2.2.1, fun j x hj hj2 hx hk => by
          rcases Nat.lt_or_eq_of_le (Nat.le_of_lt_succ hj) with h | rfl
          · exact HI.out.2.2.2.2.2 j x h hj2 hx hk
          · rw [HP.out] at hx
            cases hx
            have hh := HT.out
            rw [HQ.out, hk] at hh
            cases hh⟩⟩
        | false =>
          obtain ⟨c0, c1⟩ := H3.out.2.cells
          repeat' (first | go_at_call 14 | go_skip | go_guarded | go_step)
          refine (fewp_c _ p).mono ?_
          rintro e w4 ⟨rfl, f4⟩
          rw [← HQ.out]
          have H4 : Hid (Ext wr w4) := Lib.hid (H3.out.1.trans f4)
          clear f4 c0 c1
          go_simp
          repeat' (first | go_at_call 16 | go_skip | go_guarded | go_step)
          refine (dropO_c w4 g2 T2 N q.1 (HI.out.2.1.ext H4.out) HI.out.2.2.1 hql.1).mono ?_
          rintro e w5 ⟨g3, T3, rfl, f5, r5, o5, _⟩
          have H5 : Hid (Ext wr w5 ∧ Rep NT w5 g3 T3 ∧ Ok T3 (rdrop N q.1)) := Lib.hid ⟨H4.out.trans f5, r5, o5⟩
          clear f5 r5 o5
          go_simp
          repeat' (first | go_skip | go_guarded | go_step)
          go_roundg (n - (i + 1))
          case measure => omega
          case rel =>
            refine ⟨i + 1, g3, T3, _, rfl, by go_num, by omega, Nat.le_refl _, Lib.hid ⟨HI.out.1.trans H5.out.1, H5.out.2.1, H5.out.2.2, fun x hx hm => ?_, fun x hx => ?_, fun j x hj hj2 hx hk y hy => ?_⟩⟩
            · refine mem_rdrop.2 ⟨HI.out.2.2.2.1 x hx hm, fun e => ?_⟩
              have hh := HT.out
              rw [← e] at hh
              have : hasK X x.1 = true := hasK_iff.2 ⟨x, hx, rfl⟩
              rw [hh] at this; cases this
            · exact HI.out.2.2.2.2.1 x (mem_rdrop.1 hx).1
            · rcases Nat.lt_or_eq_of_le (Nat.le_of_lt_succ hj) with h | rfl
              · exact HI.out.2.2.2.2.2 j x h hj2 hx hk y (mem_rdrop.1 hy).1
              · rw [HP.out] at hx
                cases hx
                have := (mem_rdrop.1 hy).2
                rw [HQ.out] at this
                exact this
      · have d2 : decide (i < 20) = false := by simp; omega
        have d2' : decide ((i : Int) < 20) = false := by simp; omega
        repeat' (first | go_skip | go_guarded | go_step)
        go_roundg (n - (i + 1))
        case measure => omega
        case rel => exact ⟨i + 1, g2, T2, N, rfl, by go_num, by omega, Nat.le_refl _, Lib.hid ⟨HI.out.1.trans H3.out.1, HI.out.2.1.ext H3.out.1, HI.out.2.2.1, HI.out.2.2.2.1, HI.out.2.2.2.2.1, fun j x hj hj2 hx hk => by
          rcases Nat.lt_or_eq_of_le (Nat.le_of_lt_succ hj) with h | rfl
          · exact HI.out.2.2.2.2.2 j x h hj2 hx hk
          · omega⟩⟩
    · obtain rfl : i = n := by omega
      have d1 : decide (i < i) = false := by simp
      repeat' (first | go_skip | go_guarded | go_step)
      have HE : Hid (∀ q ∈ N, GoneK l q.1 → hasK X q.1 = true) := Lib.hid (by
        intro q hq hg
        obtain ⟨j, p, hj, hp, e⟩ := hg
        cases hh : hasK X q.1 with
        | true => rfl
        | false =>
          exfalso
          refine HI.out.2.2.2.2.2 j p ?_ hj hp (by rw [← e]; exact hh) q hq e
          have := (List.getElem?_eq_some_iff.1 hp).1
          have := H.out.2.2.2
          omega)
      exact HQF.out g2 T2 N _ _ _ _ _ _ _ _ _ _ _ _ _ _ _ _ _ _ _ _ _ _ _ _ _ _ _ _ _ _ _ _ _ _ _ ⟨HI.out.1, HI.out.2.1, HI.out.2.2.1, HI.out.2.2.2.1, HI.out.2.2.2.2.1, HE.out⟩

end Go.Proofs.Ytmpeniboccahdaa
