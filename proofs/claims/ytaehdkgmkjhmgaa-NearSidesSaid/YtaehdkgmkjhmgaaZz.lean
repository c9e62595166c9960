/- NearSides: the end of its walk, as a law of its own. -/
import Derived.Test.YtaehdkgmkjhmgaaZy
import Derived.Test.YtaehdkgmkjhmgaaZv
import Derived.Test.YtaehdkgmkjhmgaaYr
import Derived.Test.YtaehdkgmkjhmgaaYs
namespace Go.Proofs.Ytaehdkgmkjhmgaa
open Go.RowKit Go.QS
set_option linter.unusedVariables false

set_option maxRecDepth 100000 in
set_option maxHeartbeats 2000000 in
theorem sides_tail (w1 wx wr : World) (g n b11 b13 : Nat) (a11 v11 a13 v13 : List UInt8) (c11 c13 th : Bool) (X : List Pr) (T : RT) (k : List UInt8) (hkl : k.length ≤ 40) (hXl : n ≤ 40) (Hn : Hid (n = X.length))
    (HT : Hid (Rise X ∧ (∀ p ∈ X, p.1.length ≤ 40) ∧ T.prs = X ∧ Kd 40 T.kids ∧ T.lab = [] ∧ T.prs.length ≤ 1000000 ∧ Rise T.prs))
    (H1 : Hid (True ∧ (∀ x, Ext w1 x → RepO x (ptr g) T) ∧ True)) (HI : Hid (Ext wx wr))
    (HB5 : Hid (True ∧ (wx.heap[b11]? = some (.cells #[str a11, str v11] 29 (0, 0)) ∧ wx.heap[b13]? = some (.cells #[str a13, str v13] 29 (0, 0))) ∧ Ext w1 wx))
    (HN : Hid (nearL true false k X = atI X ((rankL k X : Int) - 1) ∧ nearL false false k X = atI X ((rankL k X : Int) + ((if th = true then 1 else 0 : Nat) : Int))))
    (L11 : Hid (optR (nearL true false k X) = .tuple #[.agg #[str a11, str v11], .bool c11])) (L13 : Hid (optR (nearL false false k X) = .tuple #[.agg #[str a13, str v13], .bool c13])) (c d : Code) (K : Act → World → Prop) (Q : Exit → Act → World → Prop) (t0 t2 t3 t4 t6 t7 t8 t9 t10 t15 t17 t18 t19 t20 t21 t22 t23 t24 t25 t26 t27 t28 t29 t30 t31 t32 t33 t34 t35 t36 t37 t38 t39 t40 t41 t42 t43 t44 t45 t46 t47 t48 t49 t50 t51 t52 t53 t54 t55 t56 t57 t58 t59 t60 t61 t62 t63 t64 t65 t66 t67 t68 t69 t70 t71 t72 t73 t74 t75 t76 t77 t78 t79 t80 t81 t82 t83 t84 t85 t86 t87 t88 t89 t90 t91 t92 t93 t94 t95 t96 t97 t98 t99 t100 t101 t102 t103 t104 t105 t106 t107 t108 t109 t110 t111 t112 t113 t114 t115 t116 t117 t118 t119 t120 t121 t122 t123 t124 t125 t126 t127 t128 t129 t130 t131 t132 t133 t134 t135 t136 t137 t138 t139 t140 t141 t142 t143 t144 t145 t146 t147 t148 t149 t150 t151 t152 t153 t154 t155 t156 t157 t158 t159 t160 t161 t162 t163 t164 t165 t166 t167 t168 t169 t170 t171 t172 t173 t174 t175 : Value)
    (hc : (Try.f12.body.bind (findR 18)) = some c) (hd : (Try.f12.body.bind (findS 19)) = some d)
    (hK : ∀ a w, d.wp Try.prog Q a w → K a w)
    (hQ : ∀ (a : Act) (wx : World), a.defers = [] → a.tmps.getD 4 undef = .bool true → Ext w1 wx → Q .ret a wx) :
    c.wp Try.prog (Exit.then K Q) { tmps := List.toArray (t0 :: (str k) :: t2 :: t3 :: t4 :: (ptr g) :: t6 :: t7 :: t8 :: t9 :: t10 :: (ptr b11) :: (.bool c11) :: (ptr b13) :: (.bool c13) :: t15 :: (.bool th) :: t17 :: t18 :: t19 :: t20 :: t21 :: t22 :: t23 :: t24 :: t25 :: t26 :: t27 :: t28 :: t29 :: t30 :: t31 :: t32 :: t33 :: t34 :: t35 :: t36 :: t37 :: t38 :: t39 :: t40 :: t41 :: t42 :: t43 :: t44 :: t45 :: t46 :: t47 :: t48 :: t49 :: t50 :: t51 :: t52 :: t53 :: t54 :: t55 :: t56 :: t57 :: t58 :: t59 :: t60 :: t61 :: t62 :: t63 :: t64 :: t65 :: t66 :: t67 :: t68 :: t69 :: t70 :: t71 :: t72 :: t73 :: t74 :: t75 :: t76 :: t77 :: t78 :: t79 :: t80 :: t81 :: t82 :: t83 :: t84 :: t85 :: t86 :: t87 :: t88 :: t89 :: t90 :: t91 :: t92 :: t93 :: t94 :: t95 :: t96 :: t97 :: t98 :: t99 :: t100 :: t101 :: t102 :: t103 :: t104 :: t105 :: t106 :: t107 :: t108 :: t109 :: t110 :: t111 :: t112 :: t113 :: t114 :: t115 :: t116 :: t117 :: t118 :: t119 :: t120 :: t121 :: t122 :: t123 :: t124 :: t125 :: t126 :: t127 :: t128 :: t129 :: t130 :: t131 :: t132 :: t133 :: t134 :: t135 :: t136 :: t137 :: t138 :: t139 :: t140 :: t141 :: t142 :: t143 :: t144 :: t145 :: t146 :: t147 :: t148 :: t149 :: t150 :: t151 :: t152 :: t153 :: t154 :: t155 :: t156 :: t157 :: t158 :: t159 :: t160 :: t161 :: t162 :: t163 :: t164 :: t165 :: t166 :: t167 :: t168 :: t169 :: t170 :: t171 :: t172 :: t173 :: t174 :: t175 :: []), defers := [] } wr := by
  change some _ = some c at hc
  cases hc
  change some _ = some d at hd
  cases hd
  have HQF := Lib.hid hQ
  clear hQ
  repeat' (first | go_at_call 45 | go_skip | go_guarded | go_step)
  refine (rank_c wr (ptr g) T 40 k (H1.out.2.1 wr (Ext.trans HB5.out.2.2 HI.out)) HT.out.2.2.2.1 (by decide) (by omega) HT.out.2.2.2.2.2.1).mono ?_
  rintro e x9 ⟨rfl, f9⟩
  rw [HT.out.2.2.1]
  have hrl := rankL_le k X
  have hrn : rankL k X ≤ 40 := by have := Hn.out; omega
  obtain ⟨r, hr⟩ : ∃ r, r = rankL k X := ⟨_, rfl⟩
  rw [← hr] at HN hrn ⊢
  have F9 := Lib.hid (Ext.trans HI.out f9)
  clear f9 hrl hr
  go_simp
  repeat' (go_not_at_if 142; (first | go_skip | go_guarded | go_step))
  obtain ⟨bt, hbt⟩ : ∃ bt : Nat, bt = (if th = true then 1 else 0 : Nat) := ⟨_, rfl⟩
  rw [← hbt] at HN
  have hbt1 : bt ≤ 1 := by rw [hbt]; split <;> omega
  have HBT := Lib.hid hbt
  clear hbt
  go_cut [20] from 142 to 143 (fun v20 wy => Hid (v20 = .int .i64 bt ∧ x9 = wy))
  case first =>
    cases th with
    | true =>
      have hb : bt = 1 := by have := HBT.out; simpa using this
      subst hb
      repeat' (first | go_skip | go_guarded | go_step)
      go_meet
      exact Lib.hid ⟨rfl, rfl⟩
    | false =>
      have hb : bt = 0 := by have := HBT.out; simpa using this
      subst hb
      repeat' (first | go_skip | go_guarded | go_step)
      go_meet
      exact Lib.hid ⟨rfl, rfl⟩
  case rest =>
  obtain ⟨hv20, hwy⟩ := hcut.out
  subst hv20 hwy
  clear hcut
  have LB : Hid (optR (atI X ((r : Int) - 1)) = .tuple #[.agg #[str a11, str v11], .bool c11]) := Lib.hid (by rw [← HN.out.1]; exact L11.out)
  have LA : Hid (optR (atI X ((r : Int) + (bt : Int))) = .tuple #[.agg #[str a13, str v13], .bool c13]) := Lib.hid (by rw [← HN.out.2]; exact L13.out)
  have FW : Hid (Ext w1 x9) := Lib.hid (Ext.trans HB5.out.2.2 F9.out)
  repeat' (first | go_at_call 42 | go_skip | go_guarded | go_step)
  refine (nth_c x9 (ptr g) T 40 ((r : Int) - 1) (H1.out.2.1 x9 FW.out) HT.out.2.2.2.1 HT.out.2.2.2.2.1 (by decide) HT.out.2.2.2.2.2.1).mono ?_
  rintro e x21 ⟨rfl, f21⟩
  rw [HT.out.2.2.1, LB.out]
  have F21 := Lib.hid (Ext.trans FW.out f21)
  have G21 := Lib.hid f21
  clear f21
  go_simp
  repeat' (go_not_at_region 23; (first | go_skip | go_guarded | go_step))
  obtain ⟨y21, hy21⟩ : ∃ y, y = x21.alloc (.cells #[str a11, str v11] 29) := ⟨_, rfl⟩
  obtain ⟨b21, hb21⟩ : ∃ b, b = x21.heap.size := ⟨_, rfl⟩
  have hE21 : Ext x21 y21 := by rw [hy21]; exact (Ext.refl _).alloc (Nat.le_refl _) _
  have hbx21 := heap_new x21 (.cells #[str a11, str v11] 29)
  rw [← hy21, ← hb21] at hbx21
  have hy21' := hy21.symm
  rw [hy21', ← hb21]
  have Y21 : Hid (Ext w1 y21 ∧ y21.heap[b21]? = some (.cells #[str a11, str v11] 29 (0, 0))) := Lib.hid ⟨Ext.trans F21.out hE21, hbx21⟩
  replace G21 := Lib.hid (Ext.trans G21.out hE21)
  clear hy21 hb21 hE21 hbx21 hy21'
  repeat' (first | go_at_call 42 | go_skip | go_guarded | go_step)
  refine (nth_c y21 (ptr g) T 40 ((r : Int) + (bt : Int)) (H1.out.2.1 y21 Y21.out.1) HT.out.2.2.2.1 HT.out.2.2.2.2.1 (by decide) HT.out.2.2.2.2.2.1).mono ?_
  rintro e x23 ⟨rfl, f23⟩
  rw [HT.out.2.2.1, LA.out]
  have F23 := Lib.hid (Ext.trans Y21.out.1 f23)
  have G23 := Lib.hid f23
  clear f23
  go_simp
  repeat' (go_not_at_region 24; (first | go_skip | go_guarded | go_step))
  obtain ⟨y23, hy23⟩ : ∃ y, y = x23.alloc (.cells #[str a13, str v13] 29) := ⟨_, rfl⟩
  obtain ⟨b23, hb23⟩ : ∃ b, b = x23.heap.size := ⟨_, rfl⟩
  have hE23 : Ext x23 y23 := by rw [hy23]; exact (Ext.refl _).alloc (Nat.le_refl _) _
  have hbx23 := heap_new x23 (.cells #[str a13, str v13] 29)
  rw [← hy23, ← hb23] at hbx23
  have hy23' := hy23.symm
  rw [hy23', ← hb23]
  have Y23 : Hid (Ext w1 y23 ∧ y23.heap[b23]? = some (.cells #[str a13, str v13] 29 (0, 0))) := Lib.hid ⟨Ext.trans F23.out hE23, hbx23⟩
  replace G23 := Lib.hid (Ext.trans G23.out hE23)
  clear hy23 hb23 hE23 hbx23 hy23'
  refine sides_r24 y23 b11 b13 b21 b23 a11 v11 a13 v13 c11 c13 (Lib.hid ?_) _ _ _ _ _ _ _ _ _ _ _ _ _ _ _ _ _ _ _ _ _ _ _ _ _ _ _ _ _ _ _ _ _ _ _ _ _ _ _ _ _ _ _ _ _ _ _ _ _ _ _ _ _ _ _ _ _ _ _ _ _ _ _ _ _ _ _ _ _ _ _ _ _ _ _ _ _ _ _ _ _ _ _ _ _ _ _ _ _ _ _ _ _ _ _ _ _ _ _ _ _ _ _ _ _ _ _ _ _ _ _ _ _ _ _ _ _ _ _ _ _ _ _ _ _ _ _ _ _ _ _ _ _ _ _ _ _ _ _ _ _ _ _ _ _ _ _ _ _ _ _ _ _ _ _ _ _ _ _ _ _ _ _ _ _ _ _ _ _ _ (by kernel_rfl) ?_
  · have e2 : Ext y21 y23 := G23.out
    have e1 : Ext wx y23 := Ext.trans F9.out (Ext.trans G21.out e2)
    exact ⟨bx_ext HB5.out.2.1.1 e1, bx_ext HB5.out.2.1.2 e1, bx_ext Y21.out.2 e2, Y23.out.2⟩
  intro u158 u159 u160 u161 u162 u163 u164 u165 u166 u167 u168 u169 u170 u171 u172 u173 u174 u175 wz hwz
  subst hwz
  repeat' (first | go_skip | go_guarded | go_step)
  exact HQF.out _ _ rfl rfl Y23.out.1

end Go.Proofs.Ytaehdkgmkjhmgaa
