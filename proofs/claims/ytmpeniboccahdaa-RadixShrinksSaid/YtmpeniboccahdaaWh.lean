/- RadixShrinks: keys go: its fourth loop: a law of its own. -/
import Derived.Test.YtmpeniboccahdaaVr
import Derived.Test.YtmpeniboccahdaaMi
import Derived.Deep.LoopGhost
namespace Go.Proofs.Ytmpeniboccahdaa
open Go.RowKit Go.QS
set_option linter.unusedVariables false

set_option maxRecDepth 100000 in
set_option maxHeartbeats 2000000 in
theorem shr_29 (wr : World) (g : Nat) (v12 : Value) (T : RT) (Y : List Pr) (Ks : List (List UInt8)) (H : Hid (Rep NT wr g T ∧ Ok T Y ∧ Sl wr 1 v12 Ks.length (Ks.map str) ∧ ∀ k ∈ Ks, k.length ≤ 40)) (c d : Code) (K : Act → World → Prop) (Q : Exit → Act → World → Prop) (t0 t1 t2 t3 t4 t5 t6 t7 t8 t9 t10 t13 t14 t15 t16 t17 t18 t19 t20 t21 t22 t23 t24 t25 t26 t27 t28 t29 t30 t31 t32 t33 t34 t35 t36 t37 t38 t39 t40 t41 t42 t43 t44 t45 t46 t47 t48 t49 t50 t51 t52 t53 t54 t55 t56 t57 t58 t59 t60 t61 t62 t63 t64 t65 t66 t67 t68 t69 t70 t71 t72 t73 t74 t75 t76 t77 t78 t79 t80 t81 t82 t83 t84 t85 t86 t87 t88 t89 t90 t91 t92 t93 t94 t95 t96 t97 t98 t99 t100 t101 t102 t103 t104 t105 t106 t107 t108 t109 t110 t111 t112 t113 t114 t115 t116 t117 t118 t119 t120 t121 t122 t123 t124 t125 t126 t127 t128 t129 t130 t131 t132 t133 t134 t135 t136 t137 : Value)
    (hc : (Try.f6.body.bind (findR 29)) = some c) (hd : (Try.f6.body.bind (findT 29)) = some d)
    (hK : ∀ a w, d.wp Try.prog Q a w → K a w)
    (hQ : ∀ (g2 : Nat) (T2 : RT) (Z : List Pr) (u20 u117 u118 u119 u120 u121 u122 u123 u124 u125 u126 u127 u128 u129 : Value) (wx : World), Ext wr wx ∧ Rep NT wx g2 T2 ∧ Ok T2 Z ∧ GoneTo Y Z Ks → Q .normal { tmps := List.toArray (t0 :: t1 :: t2 :: t3 :: t4 :: t5 :: t6 :: t7 :: t8 :: t9 :: t10 :: (ptr g2) :: v12 :: t13 :: t14 :: t15 :: t16 :: t17 :: t18 :: t19 :: u20 :: t21 :: t22 :: t23 :: t24 :: t25 :: t26 :: t27 :: t28 :: t29 :: t30 :: t31 :: t32 :: t33 :: t34 :: t35 :: t36 :: t37 :: t38 :: t39 :: t40 :: t41 :: t42 :: t43 :: t44 :: t45 :: t46 :: t47 :: t48 :: t49 :: t50 :: t51 :: t52 :: t53 :: t54 :: t55 :: t56 :: t57 :: t58 :: t59 :: t60 :: t61 :: t62 :: t63 :: t64 :: t65 :: t66 :: t67 :: t68 :: t69 :: t70 :: t71 :: t72 :: t73 :: t74 :: t75 :: t76 :: t77 :: t78 :: t79 :: t80 :: t81 :: t82 :: t83 :: t84 :: t85 :: t86 :: t87 :: t88 :: t89 :: t90 :: t91 :: t92 :: t93 :: t94 :: t95 :: t96 :: t97 :: t98 :: t99 :: t100 :: t101 :: t102 :: t103 :: t104 :: t105 :: t106 :: t107 :: t108 :: t109 :: t110 :: t111 :: t112 :: t113 :: t114 :: t115 :: t116 :: u117 :: u118 :: u119 :: u120 :: u121 :: u122 :: u123 :: u124 :: u125 :: u126 :: u127 :: u128 :: u129 :: t130 :: t131 :: t132 :: t133 :: t134 :: t135 :: t136 :: t137 :: []), defers := [] } wx) :
    c.wp Try.prog (Exit.then K Q) { tmps := List.toArray (t0 :: t1 :: t2 :: t3 :: t4 :: t5 :: t6 :: t7 :: t8 :: t9 :: t10 :: (ptr g) :: v12 :: t13 :: t14 :: t15 :: t16 :: t17 :: t18 :: t19 :: t20 :: t21 :: t22 :: t23 :: t24 :: t25 :: t26 :: t27 :: t28 :: t29 :: t30 :: t31 :: t32 :: t33 :: t34 :: t35 :: t36 :: t37 :: t38 :: t39 :: t40 :: t41 :: t42 :: t43 :: t44 :: t45 :: t46 :: t47 :: t48 :: t49 :: t50 :: t51 :: t52 :: t53 :: t54 :: t55 :: t56 :: t57 :: t58 :: t59 :: t60 :: t61 :: t62 :: t63 :: t64 :: t65 :: t66 :: t67 :: t68 :: t69 :: t70 :: t71 :: t72 :: t73 :: t74 :: t75 :: t76 :: t77 :: t78 :: t79 :: t80 :: t81 :: t82 :: t83 :: t84 :: t85 :: t86 :: t87 :: t88 :: t89 :: t90 :: t91 :: t92 :: t93 :: t94 :: t95 :: t96 :: t97 :: t98 :: t99 :: t100 :: t101 :: t102 :: t103 :: t104 :: t105 :: t106 :: t107 :: t108 :: t109 :: t110 :: t111 :: t112 :: t113 :: t114 :: t115 :: t116 :: t117 :: t118 :: t119 :: t120 :: t121 :: t122 :: t123 :: t124 :: t125 :: t126 :: t127 :: t128 :: t129 :: t130 :: t131 :: t132 :: t133 :: t134 :: t135 :: t136 :: t137 :: []), defers := [] } wr := by
  change some _ = some c at hc
  cases hc
  change some _ = some d at hd
  cases hd
  have HQF := Lib.hid hQ
  clear hQ
  obtain ⟨KA, kc, rfl, hl1, hn, hC, hs⟩ := H.out.2.2.1
  obtain ⟨n, hn2⟩ : ∃ n, n = Ks.length := ⟨_, rfl⟩
  rw [← hn2] at hn HQF ⊢
  have hn9 : n ≤ 9223372036854775807 := by unfold maxLen at hC; omega
  have HS : Hid (n = Ks.length ∧ Seg wr KA (Ks.map str)) := Lib.hid ⟨hn2, hs⟩
  have HG : Hid (Rep NT wr g T ∧ Ok T Y ∧ (∀ k ∈ Ks, k.length ≤ 40)) := Lib.hid ⟨H.out.1, H.out.2.1, H.out.2.2.2⟩
  clear hn2 hs H hl1
  repeat' (go_not_at_region 30; (first | go_skip | go_guarded | go_step))
  go_loopg [11, 119] n (fun gk v11 v119 wx => ∃ (i g2 : Nat) (T2 : RT) (Z : List Pr), v11 = ptr g2 ∧ v119 = .int .i64 i ∧ i ≤ n ∧ n - i ≤ gk ∧ Hid (Ext wr wx ∧ Rep NT wx g2 T2 ∧ Ok T2 Z ∧ GoneTo Y Z (Ks.take i)))
  case atStart => exact ⟨0, g, T, Y, rfl, rfl, Nat.zero_le _, by omega, Lib.hid ⟨Ext.refl _, HG.out.1, HG.out.2.1, GoneTo.nil Y⟩⟩
  case round =>
    obtain ⟨i, g2, T2, Z, rfl, rfl, hin, hgk, HI⟩ := hrel
    rcases Nat.lt_or_ge i n with hlt | hge
    · have d1 : decide (i < n) = true := by simp [hlt]
      have hi1 : (i : Int) < (n : Int) := by omega
      obtain ⟨k, hk⟩ := get_of_lt Ks (show i < Ks.length by have := HS.out.1; omega)
      obtain ⟨b, o, rfl, hcl⟩ := (Seg.below HS.out.2 HI.out.1) (fun e => by have h0 := congrArg List.length e; rw [List.length_map, List.length_nil] at h0; have := HS.out.1; omega)
      have hq := hcl i (str k) (by rw [List.getElem?_map, hk]; rfl)
      have hkl : k.length ≤ 40 := HG.out.2.2 k (List.mem_of_getElem? hk)
      have HK := Lib.hid hk
      clear hcl hk
      repeat' (first | go_at_call 16 | go_skip | go_guarded | go_step)
      refine (dropO_c wr g2 T2 Z k HI.out.2.1 HI.out.2.2.1 hkl).mono ?_
      rintro e w1 ⟨g3, T3, rfl, f1, r1, o1, _⟩
      have hgt := HI.out.2.2.2.drop k
      rw [← take_snoc HK.out] at hgt
      have H1 : Hid (Ext wr w1 ∧ Rep NT w1 g3 T3 ∧ Ok T3 (rdrop Z k) ∧ GoneTo Y (rdrop Z k) (Ks.take (i + 1))) := Lib.hid ⟨f1, r1, o1, hgt⟩
      clear f1 r1 o1 hgt
      go_simp
      repeat' (first | go_skip | go_guarded | go_step)
      go_roundg (n - (i + 1))
      case measure => omega
      case rel => exact ⟨i + 1, g3, T3, _, rfl, by go_num, by omega, Nat.le_refl _, Lib.hid ⟨HI.out.1.trans H1.out.1, H1.out.2.1, H1.out.2.2.1, H1.out.2.2.2⟩⟩
    · obtain rfl : i = n := by omega
      have d1 : decide (i < i) = false := by simp
      have hgt := HI.out.2.2.2
      rw [HS.out.1, List.take_length] at hgt
      have HT := Lib.hid hgt
      clear hgt
      repeat' (first | go_skip | go_guarded | go_step)
      exact HQF.out g2 T2 Z _ _ _ _ _ _ _ _ _ _ _ _ _ _ _ ⟨HI.out.1, HI.out.2.1, HI.out.2.2.1, HT.out⟩

end Go.Proofs.Ytmpeniboccahdaa
