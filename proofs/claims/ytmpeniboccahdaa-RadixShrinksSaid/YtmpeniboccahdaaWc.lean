/- RadixShrinks: its first loop: laws of their own. -/
import Derived.Test.YtmpeniboccahdaaVr
import Derived.Deep.LoopGhost
namespace Go.Proofs.Ytmpeniboccahdaa
open Go.RowKit Go.QS
set_option linter.unusedVariables false

set_option maxRecDepth 100000 in
set_option maxHeartbeats 2000000 in
theorem shr_9 (wr : World) (g gp : Nat) (v8 : Value) (T : RT) (X : List Pr) (p : Pr) (H : Hid (Box wr gp p ∧ Rep NT wr g T ∧ Ok T X ∧ PS wr v8 X)) (hX : X.length ≤ 1000) (c d : Code) (K : Act → World → Prop) (Q : Exit → Act → World → Prop) (t0 t1 t2 t3 t4 t5 t6 t9 t11 t12 t13 t14 t15 t16 t17 t18 t19 t20 t21 t22 t23 t24 t25 t26 t27 t28 t29 t30 t31 t32 t33 t34 t35 t36 t37 t38 t39 t40 t41 t42 t43 t44 t45 t46 t47 t48 t49 t50 t51 t52 t53 t54 t55 t56 t57 t58 t59 t60 t61 t62 t63 t64 t65 t66 t67 t68 t69 t70 t71 t72 t73 t74 t75 t76 t77 t78 t79 t80 t81 t82 t83 t84 t85 t86 t87 t88 t89 t90 t91 t92 t93 t94 t95 t96 t97 t98 t99 t100 t101 t102 t103 t104 t105 t106 t107 t108 t109 t110 t111 t112 t113 t114 t115 t116 t117 t118 t119 t120 t121 t122 t123 t124 t125 t126 t127 t128 t129 t130 t131 t132 t133 t134 t135 t136 t137 : Value)
    (hc : (Try.f6.body.bind (findR 9)) = some c) (hd : (Try.f6.body.bind (findS 10)) = some d)
    (hK : ∀ a w, d.wp Try.prog Q a w → K a w)
    (hQ : ∀ (g2 : Nat) (T2 : RT) (v2 : Value) (u33 u34 u35 u36 u37 u38 u39 u40 u41 u42 u43 : Value) (wx : World), Ext wr wx ∧ Rep NT wx g2 T2 ∧ Ok T2 (rput X (cutP p)) ∧ PS wx v2 (rput X (cutP p)) → Q .normal { tmps := List.toArray (t0 :: t1 :: t2 :: t3 :: t4 :: t5 :: t6 :: (ptr g2) :: v2 :: t9 :: (ptr gp) :: t11 :: t12 :: t13 :: t14 :: t15 :: t16 :: t17 :: t18 :: t19 :: t20 :: t21 :: t22 :: t23 :: t24 :: t25 :: t26 :: t27 :: t28 :: t29 :: t30 :: t31 :: t32 :: u33 :: u34 :: u35 :: u36 :: u37 :: u38 :: u39 :: u40 :: u41 :: u42 :: u43 :: t44 :: t45 :: t46 :: t47 :: t48 :: t49 :: t50 :: t51 :: t52 :: t53 :: t54 :: t55 :: t56 :: t57 :: t58 :: t59 :: t60 :: t61 :: t62 :: t63 :: t64 :: t65 :: t66 :: t67 :: t68 :: t69 :: t70 :: t71 :: t72 :: t73 :: t74 :: t75 :: t76 :: t77 :: t78 :: t79 :: t80 :: t81 :: t82 :: t83 :: t84 :: t85 :: t86 :: t87 :: t88 :: t89 :: t90 :: t91 :: t92 :: t93 :: t94 :: t95 :: t96 :: t97 :: t98 :: t99 :: t100 :: t101 :: t102 :: t103 :: t104 :: t105 :: t106 :: t107 :: t108 :: t109 :: t110 :: t111 :: t112 :: t113 :: t114 :: t115 :: t116 :: t117 :: t118 :: t119 :: t120 :: t121 :: t122 :: t123 :: t124 :: t125 :: t126 :: t127 :: t128 :: t129 :: t130 :: t131 :: t132 :: t133 :: t134 :: t135 :: t136 :: t137 :: []), defers := [] } wx) :
    c.wp Try.prog (Exit.then K Q) { tmps := List.toArray (t0 :: t1 :: t2 :: t3 :: t4 :: t5 :: t6 :: (ptr g) :: v8 :: t9 :: (ptr gp) :: t11 :: t12 :: t13 :: t14 :: t15 :: t16 :: t17 :: t18 :: t19 :: t20 :: t21 :: t22 :: t23 :: t24 :: t25 :: t26 :: t27 :: t28 :: t29 :: t30 :: t31 :: t32 :: t33 :: t34 :: t35 :: t36 :: t37 :: t38 :: t39 :: t40 :: t41 :: t42 :: t43 :: t44 :: t45 :: t46 :: t47 :: t48 :: t49 :: t50 :: t51 :: t52 :: t53 :: t54 :: t55 :: t56 :: t57 :: t58 :: t59 :: t60 :: t61 :: t62 :: t63 :: t64 :: t65 :: t66 :: t67 :: t68 :: t69 :: t70 :: t71 :: t72 :: t73 :: t74 :: t75 :: t76 :: t77 :: t78 :: t79 :: t80 :: t81 :: t82 :: t83 :: t84 :: t85 :: t86 :: t87 :: t88 :: t89 :: t90 :: t91 :: t92 :: t93 :: t94 :: t95 :: t96 :: t97 :: t98 :: t99 :: t100 :: t101 :: t102 :: t103 :: t104 :: t105 :: t106 :: t107 :: t108 :: t109 :: t110 :: t111 :: t112 :: t113 :: t114 :: t115 :: t116 :: t117 :: t118 :: t119 :: t120 :: t121 :: t122 :: t123 :: t124 :: t125 :: t126 :: t127 :: t128 :: t129 :: t130 :: t131 :: t132 :: t133 :: t134 :: t135 :: t136 :: t137 :: []), defers := [] } wr := by
  change some _ = some c at hc
  cases hc
  change some _ = some d at hd
  cases hd
  have HQF := Lib.hid hQ
  clear hQ
  obtain ⟨c0, c1⟩ := H.out.1.cells
  repeat' (first | go_at_call 14 | go_skip | go_guarded | go_step)
  refine (fewp_c _ p).mono ?_
  rintro e w1 ⟨rfl, f1⟩
  obtain ⟨q, hq⟩ : ∃ q, q = cutP p := ⟨_, rfl⟩
  have hql : q.1.length ≤ 40 ∧ q.2.length ≤ 40 := by rw [hq]; exact cutP_short _
  rw [← hq]
  have HQ := Lib.hid hq
  have H1 : Hid (Ext wr w1) := Lib.hid f1
  clear f1 hq c0 c1
  go_simp
  repeat' (first | go_at_call 13 | go_skip | go_guarded | go_step)
  refine (putO_c w1 g T X q (H.out.2.1.ext H1.out) H.out.2.2.1 hql).mono ?_
  rintro e w2 ⟨g2, T2, rfl, f2, r2, o2, _⟩
  have H2 : Hid (Ext wr w2 ∧ Rep NT w2 g2 T2 ∧ Ok T2 (rput X q)) := Lib.hid ⟨H1.out.trans f2, r2, o2⟩
  obtain ⟨c0, c1⟩ := (H.out.1.ext H2.out.1).cells
  clear f2 r2 o2 H1
  go_simp
  repeat' (first | go_at_call 14 | go_skip | go_guarded | go_step)
  refine (fewp_c _ p).mono ?_
  rintro e w3 ⟨rfl, f3⟩
  rw [← HQ.out]
  have H3 : Hid (Ext wr w3 ∧ Rep NT w3 g2 T2 ∧ Ok T2 (rput X q)) := Lib.hid ⟨H2.out.1.trans f3, H2.out.2.1.ext f3, H2.out.2.2⟩
  clear f3 H2 c0 c1
  go_simp
  repeat' (first | go_at_call 15 | go_skip | go_guarded | go_step)
  refine (rput_c w3 v8 X q (H.out.2.2.2.below H3.out.1) (by omega) (by omega)).mono ?_
  rintro e w4 ⟨v2, rfl, o4, f4⟩
  have H4 : Hid (Ext wr w4 ∧ Rep NT w4 g2 T2 ∧ Ok T2 (rput X q) ∧ PS w4 v2 (rput X q)) := Lib.hid ⟨H3.out.1.trans f4, H3.out.2.1.ext f4, H3.out.2.2, PS.of_own o4⟩
  clear f4 o4 H3
  go_simp
  repeat' (first | go_skip | go_guarded | go_step)
  rw [HQ.out] at H4
  exact HQF.out g2 T2 v2 _ _ _ _ _ _ _ _ _ _ _ _ H4.out

set_option maxRecDepth 100000 in
set_option maxHeartbeats 2000000 in
theorem shr_5 (wr : World) (g n C : Nat) (A : Option Addr) (l : List Pr) (H : Hid (Rep NT wr g (RT.node [] none []) ∧ Seg wr A (flat l) ∧ n = l.length)) (hn9 : n ≤ 9223372036854775807) (c d : Code) (K : Act → World → Prop) (Q : Exit → Act → World → Prop) (t1 t2 t3 t4 t5 t6 t9 t10 t11 t12 t13 t14 t15 t16 t17 t18 t19 t20 t21 t22 t23 t24 t25 t26 t27 t28 t29 t30 t31 t32 t33 t34 t35 t36 t37 t38 t39 t40 t41 t42 t43 t44 t45 t46 t47 t48 t49 t50 t51 t52 t53 t54 t55 t56 t57 t58 t59 t60 t61 t62 t63 t64 t65 t66 t67 t68 t69 t70 t71 t72 t73 t74 t75 t76 t77 t78 t79 t80 t81 t82 t83 t84 t85 t86 t87 t88 t89 t90 t91 t92 t93 t94 t95 t96 t97 t98 t99 t100 t101 t102 t103 t104 t105 t106 t107 t108 t109 t110 t111 t112 t113 t114 t115 t116 t117 t118 t119 t120 t121 t122 t123 t124 t125 t126 t127 t128 t129 t130 t131 t132 t133 t134 t135 t136 t137 : Value)
    (hc : (Try.f6.body.bind (findR 5)) = some c) (hd : (Try.f6.body.bind (findT 5)) = some d)
    (hK : ∀ a w, d.wp Try.prog Q a w → K a w)
    (hQ : ∀ (g2 : Nat) (v2 : Value) (T2 : RT) (X : List Pr) (u9 u10 u24 u25 u26 u27 u28 u29 u30 u31 u32 u33 u34 u35 u36 u37 u38 u39 u40 u41 u42 u43 u44 : Value) (wx : World), Ext wr wx ∧ Rep NT wx g2 T2 ∧ Ok T2 X ∧ PS wx v2 X ∧ X.length ≤ 25 → Q .normal { tmps := List.toArray ((.slice A n C) :: t1 :: t2 :: t3 :: t4 :: t5 :: t6 :: (ptr g2) :: v2 :: u9 :: u10 :: t11 :: t12 :: t13 :: t14 :: t15 :: t16 :: t17 :: t18 :: t19 :: t20 :: t21 :: t22 :: t23 :: u24 :: u25 :: u26 :: u27 :: u28 :: u29 :: u30 :: u31 :: u32 :: u33 :: u34 :: u35 :: u36 :: u37 :: u38 :: u39 :: u40 :: u41 :: u42 :: u43 :: u44 :: t45 :: t46 :: t47 :: t48 :: t49 :: t50 :: t51 :: t52 :: t53 :: t54 :: t55 :: t56 :: t57 :: t58 :: t59 :: t60 :: t61 :: t62 :: t63 :: t64 :: t65 :: t66 :: t67 :: t68 :: t69 :: t70 :: t71 :: t72 :: t73 :: t74 :: t75 :: t76 :: t77 :: t78 :: t79 :: t80 :: t81 :: t82 :: t83 :: t84 :: t85 :: t86 :: t87 :: t88 :: t89 :: t90 :: t91 :: t92 :: t93 :: t94 :: t95 :: t96 :: t97 :: t98 :: t99 :: t100 :: t101 :: t102 :: t103 :: t104 :: t105 :: t106 :: t107 :: t108 :: t109 :: t110 :: t111 :: t112 :: t113 :: t114 :: t115 :: t116 :: t117 :: t118 :: t119 :: t120 :: t121 :: t122 :: t123 :: t124 :: t125 :: t126 :: t127 :: t128 :: t129 :: t130 :: t131 :: t132 :: t133 :: t134 :: t135 :: t136 :: t137 :: []), defers := [] } wx) :
    c.wp Try.prog (Exit.then K Q) { tmps := List.toArray ((.slice A n C) :: t1 :: t2 :: t3 :: t4 :: t5 :: t6 :: (ptr g) :: (.slice none 0 0) :: t9 :: t10 :: t11 :: t12 :: t13 :: t14 :: t15 :: t16 :: t17 :: t18 :: t19 :: t20 :: t21 :: t22 :: t23 :: t24 :: t25 :: t26 :: t27 :: t28 :: t29 :: t30 :: t31 :: t32 :: t33 :: t34 :: t35 :: t36 :: t37 :: t38 :: t39 :: t40 :: t41 :: t42 :: t43 :: t44 :: t45 :: t46 :: t47 :: t48 :: t49 :: t50 :: t51 :: t52 :: t53 :: t54 :: t55 :: t56 :: t57 :: t58 :: t59 :: t60 :: t61 :: t62 :: t63 :: t64 :: t65 :: t66 :: t67 :: t68 :: t69 :: t70 :: t71 :: t72 :: t73 :: t74 :: t75 :: t76 :: t77 :: t78 :: t79 :: t80 :: t81 :: t82 :: t83 :: t84 :: t85 :: t86 :: t87 :: t88 :: t89 :: t90 :: t91 :: t92 :: t93 :: t94 :: t95 :: t96 :: t97 :: t98 :: t99 :: t100 :: t101 :: t102 :: t103 :: t104 :: t105 :: t106 :: t107 :: t108 :: t109 :: t110 :: t111 :: t112 :: t113 :: t114 :: t115 :: t116 :: t117 :: t118 :: t119 :: t120 :: t121 :: t122 :: t123 :: t124 :: t125 :: t126 :: t127 :: t128 :: t129 :: t130 :: t131 :: t132 :: t133 :: t134 :: t135 :: t136 :: t137 :: []), defers := [] } wr := by
  change some _ = some c at hc
  cases hc
  change some _ = some d at hd
  cases hd
  have HQF := Lib.hid hQ
  clear hQ
  repeat' (go_not_at_region 6; (first | go_skip | go_guarded | go_step))
  go_loopg [7, 8, 26] n (fun gk v7 v8 v26 wx => ∃ (i g2 : Nat) (T2 : RT) (X : List Pr), v7 = ptr g2 ∧ v26 = .int .i64 i ∧ i ≤ n ∧ n - i ≤ gk ∧ Hid (Ext wr wx ∧ Rep NT wx g2 T2 ∧ Ok T2 X ∧ PS wx v8 X ∧ X.length ≤ 25 ∧ X.length ≤ i))
  case atStart => exact ⟨0, g, _, [], rfl, rfl, Nat.zero_le _, by omega, Lib.hid ⟨Ext.refl _, H.out.1, Ok.nil, Sl.nil _ _, by simp, by simp⟩⟩
  case round =>
    obtain ⟨i, g2, T2, X, rfl, rfl, hin, hgk, HI⟩ := hrel
    rcases Nat.lt_or_ge i n with hlt | hge
    · have d1 : decide (i < n) = true := by simp [hlt]
      have hi1 : (i : Int) < (n : Int) := by omega
      obtain ⟨p, hp⟩ := get_of_lt l (show i < l.length by have := H.out.2.2; omega)
      obtain ⟨b, o, rfl, q0, q1⟩ := seg_pair (H.out.2.1.below HI.out.1) hp
      clear hp
      repeat' (go_not_at_region 8; (first | go_skip | go_guarded | go_step))
      obtain ⟨w1, hw1⟩ : ∃ x, x = wr.alloc (.cells #[str p.1, str p.2] 24) := ⟨_, rfl⟩
      obtain ⟨gp, hgp⟩ : ∃ g, g = wr.heap.size := ⟨_, rfl⟩
      have hbp := heap_new wr (.cells #[str p.1, str p.2] 24)
      have hE1 : Ext wr w1 := by rw [hw1]; exact (Ext.refl _).alloc (Nat.le_refl _) _
      have hw1' : wr.alloc (.cells #[Value.string (bs p.1), Value.string (bs p.2)] 24) = w1 := hw1.symm
      rw [← hw1, ← hgp] at hbp
      rw [hw1', ← hgp]
      have HA : Hid (Ext wr w1 ∧ Box w1 gp p) := Lib.hid ⟨hE1, hbp⟩
      clear hw1 hw1' hgp hbp hE1
      clear q0 q1
      by_cases h20 : i < 25
      · have d2 : decide (i < 25) = true := by simp [h20]
        have d2' : decide ((i : Int) < 25) = true := by simp; omega
        repeat' (go_not_at_region 9; (first | go_skip | go_guarded | go_step))
        rename_i K hK
        refine shr_9 w1 g2 gp _ T2 X p (Lib.hid ⟨HA.out.2, HI.out.2.1.ext HA.out.1, HI.out.2.2.1, HI.out.2.2.2.1.below HA.out.1⟩) (by have := HI.out.2.2.2.2; omega) _ _ K _ _ _ _ _ _ _ _ _ _ _ _ _ _ _ _ _ _ _ _ _ _ _ _ _ _ _ _ _ _ _ _ _ _ _ _ _ _ _ _ _ _ _ _ _ _ _ _ _ _ _ _ _ _ _ _ _ _ _ _ _ _ _ _ _ _ _ _ _ _ _ _ _ _ _ _ _ _ _ _ _ _ _ _ _ _ _ _ _ _ _ _ _ _ _ _ _ _ _ _ _ _ _ _ _ _ _ _ _ _ _ _ _ _ _ _ _ _ _ _ _ _ _ _ _ _ _ _ _ _ _ _ _ _ _ _ (by kernel_rfl) (by kernel_rfl) hK ?_
        intro g3 T3 v3 z33 z34 z35 z36 z37 z38 z39 z40 z41 z42 z43 wy hpo
        have H6 := Lib.hid hpo
        clear hpo
        repeat' (first | go_skip | go_guarded | go_step)
        go_roundg (n - (i + 1))
        case measure => omega
        case rel => exact ⟨i + 1, g3, T3, _, rfl, by go_num, by omega, Nat.le_refl _, Lib.hid ⟨HI.out.1.trans (HA.out.1.trans H6.out.1), H6.out.2.1, H6.out.2.2.1, H6.out.2.2.2, by have := rput_length X (cutP p); have := HI.out.2.2.2.2; omega, by have := rput_length X (cutP p); have := HI.out.2.2.2.2; omega⟩⟩
      · have d2 : decide (i < 25) = false := by simp; omega
        have d2' : decide ((i : Int) < 25) = false := by simp; omega
        repeat' (first | go_skip | go_guarded | go_step)
        go_roundg (n - (i + 1))
        case measure => omega
        case rel => exact ⟨i + 1, g2, T2, X, rfl, by go_num, by omega, Nat.le_refl _, Lib.hid ⟨HI.out.1.trans HA.out.1, HI.out.2.1.ext HA.out.1, HI.out.2.2.1, HI.out.2.2.2.1.below HA.out.1, HI.out.2.2.2.2.1, by have := HI.out.2.2.2.2; omega⟩⟩
    · obtain rfl : i = n := by omega
      have d1 : decide (i < i) = false := by simp
      repeat' (first | go_skip | go_guarded | go_step)
      exact HQF.out g2 _ T2 X _ _ _ _ _ _ _ _ _ _ _ _ _ _ _ _ _ _ _ _ _ _ _ _ ⟨HI.out.1, HI.out.2.1, HI.out.2.2.1, HI.out.2.2.2.1, HI.out.2.2.2.2.1⟩

end Go.Proofs.Ytmpeniboccahdaa
