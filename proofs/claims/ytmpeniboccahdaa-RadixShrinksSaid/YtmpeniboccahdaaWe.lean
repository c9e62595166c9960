/- RadixShrinks: its second loop: a law of its own. -/
import Derived.Test.YtmpeniboccahdaaWd
import Derived.Deep.LoopGhost
namespace Go.Proofs.Ytmpeniboccahdaa
open Go.RowKit Go.QS
set_option linter.unusedVariables false

set_option maxRecDepth 100000 in
set_option maxHeartbeats 2000000 in
theorem shr_14 (wr : World) (g n C : Nat) (A : Option Addr) (v8 : Value) (T : RT) (X l : List Pr) (H : Hid (Rep NT wr g T ∧ Ok T X ∧ PS wr v8 X ∧ Seg wr A (flat l) ∧ n = l.length)) (hX : X.length ≤ 1000) (hn9 : n ≤ 9223372036854775807) (c d : Code) (K : Act → World → Prop) (Q : Exit → Act → World → Prop) (t0 t2 t3 t4 t5 t6 t7 t9 t10 t13 t14 t15 t16 t17 t18 t19 t20 t21 t22 t23 t24 t25 t26 t27 t28 t29 t30 t31 t32 t33 t34 t35 t36 t37 t38 t39 t40 t41 t42 t43 t44 t45 t46 t47 t48 t49 t50 t51 t52 t53 t54 t55 t56 t57 t58 t59 t60 t61 t62 t63 t64 t65 t66 t67 t68 t69 t70 t71 t72 t73 t74 t75 t76 t77 t78 t79 t80 t81 t82 t83 t84 t85 t86 t87 t88 t89 t90 t91 t92 t93 t94 t95 t96 t97 t98 t99 t100 t101 t102 t103 t104 t105 t106 t107 t108 t109 t110 t111 t112 t113 t114 t115 t116 t117 t118 t119 t120 t121 t122 t123 t124 t125 t126 t127 t128 t129 t130 t131 t132 t133 t134 t135 t136 t137 : Value)
    (hc : (Try.f6.body.bind (findR 14)) = some c) (hd : (Try.f6.body.bind (findT 14)) = some d)
    (hK : ∀ a w, d.wp Try.prog Q a w → K a w)
    (hQ : ∀ (g2 : Nat) (v2 : Value) (T2 : RT) (Y : List Pr) (Ks : List (List UInt8)) (u13 u14 u15 u16 u46 u47 u48 u49 u50 u51 u52 u53 u54 u55 u56 u57 u58 u59 u60 u61 u62 u63 u64 u65 u66 u67 u68 u69 u70 u71 u72 u73 u74 u75 u76 u77 u78 u79 u80 : Value) (wx : World), Ext wr wx ∧ Rep NT wx g2 T2 ∧ Ok T2 Y ∧ ZR FS wr.heap.size ST wx v2 (Ks.map str) ∧ Gone X Y Ks ∧ Ks.length ≤ 20 ∧ (∀ k ∈ Ks, k.length ≤ 40) → Q .normal { tmps := List.toArray (t0 :: (.slice A n C) :: t2 :: t3 :: t4 :: t5 :: t6 :: t7 :: v8 :: t9 :: t10 :: (ptr g2) :: v2 :: u13 :: u14 :: u15 :: u16 :: t17 :: t18 :: t19 :: t20 :: t21 :: t22 :: t23 :: t24 :: t25 :: t26 :: t27 :: t28 :: t29 :: t30 :: t31 :: t32 :: t33 :: t34 :: t35 :: t36 :: t37 :: t38 :: t39 :: t40 :: t41 :: t42 :: t43 :: t44 :: t45 :: u46 :: u47 :: u48 :: u49 :: u50 :: u51 :: u52 :: u53 :: u54 :: u55 :: u56 :: u57 :: u58 :: u59 :: u60 :: u61 :: u62 :: u63 :: u64 :: u65 :: u66 :: u67 :: u68 :: u69 :: u70 :: u71 :: u72 :: u73 :: u74 :: u75 :: u76 :: u77 :: u78 :: u79 :: u80 :: t81 :: t82 :: t83 :: t84 :: t85 :: t86 :: t87 :: t88 :: t89 :: t90 :: t91 :: t92 :: t93 :: t94 :: t95 :: t96 :: t97 :: t98 :: t99 :: t100 :: t101 :: t102 :: t103 :: t104 :: t105 :: t106 :: t107 :: t108 :: t109 :: t110 :: t111 :: t112 :: t113 :: t114 :: t115 :: t116 :: t117 :: t118 :: t119 :: t120 :: t121 :: t122 :: t123 :: t124 :: t125 :: t126 :: t127 :: t128 :: t129 :: t130 :: t131 :: t132 :: t133 :: t134 :: t135 :: t136 :: t137 :: []), defers := [] } wx) :
    c.wp Try.prog (Exit.then K Q) { tmps := List.toArray (t0 :: (.slice A n C) :: t2 :: t3 :: t4 :: t5 :: t6 :: t7 :: v8 :: t9 :: t10 :: (ptr g) :: (.slice none 0 0) :: t13 :: t14 :: t15 :: t16 :: t17 :: t18 :: t19 :: t20 :: t21 :: t22 :: t23 :: t24 :: t25 :: t26 :: t27 :: t28 :: t29 :: t30 :: t31 :: t32 :: t33 :: t34 :: t35 :: t36 :: t37 :: t38 :: t39 :: t40 :: t41 :: t42 :: t43 :: t44 :: t45 :: t46 :: t47 :: t48 :: t49 :: t50 :: t51 :: t52 :: t53 :: t54 :: t55 :: t56 :: t57 :: t58 :: t59 :: t60 :: t61 :: t62 :: t63 :: t64 :: t65 :: t66 :: t67 :: t68 :: t69 :: t70 :: t71 :: t72 :: t73 :: t74 :: t75 :: t76 :: t77 :: t78 :: t79 :: t80 :: t81 :: t82 :: t83 :: t84 :: t85 :: t86 :: t87 :: t88 :: t89 :: t90 :: t91 :: t92 :: t93 :: t94 :: t95 :: t96 :: t97 :: t98 :: t99 :: t100 :: t101 :: t102 :: t103 :: t104 :: t105 :: t106 :: t107 :: t108 :: t109 :: t110 :: t111 :: t112 :: t113 :: t114 :: t115 :: t116 :: t117 :: t118 :: t119 :: t120 :: t121 :: t122 :: t123 :: t124 :: t125 :: t126 :: t127 :: t128 :: t129 :: t130 :: t131 :: t132 :: t133 :: t134 :: t135 :: t136 :: t137 :: []), defers := [] } wr := by
  change some _ = some c at hc
  cases hc
  change some _ = some d at hd
  cases hd
  have HQF := Lib.hid hQ
  clear hQ
  repeat' (go_not_at_region 15; (first | go_skip | go_guarded | go_step))
  go_loopg [11, 12, 48] n (fun gk v11 v12 v48 wx => ∃ (i g2 : Nat) (T2 : RT) (Y : List Pr) (Ks : List (List UInt8)), v11 = ptr g2 ∧ v48 = .int .i64 i ∧ i ≤ n ∧ n - i ≤ gk ∧ Hid (Ext wr wx ∧ Rep NT wx g2 T2 ∧ Ok T2 Y ∧ ZR FS wr.heap.size ST wx v12 (Ks.map str) ∧ Gone X Y Ks ∧ Ks.length ≤ 20 ∧ (∀ k ∈ Ks, k.length ≤ 40) ∧ Ks.length ≤ i))
  case atStart => exact ⟨0, g, T, X, [], rfl, rfl, Nat.zero_le _, by omega, Lib.hid ⟨Ext.refl _, H.out.1, H.out.2.1, ZR.nil _ _ _, Gone.nil X, by simp, by simp, by simp⟩⟩
  case round =>
    obtain ⟨i, g2, T2, Y, Ks, rfl, rfl, hin, hgk, HI⟩ := hrel
    rcases Nat.lt_or_ge i n with hlt | hge
    · have d1 : decide (i < n) = true := by simp [hlt]
      have hi1 : (i : Int) < (n : Int) := by omega
      obtain ⟨p, hp⟩ := get_of_lt l (show i < l.length by have := H.out.2.2.2.2; omega)
      obtain ⟨b, o, rfl, q0, q1⟩ := seg_pair (H.out.2.2.2.1.below HI.out.1) hp
      clear hp
      repeat' (go_not_at_region 17; (first | go_skip | go_guarded | go_step))
      obtain ⟨w1, hw1⟩ : ∃ x, x = wr.alloc (.cells #[str p.1, str p.2] 24) := ⟨_, rfl⟩
      obtain ⟨gp, hgp⟩ : ∃ g, g = wr.heap.size := ⟨_, rfl⟩
      have hbp := heap_new wr (.cells #[str p.1, str p.2] 24)
      have hE1 : Ext wr w1 := by rw [hw1]; exact (Ext.refl _).alloc (Nat.le_refl _) _
      have hw1' : wr.alloc (.cells #[Value.string (bs p.1), Value.string (bs p.2)] 24) = w1 := hw1.symm
      rw [← hw1, ← hgp] at hbp
      rw [hw1', ← hgp]
      have HA : Hid (Ext wr w1 ∧ Box w1 gp p) := Lib.hid ⟨hE1, hbp⟩
      clear hw1 hw1' hgp hbp hE1
      clear q0 q1
      obtain ⟨c0, c1⟩ := HA.out.2.cells
      repeat' (first | go_at_call 14 | go_skip | go_guarded | go_step)
      refine (fewp_c _ p).mono ?_
      rintro e w2 ⟨rfl, f2⟩
      obtain ⟨q, hq⟩ : ∃ q, q = cutP p := ⟨_, rfl⟩
      have hql : q.1.length ≤ 40 ∧ q.2.length ≤ 40 := by rw [hq]; exact cutP_short _
      rw [← hq]
      have HQ := Lib.hid hq
      have hfl := fieldP (str q.1) (str q.2)
      have H2 : Hid (Ext wr w2 ∧ Box w2 gp p) := Lib.hid ⟨HA.out.1.trans f2, HA.out.2.ext f2⟩
      have hR := rget_c w2 v8 X q.1 (H.out.2.2.1.below (HI.out.1.trans H2.out.1)) H.out.2.1.rise hX (fun q hq => by have := (H.out.2.1.short q hq).1; omega)
      obtain ⟨u, hu⟩ : ∃ u, u = (getL q.1 X).getD [] := ⟨_, rfl⟩
      obtain ⟨th, hth⟩ : ∃ th, th = hasK X q.1 := ⟨_, rfl⟩
      rw [← hu, ← hth] at hR
      have HR := Lib.hid hR
      have HT : Hid (hasK X q.1 = th) := Lib.hid hth.symm
      clear f2 hq c0 c1 hR hu hth HA
      go_simp
      repeat' (first | go_at_call 18 | go_skip | go_guarded | go_step)
      refine HR.out.mono ?_
      rintro e w3 ⟨rfl, f3⟩
      have H3 : Hid (Ext wr w3 ∧ Box w3 gp p) := Lib.hid ⟨H2.out.1.trans f3, H2.out.2.ext f3⟩
      clear f3 HR H2 hfl
      go_simp
      repeat' (go_not_at_region 18; (first | go_skip | go_guarded | go_step))
      by_cases h20 : i < 20
      · have d2 : decide (i < 20) = true := by simp [h20]
        have d2' : decide ((i : Int) < 20) = true := by simp; omega
        cases th with
        | true =>
          repeat' (first | go_skip | go_guarded | go_step)
          go_roundg (n - (i + 1))
          case measure => omega
          case rel => exact ⟨i + 1, g2, T2, Y, Ks, rfl, by go_num, by omega, Nat.le_refl _, Lib.hid ⟨HI.out.1.trans H3.out.1, HI.out.2.1.ext H3.out.1, HI.out.2.2.1, HI.out.2.2.2.1.ext H3.out.1, HI.out.2.2.2.2.1, HI.out.2.2.2.2.2.1, HI.out.2.2.2.2.2.2.1, by have := HI.out.2.2.2.2.2.2.2; omega⟩⟩
        | false =>
          repeat' (go_not_at_region 19; (first | go_skip | go_guarded | go_step))
          rename_i K hK
          refine shr_19 _ w3 g2 gp _ T2 Y p Ks (Lib.hid ⟨H3.out.2, HI.out.2.1.ext H3.out.1, HI.out.2.2.1, HI.out.1.trans H3.out.1, HI.out.2.2.2.1.ext H3.out.1⟩) (by have := HI.out.2.2.2.2.2; omega) _ _ K _ _ _ _ _ _ _ _ _ _ _ _ _ _ _ _ _ _ _ _ _ _ _ _ _ _ _ _ _ _ _ _ _ _ _ _ _ _ _ _ _ _ _ _ _ _ _ _ _ _ _ _ _ _ _ _ _ _ _ _ _ _ _ _ _ _ _ _ _ _ _ _ _ _ _ _ _ _ _ _ _ _ _ _ _ _ _ _ _ _ _ _ _ _ _ _ _ _ _ _ _ _ _ _ _ _ _ _ _ _ _ _ _ _ _ _ _ _ _ _ _ _ _ _ _ _ _ _ _ _ _ _ _ _ _ _ (by kernel_rfl) (by kernel_rfl) hK ?_
          intro g3 T3 v3 z67 z68 z69 z70 z71 z72 z73 z74 z75 z76 z77 z78 z79 wy hpo
          have hq1 : (cutP p).1.length ≤ 40 := (cutP_short p).1
          have hg := Gone.put (p := cutP p) (by rw [← HQ.out]; exact HT.out) HI.out.2.2.2.2.1
          have H6 := Lib.hid (And.intro hpo hg)
          clear hpo hg
          repeat' (first | go_skip | go_guarded | go_step)
          go_roundg (n - (i + 1))
          case measure => omega
          case rel =>
            refine ⟨i + 1, g3, T3, _, _, rfl, by go_num, by omega, Nat.le_refl _, Lib.hid ⟨H6.out.1.1, H6.out.1.2.1, H6.out.1.2.2.1, H6.out.1.2.2.2, H6.out.2, ?_, ?_, ?_⟩⟩
            · have := HI.out.2.2.2.2.2.2.2; simp; omega
            · intro k hk
              rcases List.mem_append.1 hk with hk | hk
              · exact HI.out.2.2.2.2.2.2.1 k hk
              · rw [List.mem_singleton] at hk; rw [hk]; exact hq1
            · have := HI.out.2.2.2.2.2.2.2; simp; omega
      · have d2 : decide (i < 20) = false := by simp; omega
        have d2' : decide ((i : Int) < 20) = false := by simp; omega
        repeat' (first | go_skip | go_guarded | go_step)
        go_roundg (n - (i + 1))
        case measure => omega
        case rel => exact ⟨i + 1, g2, T2, Y, Ks, rfl, by go_num, by omega, Nat.le_refl _, Lib.hid ⟨HI.out.1.trans H3.out.1, HI.out.2.1.ext H3.out.1, HI.out.2.2.1, HI.out.2.2.2.1.ext H3.out.1, HI.out.2.2.2.2.1, HI.out.2.2.2.2.2.1, HI.out.2.2.2.2.2.2.1, by have := HI.out.2.2.2.2.2.2.2; omega⟩⟩
    · obtain rfl : i = n := by omega
      have d1 : decide (i < i) = false := by simp
      repeat' (first | go_skip | go_guarded | go_step)
      exact HQF.out g2 _ T2 Y Ks _ _ _ _ _ _ _ _ _ _ _ _ _ _ _ _ _ _ _ _ _ _ _ _ _ _ _ _ _ _ _ _ _ _ _ _ _ _ _ _ ⟨HI.out.1, HI.out.2.1, HI.out.2.2.1, HI.out.2.2.2.1, HI.out.2.2.2.2.1, HI.out.2.2.2.2.2.1, HI.out.2.2.2.2.2.2.1⟩

end Go.Proofs.Ytmpeniboccahdaa
