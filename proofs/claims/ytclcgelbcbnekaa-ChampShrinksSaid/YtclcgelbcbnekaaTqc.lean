/- ChampShrinks: a pair more, its key noted: a law of its own; its second loop. -/
import Derived.Test.YtclcgelbcbnekaaBt
import Derived.Deep.LoopGhost
import Derived.Deep.RegionHeld3
set_option linter.unusedVariables false
set_option linter.unusedSimpArgs false
namespace Go.Proofs.Ytclcgelbcbnekaa
open Go Go.RowKit Go.QS Go.QS.Nk
set_option linter.unusedVariables false
variable [Zero (Nat → Prop)]
set_option linter.unusedSectionVars false

set_option maxRecDepth 100000 in
set_option maxHeartbeats 2000000 in
theorem shr6_19 (W wr : World) (gh g gp : Nat) (h : Hs) (hk : h.Ok) (v14 : Value) (Y : List Pr) (p : Pr) (Ks : List (List UInt8)) (H : Hid (PrAt wr gp p ∧ T6V v14 wr gh h g Y ∧ gh < W.heap.size ∧ Ext W wr ∧ RS W.heap.size wr v14 Ks)) (hKs : Ks.length ≤ 1000) (hY : Y.length ≤ 1000) (c d : Code) (K : Act → World → Prop) (Q : Exit → Act → World → Prop) (t0 t1 t2 t3 t5 t6 t7 t8 t9 t10 t11 t12 t15 t17 t18 t19 t20 t21 t22 t23 t24 t25 t26 t27 t28 t29 t30 t31 t32 t33 t34 t35 t36 t37 t38 t39 t40 t41 t42 t43 t44 t45 t46 t47 t48 t49 t50 t51 t52 t53 t54 t55 t56 t57 t58 t59 t60 t61 t62 t63 t64 t65 t66 t67 t68 t69 t70 t71 t72 t73 t74 t75 t76 t77 t78 t79 t80 t81 t82 t83 t84 t85 t86 t87 t88 t89 t90 t91 t92 t93 t94 t95 t96 t97 t98 t99 t100 t101 t102 t103 t104 t105 t106 t107 t108 t109 t110 t111 t112 t113 t114 t115 t116 t117 t118 t119 t120 t121 t122 t123 t124 t125 t126 t127 t128 t129 t130 t131 t132 t133 t134 t135 t136 t137 t138 t139 t140 t141 t142 t143 t144 : Value)
    (hc : (Try.f8.body.bind (findR 19)) = some c) (hd : (Try.f8.body.bind (findS 20)) = some d)
    (hK : ∀ a w, d.wp Try.prog Q a w → K a w)
    (hQ : ∀ (g2 : Nat) (v2 : Value) (u70 u71 u72 u73 u74 u75 u76 u77 u78 u79 u80 u81 u82 u83 : Value) (wx : World), Ext W wx ∧ T6V v2 wx gh h g2 (rput Y (cutP p)) ∧ RS W.heap.size wx v2 (Ks ++ [(cutP p).1]) → Q .normal { tmps := List.toArray (t0 :: t1 :: t2 :: t3 :: (ptr gh) :: t5 :: t6 :: t7 :: t8 :: t9 :: t10 :: t11 :: t12 :: (ptr g2) :: v2 :: t15 :: (ptr gp) :: t17 :: t18 :: t19 :: t20 :: t21 :: t22 :: t23 :: t24 :: t25 :: t26 :: t27 :: t28 :: t29 :: t30 :: t31 :: t32 :: t33 :: t34 :: t35 :: t36 :: t37 :: t38 :: t39 :: t40 :: t41 :: t42 :: t43 :: t44 :: t45 :: t46 :: t47 :: t48 :: t49 :: t50 :: t51 :: t52 :: t53 :: t54 :: t55 :: t56 :: t57 :: t58 :: t59 :: t60 :: t61 :: t62 :: t63 :: t64 :: t65 :: t66 :: t67 :: t68 :: t69 :: u70 :: u71 :: u72 :: u73 :: u74 :: u75 :: u76 :: u77 :: u78 :: u79 :: u80 :: u81 :: u82 :: u83 :: t84 :: t85 :: t86 :: t87 :: t88 :: t89 :: t90 :: t91 :: t92 :: t93 :: t94 :: t95 :: t96 :: t97 :: t98 :: t99 :: t100 :: t101 :: t102 :: t103 :: t104 :: t105 :: t106 :: t107 :: t108 :: t109 :: t110 :: t111 :: t112 :: t113 :: t114 :: t115 :: t116 :: t117 :: t118 :: t119 :: t120 :: t121 :: t122 :: t123 :: t124 :: t125 :: t126 :: t127 :: t128 :: t129 :: t130 :: t131 :: t132 :: t133 :: t134 :: t135 :: t136 :: t137 :: t138 :: t139 :: t140 :: t141 :: t142 :: t143 :: t144 :: []), defers := [] } wx) :
    c.wp Try.prog (Exit.then K Q) { tmps := List.toArray (t0 :: t1 :: t2 :: t3 :: (ptr gh) :: t5 :: t6 :: t7 :: t8 :: t9 :: t10 :: t11 :: t12 :: (ptr g) :: v14 :: t15 :: (ptr gp) :: t17 :: t18 :: t19 :: t20 :: t21 :: t22 :: t23 :: t24 :: t25 :: t26 :: t27 :: t28 :: t29 :: t30 :: t31 :: t32 :: t33 :: t34 :: t35 :: t36 :: t37 :: t38 :: t39 :: t40 :: t41 :: t42 :: t43 :: t44 :: t45 :: t46 :: t47 :: t48 :: t49 :: t50 :: t51 :: t52 :: t53 :: t54 :: t55 :: t56 :: t57 :: t58 :: t59 :: t60 :: t61 :: t62 :: t63 :: t64 :: t65 :: t66 :: t67 :: t68 :: t69 :: t70 :: t71 :: t72 :: t73 :: t74 :: t75 :: t76 :: t77 :: t78 :: t79 :: t80 :: t81 :: t82 :: t83 :: t84 :: t85 :: t86 :: t87 :: t88 :: t89 :: t90 :: t91 :: t92 :: t93 :: t94 :: t95 :: t96 :: t97 :: t98 :: t99 :: t100 :: t101 :: t102 :: t103 :: t104 :: t105 :: t106 :: t107 :: t108 :: t109 :: t110 :: t111 :: t112 :: t113 :: t114 :: t115 :: t116 :: t117 :: t118 :: t119 :: t120 :: t121 :: t122 :: t123 :: t124 :: t125 :: t126 :: t127 :: t128 :: t129 :: t130 :: t131 :: t132 :: t133 :: t134 :: t135 :: t136 :: t137 :: t138 :: t139 :: t140 :: t141 :: t142 :: t143 :: t144 :: []), defers := [] } wr := by
  change some _ = some c at hc
  cases hc
  change some _ = some d at hd
  cases hd
  have HQF := Lib.hid hQ
  clear hQ
  obtain ⟨q, hq⟩ : ∃ q, q = cutP p := ⟨_, rfl⟩
  have hql : q.1.length ≤ 40 ∧ q.2.length ≤ 40 := by rw [hq]; exact cutP_short _
  have HF : Hid (∀ W, Calls Try.prog 47 #[prV p] W fun e w' => e = .returned (prV q) ∧ Ext W w') := Lib.hid (fun W => by rw [hq]; exact fewp_c W p)
  have HQ := Lib.hid hq
  clear hq
  have HT := Lib.hid H.out.2.1
  have HB := Lib.hid H.out.1
  obtain ⟨c0, c1⟩ := HB.out.cells
  obtain ⟨e0, e1, e2⟩ := HT.out.hs.cells
  have hB : Hid (wr.cell? ⟨gp, 0, none⟩ = some (str p.1) ∧ wr.cell? ⟨gp, 1, none⟩ = some (str p.2) ∧ wr.cell? ⟨gh, 0, none⟩ = some (.int .u64 h.k0) ∧ wr.cell? ⟨gh, 1, none⟩ = some (.int .u64 h.k1) ∧ wr.cell? ⟨gh, 2, none⟩ = some (.int .u64 h.mask)) := Lib.hid ⟨c0, c1, e0, e1, e2⟩
  repeat' (go_not_at_region 19; (first | go_skip | go_guarded | go_step))
  go_region_held3 (fun w' => w'.cell? ⟨gp, 0, none⟩ = some (str p.1) ∧ w'.cell? ⟨gp, 1, none⟩ = some (str p.2) ∧ w'.cell? ⟨gh, 0, none⟩ = some (.int .u64 h.k0) ∧ w'.cell? ⟨gh, 1, none⟩ = some (.int .u64 h.k1) ∧ w'.cell? ⟨gh, 2, none⟩ = some (.int .u64 h.mask))
    (first | exact keep5c k3.out hB.out | exact keep5c (by repeat' (first | exact k2.out | exact Ext.refl _ | apply ext_alloc | apply ext_drew | exact below_drewN (Ext.refl _) _)) hB.out | exact keep5c (by repeat' (first | exact Ext.refl _ | apply ext_alloc | apply ext_drew | exact below_drewN (Ext.refl _) _)) hB.out)
    (first
      | (go_at_call 47; refine (HF.out _).mono ?_; rintro e x2 ⟨rfl, f2⟩; have k2 : Hid (Ext wr x2) := Lib.hid (Ext.trans (by repeat' (first | exact Ext.refl _ | apply ext_alloc | apply ext_drew | exact below_drewN (Ext.refl _) _)) f2); clear f2)
      | (go_at_call 46; refine (T6V.put (HT.out.ext k2.out) hk q (by omega) hql).mono ?_; rintro e x3 ⟨g3, b3, rfl, f3, t3⟩; have k3 : Hid (Ext wr x3) := Lib.hid (k2.out.trans f3); have K3 : Hid (T6V v14 x3 gh h g3 (rput Y q)) := Lib.hid t3; clear f3 t3))
  clear c0 c1 e0 e1 e2
  have HR3 := Lib.hid (row_ext H.out.2.2.2.2 k3.out)
  have HE3 := Lib.hid (H.out.2.2.2.1.trans k3.out)
  have hgb := H.out.2.2.1
  obtain ⟨c0, c1⟩ := (HB.out.ext k3.out).cells
  repeat' (first | go_at_call 47 | go_skip | go_guarded | go_step)
  refine (HF.out _).mono ?_
  rintro e w4 ⟨rfl, f4⟩
  have hfl := fieldP (str q.1) (str q.2)
  have fa : Ext w4 (w4.alloc (.cells #[str q.1] STG)) := (Ext.refl _).alloc (Nat.le_refl _) _
  have H4 : Hid (T6V v14 (w4.alloc (.cells #[str q.1] STG)) gh h g3 (rput Y q) ∧ RS W.heap.size (w4.alloc (.cells #[str q.1] STG)) v14 Ks ∧ Ext W (w4.alloc (.cells #[str q.1] STG))) := Lib.hid ⟨(K3.out.ext f4).ext fa, row_ext (row_ext HR3.out f4) fa, (HE3.out.trans f4).trans fa⟩
  clear f4 fa c0 c1
  have hkl : (Ks.map str).length = Ks.length := by simp
  go_simp
  repeat' (first | (at_builtin; refine wpList_app rfl (.tmp 78) (.tmp 82) _ rfl W.heap.size STG 1 16 Try.underlying95 infoS1 (by decide) _ _ _ rfl H4.out.2.1 _ 1 1 [str q.1] rfl rfl (Seg.new _ [_] _ (by simp)) (by intro u hu; simp at hu; rw [hu]; rfl) (by unfold maxLen; omega) (by omega) H4.out.2.2.size ?_; intro v5 w5 hown5 hgr5 hsf5) | go_skip | go_guarded | go_step)
  have ek : Ks.map str ++ [str q.1] = (Ks ++ [q.1]).map str := by simp
  have H5 : Hid (Ext W w5 ∧ T6V v5 w5 gh h g3 (rput Y q) ∧ RS W.heap.size w5 v5 (Ks ++ [q.1])) := Lib.hid ⟨H4.out.2.2.grown hgr5 H4.out.2.2.size (fun k hk => (H4.out.2.1.lt k hk).1), H4.out.1.grow hgr5 hsf5 (fun b hb => (hown5.lt b hb).2) (RS.no H4.out.2.1 hgb), by unfold RS; rw [← ek, List.length_append]; exact hown5⟩
  clear hown5 hgr5 hsf5 ek
  repeat' (first | go_skip | go_guarded | go_step)
  rw [HQ.out] at H5
  exact HQF.out g3 _ _ _ _ _ _ _ _ _ _ _ _ _ _ _ _ H5.out

set_option maxRecDepth 100000 in
set_option maxHeartbeats 2000000 in
theorem shr6_14 (wr : World) (gh g n C : Nat) (h : Hs) (hk : h.Ok) (A : Option Addr) (v10 : Value) (X l : List Pr) (H : Hid (T6V nil9 wr gh h g X ∧ PS wr v10 X ∧ Seg wr A (flat l) ∧ n = l.length)) (hX : X.length ≤ 25) (hn9 : n ≤ 9223372036854775807) (c d : Code) (K : Act → World → Prop) (Q : Exit → Act → World → Prop) (t0 t1 t3 t5 t6 t7 t8 t9 t11 t12 t15 t16 t17 t18 t19 t20 t21 t22 t23 t24 t25 t26 t27 t28 t29 t30 t31 t32 t33 t34 t35 t36 t37 t38 t39 t40 t41 t42 t43 t44 t45 t46 t47 t48 t49 t50 t51 t52 t53 t54 t55 t56 t57 t58 t59 t60 t61 t62 t63 t64 t65 t66 t67 t68 t69 t70 t71 t72 t73 t74 t75 t76 t77 t78 t79 t80 t81 t82 t83 t84 t85 t86 t87 t88 t89 t90 t91 t92 t93 t94 t95 t96 t97 t98 t99 t100 t101 t102 t103 t104 t105 t106 t107 t108 t109 t110 t111 t112 t113 t114 t115 t116 t117 t118 t119 t120 t121 t122 t123 t124 t125 t126 t127 t128 t129 t130 t131 t132 t133 t134 t135 t136 t137 t138 t139 t140 t141 t142 t143 t144 : Value)
    (hc : (Try.f8.body.bind (findR 14)) = some c) (hd : (Try.f8.body.bind (findT 14)) = some d)
    (hK : ∀ a w, d.wp Try.prog Q a w → K a w)
    (hQ : ∀ (g2 : Nat) (v2 : Value) (Y : List Pr) (Ks : List (List UInt8)) (u15 u16 u17 u18 u49 u50 u51 u52 u53 u54 u55 u56 u57 u58 u59 u60 u61 u62 u63 u64 u65 u66 u67 u68 u69 u70 u71 u72 u73 u74 u75 u76 u77 u78 u79 u80 u81 u82 u83 u84 : Value) (wx : World), Ext wr wx ∧ T6V v2 wx gh h g2 Y ∧ RS wr.heap.size wx v2 Ks ∧ Gone X Y Ks ∧ (Y.length ≤ X.length + Ks.length ∧ Ks.length ≤ 20) ∧ (∀ k ∈ Ks, k.length ≤ 40) → Q .normal { tmps := List.toArray (t0 :: t1 :: (.slice A n C) :: t3 :: (ptr gh) :: t5 :: t6 :: t7 :: t8 :: t9 :: v10 :: t11 :: t12 :: (ptr g2) :: v2 :: u15 :: u16 :: u17 :: u18 :: t19 :: t20 :: t21 :: t22 :: t23 :: t24 :: t25 :: t26 :: t27 :: t28 :: t29 :: t30 :: t31 :: t32 :: t33 :: t34 :: t35 :: t36 :: t37 :: t38 :: t39 :: t40 :: t41 :: t42 :: t43 :: t44 :: t45 :: t46 :: t47 :: t48 :: u49 :: u50 :: u51 :: u52 :: u53 :: u54 :: u55 :: u56 :: u57 :: u58 :: u59 :: u60 :: u61 :: u62 :: u63 :: u64 :: u65 :: u66 :: u67 :: u68 :: u69 :: u70 :: u71 :: u72 :: u73 :: u74 :: u75 :: u76 :: u77 :: u78 :: u79 :: u80 :: u81 :: u82 :: u83 :: u84 :: t85 :: t86 :: t87 :: t88 :: t89 :: t90 :: t91 :: t92 :: t93 :: t94 :: t95 :: t96 :: t97 :: t98 :: t99 :: t100 :: t101 :: t102 :: t103 :: t104 :: t105 :: t106 :: t107 :: t108 :: t109 :: t110 :: t111 :: t112 :: t113 :: t114 :: t115 :: t116 :: t117 :: t118 :: t119 :: t120 :: t121 :: t122 :: t123 :: t124 :: t125 :: t126 :: t127 :: t128 :: t129 :: t130 :: t131 :: t132 :: t133 :: t134 :: t135 :: t136 :: t137 :: t138 :: t139 :: t140 :: t141 :: t142 :: t143 :: t144 :: []), defers := [] } wx) :
    c.wp Try.prog (Exit.then K Q) { tmps := List.toArray (t0 :: t1 :: (.slice A n C) :: t3 :: (ptr gh) :: t5 :: t6 :: t7 :: t8 :: t9 :: v10 :: t11 :: t12 :: (ptr g) :: (.slice none 0 0) :: t15 :: t16 :: t17 :: t18 :: t19 :: t20 :: t21 :: t22 :: t23 :: t24 :: t25 :: t26 :: t27 :: t28 :: t29 :: t30 :: t31 :: t32 :: t33 :: t34 :: t35 :: t36 :: t37 :: t38 :: t39 :: t40 :: t41 :: t42 :: t43 :: t44 :: t45 :: t46 :: t47 :: t48 :: t49 :: t50 :: t51 :: t52 :: t53 :: t54 :: t55 :: t56 :: t57 :: t58 :: t59 :: t60 :: t61 :: t62 :: t63 :: t64 :: t65 :: t66 :: t67 :: t68 :: t69 :: t70 :: t71 :: t72 :: t73 :: t74 :: t75 :: t76 :: t77 :: t78 :: t79 :: t80 :: t81 :: t82 :: t83 :: t84 :: t85 :: t86 :: t87 :: t88 :: t89 :: t90 :: t91 :: t92 :: t93 :: t94 :: t95 :: t96 :: t97 :: t98 :: t99 :: t100 :: t101 :: t102 :: t103 :: t104 :: t105 :: t106 :: t107 :: t108 :: t109 :: t110 :: t111 :: t112 :: t113 :: t114 :: t115 :: t116 :: t117 :: t118 :: t119 :: t120 :: t121 :: t122 :: t123 :: t124 :: t125 :: t126 :: t127 :: t128 :: t129 :: t130 :: t131 :: t132 :: t133 :: t134 :: t135 :: t136 :: t137 :: t138 :: t139 :: t140 :: t141 :: t142 :: t143 :: t144 :: []), defers := [] } wr := by
  change some _ = some c at hc
  cases hc
  change some _ = some d at hd
  cases hd
  have HQF := Lib.hid hQ
  clear hQ
  have H0 := H
  clear H
  obtain ⟨wr0, rfl⟩ : ∃ x, x = wr := ⟨_, rfl⟩
  have hgh0 := heap_lt H0.out.1.hs
  repeat' (go_not_at_region 15; (first | go_skip | go_guarded | go_step))
  go_loopg [13, 14, 51] n (fun gk v13 v14 v51 wx => ∃ (i g2 : Nat) (Y : List Pr) (Ks : List (List UInt8)), v13 = ptr g2 ∧ v51 = .int .i64 i ∧ i ≤ n ∧ n - i ≤ gk ∧ (Y.length ≤ X.length + Ks.length ∧ Ks.length ≤ 20) ∧ Ks.length ≤ i ∧ Hid (Ext wr0 wx ∧ T6V v14 wx gh h g2 Y ∧ RS wr0.heap.size wx v14 Ks ∧ Gone X Y Ks ∧ (∀ k ∈ Ks, k.length ≤ 40)))
  case atStart => exact ⟨0, g, X, [], rfl, rfl, Nat.zero_le _, by omega, by simp, by simp, Lib.hid ⟨Ext.refl _, H0.out.1, World.ownsRow_nil _ _ _ _, Gone.nil X, fun k hk => by cases hk⟩⟩
  case round =>
    obtain ⟨i, g2, Y, Ks, rfl, rfl, hin, hgk, hY9, hKi, HI⟩ := hrel
    rcases Nat.lt_or_ge i n with hlt | hge
    · have d1 : decide (i < n) = true := by simp [hlt]
      have hi1 : (i : Int) < (n : Int) := by omega
      obtain ⟨p, hp⟩ := get_of_lt l (show i < l.length by have := H0.out.2.2.2; omega)
      obtain ⟨b, o, rfl, q0, q1⟩ := seg_pair (H0.out.2.2.1.below HI.out.1) hp
      clear hp
      repeat' (go_not_at_region 17; (first | go_skip | go_guarded | go_step))
      obtain ⟨gp, hgp⟩ : ∃ g, g = wr.heap.size := ⟨_, rfl⟩
      rw [← hgp]
      refine wp_named (fun w' => Ext wr w' ∧ PrAt w' gp p) ⟨(Ext.refl _).alloc (Nat.le_refl _) _, by rw [hgp]; exact heap_new wr _⟩ ?_
      clear hgp q0 q1
      intro w1 HA
      obtain ⟨q, hq⟩ : ∃ q, q = cutP p := ⟨_, rfl⟩
      have hql : q.1.length ≤ 40 ∧ q.2.length ≤ 40 := by rw [hq]; exact cutP_short _
      have HF : Hid (∀ W, Calls Try.prog 47 #[prV p] W fun e w' => e = .returned (prV q) ∧ Ext W w') := Lib.hid (fun W => by rw [hq]; exact fewp_c W p)
      have HQ := Lib.hid hq
      clear hq
      obtain ⟨c0, c1⟩ := HA.out.2.cells
      repeat' (first | go_at_call 47 | go_skip | go_guarded | go_step)
      refine (HF.out _).mono ?_
      rintro e w2 ⟨rfl, f2⟩
      have H2 : Hid (Ext wr w2 ∧ PrAt w2 gp p) := Lib.hid ⟨HA.out.1.trans f2, HA.out.2.ext f2⟩
      have hfl := fieldP (str q.1) (str q.2)
      have hR := rget_c w2 v10 X q.1 (H0.out.2.1.below (HI.out.1.trans H2.out.1)) H0.out.1.ok.rise (by omega) (fun y hy => by have := (H0.out.1.ok.short y hy).1; omega)
      obtain ⟨u, hu⟩ : ∃ u, u = (getL q.1 X).getD [] := ⟨_, rfl⟩
      obtain ⟨th, hth⟩ : ∃ th, th = hasK X q.1 := ⟨_, rfl⟩
      rw [← hu, ← hth] at hR
      have HR := Lib.hid hR
      have HT : Hid (hasK X q.1 = th) := Lib.hid hth.symm
      clear f2 c0 c1 hR hu hth HA
      go_simp
      repeat' (first | go_at_call 29 | go_skip | go_guarded | go_step)
      refine HR.out.mono ?_
      rintro e w3 ⟨rfl, f3⟩
      have H3 : Hid (Ext wr w3 ∧ PrAt w3 gp p) := Lib.hid ⟨H2.out.1.trans f3, H2.out.2.ext f3⟩
      clear f3 HR H2 hfl
      go_simp
      repeat' (go_not_at_region 18; (first | go_skip | go_guarded | go_step))
      by_cases h20 : i < 20
      · have d2 : decide (i < 20) = true := by simp [h20]
        have d2' : decide ((i : Int) < 20) = true := by simp; omega
        cases th with
        | true =>
          repeat' (first | go_skip | go_guarded | go_step)
          go_roundg (n - (i + 1))
          case measure => omega
          case rel => exact ⟨i + 1, g2, Y, Ks, rfl, by go_num, by omega, Nat.le_refl _, hY9, by omega, Lib.hid ⟨HI.out.1.trans H3.out.1, HI.out.2.1.ext H3.out.1, row_ext HI.out.2.2.1 H3.out.1, HI.out.2.2.2.1, HI.out.2.2.2.2⟩⟩
        | false =>
          repeat' (go_not_at_region 19; (first | go_skip | go_guarded | go_step))
          rename_i K hK
          refine shr6_19 wr0 w3 gh g2 gp h hk _ Y p Ks (Lib.hid ⟨H3.out.2, HI.out.2.1.ext H3.out.1, hgh0, HI.out.1.trans H3.out.1, row_ext HI.out.2.2.1 H3.out.1⟩) (by omega) (by omega) _ _ K _ _ _ _ _ _ _ _ _ _ _ _ _ _ _ _ _ _ _ _ _ _ _ _ _ _ _ _ _ _ _ _ _ _ _ _ _ _ _ _ _ _ _ _ _ _ _ _ _ _ _ _ _ _ _ _ _ _ _ _ _ _ _ _ _ _ _ _ _ _ _ _ _ _ _ _ _ _ _ _ _ _ _ _ _ _ _ _ _ _ _ _ _ _ _ _ _ _ _ _ _ _ _ _ _ _ _ _ _ _ _ _ _ _ _ _ _ _ _ _ _ _ _ _ _ _ _ _ _ _ _ _ _ _ _ _ _ _ _ _ _ _ (by kernel_rfl) (by kernel_rfl) hK ?_
          intro g3 v3 z70 z71 z72 z73 z74 z75 z76 z77 z78 z79 z80 z81 z82 z83 wy hpo
          have hq1 : (cutP p).1.length ≤ 40 := (cutP_short p).1
          have hg := Gone.put (p := cutP p) (by rw [← HQ.out]; exact HT.out) HI.out.2.2.2.1
          have H6 := Lib.hid (And.intro hpo hg)
          clear hpo hg
          repeat' (first | go_skip | go_guarded | go_step)
          go_roundg (n - (i + 1))
          case measure => omega
          case rel =>
            refine ⟨i + 1, g3, _, _, rfl, by go_num, by omega, Nat.le_refl _, ⟨by have := rput_length Y (cutP p); simp; omega, by simp; omega⟩, by simp; omega, Lib.hid ⟨H6.out.1.1, H6.out.1.2.1, H6.out.1.2.2, H6.out.2, ?_⟩⟩
            intro k hk
            rcases List.mem_append.1 hk with hk | hk
            · exact HI.out.2.2.2.2 k hk
            · rw [List.mem_singleton] at hk; rw [hk]; exact hq1
      · have d2 : decide (i < 20) = false := by simp; omega
        have d2' : decide ((i : Int) < 20) = false := by simp; omega
        repeat' (first | go_skip | go_guarded | go_step)
        go_roundg (n - (i + 1))
        case measure => omega
        case rel => exact ⟨i + 1, g2, Y, Ks, rfl, by go_num, by omega, Nat.le_refl _, hY9, by omega, Lib.hid ⟨HI.out.1.trans H3.out.1, HI.out.2.1.ext H3.out.1, row_ext HI.out.2.2.1 H3.out.1, HI.out.2.2.2.1, HI.out.2.2.2.2⟩⟩
    · obtain rfl : i = n := by omega
      have d1 : decide (i < i) = false := by simp
      repeat' (first | go_skip | go_guarded | go_step)
      exact HQF.out g2 _ Y Ks _ _ _ _ _ _ _ _ _ _ _ _ _ _ _ _ _ _ _ _ _ _ _ _ _ _ _ _ _ _ _ _ _ _ _ _ _ _ _ _ _ ⟨HI.out.1, HI.out.2.1, HI.out.2.2.1, HI.out.2.2.2.1, hY9, HI.out.2.2.2.2⟩

end Go.Proofs.Ytclcgelbcbnekaa
