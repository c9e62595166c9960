/- RadixShrinks: a pair more, its key noted: a law of its own. -/
import Derived.Test.YtmpeniboccahdaaVr
import Derived.Test.YtmpeniboccahdaaMi
namespace Go.Proofs.Ytmpeniboccahdaa
open Go.RowKit Go.QS
set_option linter.unusedVariables false

abbrev ST : TypeId := 9
/-- A string's cell. -/
def FS (u : Value) : Prop := ∃ s : List UInt8, u = str s
theorem fs_ptr (g : Nat) : ¬ FS (ptr g) := fun ⟨s, h⟩ => by cases h
theorem infoS : ∃ i z, Try.prog.info? ST = some i ∧ i.zero = some z ∧ i.size = 1 ∧ i.bytes = 16 ∧ z.cells.size = 1 ∧ ∀ u ∈ z.cells, FS u :=
  info_ofZ (z := str []) (by kernel_rfl) rfl (fun u hu => ⟨[], by simpa [Value.cells] using hu⟩)
set_option maxRecDepth 100000 in
set_option maxHeartbeats 2000000 in
theorem shr_19 (W wr : World) (g gp : Nat) (v12 : Value) (T : RT) (X : List Pr) (p : Pr) (Ks : List (List UInt8)) (H : Hid (Box wr gp p ∧ Rep NT wr g T ∧ Ok T X ∧ Ext W wr ∧ ZR FS W.heap.size ST wr v12 (Ks.map str))) (hKs : Ks.length ≤ 1000) (c d : Code) (K : Act → World → Prop) (Q : Exit → Act → World → Prop) (t0 t1 t2 t3 t4 t5 t6 t7 t8 t9 t10 t13 t15 t16 t17 t18 t19 t20 t21 t22 t23 t24 t25 t26 t27 t28 t29 t30 t31 t32 t33 t34 t35 t36 t37 t38 t39 t40 t41 t42 t43 t44 t45 t46 t47 t48 t49 t50 t51 t52 t53 t54 t55 t56 t57 t58 t59 t60 t61 t62 t63 t64 t65 t66 t67 t68 t69 t70 t71 t72 t73 t74 t75 t76 t77 t78 t79 t80 t81 t82 t83 t84 t85 t86 t87 t88 t89 t90 t91 t92 t93 t94 t95 t96 t97 t98 t99 t100 t101 t102 t103 t104 t105 t106 t107 t108 t109 t110 t111 t112 t113 t114 t115 t116 t117 t118 t119 t120 t121 t122 t123 t124 t125 t126 t127 t128 t129 t130 t131 t132 t133 t134 t135 t136 t137 : Value)
    (hc : (Try.f6.body.bind (findR 19)) = some c) (hd : (Try.f6.body.bind (findS 20)) = some d)
    (hK : ∀ a w, d.wp Try.prog Q a w → K a w)
    (hQ : ∀ (g2 : Nat) (T2 : RT) (v2 : Value) (u67 u68 u69 u70 u71 u72 u73 u74 u75 u76 u77 u78 u79 : Value) (wx : World), Ext W wx ∧ Rep NT wx g2 T2 ∧ Ok T2 (rput X (cutP p)) ∧ ZR FS W.heap.size ST wx v2 ((Ks ++ [(cutP p).1]).map str) → Q .normal { tmps := List.toArray (t0 :: t1 :: t2 :: t3 :: t4 :: t5 :: t6 :: t7 :: t8 :: t9 :: t10 :: (ptr g2) :: v2 :: t13 :: (ptr gp) :: t15 :: t16 :: t17 :: t18 :: t19 :: t20 :: t21 :: t22 :: t23 :: t24 :: t25 :: t26 :: t27 :: t28 :: t29 :: t30 :: t31 :: t32 :: t33 :: t34 :: t35 :: t36 :: t37 :: t38 :: t39 :: t40 :: t41 :: t42 :: t43 :: t44 :: t45 :: t46 :: t47 :: t48 :: t49 :: t50 :: t51 :: t52 :: t53 :: t54 :: t55 :: t56 :: t57 :: t58 :: t59 :: t60 :: t61 :: t62 :: t63 :: t64 :: t65 :: t66 :: u67 :: u68 :: u69 :: u70 :: u71 :: u72 :: u73 :: u74 :: u75 :: u76 :: u77 :: u78 :: u79 :: t80 :: t81 :: t82 :: t83 :: t84 :: t85 :: t86 :: t87 :: t88 :: t89 :: t90 :: t91 :: t92 :: t93 :: t94 :: t95 :: t96 :: t97 :: t98 :: t99 :: t100 :: t101 :: t102 :: t103 :: t104 :: t105 :: t106 :: t107 :: t108 :: t109 :: t110 :: t111 :: t112 :: t113 :: t114 :: t115 :: t116 :: t117 :: t118 :: t119 :: t120 :: t121 :: t122 :: t123 :: t124 :: t125 :: t126 :: t127 :: t128 :: t129 :: t130 :: t131 :: t132 :: t133 :: t134 :: t135 :: t136 :: t137 :: []), defers := [] } wx) :
    c.wp Try.prog (Exit.then K Q) { tmps := List.toArray (t0 :: t1 :: t2 :: t3 :: t4 :: t5 :: t6 :: t7 :: t8 :: t9 :: t10 :: (ptr g) :: v12 :: t13 :: (ptr gp) :: t15 :: t16 :: t17 :: t18 :: t19 :: t20 :: t21 :: t22 :: t23 :: t24 :: t25 :: t26 :: t27 :: t28 :: t29 :: t30 :: t31 :: t32 :: t33 :: t34 :: t35 :: t36 :: t37 :: t38 :: t39 :: t40 :: t41 :: t42 :: t43 :: t44 :: t45 :: t46 :: t47 :: t48 :: t49 :: t50 :: t51 :: t52 :: t53 :: t54 :: t55 :: t56 :: t57 :: t58 :: t59 :: t60 :: t61 :: t62 :: t63 :: t64 :: t65 :: t66 :: t67 :: t68 :: t69 :: t70 :: t71 :: t72 :: t73 :: t74 :: t75 :: t76 :: t77 :: t78 :: t79 :: t80 :: t81 :: t82 :: t83 :: t84 :: t85 :: t86 :: t87 :: t88 :: t89 :: t90 :: t91 :: t92 :: t93 :: t94 :: t95 :: t96 :: t97 :: t98 :: t99 :: t100 :: t101 :: t102 :: t103 :: t104 :: t105 :: t106 :: t107 :: t108 :: t109 :: t110 :: t111 :: t112 :: t113 :: t114 :: t115 :: t116 :: t117 :: t118 :: t119 :: t120 :: t121 :: t122 :: t123 :: t124 :: t125 :: t126 :: t127 :: t128 :: t129 :: t130 :: t131 :: t132 :: t133 :: t134 :: t135 :: t136 :: t137 :: []), defers := [] } wr := by
  change some _ = some c at hc
  cases hc
  change some _ = some d at hd
  cases hd
  have HQF := Lib.hid hQ
  clear hQ
  have hzr := H.out.2.2.2.2
  obtain ⟨c0, c1⟩ := H.out.1.cells
  repeat' (first | go_at_call 14 | go_skip | go_guarded | go_step)
  refine (fewp_c _ p).mono ?_
  rintro e w1 ⟨rfl, f1⟩
  obtain ⟨q, hq⟩ : ∃ q, q = cutP p := ⟨_, rfl⟩
  have hql : q.1.length ≤ 40 ∧ q.2.length ≤ 40 := by rw [hq]; exact cutP_short _
  rw [← hq]
  have HQ := Lib.hid hq
  have H1 : Hid (Ext wr w1) := Lib.hid f1
  clear f1 hq c0 c1
  go_simp
  repeat' (first | go_at_call 13 | go_skip | go_guarded | go_step)
  refine (putO_c w1 g T X q (H.out.2.1.ext H1.out) H.out.2.2.1 hql).mono ?_
  rintro e w2 ⟨g2, T2, rfl, f2, r2, o2, _⟩
  have H2 : Hid (Ext wr w2 ∧ Rep NT w2 g2 T2 ∧ Ok T2 (rput X q)) := Lib.hid ⟨H1.out.trans f2, r2, o2⟩
  obtain ⟨c0, c1⟩ := (H.out.1.ext H2.out.1).cells
  clear f2 r2 o2 H1
  go_simp
  repeat' (first | go_at_call 14 | go_skip | go_guarded | go_step)
  refine (fewp_c _ p).mono ?_
  rintro e w3 ⟨rfl, f3⟩
  rw [← HQ.out]
  have H3 : Hid (Ext wr w3 ∧ Rep NT w3 g2 T2 ∧ Ok T2 (rput X q)) := Lib.hid ⟨H2.out.1.trans f3, H2.out.2.1.ext f3, H2.out.2.2⟩
  clear f3 H2 c0 c1
  have hfl := fieldP (str q.1) (str q.2)
  have hzr3 : ZR FS W.heap.size ST (w3.alloc (.cells #[str q.1] ST)) v12 (Ks.map str) := (hzr.ext H3.out.1).ext ((Ext.refl _).alloc (Nat.le_refl _) _)
  have hE30 := H.out.2.2.2.1.trans H3.out.1
  have hE3 : Ext W (w3.alloc (.cells #[str q.1] ST)) := hE30.alloc hE30.size _
  have HZ : Hid (_ ∧ _) := Lib.hid ⟨hzr3, hE3⟩
  have hkl : (Ks.map str).length = Ks.length := by simp
  clear hzr hzr3 hE3 hE30
  go_simp
  repeat' (first | (at_builtin; refine wpList_appZ (W := W) rfl (.tmp 74) (.tmp 78) _ rfl FS ST 16 Try.underlying65 infoS _ _ rfl HZ.out.1 HZ.out.2 _ 1 (str q.1) rfl (by rw [World.cell?_alloc_at _ _ _ _ rfl]; rfl) rfl (by unfold maxLen; omega) (by omega) ?_; intro v5 w5 hz5 hb5 ht5) | go_skip | go_guarded | go_step)
  have ek : Ks.map str ++ [str q.1] = (Ks ++ [q.1]).map str := by simp
  rw [ek] at hz5
  have H5 : Hid (Ext W w5 ∧ Rep NT w5 g2 T2 ∧ Ok T2 (rput X q) ∧ ZR FS W.heap.size ST w5 v5 ((Ks ++ [q.1]).map str)) := Lib.hid ⟨hb5, ht5.rep fs_ptr (by decide) (H3.out.2.1.ext ((Ext.refl _).alloc (Nat.le_refl _) _)), H3.out.2.2, hz5⟩
  clear hz5 hb5 ht5 ek
  repeat' (first | go_skip | go_guarded | go_step)
  rw [HQ.out] at H5
  exact HQF.out g2 T2 v5 _ _ _ _ _ _ _ _ _ _ _ _ _ _ H5.out

end Go.Proofs.Ytmpeniboccahdaa
