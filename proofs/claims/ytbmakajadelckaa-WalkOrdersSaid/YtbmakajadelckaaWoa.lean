/- WalkOrders: pairs change places: its region a law of its own. -/
import Derived.Test.YtbmakajadelckaaM41
import Derived.Test.YtbmakajadelckaaM06
import Derived.Deep.LoopGhost
import Derived.BigRegion
set_option linter.unusedVariables false
set_option linter.unusedSimpArgs false
namespace Go.Proofs.Ytbmakajadelckaa
open Go.RowKit Go.QS Go.QS.Nk
set_option linter.unusedVariables false

set_option maxRecDepth 100000 in
set_option maxHeartbeats 2000000 in
theorem ord8_10 (W wr : World) (gk n cap i j : Nat) (ki kj : Pr) (Ls : List Pr) (H : Hid (Ext W wr ∧ wr.ownsRow W.heap.size 36 2 (.slice (some ⟨gk, 0, none⟩) n cap) n (flat Ls) ∧ n = Ls.length ∧ Ls[i]? = some ki ∧ Ls[j]? = some kj)) (hn9 : n ≤ 1000) (c : Code) (Q : Exit → Act → World → Prop) (t0 t1 t2 t3 t4 t5 t6 t7 t8 t9 t13 t14 t15 t16 t17 t18 t19 t20 t21 t22 t23 t24 t25 t26 t27 t28 t29 t30 t31 t32 t33 t34 t35 t36 t37 t38 t39 t40 t41 t42 t43 t44 t45 t46 t47 t48 t49 t50 t51 t52 t53 t54 t55 t56 t57 t58 t59 t60 t61 t62 t63 t64 t65 t66 t67 t68 t69 t70 t71 t72 t73 t74 t75 t76 t77 t78 t79 t80 t81 t82 t83 t84 t85 t86 t87 t88 t89 t90 t91 t92 t93 t94 t95 t96 t97 t98 t99 t100 t101 t102 t103 t104 t105 t106 t107 t108 t109 t110 t111 t112 t113 t114 t115 t116 t117 t118 : Value)
    (hc : (Try.f3.body.bind (findR 10)) = some c)
    (hQ : ∀ (u53 u54 u55 u56 u57 u58 u59 u60 u61 u62 u63 u64 u65 u66 : Value) (wx : World), Ext W wx ∧ wx.ownsRow W.heap.size 36 2 (.slice (some ⟨gk, 0, none⟩) n cap) n (flat ((Ls.set i kj).set j ki)) → Q .normal { tmps := List.toArray (t0 :: t1 :: t2 :: t3 :: t4 :: t5 :: t6 :: t7 :: t8 :: t9 :: (.slice (some ⟨gk, 0, none⟩) n cap) :: (.int .i64 i) :: (.int .i64 j) :: t13 :: t14 :: t15 :: t16 :: t17 :: t18 :: t19 :: t20 :: t21 :: t22 :: t23 :: t24 :: t25 :: t26 :: t27 :: t28 :: t29 :: t30 :: t31 :: t32 :: t33 :: t34 :: t35 :: t36 :: t37 :: t38 :: t39 :: t40 :: t41 :: t42 :: t43 :: t44 :: t45 :: t46 :: t47 :: t48 :: t49 :: t50 :: t51 :: t52 :: u53 :: u54 :: u55 :: u56 :: u57 :: u58 :: u59 :: u60 :: u61 :: u62 :: u63 :: u64 :: u65 :: u66 :: t67 :: t68 :: t69 :: t70 :: t71 :: t72 :: t73 :: t74 :: t75 :: t76 :: t77 :: t78 :: t79 :: t80 :: t81 :: t82 :: t83 :: t84 :: t85 :: t86 :: t87 :: t88 :: t89 :: t90 :: t91 :: t92 :: t93 :: t94 :: t95 :: t96 :: t97 :: t98 :: t99 :: t100 :: t101 :: t102 :: t103 :: t104 :: t105 :: t106 :: t107 :: t108 :: t109 :: t110 :: t111 :: t112 :: t113 :: t114 :: t115 :: t116 :: t117 :: t118 :: []), defers := [] } wx) :
    c.wp Try.prog Q { tmps := List.toArray (t0 :: t1 :: t2 :: t3 :: t4 :: t5 :: t6 :: t7 :: t8 :: t9 :: (.slice (some ⟨gk, 0, none⟩) n cap) :: (.int .i64 i) :: (.int .i64 j) :: t13 :: t14 :: t15 :: t16 :: t17 :: t18 :: t19 :: t20 :: t21 :: t22 :: t23 :: t24 :: t25 :: t26 :: t27 :: t28 :: t29 :: t30 :: t31 :: t32 :: t33 :: t34 :: t35 :: t36 :: t37 :: t38 :: t39 :: t40 :: t41 :: t42 :: t43 :: t44 :: t45 :: t46 :: t47 :: t48 :: t49 :: t50 :: t51 :: t52 :: t53 :: t54 :: t55 :: t56 :: t57 :: t58 :: t59 :: t60 :: t61 :: t62 :: t63 :: t64 :: t65 :: t66 :: t67 :: t68 :: t69 :: t70 :: t71 :: t72 :: t73 :: t74 :: t75 :: t76 :: t77 :: t78 :: t79 :: t80 :: t81 :: t82 :: t83 :: t84 :: t85 :: t86 :: t87 :: t88 :: t89 :: t90 :: t91 :: t92 :: t93 :: t94 :: t95 :: t96 :: t97 :: t98 :: t99 :: t100 :: t101 :: t102 :: t103 :: t104 :: t105 :: t106 :: t107 :: t108 :: t109 :: t110 :: t111 :: t112 :: t113 :: t114 :: t115 :: t116 :: t117 :: t118 :: []), defers := [] } wr := by
  change some _ = some c at hc
  cases hc
  have HQF := Lib.hid hQ
  clear hQ
  have hR := H.out.2.1
  have hnl : n = Ls.length := H.out.2.2.1
  have hR0 : Rw W.heap.size 36 wr gk cap Ls := by unfold Rw; rw [← hnl]; exact hR
  obtain ⟨hx1, hx2⟩ := hR0.get H.out.2.2.2.1
  obtain ⟨hy1, hy2⟩ := hR0.get H.out.2.2.2.2
  have hfz := hR0.free
  have hbl := hR0.base_le
  have hil : i < n := by rw [hnl]; exact (List.getElem?_eq_some_iff.1 H.out.2.2.2.1).1
  have hjl : j < n := by rw [hnl]; exact (List.getElem?_eq_some_iff.1 H.out.2.2.2.2).1
  have HF : Hid (_ ∧ _) := Lib.hid ⟨hR0.swap i kj j ki, (((((H.out.1.setCell hbl (str kj.1)).setCell hbl (str kj.2)).setCell hbl (str ki.1)).setCell hbl (str ki.2)) : Below W.heap.size W ((((wr.setCell ⟨gk, i * 2, none⟩ (str kj.1)).setCell ⟨gk, i * 2 + 1, none⟩ (str kj.2)).setCell ⟨gk, j * 2, none⟩ (str ki.1)).setCell ⟨gk, j * 2 + 1, none⟩ (str ki.2)))⟩
  have hi1 : (i : Int) < (n : Int) := by omega
  have hi2 : (j : Int) < (n : Int) := by omega
  have HL : Hid (((Ls.set i kj).set j ki).length = n) := Lib.hid (by simp [hnl])
  clear hR hR0 hbl hnl
  refine Code.wp_mono (Q := fun e a w => match e with | .normal => Q .normal a w | _ => False) (fun e a w h => by cases e <;> first | exact h | exact h.elim) ?_
  by_cases hij : i = j
  · subst hij
    obtain rfl : ki = kj := Option.some.inj (H.out.2.2.2.1.symm.trans H.out.2.2.2.2)
    have q3 : i * 2 + 1 ≠ i * 2 := by omega
    have q5 : i * 2 ≠ i * 2 + 1 := by omega
    repeat' (first | go_skip | go_guarded | go_step)
    go_region
    repeat' (first | go_skip | go_guarded | go_step)
    refine HQF.out _ _ _ _ _ _ _ _ _ _ _ _ _ _ _ ⟨HF.out.2.drew, ?_⟩
    have := HF.out.1.drew
    unfold Rw at this
    rw [HL.out] at this
    exact this
  · have q1 : i ≠ j := hij
    have q2 : j ≠ i := fun e => hij e.symm
    have q3 : i * 2 + 1 ≠ j * 2 := by omega
    have q4 : j * 2 + 1 ≠ i * 2 := by omega
    have q5 : i * 2 ≠ j * 2 + 1 := by omega
    have q6 : j * 2 ≠ i * 2 + 1 := by omega
    clear hij
    repeat' (first | go_skip | go_guarded | go_step)
    go_region
    repeat' (first | go_skip | go_guarded | go_step)
    refine HQF.out _ _ _ _ _ _ _ _ _ _ _ _ _ _ _ ⟨HF.out.2.drew, ?_⟩
    have := HF.out.1.drew
    unfold Rw at this
    rw [HL.out] at this
    exact this

end Go.Proofs.Ytbmakajadelckaa
