/- RadixRaw: all nodes are looked at: a law of its own. -/
import Derived.Test.YtmpeniboccahdaaJg
import Derived.Deep.LoopGhost
namespace Go.Proofs.Ytmpeniboccahdaa
open Go.RowKit Go.QS
set_option linter.unusedVariables false

set_option maxRecDepth 100000 in
set_option maxHeartbeats 2000000 in
theorem raw_20 (W wr : World) (v3 v4 : Value) (gs qs : List Nat) (ts : List RT) (H : Hid (Raws W wr v3 v4 gs qs ts ∧ cnts ts ≤ 20)) (c d : Code) (K : Act → World → Prop) (Q : Exit → Act → World → Prop) (t0 t1 t2 t5 t6 t7 t8 t9 t10 t11 t12 t13 t14 t15 t16 t17 t18 t19 t20 t21 t22 t23 t24 t25 t26 t27 t28 t29 t30 t31 t32 t33 t34 t35 t36 t37 t38 t39 t40 t41 t42 t43 t44 t45 t46 t47 t48 t49 t50 t51 t52 t53 t54 t55 t56 t57 t58 t59 t60 t61 t62 t63 t64 t65 t66 t67 t68 t69 t70 t71 t72 t73 t74 t75 t76 t77 t78 t79 t80 t81 t82 t83 t84 t85 t86 t87 t88 t89 t90 t91 t92 t93 t94 t95 t96 t97 t98 t99 t100 t101 t102 t103 t104 t105 t106 t107 t108 t109 t110 t111 t112 t113 t114 t115 t116 t117 t118 t119 t120 t121 t122 t123 t124 t125 t126 t127 t128 t129 : Value)
    (hc : (Try.f4.body.bind (findR 20)) = some c) (hd : (Try.f4.body.bind (findT 20)) = some d)
    (hK : ∀ a w, d.wp Try.prog Q a w → K a w)
    (hQ : ∀ (u2 u13 u14 u94 u95 u96 u97 u98 u99 u100 u101 u102 u103 u104 u105 u106 u107 u108 u109 u110 u111 u112 u113 u114 u115 u116 u117 u118 u119 u120 u121 u122 u123 u124 u125 u126 u127 u128 u129 : Value) (wx : World), Ext wr wx → Q .normal { tmps := List.toArray (t0 :: t1 :: u2 :: v3 :: v4 :: t5 :: t6 :: t7 :: t8 :: t9 :: t10 :: t11 :: t12 :: u13 :: u14 :: t15 :: t16 :: t17 :: t18 :: t19 :: t20 :: t21 :: t22 :: t23 :: t24 :: t25 :: t26 :: t27 :: t28 :: t29 :: t30 :: t31 :: t32 :: t33 :: t34 :: t35 :: t36 :: t37 :: t38 :: t39 :: t40 :: t41 :: t42 :: t43 :: t44 :: t45 :: t46 :: t47 :: t48 :: t49 :: t50 :: t51 :: t52 :: t53 :: t54 :: t55 :: t56 :: t57 :: t58 :: t59 :: t60 :: t61 :: t62 :: t63 :: t64 :: t65 :: t66 :: t67 :: t68 :: t69 :: t70 :: t71 :: t72 :: t73 :: t74 :: t75 :: t76 :: t77 :: t78 :: t79 :: t80 :: t81 :: t82 :: t83 :: t84 :: t85 :: t86 :: t87 :: t88 :: t89 :: t90 :: t91 :: t92 :: t93 :: u94 :: u95 :: u96 :: u97 :: u98 :: u99 :: u100 :: u101 :: u102 :: u103 :: u104 :: u105 :: u106 :: u107 :: u108 :: u109 :: u110 :: u111 :: u112 :: u113 :: u114 :: u115 :: u116 :: u117 :: u118 :: u119 :: u120 :: u121 :: u122 :: u123 :: u124 :: u125 :: u126 :: u127 :: u128 :: u129 :: []), defers := [] } wx) :
    c.wp Try.prog (Exit.then K Q) { tmps := List.toArray (t0 :: t1 :: t2 :: v3 :: v4 :: t5 :: t6 :: t7 :: t8 :: t9 :: t10 :: t11 :: t12 :: t13 :: t14 :: t15 :: t16 :: t17 :: t18 :: t19 :: t20 :: t21 :: t22 :: t23 :: t24 :: t25 :: t26 :: t27 :: t28 :: t29 :: t30 :: t31 :: t32 :: t33 :: t34 :: t35 :: t36 :: t37 :: t38 :: t39 :: t40 :: t41 :: t42 :: t43 :: t44 :: t45 :: t46 :: t47 :: t48 :: t49 :: t50 :: t51 :: t52 :: t53 :: t54 :: t55 :: t56 :: t57 :: t58 :: t59 :: t60 :: t61 :: t62 :: t63 :: t64 :: t65 :: t66 :: t67 :: t68 :: t69 :: t70 :: t71 :: t72 :: t73 :: t74 :: t75 :: t76 :: t77 :: t78 :: t79 :: t80 :: t81 :: t82 :: t83 :: t84 :: t85 :: t86 :: t87 :: t88 :: t89 :: t90 :: t91 :: t92 :: t93 :: t94 :: t95 :: t96 :: t97 :: t98 :: t99 :: t100 :: t101 :: t102 :: t103 :: t104 :: t105 :: t106 :: t107 :: t108 :: t109 :: t110 :: t111 :: t112 :: t113 :: t114 :: t115 :: t116 :: t117 :: t118 :: t119 :: t120 :: t121 :: t122 :: t123 :: t124 :: t125 :: t126 :: t127 :: t128 :: t129 :: []), defers := [] } wr := by
  change some _ = some c at hc
  cases hc
  change some _ = some d at hd
  cases hd
  have HQF := Lib.hid hQ
  clear hQ
  have hR := H.out.1
  obtain ⟨A3, C3, rfl, _, h31, h32, hs3⟩ := hR.nodes
  obtain ⟨A4, C4, rfl, _, h41, h42, hs4⟩ := hR.trees
  have hq1 := hR.rep.1
  have hq2 := hR.doc.1
  have hcl := cnts_len ts
  have hc20 := H.out.2
  obtain ⟨n, hn⟩ : ∃ n, n = gs.length := ⟨_, rfl⟩
  have hqn : qs.length = n := by omega
  have hn9 : n ≤ 30 := by omega
  rw [hqn]
  rw [← hn]
  have HV : Hid (n = gs.length ∧ qs.length = n ∧ ts.length = n ∧ Seg wr A3 (ptrs gs) ∧ Seg wr A4 (ptrs qs) ∧ Reps NT wr gs ts ∧ RepsS DT DP (fun _ => True) wr qs ts ∧ (∀ t ∈ ts, Gd t) ∧ cnts ts ≤ 20) := Lib.hid ⟨hn, hqn, by omega, hs3, hs4, hR.rep, hR.doc, hR.good, hc20⟩
  rw [hqn, ← hn] at HQF
  clear h31 h32 h41 h42 hs3 hs4 hq1 hq2 hcl hc20 hqn hn hR H
  repeat' (go_not_at_region 21; (first | go_skip | go_guarded | go_step))
  obtain ⟨wo, rfl⟩ : ∃ wo : World, wo = wr := ⟨_, rfl⟩
  go_loopg [96] n (fun gk v96 wx => ∃ k : Nat, v96 = .int .i64 k ∧ k ≤ n ∧ n - k ≤ gk ∧ Hid (Ext wo wx))
  case atStart => exact ⟨0, rfl, Nat.zero_le _, by omega, Lib.hid (Ext.refl _)⟩
  case round =>
    obtain ⟨k, rfl, hin, hgk, HI⟩ := hrel
    rcases Nat.lt_or_ge k n with hlt | hge
    · have d1 : decide (k < n) = true := by simp [hlt]
      have hi1 : (k : Int) < (n : Int) := by omega
      obtain ⟨g, hg⟩ := get_of_lt gs (show k < gs.length by have := HV.out.1; omega)
      obtain ⟨q, hq⟩ := get_of_lt qs (show k < qs.length by have := HV.out.2.1; omega)
      obtain ⟨t, ht⟩ := get_of_lt ts (show k < ts.length by have := HV.out.2.2.1; omega)
      obtain ⟨b3, o3, rfl, hc3⟩ := (HV.out.2.2.2.1.below HI.out) (fun e => by have := ptrs_get hg; rw [e] at this; simp at this)
      obtain ⟨b4, o4, rfl, hc4⟩ := (HV.out.2.2.2.2.1.below HI.out) (fun e => by have := ptrs_get hq; rw [e] at this; simp at this)
      have q3 := hc3 k _ (ptrs_get hg)
      have hm := List.mem_of_getElem? ht
      have HB : Hid (Rep NT wr g t ∧ RepS DT DP (fun _ => True) wr q t ∧ Gd t ∧ wr.cell? ⟨b4, o4 + k, none⟩ = some (ptr q)) := Lib.hid ⟨(HV.out.2.2.2.2.2.1.2 k g t hg ht).ext HI.out, (HV.out.2.2.2.2.2.2.1.2 k q t hq ht).ext HI.out, HV.out.2.2.2.2.2.2.2.1 t hm, hc4 k _ (ptrs_get hq)⟩
      have hct : t.cnt ≤ 20 := Nat.le_trans (cnts_mem hm) HV.out.2.2.2.2.2.2.2.2
      clear hc3 hc4 hg hq ht hm
      repeat' (go_not_at_region 23; (first | go_skip | go_guarded | go_step))
      refine raw_23 wr b4 o4 k n C4 g q t HB hct hlt hn9 _ _ _ _ _ _ _ _ _ _ _ _ _ _ _ _ _ _ _ _ _ _ _ _ _ _ _ _ _ _ _ _ _ _ _ _ _ _ _ _ _ _ _ _ _ _ _ _ _ _ _ _ _ _ _ _ _ _ _ _ _ _ _ _ _ _ _ _ _ _ _ _ _ _ _ _ _ _ _ _ _ _ _ _ _ _ _ _ _ _ _ _ _ _ _ _ _ _ _ _ _ _ _ _ _ _ _ _ _ _ _ _ _ _ _ _ _ _ _ _ _ _ _ _ _ _ _ _ _ (by kernel_rfl) ?_
      intro z101 z102 z103 z104 z105 z106 z107 z108 z109 z110 z111 z112 z113 z114 z115 z116 z117 z118 z119 z120 z121 z122 z123 z124 z125 z126 z127 wx hE
      have H2 : Hid (Ext wo wx) := Lib.hid (HI.out.trans hE)
      clear hE
      repeat' (first | go_skip | go_guarded | go_step)
      go_roundg (n - (k + 1))
      case measure => omega
      case rel => exact ⟨k + 1, by go_num, by omega, Nat.le_refl _, H2⟩
    · obtain rfl : k = n := by omega
      have d1 : decide (k < k) = false := by simp
      repeat' (first | go_skip | go_guarded | go_step)
      exact HQF.out _ _ _ _ _ _ _ _ _ _ _ _ _ _ _ _ _ _ _ _ _ _ _ _ _ _ _ _ _ _ _ _ _ _ _ _ _ _ _ _ HI.out

end Go.Proofs.Ytmpeniboccahdaa
