/- RadixVersions: all versions are looked at: a law of its own. -/
import Derived.Test.YtmpeniboccahdaaWk
import Derived.Deep.RegionHeld3
import Derived.Deep.LoopGhost
namespace Go.Proofs.Ytmpeniboccahdaa
open Go.RowKit Go.QS
set_option linter.unusedVariables false

set_option maxRecDepth 100000 in
set_option maxHeartbeats 2000000 in
theorem ver_16 (W wr : World) (v3 v4 : Value) (gs : List Nat) (us : List Value) (H : Hid (Vers W wr v3 v4 gs us)) (h0 : 0 < gs.length) (hn9 : gs.length ≤ 100) (c d : Code) (K : Act → World → Prop) (Q : Exit → Act → World → Prop) (t0 t1 t2 t5 t6 t7 t8 t9 t10 t11 t12 t13 t14 t15 t16 t17 t18 t19 t20 t21 t22 t23 t24 t25 t26 t27 t28 t29 t30 t31 t32 t33 t34 t35 t36 t37 t38 t39 t40 t41 t42 t43 t44 t45 t46 t47 t48 t49 t50 t51 t52 t53 t54 t55 t56 t57 t58 t59 t60 t61 t62 t63 t64 t65 t66 t67 t68 t69 t70 t71 t72 t73 t74 t75 t76 t77 t78 t79 t80 t81 t82 t83 t84 t85 t86 t87 t88 t89 t90 t91 t92 t93 t94 t95 t96 t97 t98 t99 t100 t101 t102 t103 : Value)
    (hc : (Try.f5.body.bind (findR 16)) = some c) (hd : (Try.f5.body.bind (findT 16)) = some d)
    (hK : ∀ a w, d.wp Try.prog Q a w → K a w)
    (hQ : ∀ (u2 u13 u88 u89 u90 u91 u92 u93 u94 u95 u96 u97 u98 u99 u100 u101 u102 u103 : Value) (wx : World), Ext wr wx → Q .normal { tmps := List.toArray (t0 :: t1 :: u2 :: v3 :: v4 :: t5 :: t6 :: t7 :: t8 :: t9 :: t10 :: t11 :: t12 :: u13 :: t14 :: t15 :: t16 :: t17 :: t18 :: t19 :: t20 :: t21 :: t22 :: t23 :: t24 :: t25 :: t26 :: t27 :: t28 :: t29 :: t30 :: t31 :: t32 :: t33 :: t34 :: t35 :: t36 :: t37 :: t38 :: t39 :: t40 :: t41 :: t42 :: t43 :: t44 :: t45 :: t46 :: t47 :: t48 :: t49 :: t50 :: t51 :: t52 :: t53 :: t54 :: t55 :: t56 :: t57 :: t58 :: t59 :: t60 :: t61 :: t62 :: t63 :: t64 :: t65 :: t66 :: t67 :: t68 :: t69 :: t70 :: t71 :: t72 :: t73 :: t74 :: t75 :: t76 :: t77 :: t78 :: t79 :: t80 :: t81 :: t82 :: t83 :: t84 :: t85 :: t86 :: t87 :: u88 :: u89 :: u90 :: u91 :: u92 :: u93 :: u94 :: u95 :: u96 :: u97 :: u98 :: u99 :: u100 :: u101 :: u102 :: u103 :: []), defers := [] } wx) :
    c.wp Try.prog (Exit.then K Q) { tmps := List.toArray (t0 :: t1 :: t2 :: v3 :: v4 :: t5 :: t6 :: t7 :: t8 :: t9 :: t10 :: t11 :: t12 :: t13 :: t14 :: t15 :: t16 :: t17 :: t18 :: t19 :: t20 :: t21 :: t22 :: t23 :: t24 :: t25 :: t26 :: t27 :: t28 :: t29 :: t30 :: t31 :: t32 :: t33 :: t34 :: t35 :: t36 :: t37 :: t38 :: t39 :: t40 :: t41 :: t42 :: t43 :: t44 :: t45 :: t46 :: t47 :: t48 :: t49 :: t50 :: t51 :: t52 :: t53 :: t54 :: t55 :: t56 :: t57 :: t58 :: t59 :: t60 :: t61 :: t62 :: t63 :: t64 :: t65 :: t66 :: t67 :: t68 :: t69 :: t70 :: t71 :: t72 :: t73 :: t74 :: t75 :: t76 :: t77 :: t78 :: t79 :: t80 :: t81 :: t82 :: t83 :: t84 :: t85 :: t86 :: t87 :: t88 :: t89 :: t90 :: t91 :: t92 :: t93 :: t94 :: t95 :: t96 :: t97 :: t98 :: t99 :: t100 :: t101 :: t102 :: t103 :: []), defers := [] } wr := by
  change some _ = some c at hc
  cases hc
  change some _ = some d at hd
  cases hd
  have HQF := Lib.hid hQ
  clear hQ
  obtain ⟨gr, rc, gl, lc, rfl, rfl⟩ := H.out.open h0
  obtain ⟨n, hn⟩ : ∃ n, n = gs.length := ⟨_, rfl⟩
  have hul := H.out.len
  have hz3 := H.out.roots
  have hz4 := H.out.lists
  have hpl : (ptrs gs).length = n := by rw [ptrs_length, hn]
  have hun : us.length = n := by omega
  rw [← hn] at hn9 HQF ⊢
  have HV : Hid (n = gs.length ∧ us.length = n ∧ (ptrs gs).length = n ∧ Vers W wr (.slice (some ⟨gr, 0, none⟩) n rc) (.slice (some ⟨gl, 0, none⟩) n lc) gs us) := Lib.hid ⟨hn, hun, hpl, by rw [hn]; exact H.out⟩
  clear hz3 hz4 hpl hun hul hn H h0
  repeat' (go_not_at_region 17; (first | go_skip | go_guarded | go_step))
  go_loopg [90] n (fun gk v90 wx => ∃ k : Nat, v90 = .int .i64 k ∧ k ≤ n ∧ n - k ≤ gk ∧ Hid (Ext wr wx))
  case atStart => exact ⟨0, rfl, Nat.zero_le _, by omega, Lib.hid (Ext.refl _)⟩
  case round =>
    obtain ⟨k, rfl, hin, hgk, HI⟩ := hrel
    rcases Nat.lt_or_ge k n with hlt | hge
    · have d1 : decide (k < n) = true := by simp [hlt]
      have hi1 : (k : Int) < (n : Int) := by omega
      obtain ⟨g, hg⟩ := get_of_lt gs (show k < gs.length by have := HV.out.1; omega)
      obtain ⟨u, hu⟩ := get_of_lt us (show k < us.length by have := HV.out.2.1; omega)
      have V := HV.out.2.2.2.ext' HI.out
      obtain ⟨T, X, rT, oT, pX, lX⟩ := V.has k g u hg hu
      have hz3 := V.roots
      have hz4 := V.lists
      rw [← HV.out.2.2.1] at hz3
      have hX9 : X.length ≤ 50000 := by have := HV.out.1; omega
      have hB : Hid (wr.cell? ⟨gr, k, none⟩ = some (ptr g) ∧ wr.cell? ⟨gl, k, none⟩ = some u) := Lib.hid ⟨hz3.get (ptrs_get hg), (show ZR FL W.heap.size LP wr (.slice (some ⟨gl, 0, none⟩) us.length lc) us by rw [HV.out.2.1]; exact hz4).get hu⟩
      have HC : Hid (∀ j, Calls Try.prog 28 #[ptr g, u] (wr.drewN j) fun e w' => e = .returned (.bool true) ∧ Ext (wr.drewN j) w') := Lib.hid (fun j => tree11_c (wr.drewN j) g u T X (rT.ext (below_drewN (Ext.refl _) j)) oT (pX.below (below_drewN (Ext.refl _) j)) hX9)
      obtain ⟨q1, q2⟩ := hB.out
      clear hz3 hz4 V rT oT pX lX hg hu hX9
      repeat' (go_not_at_region 19; (first | go_skip | go_guarded | go_step))
      go_region_held3 (fun w' => w'.cell? ⟨gr, k, none⟩ = some (ptr g) ∧ w'.cell? ⟨gl, k, none⟩ = some u)
        (first | exact keep2c k2.out hB.out | exact keep2c (below_drewN (Ext.refl _) 1) hB.out)
        ((go_at_call 28; refine (HC.out 1).mono ?_; rintro e x2 ⟨rfl, f2⟩; have k2 : Hid (Ext wr x2) := Lib.hid (Ext.trans (below_drewN (Ext.refl _) 1) f2); clear f2))
      repeat' (first | go_skip | go_guarded | go_step)
      go_roundg (n - (k + 1))
      case measure => omega
      case rel => exact ⟨k + 1, by go_num, by omega, Nat.le_refl _, Lib.hid (HI.out.trans k2.out)⟩
    · obtain rfl : k = n := by omega
      have d1 : decide (k < k) = false := by simp
      repeat' (first | go_skip | go_guarded | go_step)
      exact HQF.out _ _ _ _ _ _ _ _ _ _ _ _ _ _ _ _ _ _ _ HI.out

end Go.Proofs.Ytmpeniboccahdaa
