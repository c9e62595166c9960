/- SpanPrefixes: the region of its first test, as a law of its own. -/
import Derived.Test.YtaehdkgmkjhmgaaSp
namespace Go.Proofs.Ytaehdkgmkjhmgaa
open Go.RowKit Go.QS
set_option linter.unusedVariables false

def findR (n : Nat) : Code → Option Code
  | .region id ops d => if id = n then some (.region id ops d) else none
  | .seq a b => match findR n a with | some c => some c | none => findR n b
  | .cond _ a b => match findR n a with | some c => some c | none => findR n b
  | .block _ b => findR n b
  | .loop b => findR n b
  | .scope b => findR n b
  | _ => none

set_option maxRecDepth 100000 in
set_option maxHeartbeats 2000000 in
theorem sp6 (w w6 : World) (g g5 : Nat) (L X : List Pr) (v2 : Value) (zf zt p k : List UInt8) (zo : Bool) (c : Code) (Q : Exit → Act → World → Prop) (t0 t3 t4 t5 t6 t10 t11 t12 t13 t14 t15 t16 t17 t18 t19 t20 t21 t22 t23 t24 t25 t26 t27 t28 t29 t30 t31 t32 t33 t34 t35 t36 t37 t38 t39 t40 t41 t42 t43 t44 t45 t46 t47 t48 t49 t50 t51 t52 t53 t54 t55 t56 t57 t58 t59 t60 t61 t62 t63 t64 t65 t66 t67 t68 t69 t70 : Value)
    (hLl : L.length ≤ 40) (hpl : p.length ≤ 40) (hkl : k.length ≤ 40) (HX : Hid (X = rsort L)) (HLK : Hid (∀ p ∈ L, p.1.length ≤ 40)) (HZ : Hid ((⟨zf, zt, zo⟩ : Sp) = Sp.pfx p))
    (H6 : Hid (Ext w w6 ∧ Rep NT w6 g (treeOf L) ∧ PS w6 v2 X ∧ w6.heap[g5]? = some (.cells #[str zf, str zt, .bool zo] 32 (0, 0))))
    (hc : (Try.f3.body.bind (findR 6)) = some c)
    (hQ : ∀ (vv u30 u31 u32 u33 u34 u35 u36 u37 u38 u39 u40 u41 u42 u43 u44 u45 u46 u47 u48 u49 : Value) (wx : World), (vv = .bool false ∧ Ext w wx ∧ Rep NT wx g (treeOf L) ∧ PS wx v2 X ∧ wx.heap[g5]? = some (.cells #[str zf, str zt, .bool zo] 32 (0, 0))) → Q .normal { tmps := #[t0, str p, str k, t3, t4, t5, t6, ptr g, v2, ptr g5, t10, t11, t12, t13, t14, t15, t16, t17, t18, t19, t20, t21, t22, t23, t24, t25, t26, t27, t28, t29, u30, u31, u32, u33, u34, u35, u36, u37, u38, u39, u40, u41, u42, u43, u44, u45, u46, u47, u48, u49, vv, t51, t52, t53, t54, t55, t56, t57, t58, t59, t60, t61, t62, t63, t64, t65, t66, t67, t68, t69, t70], defers := [] } wx) :
    c.wp Try.prog Q { tmps := #[t0, str p, str k, t3, t4, t5, t6, ptr g, v2, ptr g5, t10, t11, t12, t13, t14, t15, t16, t17, t18, t19, t20, t21, t22, t23, t24, t25, t26, t27, t28, t29, t30, t31, t32, t33, t34, t35, t36, t37, t38, t39, t40, t41, t42, t43, t44, t45, t46, t47, t48, t49, t50, t51, t52, t53, t54, t55, t56, t57, t58, t59, t60, t61, t62, t63, t64, t65, t66, t67, t68, t69, t70], defers := [] } w6 := by
  change some _ = some c at hc
  cases hc
  have HQ := Lib.hid hQ
  clear hQ
  obtain ⟨sa, hsa⟩ : ∃ sa : Sp, sa = ⟨[], [], true⟩ := ⟨_, rfl⟩
  have HALL : Hid (∀ W, Calls Try.prog 21 #[] W fun e w' => e = .returned sa.v ∧ Ext W w') := Lib.hid (by rw [hsa]; exact sall_c)
  have HAH : Hid (∀ x, sa.has x = true) := Lib.hid (by rw [hsa]; exact all_has)
  have HAF : Hid (sa.f.length ≤ 1000) := Lib.hid (by rw [hsa]; simp)
  obtain ⟨fa, ta, oa⟩ := sa
  clear hsa
  obtain ⟨e0, e1, e2⟩ := box3 H6.out.2.2.2
  repeat' (first | go_at_call 19 | go_skip | go_guarded | go_step)
  refine (shas_c _ ⟨zf, zt, zo⟩ k).mono ?_
  rintro e w6 ⟨rfl, f6⟩
  replace H6 := Lib.hid (And.intro (Ext.trans H6.out.1 f6) (And.intro (H6.out.2.1.ext f6) (And.intro (H6.out.2.2.1.below f6) (box_ext H6.out.2.2.2 f6))))
  clear f6 e0 e1 e2
  have hb1 : (Sp.mk zf zt zo).has k = begins k p := by rw [HZ.out]; exact pfx_has p k
  rw [hb1]
  clear hb1
  obtain ⟨bb, hbb⟩ : ∃ bb, bb = begins k p := ⟨_, rfl⟩
  have HBB := Lib.hid hbb
  rw [← hbb]
  clear hbb
  go_simp
  repeat' (first | go_at_call 20 | go_skip | go_guarded | go_step)
  refine (rbegins_c _ k p (by omega) (by omega)).mono ?_
  rintro e w7 ⟨rfl, f7⟩
  rw [← HBB.out]
  replace H6 := Lib.hid (And.intro (Ext.trans H6.out.1 f7) (And.intro (H6.out.2.1.ext f7) (And.intro (H6.out.2.2.1.below f7) (box_ext H6.out.2.2.2 f7))))
  clear f7
  have hnb : (bb != bb) = false := by simp
  go_simp
  repeat' (first | go_at_call 21 | go_skip | go_guarded | go_step)
  refine (HALL.out _).mono ?_
  rintro e w8 ⟨rfl, f8⟩
  replace H6 := Lib.hid (And.intro (Ext.trans H6.out.1 f8) (And.intro (H6.out.2.1.ext f8) (And.intro (H6.out.2.2.1.below f8) (box_ext H6.out.2.2.2 f8))))
  clear f8
  go_simp
  repeat' (first | go_at_call 19 | go_skip | go_guarded | go_step)
  refine (shas_c _ ⟨fa, ta, oa⟩ k).mono ?_
  rintro e w9 ⟨rfl, f9⟩
  rw [HAH.out]
  replace H6 := Lib.hid (And.intro (Ext.trans H6.out.1 f9) (And.intro (H6.out.2.1.ext f9) (And.intro (H6.out.2.2.1.below f9) (box_ext H6.out.2.2.2 f9))))
  clear f9
  go_simp
  repeat' (first | go_at_call 21 | go_skip | go_guarded | go_step)
  refine (HALL.out _).mono ?_
  rintro e wA ⟨rfl, fA⟩
  replace H6 := Lib.hid (And.intro (Ext.trans H6.out.1 fA) (And.intro (H6.out.2.1.ext fA) (And.intro (H6.out.2.2.1.below fA) (box_ext H6.out.2.2.2 fA))))
  clear fA
  go_simp
  repeat' (first | go_at_call 23 | go_skip | go_guarded | go_step)
  refine (new_c _ g (treeOf L) ⟨fa, ta, oa⟩ false H6.out.2.1).mono ?_
  rintro e wB ⟨cB, VB, rfl, hCB⟩
  have HCB := Lib.hid hCB
  clear hCB
  go_simp
  repeat' (first | go_at_call 22 | go_skip | go_guarded | go_step)
  refine (goes_c _ wB cB VB _ [(treeOf L, [], false)] ⟨fa, ta, oa⟩ false _ X HCB.out (root_good L HLK.out) (root_wt L HLK.out hLl) HAF.out H6.out.2.2.1).mono ?_
  rintro e wC ⟨rfl, fC⟩
  have hgo : decide (com ⟨fa, ta, oa⟩ false [(treeOf L, [], false)] = X) = true := by
    rw [root_com L HLK.out, ← HX.out]
    simp only [Bool.false_eq_true, if_false]
    rw [decide_eq_true_eq, List.filter_eq_self]
    intro q _
    exact HAH.out q.1
  rw [hgo]
  replace H6 := Lib.hid (And.intro (Ext.trans H6.out.1 fC) (And.intro (H6.out.2.1.ext fC) (And.intro (H6.out.2.2.1.below fC) (box_ext H6.out.2.2.2 fC))))
  clear fC hgo
  go_simp
  repeat' (first | go_skip | go_guarded | go_step)
  refine HQ.out _ _ _ _ _ _ _ _ _ _ _ _ _ _ _ _ _ _ _ _ _ _ ⟨?_, H6.out⟩
  simp

end Go.Proofs.Ytaehdkgmkjhmgaa
