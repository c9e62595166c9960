/- NodeNil: the great region, a law of its own. -/
import Derived.Test.YtlgnokhfioglaaaOa
import Derived.Test.YtlgnokhfioglaaaFr
import Derived.Deep.RegionHeld3
namespace Go.Proofs.Ytlgnokhfioglaaa
open Go.RowKit Go.QS Go.QS.Nk
set_option linter.unusedVariables false

theorem nlen0_c (w : World) (g : Nat) (h : In ND w g (sl0 Nat)) : Calls Try.prog 20 #[ptr g] w fun e w' => e = .returned (.int .i64 0) ∧ Ext w w' := by
  obtain ⟨_, ow, pv, kv, nd⟩ := h
  obtain ⟨A1, c1, rfl, _⟩ := nd.pairs
  obtain ⟨A2, c2, rfl, _⟩ := nd.kids
  have hc := nd.node.cells
  have e1 : (prsOf (sl0 Nat)).length = 0 := by rw [prs_sl0]; rfl
  have e2 : (kdsOf (sl0 Nat)).length = 0 := by rw [kds_sl0]; rfl
  rw [e1, e2] at hc
  exact nlen_c w g 0 0 c1 c2 A1 A2 hc.2.2.1 hc.2.2.2.1 (by decide)

set_option maxRecDepth 100000 in
set_option maxHeartbeats 2000000 in
theorem nn_6 (wr : World) (gp : Nat) (i : Int) (p : Pr) (H : Hid (wr.cell? ⟨gp, 0, none⟩ = some (str p.1) ∧ wr.cell? ⟨gp, 1, none⟩ = some (str p.2))) (c : Code) (Q : Exit → Act → World → Prop) (t1 t2 t4 t6 t8 t10 t11 t12 t13 t14 t15 t16 t17 t18 t19 t20 t21 t22 t23 t24 t25 t26 t27 t28 t29 t30 t31 t32 t33 t34 t35 t36 t37 t38 t39 t40 t41 t42 t43 t44 t45 t46 t47 t48 t49 t50 t51 t52 t53 t54 t55 t56 t57 t58 t59 t60 t61 t62 t63 t64 t65 t66 t67 t68 t69 t70 t71 t72 t73 t74 t75 t76 t77 t78 t79 t80 t81 t82 t83 t84 t85 t86 t87 t88 t89 t90 t91 t92 t93 t94 t95 t96 t97 t98 t99 t100 t101 t102 t103 t104 t105 t106 t107 t108 t109 t110 t111 t112 t113 t114 t115 t116 t117 t118 t119 t120 : Value)
    (hc : (Try.f4.body.bind (findR 6)) = some c)
    (hQ : ∀ (u25 u26 u27 u28 : Value) (g3 : Nat) (wx : World), Ext wr wx → In ND wx g3 (sl0 Nat) → Q .normal { tmps := List.toArray ((.int .i64 i) :: t1 :: t2 :: (ptr gp) :: t4 :: nil0 :: t6 :: (.bool false) :: t8 :: (.bool false) :: (ptr g3) :: t11 :: t12 :: t13 :: t14 :: t15 :: t16 :: t17 :: t18 :: t19 :: t20 :: t21 :: t22 :: t23 :: t24 :: u25 :: u26 :: u27 :: u28 :: t29 :: t30 :: t31 :: t32 :: t33 :: t34 :: t35 :: t36 :: t37 :: t38 :: t39 :: t40 :: t41 :: t42 :: t43 :: t44 :: t45 :: t46 :: t47 :: t48 :: t49 :: t50 :: t51 :: t52 :: t53 :: t54 :: t55 :: t56 :: t57 :: t58 :: t59 :: t60 :: t61 :: t62 :: t63 :: t64 :: t65 :: t66 :: t67 :: t68 :: t69 :: t70 :: t71 :: t72 :: t73 :: t74 :: t75 :: t76 :: t77 :: t78 :: t79 :: t80 :: t81 :: t82 :: t83 :: t84 :: t85 :: t86 :: t87 :: t88 :: t89 :: t90 :: t91 :: t92 :: t93 :: t94 :: t95 :: t96 :: t97 :: t98 :: t99 :: t100 :: t101 :: t102 :: t103 :: t104 :: t105 :: t106 :: t107 :: t108 :: t109 :: t110 :: t111 :: t112 :: t113 :: t114 :: t115 :: t116 :: t117 :: t118 :: t119 :: t120 :: []), defers := [] } wx) :
    c.wp Try.prog Q { tmps := List.toArray ((.int .i64 i) :: t1 :: t2 :: (ptr gp) :: t4 :: nil0 :: t6 :: (.bool false) :: t8 :: (.bool false) :: t10 :: t11 :: t12 :: t13 :: t14 :: t15 :: t16 :: t17 :: t18 :: t19 :: t20 :: t21 :: t22 :: t23 :: t24 :: t25 :: t26 :: t27 :: t28 :: t29 :: t30 :: t31 :: t32 :: t33 :: t34 :: t35 :: t36 :: t37 :: t38 :: t39 :: t40 :: t41 :: t42 :: t43 :: t44 :: t45 :: t46 :: t47 :: t48 :: t49 :: t50 :: t51 :: t52 :: t53 :: t54 :: t55 :: t56 :: t57 :: t58 :: t59 :: t60 :: t61 :: t62 :: t63 :: t64 :: t65 :: t66 :: t67 :: t68 :: t69 :: t70 :: t71 :: t72 :: t73 :: t74 :: t75 :: t76 :: t77 :: t78 :: t79 :: t80 :: t81 :: t82 :: t83 :: t84 :: t85 :: t86 :: t87 :: t88 :: t89 :: t90 :: t91 :: t92 :: t93 :: t94 :: t95 :: t96 :: t97 :: t98 :: t99 :: t100 :: t101 :: t102 :: t103 :: t104 :: t105 :: t106 :: t107 :: t108 :: t109 :: t110 :: t111 :: t112 :: t113 :: t114 :: t115 :: t116 :: t117 :: t118 :: t119 :: t120 :: []), defers := [] } wr := by
  change some _ = some c at hc
  cases hc
  have HQF := Lib.hid hQ
  clear hQ
  have SP : Hid (∀ w1 g1, In ND w1 g1 (sl0 Nat) → Calls Try.prog 18 #[ptr g1, nil0, .int .i64 5, .agg #[str p.1, str p.2]] w1 fun e w' => ∃ c, e = .returned (ptr c) ∧ In ND w' c ((sl0 Nat).set 5 (.pr p)) ∧ Ext w1 w') := Lib.hid (fun w1 g1 h => by
    refine (setPair_c w1 g1 5 (sl0 Nat) p h (by decide)).mono ?_
    rintro e w' ⟨c, h1, h2, h3, _⟩
    exact ⟨c, h1, h2, h3⟩)
  have SK : Hid (∀ w1 g1, In ND w1 g1 ((sl0 Nat).set 5 (.pr p)) → Calls Try.prog 25 #[ptr g1, nil0, .int .i64 5, nil0] w1 fun e w' => ∃ c, e = .returned (ptr c) ∧ In ND w' c (sl0 Nat) ∧ Ext w1 w') := Lib.hid (fun w1 g1 h => by
    refine setKid_nil w1 (ptr g1) nil0 5 (Lib.hid ?_)
    refine (clear_c w1 g1 5 _ h (by decide)).mono ?_
    rintro e w' ⟨c, rfl, h2, h3, _⟩
    rw [show ((sl0 Nat).set 5 (.pr p)).set 5 .no = sl0 Nat from rfl] at h2
    exact ⟨_, rfl, c, rfl, h2, h3⟩)
  have kc : Hid (Ext wr (wr.drewN 1)) := Lib.hid (below_drewN (Ext.refl _) 1)
  obtain ⟨q1, q2⟩ := H.out
  go_region_held3 (fun w' => w'.cell? ⟨gp, 0, none⟩ = some (str p.1) ∧ w'.cell? ⟨gp, 1, none⟩ = some (str p.2))
    (first | exact keep2n kc.out H.out | exact keep2n (below_drewN (Ext.refl _) 1) H.out)
    (first
      | (go_at_call 17; ((with_reducible refine (inner0_c _).mono ?_); rintro e x1 ⟨g1, rfl, n1, f1, s1⟩; have N1 := Lib.hid n1; replace kc := Lib.hid (Ext.trans kc.out f1); clear n1 f1 s1))
      | (go_at_call 18; ((with_reducible refine (SP.out _ _ N1.out).mono ?_); rintro e x2 ⟨g2, rfl, n2, f2⟩; have N2 := Lib.hid n2; replace kc := Lib.hid (Ext.trans kc.out f2); clear n2 f2))
      | (go_at_call 25; ((with_reducible refine (SK.out _ _ N2.out).mono ?_); rintro e x3 ⟨g3, rfl, n3, f3⟩; have N3 := Lib.hid n3; replace kc := Lib.hid (Ext.trans kc.out f3); clear n3 f3)))
  repeat' (first | go_skip | go_guarded | go_step)
  exact HQF.out _ _ _ _ g3 _ kc.out N3.out

def opsOf : Code → Option (Array Oper)
  | .region _ ops _ => some ops
  | _ => none
def dropO : Nat → List Oper → Option (List Oper)
  | 0, l => some l
  | n + 1, _ :: l => dropO n l
  | _ + 1, [] => none
set_option maxRecDepth 100000 in
set_option maxHeartbeats 2000000 in
theorem nn_7c (wr : World) (gp : Nat) (i : Int) (p : Pr) (g3 : Nat) (N3 : Hid (In ND wr g3 (sl0 Nat))) (H : Hid (wr.cell? ⟨gp, 0, none⟩ = some (str p.1) ∧ wr.cell? ⟨gp, 1, none⟩ = some (str p.2))) (ops : Array Oper) (l : List Oper) (Q : Exit → Act → World → Prop) (t1 t2 t4 t6 t8 t11 t12 t13 t14 t15 t16 t17 t18 t19 t20 t21 t22 t23 t24 t25 t26 t27 t28 t29 t30 t31 t32 t33 t34 t35 t36 t37 t38 t39 t40 t41 t42 t43 t44 t45 t46 t47 t48 t49 t50 t51 t52 t53 t54 t55 t56 t57 t58 t59 t60 t61 t62 t63 t64 t65 t66 t67 t68 t69 t70 t71 t72 t73 t74 t75 t76 t77 t78 t79 t80 t81 t82 t83 t84 t85 t86 t87 t88 t89 t90 t91 t92 t93 t95 t96 t98 t99 t100 t101 t102 t103 t104 t105 t106 t107 t108 t109 t110 t111 t112 t113 t114 t115 t116 t117 t118 t119 t120 : Value)
    (ho : ((Try.f4.body.bind (findR 7)).bind opsOf) = some ops) (hl : (((Try.f4.body.bind (findR 7)).bind opsOf).bind fun o => dropO 69 o.toList) = some l)
    (hQ : ∀ (u98 u99 u100 u101 u102 u103 u104 u105 u106 u107 u108 u109 u110 u111 u112 u113 u114 u115 u116 u117 u118 u119 : Value) (wx : World), Ext wr wx → Q .normal { tmps := List.toArray ((.int .i64 i) :: t1 :: t2 :: (ptr gp) :: (.bool true) :: nil0 :: t6 :: (.bool false) :: t8 :: (.bool false) :: (ptr g3) :: t11 :: t12 :: t13 :: t14 :: t15 :: t16 :: t17 :: t18 :: t19 :: t20 :: t21 :: t22 :: t23 :: t24 :: t25 :: t26 :: t27 :: t28 :: t29 :: t30 :: t31 :: t32 :: t33 :: t34 :: t35 :: t36 :: t37 :: t38 :: t39 :: t40 :: t41 :: t42 :: t43 :: t44 :: t45 :: t46 :: t47 :: t48 :: t49 :: t50 :: t51 :: t52 :: t53 :: t54 :: t55 :: t56 :: t57 :: t58 :: t59 :: t60 :: t61 :: t62 :: t63 :: t64 :: t65 :: t66 :: t67 :: t68 :: t69 :: t70 :: t71 :: t72 :: t73 :: t74 :: t75 :: t76 :: t77 :: t78 :: t79 :: t80 :: t81 :: t82 :: t83 :: t84 :: t85 :: t86 :: t87 :: t88 :: t89 :: t90 :: t91 :: t92 :: t93 :: (.bool true) :: t95 :: t96 :: nil0 :: u98 :: u99 :: u100 :: u101 :: u102 :: u103 :: u104 :: u105 :: u106 :: u107 :: u108 :: u109 :: u110 :: u111 :: u112 :: u113 :: u114 :: u115 :: u116 :: u117 :: u118 :: u119 :: (.bool true) :: []), defers := [] } wx) :
    wpList Try.prog ops Q l { tmps := List.toArray ((.int .i64 i) :: t1 :: t2 :: (ptr gp) :: t4 :: nil0 :: t6 :: (.bool false) :: t8 :: (.bool false) :: (ptr g3) :: t11 :: t12 :: t13 :: t14 :: t15 :: t16 :: t17 :: t18 :: t19 :: t20 :: t21 :: t22 :: t23 :: t24 :: t25 :: t26 :: t27 :: t28 :: t29 :: t30 :: t31 :: t32 :: t33 :: t34 :: t35 :: t36 :: t37 :: t38 :: t39 :: t40 :: t41 :: t42 :: t43 :: t44 :: t45 :: t46 :: t47 :: t48 :: t49 :: t50 :: t51 :: t52 :: t53 :: t54 :: t55 :: t56 :: t57 :: t58 :: t59 :: t60 :: t61 :: t62 :: t63 :: t64 :: t65 :: t66 :: t67 :: t68 :: t69 :: t70 :: t71 :: t72 :: t73 :: t74 :: t75 :: t76 :: t77 :: t78 :: t79 :: t80 :: t81 :: t82 :: t83 :: t84 :: t85 :: t86 :: t87 :: t88 :: t89 :: t90 :: t91 :: t92 :: t93 :: (.bool true) :: t95 :: t96 :: nil0 :: t98 :: t99 :: t100 :: t101 :: t102 :: t103 :: t104 :: t105 :: t106 :: t107 :: t108 :: t109 :: t110 :: t111 :: t112 :: t113 :: t114 :: t115 :: t116 :: t117 :: t118 :: t119 :: t120 :: []), defers := [] } wr := by
  change some _ = some ops at ho
  cases ho
  change some _ = some l at hl
  cases hl
  have HQF := Lib.hid hQ
  clear hQ
  have LN : Hid (∀ w1 g1, In ND w1 g1 (sl0 Nat) → Calls Try.prog 20 #[ptr g1] w1 fun e w' => e = .returned (.int .i64 0) ∧ Ext w1 w') := Lib.hid (fun w1 g1 h => nlen0_c w1 g1 h)
  have OW : Hid (∀ w1 g1, Calls Try.prog 22 #[ptr g1, nil0] w1 fun e w' => e = .returned (.bool false) ∧ w1 = w') := Lib.hid (fun w1 g1 => owned_nil w1 (ptr g1) (Or.inr ⟨g1, rfl⟩))
  have kc : Hid (Ext wr wr) := Lib.hid (Ext.refl _)
  obtain ⟨q1, q2⟩ := H.out
  repeat' (first | go_at_call 32 | go_skip | go_guarded | go_step)
  (with_reducible refine (ndrop_nil _ _ _).mono ?_)
  rintro e xc ⟨rfl, fc⟩
  replace kc := Lib.hid (Ext.trans kc.out fc)
  clear fc q1 q2
  obtain ⟨q1, q2⟩ := keep2n kc.out H.out
  go_simp
  repeat' (first | go_at_call 20 | go_skip | go_guarded | go_step)
  (with_reducible refine (LN.out _ _ (N3.out.ext kc.out)).mono ?_)
  rintro e xc ⟨rfl, fc⟩
  replace kc := Lib.hid (Ext.trans kc.out fc)
  clear fc q1 q2
  obtain ⟨q1, q2⟩ := keep2n kc.out H.out
  go_simp
  repeat' (first | go_at_call 22 | go_skip | go_guarded | go_step)
  (with_reducible refine (OW.out _ _).mono ?_)
  rintro e xc ⟨rfl, rfl⟩
  go_simp
  repeat' (first | go_skip | go_guarded | go_step)
  exact HQF.out _ _ _ _ _ _ _ _ _ _ _ _ _ _ _ _ _ _ _ _ _ _ _ kc.out

end Go.Proofs.Ytlgnokhfioglaaa
