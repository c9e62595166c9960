/- NearEnds: the test in its loop, as a law of its own. -/
import Derived.Test.YtaehdkgmkjhmgaaZe
import Derived.Test.YtaehdkgmkjhmgaaYr
import Derived.Test.YtaehdkgmkjhmgaaYs
namespace Go.Proofs.Ytaehdkgmkjhmgaa
open Go.RowKit Go.QS
set_option linter.unusedVariables false

def lead : Code → Option Nat
  | .region id _ _ => some id
  | .seq a _ => lead a
  | _ => none
def findS (n : Nat) : Code → Option Code
  | .region id ops d => if id = n then some (.region id ops d) else none
  | .seq a b => if lead a = some n then some (.seq a b) else match findS n a with | some c => some c | none => findS n b
  | .cond _ a b => match findS n a with | some c => some c | none => findS n b
  | .block _ b => findS n b
  | .loop b => findS n b
  | .scope b => findS n b
  | _ => none
def findR (n : Nat) : Code → Option Code
  | .region id ops d => if id = n then some (.region id ops d) else none
  | .seq a b => match findR n a with | some c => some c | none => findR n b
  | .cond _ a b => match findR n a with | some c => some c | none => findR n b
  | .block _ b => findR n b
  | .loop b => findR n b
  | .scope b => findR n b
  | _ => none

set_option maxRecDepth 100000 in
set_option maxHeartbeats 2000000 in
theorem ends_r16 (wr : World) (g n C j db : Nat) (A : Option Addr) (X : List Pr) (T : RT) (q : Pr) (HT : Hid (Rise X ∧ (∀ p ∈ X, p.1.length ≤ 40) ∧ T.prs = X ∧ Kd 40 T.kids ∧ T.lab = [] ∧ T.prs.length ≤ 1000000 ∧ Rise T.prs)) (hjn : j < n) (hn : n ≤ 40)
    (HQ : Hid (X[j]? = some q ∧ wr.heap[db]? = some (.cells #[str q.1, str q.2] 29 (0, 0)) ∧ (∀ x, Ext wr x → RepO x (ptr g) T) ∧ Seg wr A (flat X))) (c : Code) (Q : Exit → Act → World → Prop) (t0 t1 t2 t3 t4 t7 t8 t9 t10 t11 t12 t13 t14 t15 t16 t17 t18 t22 t23 t24 t25 t26 t27 t28 t29 t30 t31 t32 t33 t34 t35 t36 t37 t38 t39 t40 t41 t42 t43 t44 t45 t46 t47 t48 t49 t50 t51 t52 t53 t54 t55 t56 t57 t58 t59 t60 t61 t62 t63 t64 t65 t66 t67 t68 t69 t70 t71 t72 t73 t74 t75 t76 t77 t78 t79 t80 t81 t82 t83 t84 t85 t86 t87 t88 t89 t90 t91 t92 t93 t94 t95 t96 t97 t98 t99 t100 t101 t102 t103 t104 t105 t106 t107 t108 t109 t110 t111 t112 t113 : Value)
    (hc : (Try.f11.body.bind (findR 16)) = some c)
    (hQ : ∀ (u97 u98 u99 u100 u101 u102 u103 u104 u105 u106 u107 u108 u109 u110 u111 : Value) (wx : World), Ext wr wx → Q .normal { tmps := List.toArray (t0 :: t1 :: t2 :: t3 :: t4 :: (ptr g) :: (.slice A n C) :: t7 :: t8 :: t9 :: t10 :: t11 :: t12 :: t13 :: t14 :: t15 :: t16 :: t17 :: t18 :: (.int .i64 j) :: (ptr db) :: (.bool true) :: t22 :: t23 :: t24 :: t25 :: t26 :: t27 :: t28 :: t29 :: t30 :: t31 :: t32 :: t33 :: t34 :: t35 :: t36 :: t37 :: t38 :: t39 :: t40 :: t41 :: t42 :: t43 :: t44 :: t45 :: t46 :: t47 :: t48 :: t49 :: t50 :: t51 :: t52 :: t53 :: t54 :: t55 :: t56 :: t57 :: t58 :: t59 :: t60 :: t61 :: t62 :: t63 :: t64 :: t65 :: t66 :: t67 :: t68 :: t69 :: t70 :: t71 :: t72 :: t73 :: t74 :: t75 :: t76 :: t77 :: t78 :: t79 :: t80 :: t81 :: t82 :: t83 :: t84 :: t85 :: t86 :: t87 :: t88 :: t89 :: t90 :: t91 :: t92 :: t93 :: t94 :: t95 :: t96 :: u97 :: u98 :: u99 :: u100 :: u101 :: u102 :: u103 :: u104 :: u105 :: u106 :: u107 :: u108 :: u109 :: u110 :: u111 :: (.bool false) :: t113 :: []), defers := [] } wx) :
    c.wp Try.prog Q { tmps := List.toArray (t0 :: t1 :: t2 :: t3 :: t4 :: (ptr g) :: (.slice A n C) :: t7 :: t8 :: t9 :: t10 :: t11 :: t12 :: t13 :: t14 :: t15 :: t16 :: t17 :: t18 :: (.int .i64 j) :: (ptr db) :: (.bool true) :: t22 :: t23 :: t24 :: t25 :: t26 :: t27 :: t28 :: t29 :: t30 :: t31 :: t32 :: t33 :: t34 :: t35 :: t36 :: t37 :: t38 :: t39 :: t40 :: t41 :: t42 :: t43 :: t44 :: t45 :: t46 :: t47 :: t48 :: t49 :: t50 :: t51 :: t52 :: t53 :: t54 :: t55 :: t56 :: t57 :: t58 :: t59 :: t60 :: t61 :: t62 :: t63 :: t64 :: t65 :: t66 :: t67 :: t68 :: t69 :: t70 :: t71 :: t72 :: t73 :: t74 :: t75 :: t76 :: t77 :: t78 :: t79 :: t80 :: t81 :: t82 :: t83 :: t84 :: t85 :: t86 :: t87 :: t88 :: t89 :: t90 :: t91 :: t92 :: t93 :: t94 :: t95 :: t96 :: t97 :: t98 :: t99 :: t100 :: t101 :: t102 :: t103 :: t104 :: t105 :: t106 :: t107 :: t108 :: t109 :: t110 :: t111 :: t112 :: t113 :: []), defers := [] } wr := by
  change some _ = some c at hc
  cases hc
  have HQF := Lib.hid hQ
  clear hQ
  obtain ⟨b, o, rfl, hq1, hq2⟩ := seg_pair HQ.out.2.2.2 HQ.out.1
  obtain ⟨d0, d1⟩ := bx_cells HQ.out.2.1
  have hi1 : (j : Int) < (n : Int) := by omega
  have hql := HT.out.2.1 q (List.mem_of_getElem? HQ.out.1)
  have hrk : rankL q.1 X = j := (rank_at HT.out.1 HQ.out.1).1
  have hrne : ((j : Int) != (j : Int)) = false := by simp
  have hdbl := heap_lt HQ.out.2.1
  have hbl : b < wr.heap.size := World.block_lt_of_cell? wr _ hq1
  have HC : Hid (∀ x, Ext wr x → (x.cell? ⟨db, 0, none⟩ = some (str q.1) ∧ x.cell? ⟨db, 1, none⟩ = some (str q.2)) ∧ (x.cell? ⟨b, o + j * 2, none⟩ = some (str q.1) ∧ x.cell? ⟨b, o + j * 2 + 1, none⟩ = some (str q.2))) := Lib.hid fun x hx => ⟨bx_cells (bx_ext HQ.out.2.1 hx), (hx.cell (p := ⟨b, o + j * 2, none⟩) hbl).trans hq1, (hx.cell (p := ⟨b, o + j * 2 + 1, none⟩) hbl).trans hq2⟩
  have HRK : Hid (∀ x, Ext wr x → Calls Try.prog 45 #[ptr g, str q.1] x fun e w' => e = .returned (.int .i64 j) ∧ Ext x w') := Lib.hid fun x hx => by
    have := rank_c x (ptr g) T 40 q.1 (HQ.out.2.2.1 x hx) HT.out.2.2.2.1 (by decide) (by omega) HT.out.2.2.2.2.2.1
    rw [HT.out.2.2.1, hrk] at this
    exact this
  have hEE : Ext wr wr := Ext.refl wr
  clear hrk
  go_region_held3 (fun w' => (w'.cell? ⟨db, 0, none⟩ = some (str q.1) ∧ w'.cell? ⟨db, 1, none⟩ = some (str q.2)) ∧ (w'.cell? ⟨b, o + j * 2, none⟩ = some (str q.1) ∧ w'.cell? ⟨b, o + j * 2 + 1, none⟩ = some (str q.2)))
    (first | exact HC.out _ hEE | exact HC.out _ hEE.drew | exact HC.out _ f1 | exact HC.out _ f1.drew | exact HC.out _ f2 | exact HC.out _ f2.drew)
    (first
      | (go_at_call 44; refine (same_c _ q.1 q.2 true).mono ?_; rintro e x1 ⟨rfl, g1⟩; have f1 : Ext wr x1 := (by first | exact Ext.trans hEE.drew g1 | exact g1))
      | (go_at_call 45; refine (HRK.out _ (by first | exact f1 | exact f1.drew)).mono ?_; rintro e x2 ⟨rfl, g2⟩; have f2 : Ext wr x2 := (by first | exact Ext.trans f1 g2 | exact Ext.trans f1.drew g2)))
  all_goals
    refine HQF.out _ _ _ _ _ _ _ _ _ _ _ _ _ _ _ _ ?_
    first | exact f2 | exact f2.drew

end Go.Proofs.Ytaehdkgmkjhmgaa
