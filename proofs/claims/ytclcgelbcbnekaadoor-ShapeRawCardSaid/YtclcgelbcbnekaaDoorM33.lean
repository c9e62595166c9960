/- Texts joined. -/
import Derived.Test.YtclcgelbcbnekaaDoorM32
import Derived.BigRegion
set_option linter.unusedVariables false
set_option linter.unusedSimpArgs false
/- The document's trie: a pair is put down: a law of its own. -/
namespace Go.Proofs.YtclcgelbcbnekaaDoor
open Go.RowKit Go.QS Go.QS.Nk
set_option linter.unusedVariables false
variable [Zero (Nat → Prop)]
set_option linter.unusedSectionVars false

theorem wpAnyT_one {P : Program} {ops : Array Oper} {Q : Exit → Act → World → Prop} {md : Region.Mode} {S : World → Prop} {n i fuel : Nat} {listed : Array Bool} {a : Act} {w : World} (hr : Region.ready md ops listed = [i])
    (h : wpOp P ops Q i (fun a' w' => (n ≤ i ∨ S w') ∧ wpAnyT P md ops Q S n fuel (listed.setIfInBounds i true) a' w') a w) : wpAnyT P md ops Q S n (fuel + 1) listed a w :=
  wpAnyT_all hr (by simp) (fun j hj => by cases List.mem_singleton.1 hj; exact h)
theorem cell_at {w : World} {g j : Nat} {A : Array Value} {T : TypeId} {u : Value} (h : w.heap[g]? = some (.cells A T (0, 0))) (hu : A[j]? = some u) : w.cell? ⟨g, j, none⟩ = some u := by
  simp [World.cell?, h, hu]
set_option maxRecDepth 100000 in
set_option maxHeartbeats 2000000 in
theorem of_16 (wr : World) (q k bo oo c9 : Nat) (A : Array Value) (p : Pr) (z0 z1 z2 : Value) (hk : k < 32) (H : Hid (wr.heap[q]? = some (.cells A TT (0, 0)) ∧ A[2 + k]? = some z0 ∧ A[34 + k * 2]? = some z1 ∧ A[34 + k * 2 + 1]? = some z2 ∧ wr.cell? ⟨bo, oo, none⟩ = some (str p.1) ∧ wr.cell? ⟨bo, oo + 1, none⟩ = some (str p.2) ∧ bo ≠ q)) (hcc : 1 ≤ c9) (c : Code) (Q : Exit → Act → World → Prop) (t0 t1 t2 t3 t4 t5 t6 t10 t11 t12 t13 t14 t15 t16 t17 t18 t19 t20 t21 t22 t23 t24 t25 t26 t27 t28 t29 t30 t31 t32 t33 t34 t35 t36 t37 t38 t39 t40 t41 t42 t43 t44 t45 t46 t47 t48 t49 t50 t51 t52 t53 t54 t55 t56 t57 t58 t59 t60 t61 t62 t63 t64 t65 t66 t67 t68 t69 t70 t71 t72 t73 t74 t75 t76 t77 t78 t79 t80 t81 t82 t83 t84 t85 : Value)
    (hc : (Tryd.f38.body.bind (findR 16)) = some c)
    (hQ : ∀ (u54 u55 u56 u57 u58 u59 u60 u61 u62 u63 u64 u65 u66 : Value) (wx : World), wx.heap[q]? = some (.cells (((A.setIfInBounds (2 + k) (.int .i64 1)).setIfInBounds (34 + k * 2) (str p.1)).setIfInBounds (34 + k * 2 + 1) (str p.2)) TT (0, 0)) ∧ Only (fun k => k = q) wr wx → Q .normal { tmps := List.toArray (t0 :: t1 :: t2 :: t3 :: t4 :: t5 :: t6 :: (ptr q) :: (.int .i64 k) :: (.slice (some ⟨bo, oo, none⟩) 1 c9) :: t10 :: t11 :: t12 :: t13 :: t14 :: t15 :: t16 :: t17 :: t18 :: t19 :: t20 :: t21 :: t22 :: t23 :: t24 :: t25 :: t26 :: t27 :: t28 :: t29 :: t30 :: t31 :: t32 :: t33 :: t34 :: t35 :: t36 :: t37 :: t38 :: t39 :: t40 :: t41 :: t42 :: t43 :: t44 :: t45 :: t46 :: t47 :: t48 :: t49 :: t50 :: t51 :: t52 :: t53 :: u54 :: u55 :: u56 :: u57 :: u58 :: u59 :: u60 :: u61 :: u62 :: u63 :: u64 :: u65 :: u66 :: t67 :: t68 :: t69 :: t70 :: t71 :: t72 :: t73 :: t74 :: t75 :: t76 :: t77 :: t78 :: t79 :: t80 :: t81 :: t82 :: t83 :: t84 :: t85 :: []), defers := [] } wx) :
    c.wp Tryd.prog Q { tmps := List.toArray (t0 :: t1 :: t2 :: t3 :: t4 :: t5 :: t6 :: (ptr q) :: (.int .i64 k) :: (.slice (some ⟨bo, oo, none⟩) 1 c9) :: t10 :: t11 :: t12 :: t13 :: t14 :: t15 :: t16 :: t17 :: t18 :: t19 :: t20 :: t21 :: t22 :: t23 :: t24 :: t25 :: t26 :: t27 :: t28 :: t29 :: t30 :: t31 :: t32 :: t33 :: t34 :: t35 :: t36 :: t37 :: t38 :: t39 :: t40 :: t41 :: t42 :: t43 :: t44 :: t45 :: t46 :: t47 :: t48 :: t49 :: t50 :: t51 :: t52 :: t53 :: t54 :: t55 :: t56 :: t57 :: t58 :: t59 :: t60 :: t61 :: t62 :: t63 :: t64 :: t65 :: t66 :: t67 :: t68 :: t69 :: t70 :: t71 :: t72 :: t73 :: t74 :: t75 :: t76 :: t77 :: t78 :: t79 :: t80 :: t81 :: t82 :: t83 :: t84 :: t85 :: []), defers := [] } wr := by
  change some _ = some c at hc
  cases hc
  have HQF := Lib.hid hQ
  clear hQ
  have hc1 : (k : Int) < 32 := by omega
  have hc0 : (0 : Int) ≤ (k : Int) := by omega
  obtain ⟨hq, a0, a1, a2, o0, o1, hne⟩ := H.out
  have c0 := cell_at hq a0
  have c1 := cell_at hq a1
  have c2 := cell_at hq a2
  have cf : ∀ j, wr.frozen? ⟨q, j, none⟩ = false := fun j => by simp [World.frozen?, hq]
  clear hq a0 a1 a2 hne
  refine wp_region_noPanic ?_
  refine wp_region_T (n := 15) (S := (fun w' : World => w'.cell? ⟨bo, oo, none⟩ = some (str p.1) ∧ w'.cell? ⟨bo, oo + 1, none⟩ = some (str p.2))) (by kernel_rfl) ?_
  change wpAnyT _ _ _ _ _ _ 15 _ _ wr.drew
  have hH : (fun w' : World => w'.cell? ⟨bo, oo, none⟩ = some (str p.1) ∧ w'.cell? ⟨bo, oo + 1, none⟩ = some (str p.2)) wr.drew := ⟨o0, o1⟩
  refine wpAnyT_take (i := 0) (v := ?_) rfl (by kernel_rfl) (by kernel_rfl) (by kernel_rfl) (by kernel_rfl) (fun _ _ _ h => h) (Or.inl ⟨by rfl, ?_⟩) hH ?_
  rotate_left
  · (intro w hSw; (try dsimp only at hSw); obtain ⟨s0, s1⟩ := hSw; go_simp; try with_reducible rfl)
  try simp only [Act.put, List.setIfInBounds_toArray, List.set_cons_zero, List.set_cons_succ]
  refine wpAnyT_take (i := 1) (v := ?_) rfl (by kernel_rfl) (by kernel_rfl) (by kernel_rfl) (by kernel_rfl) (fun _ _ _ h => h) (Or.inl ⟨by rfl, ?_⟩) hH ?_
  rotate_left
  · (intro w hSw; (try dsimp only at hSw); obtain ⟨s0, s1⟩ := hSw; go_simp; try with_reducible rfl)
  try simp only [Act.put, List.setIfInBounds_toArray, List.set_cons_zero, List.set_cons_succ]
  refine wpAnyT_take (i := 2) (v := ?_) rfl (by kernel_rfl) (by kernel_rfl) (by kernel_rfl) (by kernel_rfl) (fun _ _ _ h => h) (Or.inl ⟨by rfl, ?_⟩) hH ?_
  rotate_left
  · (intro w hSw; (try dsimp only at hSw); obtain ⟨s0, s1⟩ := hSw; go_simp; try with_reducible rfl)
  try simp only [Act.put, List.setIfInBounds_toArray, List.set_cons_zero, List.set_cons_succ]
  refine wpAnyT_take (i := 3) (v := ?_) rfl (by kernel_rfl) (by kernel_rfl) (by kernel_rfl) (by kernel_rfl) (fun _ _ _ h => h) (Or.inl ⟨by rfl, ?_⟩) hH ?_
  rotate_left
  · (intro w hSw; (try dsimp only at hSw); obtain ⟨s0, s1⟩ := hSw; go_simp; try with_reducible rfl)
  try simp only [Act.put, List.setIfInBounds_toArray, List.set_cons_zero, List.set_cons_succ]
  refine wpAnyT_take (i := 4) (v := ?_) rfl (by kernel_rfl) (by kernel_rfl) (by kernel_rfl) (by kernel_rfl) (fun _ _ _ h => h) (Or.inl ⟨by rfl, ?_⟩) hH ?_
  rotate_left
  · (intro w hSw; (try dsimp only at hSw); obtain ⟨s0, s1⟩ := hSw; go_simp; try with_reducible rfl)
  try simp only [Act.put, List.setIfInBounds_toArray, List.set_cons_zero, List.set_cons_succ]
  refine wpAnyT_take (i := 5) (v := ?_) rfl (by kernel_rfl) (by kernel_rfl) (by kernel_rfl) (by kernel_rfl) (fun _ _ _ h => h) (Or.inl ⟨by rfl, ?_⟩) hH ?_
  rotate_left
  · (intro w hSw; (try dsimp only at hSw); obtain ⟨s0, s1⟩ := hSw; go_simp; try with_reducible rfl)
  try simp only [Act.put, List.setIfInBounds_toArray, List.set_cons_zero, List.set_cons_succ]
  refine wpAnyT_take (i := 6) (v := ?_) rfl (by kernel_rfl) (by kernel_rfl) (by kernel_rfl) (by kernel_rfl) (fun _ _ _ h => h) (Or.inl ⟨by rfl, ?_⟩) hH ?_
  rotate_left
  · (intro w hSw; (try dsimp only at hSw); obtain ⟨s0, s1⟩ := hSw; go_simp; try with_reducible rfl)
  try simp only [Act.put, List.setIfInBounds_toArray, List.set_cons_zero, List.set_cons_succ]
  refine wpAnyT_take (i := 7) (v := ?_) rfl (by kernel_rfl) (by kernel_rfl) (by kernel_rfl) (by kernel_rfl) (fun _ _ _ h => h) (Or.inl ⟨by rfl, ?_⟩) hH ?_
  rotate_left
  · (intro w hSw; (try dsimp only at hSw); obtain ⟨s0, s1⟩ := hSw; go_simp; try with_reducible rfl)
  try simp only [Act.put, List.setIfInBounds_toArray, List.set_cons_zero, List.set_cons_succ]
  refine wpAnyT_take (i := 8) (v := ?_) rfl (by kernel_rfl) (by kernel_rfl) (by kernel_rfl) (by kernel_rfl) (fun _ _ _ h => h) (Or.inl ⟨by rfl, ?_⟩) hH ?_
  rotate_left
  · (intro w hSw; (try dsimp only at hSw); obtain ⟨s0, s1⟩ := hSw; go_simp; try with_reducible rfl)
  try simp only [Act.put, List.setIfInBounds_toArray, List.set_cons_zero, List.set_cons_succ]
  refine wpAnyT_take (i := 9) (v := ?_) rfl (by kernel_rfl) (by kernel_rfl) (by kernel_rfl) (by kernel_rfl) (fun _ _ _ h => h) (Or.inl ⟨by rfl, ?_⟩) hH ?_
  rotate_left
  · (intro w hSw; (try dsimp only at hSw); obtain ⟨s0, s1⟩ := hSw; go_simp; try with_reducible rfl)
  try simp only [Act.put, List.setIfInBounds_toArray, List.set_cons_zero, List.set_cons_succ]
  refine wpAnyT_take (i := 11) (v := ?_) rfl (by kernel_rfl) (by kernel_rfl) (by kernel_rfl) (by kernel_rfl) (fun _ _ _ h => h) (Or.inl ⟨by rfl, ?_⟩) hH ?_
  rotate_left
  · (intro w hSw; (try dsimp only at hSw); obtain ⟨s0, s1⟩ := hSw; go_simp; try with_reducible rfl)
  try simp only [Act.put, List.setIfInBounds_toArray, List.set_cons_zero, List.set_cons_succ]
  refine wpAnyT_take (i := 12) (v := ?_) rfl (by kernel_rfl) (by kernel_rfl) (by kernel_rfl) (by kernel_rfl) (fun _ _ _ h => h) (Or.inl ⟨by rfl, ?_⟩) hH ?_
  rotate_left
  · (intro w hSw; (try dsimp only at hSw); obtain ⟨s0, s1⟩ := hSw; go_simp; try with_reducible rfl)
  try simp only [Act.put, List.setIfInBounds_toArray, List.set_cons_zero, List.set_cons_succ]
  refine wpAnyT_one (i := 10) (by kernel_rfl) ?_
  refine wpOp_goK rfl rfl (fun K9 hK9 => ?_)
  go_simp
  have O1 : Only (fun j => j = q) wr ((wr.setCell ⟨q, 2 + k, none⟩ (.int .i64 1)).drew) := (Only.setCell (S := fun j => j = q) (p := ⟨q, 2 + k, none⟩) (Only.refl wr) (.inl rfl) _).drew
  obtain ⟨hq, a0, a1, a2, _, _, hne⟩ := H.out
  have hq1 : ((wr.setCell ⟨q, 2 + k, none⟩ (.int .i64 1)).drew).heap[q]? = some (.cells (A.setIfInBounds (2 + k) (.int .i64 1)) TT (0, 0)) := heap_set hq (2 + k) _
  refine hK9.out _ _ ⟨.inr ⟨O1.cell o0 hne, O1.cell o1 hne⟩, ?_⟩
  clear hK9 K9 hH
  have hH : (fun w' : World => w'.cell? ⟨bo, oo, none⟩ = some (str p.1) ∧ w'.cell? ⟨bo, oo + 1, none⟩ = some (str p.2)) ((wr.setCell ⟨q, 2 + k, none⟩ (.int .i64 1)).drew) := ⟨O1.cell o0 hne, O1.cell o1 hne⟩
  obtain ⟨w1, hw1⟩ : ∃ w1, w1 = (wr.setCell ⟨q, 2 + k, none⟩ (.int .i64 1)).drew := ⟨_, rfl⟩
  rw [← hw1] at O1 hq1 hH ⊢
  clear hw1 c0 c1 c2 cf hq
  have c1 := cell_at hq1 (j := 34 + k * 2) (by rw [Array.getElem?_setIfInBounds_ne (by omega)]; exact a1)
  have c2 := cell_at hq1 (j := 34 + k * 2 + 1) (by rw [Array.getElem?_setIfInBounds_ne (by omega)]; exact a2)
  have cf : ∀ j, w1.frozen? ⟨q, j, none⟩ = false := fun j => by simp [World.frozen?, hq1]
  have H1 := Lib.hid (And.intro hq1 (And.intro O1 hne))
  clear hq1 O1 a0 a1 a2 hne
  refine wpAnyT_take (i := 13) (v := ?_) rfl (by kernel_rfl) (by kernel_rfl) (by kernel_rfl) (by kernel_rfl) (fun _ _ _ h => h) (Or.inl ⟨by rfl, ?_⟩) hH ?_
  rotate_left
  · (intro w hSw; (try dsimp only at hSw); obtain ⟨s0, s1⟩ := hSw; go_simp; try with_reducible rfl)
  try simp only [Act.put, List.setIfInBounds_toArray, List.set_cons_zero, List.set_cons_succ]
  refine wpAnyT_one (i := 14) (by kernel_rfl) ?_
  refine wpOp_goK rfl rfl (fun K9 hK9 => ?_)
  go_simp
  have O2 : Only (fun j => j = q) wr ((w1.setCell ⟨q, 34 + k * 2, none⟩ (str p.1)).setCell ⟨q, 34 + k * 2 + 1, none⟩ (str p.2)) := (H1.out.2.1.setCell (p := ⟨q, 34 + k * 2, none⟩) (.inl rfl) _).setCell (p := ⟨q, 34 + k * 2 + 1, none⟩) (.inl rfl) _
  refine hK9.out _ _ ⟨.inr ⟨O2.cell H.out.2.2.2.2.1 H1.out.2.2, O2.cell H.out.2.2.2.2.2.1 H1.out.2.2⟩, (by kernel_rfl), ?_⟩
  refine NoPanic.normal ?_
  exact HQF.out _ _ _ _ _ _ _ _ _ _ _ _ _ _ ⟨heap_set (heap_set H1.out.1 _ _) _ _, O2⟩

end Go.Proofs.YtclcgelbcbnekaaDoor
/- The document's trie: a kid is put down: a law of its own. -/
namespace Go.Proofs.YtclcgelbcbnekaaDoor
open Go.RowKit Go.QS Go.QS.Nk
set_option linter.unusedVariables false
variable [Zero (Nat → Prop)]
set_option linter.unusedSectionVars false

set_option maxRecDepth 100000 in
set_option maxHeartbeats 2000000 in
theorem of_18 (wr : World) (q k lv : Nat) (v9 v10 : Value) (A : Array Value) (z0 z1 : Value) (R : Nat → World → Prop) (hk : k < 32) (hlv : lv ≤ 20) (H : Hid (wr.heap[q]? = some (.cells A TT (0, 0)) ∧ A[2 + k]? = some z0 ∧ A[98 + k]? = some z1)) (HC : Hid (∀ W, Ext wr W → Calls Tryd.prog 38 #[v9, v10, .int .i64 ((lv + 1 : Nat) : Int)] W fun e w2 => ∃ q2, e = .returned (ptr q2) ∧ Ext W w2 ∧ R q2 w2)) (c : Code) (Q : Exit → Act → World → Prop) (t0 t1 t3 t4 t5 t6 t11 t12 t13 t14 t15 t16 t17 t18 t19 t20 t21 t22 t23 t24 t25 t26 t27 t28 t29 t30 t31 t32 t33 t34 t35 t36 t37 t38 t39 t40 t41 t42 t43 t44 t45 t46 t47 t48 t49 t50 t51 t52 t53 t54 t55 t56 t57 t58 t59 t60 t61 t62 t63 t64 t65 t66 t67 t68 t69 t70 t71 t72 t73 t74 t75 t76 t77 t78 t79 t80 t81 t82 t83 t84 t85 : Value)
    (hc : (Tryd.f38.body.bind (findR 18)) = some c)
    (hQ : ∀ (u70 u71 u72 u73 u74 u75 u76 u77 u78 u79 u80 u81 u82 u83 u84 : Value) (wx : World), (∃ q2 w2, Ext wr w2 ∧ R q2 w2 ∧ wx.heap[q]? = some (.cells ((A.setIfInBounds (2 + k) (.int .i64 2)).setIfInBounds (98 + k) (ptr q2)) TT (0, 0)) ∧ Only (fun k => k = q) w2 wx) → Q .normal { tmps := List.toArray (t0 :: t1 :: (.int .i64 lv) :: t3 :: t4 :: t5 :: t6 :: (ptr q) :: (.int .i64 k) :: v9 :: v10 :: t11 :: t12 :: t13 :: t14 :: t15 :: t16 :: t17 :: t18 :: t19 :: t20 :: t21 :: t22 :: t23 :: t24 :: t25 :: t26 :: t27 :: t28 :: t29 :: t30 :: t31 :: t32 :: t33 :: t34 :: t35 :: t36 :: t37 :: t38 :: t39 :: t40 :: t41 :: t42 :: t43 :: t44 :: t45 :: t46 :: t47 :: t48 :: t49 :: t50 :: t51 :: t52 :: t53 :: t54 :: t55 :: t56 :: t57 :: t58 :: t59 :: t60 :: t61 :: t62 :: t63 :: t64 :: t65 :: t66 :: t67 :: t68 :: t69 :: u70 :: u71 :: u72 :: u73 :: u74 :: u75 :: u76 :: u77 :: u78 :: u79 :: u80 :: u81 :: u82 :: u83 :: u84 :: t85 :: []), defers := [] } wx) :
    c.wp Tryd.prog Q { tmps := List.toArray (t0 :: t1 :: (.int .i64 lv) :: t3 :: t4 :: t5 :: t6 :: (ptr q) :: (.int .i64 k) :: v9 :: v10 :: t11 :: t12 :: t13 :: t14 :: t15 :: t16 :: t17 :: t18 :: t19 :: t20 :: t21 :: t22 :: t23 :: t24 :: t25 :: t26 :: t27 :: t28 :: t29 :: t30 :: t31 :: t32 :: t33 :: t34 :: t35 :: t36 :: t37 :: t38 :: t39 :: t40 :: t41 :: t42 :: t43 :: t44 :: t45 :: t46 :: t47 :: t48 :: t49 :: t50 :: t51 :: t52 :: t53 :: t54 :: t55 :: t56 :: t57 :: t58 :: t59 :: t60 :: t61 :: t62 :: t63 :: t64 :: t65 :: t66 :: t67 :: t68 :: t69 :: t70 :: t71 :: t72 :: t73 :: t74 :: t75 :: t76 :: t77 :: t78 :: t79 :: t80 :: t81 :: t82 :: t83 :: t84 :: t85 :: []), defers := [] } wr := by
  change some _ = some c at hc
  cases hc
  have HQF := Lib.hid hQ
  clear hQ
  have hc1 : (k : Int) < 32 := by omega
  have hc0 : (0 : Int) ≤ (k : Int) := by omega
  refine wp_region_noPanic ?_
  refine wp_region_T (n := 17) (S := (fun _ : World => True)) (by kernel_rfl) ?_
  change wpAnyT _ _ _ _ _ _ 17 _ _ wr.drew
  have hH : (fun _ : World => True) wr.drew := trivial
  refine wpAnyT_take (i := 0) (v := ?_) rfl (by kernel_rfl) (by kernel_rfl) (by kernel_rfl) (by kernel_rfl) (fun _ _ _ h => h) (Or.inl ⟨by rfl, ?_⟩) hH ?_
  rotate_left
  · (intro w hSw; skip; go_simp; try with_reducible rfl)
  try simp only [Act.put, List.setIfInBounds_toArray, List.set_cons_zero, List.set_cons_succ]
  refine wpAnyT_take (i := 1) (v := ?_) rfl (by kernel_rfl) (by kernel_rfl) (by kernel_rfl) (by kernel_rfl) (fun _ _ _ h => h) (Or.inl ⟨by rfl, ?_⟩) hH ?_
  rotate_left
  · (intro w hSw; skip; go_simp; try with_reducible rfl)
  try simp only [Act.put, List.setIfInBounds_toArray, List.set_cons_zero, List.set_cons_succ]
  refine wpAnyT_take (i := 2) (v := ?_) rfl (by kernel_rfl) (by kernel_rfl) (by kernel_rfl) (by kernel_rfl) (fun _ _ _ h => h) (Or.inl ⟨by rfl, ?_⟩) hH ?_
  rotate_left
  · (intro w hSw; skip; go_simp; try with_reducible rfl)
  try simp only [Act.put, List.setIfInBounds_toArray, List.set_cons_zero, List.set_cons_succ]
  refine wpAnyT_take (i := 3) (v := ?_) rfl (by kernel_rfl) (by kernel_rfl) (by kernel_rfl) (by kernel_rfl) (fun _ _ _ h => h) (Or.inl ⟨by rfl, ?_⟩) hH ?_
  rotate_left
  · (intro w hSw; skip; go_simp; try with_reducible rfl)
  try simp only [Act.put, List.setIfInBounds_toArray, List.set_cons_zero, List.set_cons_succ]
  refine wpAnyT_take (i := 4) (v := ?_) rfl (by kernel_rfl) (by kernel_rfl) (by kernel_rfl) (by kernel_rfl) (fun _ _ _ h => h) (Or.inl ⟨by rfl, ?_⟩) hH ?_
  rotate_left
  · (intro w hSw; skip; go_simp; try with_reducible rfl)
  try simp only [Act.put, List.setIfInBounds_toArray, List.set_cons_zero, List.set_cons_succ]
  refine wpAnyT_take (i := 5) (v := ?_) rfl (by kernel_rfl) (by kernel_rfl) (by kernel_rfl) (by kernel_rfl) (fun _ _ _ h => h) (Or.inl ⟨by rfl, ?_⟩) hH ?_
  rotate_left
  · (intro w hSw; skip; go_simp; try with_reducible rfl)
  try simp only [Act.put, List.setIfInBounds_toArray, List.set_cons_zero, List.set_cons_succ]
  refine wpAnyT_take (i := 6) (v := ?_) rfl (by kernel_rfl) (by kernel_rfl) (by kernel_rfl) (by kernel_rfl) (fun _ _ _ h => h) (Or.inl ⟨by rfl, ?_⟩) hH ?_
  rotate_left
  · (intro w hSw; skip; go_simp; try with_reducible rfl)
  try simp only [Act.put, List.setIfInBounds_toArray, List.set_cons_zero, List.set_cons_succ]
  refine wpAnyT_take (i := 7) (v := ?_) rfl (by kernel_rfl) (by kernel_rfl) (by kernel_rfl) (by kernel_rfl) (fun _ _ _ h => h) (Or.inl ⟨by rfl, ?_⟩) hH ?_
  rotate_left
  · (intro w hSw; skip; go_simp; try with_reducible rfl)
  try simp only [Act.put, List.setIfInBounds_toArray, List.set_cons_zero, List.set_cons_succ]
  refine wpAnyT_take (i := 9) (v := ?_) rfl (by kernel_rfl) (by kernel_rfl) (by kernel_rfl) (by kernel_rfl) (fun _ _ _ h => h) (Or.inl ⟨by rfl, ?_⟩) hH ?_
  rotate_left
  · (intro w hSw; skip; go_simp; try with_reducible rfl)
  try simp only [Act.put, List.setIfInBounds_toArray, List.set_cons_zero, List.set_cons_succ]
  refine wpAnyT_take (i := 10) (v := ?_) rfl (by kernel_rfl) (by kernel_rfl) (by kernel_rfl) (by kernel_rfl) (fun _ _ _ h => h) (Or.inl ⟨by rfl, ?_⟩) hH ?_
  rotate_left
  · (intro w hSw; skip; go_simp; try with_reducible rfl)
  try simp only [Act.put, List.setIfInBounds_toArray, List.set_cons_zero, List.set_cons_succ]
  refine wpAnyT_take (i := 13) (v := ?_) rfl (by kernel_rfl) (by kernel_rfl) (by kernel_rfl) (by kernel_rfl) (fun _ _ _ h => h) (Or.inl ⟨by rfl, ?_⟩) hH ?_
  rotate_left
  · (intro w hSw; skip; go_simp; try with_reducible rfl)
  try simp only [Act.put, List.setIfInBounds_toArray, List.set_cons_zero, List.set_cons_succ]
  refine wpAnyT_take (i := 14) (v := ?_) rfl (by kernel_rfl) (by kernel_rfl) (by kernel_rfl) (by kernel_rfl) (fun _ _ _ h => h) (Or.inl ⟨by rfl, ?_⟩) hH ?_
  rotate_left
  · (intro w hSw; skip; go_simp; try with_reducible rfl)
  try simp only [Act.put, List.setIfInBounds_toArray, List.set_cons_zero, List.set_cons_succ]
  refine wpAnyT_one (i := 8) (by kernel_rfl) ?_
  refine wpOp_goK rfl rfl (fun K9 hK9 => ?_)
  go_simp
  have hwrap : IntKind.i64.wrap ((lv : Int) + 1) = ((lv + 1 : Nat) : Int) := by rw [IntKind.wrap_i64]; omega
  rw [hwrap]
  refine (HC.out wr.drew (ext_drew (Ext.refl wr))).mono ?_
  rintro e w2 ⟨q2, rfl, f2, r2⟩
  have e2 : Ext wr w2 := (ext_drew (Ext.refl wr)).trans f2
  have H2 : Hid (Ext wr w2 ∧ R q2 w2) := Lib.hid ⟨e2, r2⟩
  clear r2 f2 hwrap
  go_simp
  refine hK9.out _ _ ⟨.inr trivial, ?_⟩
  clear hK9 K9 hH
  have hH : (fun _ : World => True) w2 := trivial
  obtain ⟨hq, a0, a1⟩ := H.out
  have hq2 : w2.heap[q]? = some (.cells A TT (0, 0)) := (e2.block q (heap_lt hq)).trans hq
  have c0 := cell_at hq2 a0
  have c1 := cell_at hq2 a1
  have cf : ∀ j, w2.frozen? ⟨q, j, none⟩ = false := fun j => by simp [World.frozen?, hq2]
  clear hq hq2 a0 a1 e2
  refine wpAnyT_take (i := 11) (v := ?_) rfl (by kernel_rfl) (by kernel_rfl) (by kernel_rfl) (by kernel_rfl) (fun _ _ _ h => h) (Or.inl ⟨by rfl, ?_⟩) hH ?_
  rotate_left
  · (intro w hSw; skip; go_simp; try with_reducible rfl)
  try simp only [Act.put, List.setIfInBounds_toArray, List.set_cons_zero, List.set_cons_succ]
  refine wpAnyT_one (i := 12) (by kernel_rfl) ?_
  refine wpOp_goK rfl rfl (fun K9 hK9 => ?_)
  go_simp
  obtain ⟨hq, a0, a1⟩ := H.out
  have hq2 : w2.heap[q]? = some (.cells A TT (0, 0)) := (H2.out.1.block q (heap_lt hq)).trans hq
  have O1 : Only (fun j => j = q) w2 (w2.setCell ⟨q, 2 + k, none⟩ (.int .i64 2)) := Only.setCell (S := fun j => j = q) (p := ⟨q, 2 + k, none⟩) (Only.refl w2) (.inl rfl) _
  have hq1 : (w2.setCell ⟨q, 2 + k, none⟩ (.int .i64 2)).heap[q]? = some (.cells (A.setIfInBounds (2 + k) (.int .i64 2)) TT (0, 0)) := heap_set hq2 (2 + k) _
  refine hK9.out _ _ ⟨.inr trivial, ?_⟩
  clear hK9 K9 hH
  have hH : (fun _ : World => True) (w2.setCell ⟨q, 2 + k, none⟩ (.int .i64 2)) := trivial
  obtain ⟨w1, hw1⟩ : ∃ w1, w1 = w2.setCell ⟨q, 2 + k, none⟩ (.int .i64 2) := ⟨_, rfl⟩
  rw [← hw1] at O1 hq1 hH ⊢
  clear hw1 c0 c1 cf hq hq2
  have c1 := cell_at hq1 (j := 98 + k) (by rw [Array.getElem?_setIfInBounds_ne (by omega)]; exact a1)
  have cf : ∀ j, w1.frozen? ⟨q, j, none⟩ = false := fun j => by simp [World.frozen?, hq1]
  have H1 := Lib.hid (And.intro hq1 O1)
  clear hq1 O1 a0 a1
  refine wpAnyT_take (i := 15) (v := ?_) rfl (by kernel_rfl) (by kernel_rfl) (by kernel_rfl) (by kernel_rfl) (fun _ _ _ h => h) (Or.inl ⟨by rfl, ?_⟩) hH ?_
  rotate_left
  · (intro w hSw; skip; go_simp; try with_reducible rfl)
  try simp only [Act.put, List.setIfInBounds_toArray, List.set_cons_zero, List.set_cons_succ]
  refine wpAnyT_one (i := 16) (by kernel_rfl) ?_
  refine wpOp_goK rfl rfl (fun K9 hK9 => ?_)
  go_simp
  refine hK9.out _ _ ⟨.inr trivial, (by kernel_rfl), ?_⟩
  refine NoPanic.normal ?_
  exact HQF.out _ _ _ _ _ _ _ _ _ _ _ _ _ _ _ _ ⟨q2, w2, H2.out.1, H2.out.2, heap_set H1.out.1 _ _, H1.out.2.setCell (p := ⟨q, 98 + k, none⟩) (.inl rfl) _⟩

end Go.Proofs.YtclcgelbcbnekaaDoor
/- The document's trie: what its cells hold, chunk by chunk (plain). -/
namespace Go.Proofs.YtclcgelbcbnekaaDoor
open Go.RowKit Go.QS Go.QS.Nk
set_option linter.unusedVariables false
variable [Zero (Nat → Prop)]
set_option linter.unusedSectionVars false

/-- Blocks that are no rows of pairs alone turn, below B. -/
abbrev KeepT (B : Nat) (w W : World) : Prop := Only (fun k => k < B ∧ ∃ A T, w.heap[k]? = some (.cells A T (0, 0)) ∧ T ≠ RP) w W
/-- Behind chunk c nothing has been put down. -/
structure Zs (A : Array Value) (c : Nat) : Prop where
  size : A.size = 130
  bk : A[0]? = some (.bool false)
  sl : A[1]? = some (.slice none 0 0)
  is : ∀ k, c ≤ k → k < 32 → A[2 + k]? = some (.int .i64 0)
  p1 : ∀ k, c ≤ k → k < 32 → A[34 + k * 2]? = some (str [])
  p2 : ∀ k, c ≤ k → k < 32 → A[34 + k * 2 + 1]? = some (str [])
  kd : ∀ k, c ≤ k → k < 32 → A[98 + k]? = some nil0
theorem all32 {f : Nat → Bool} (h : (List.range 32).all f = true) (k : Nat) (hk : k < 32) : f k = true := List.all_eq_true.1 h k (List.mem_range.2 hk)
def isZ : Option Value → Bool
  | some (.int .i64 (.ofNat 0)) => true
  | _ => false
def isS : Option Value → Bool
  | some (.string b) => b.size == 0
  | _ => false
def isN : Option Value → Bool
  | some (.pointer none) => true
  | _ => false
theorem isZ_eq {o : Option Value} (h : isZ o = true) : o = some (.int .i64 0) := by
  unfold isZ at h
  split at h
  · rfl
  · cases h
theorem isS_eq {o : Option Value} (h : isS o = true) : o = some (str []) := by
  unfold isS at h
  split at h
  · rename_i b
    have h0 : b.size = 0 := by simpa using h
    have : b = bs [] := by
      obtain ⟨d⟩ := b
      have : d = #[] := Array.eq_empty_of_size_eq_zero h0
      rw [this]; rfl
    rw [this]
  · cases h
theorem isN_eq {o : Option Value} (h : isN o = true) : o = some nil0 := by
  unfold isN at h
  split at h
  · rfl
  · cases h
theorem zs0 : Zs Tryd.zeroCells57 0 :=
  ⟨by kernel_rfl, by kernel_rfl, by kernel_rfl,
   fun k _ hk => isZ_eq (all32 (f := fun k => isZ (Tryd.zeroCells57[2 + k]?)) (by kernel_rfl) k hk),
   fun k _ hk => isS_eq (all32 (f := fun k => isS (Tryd.zeroCells57[34 + k * 2]?)) (by kernel_rfl) k hk),
   fun k _ hk => isS_eq (all32 (f := fun k => isS (Tryd.zeroCells57[34 + k * 2 + 1]?)) (by kernel_rfl) k hk),
   fun k _ hk => isN_eq (all32 (f := fun k => isN (Tryd.zeroCells57[98 + k]?)) (by kernel_rfl) k hk)⟩
section
variable {A : Array Value} {c k : Nat} {R : Nat → List Pr → Prop}
abbrev setP (A : Array Value) (k : Nat) (p : Pr) : Array Value := ((A.setIfInBounds (2 + k) (.int .i64 1)).setIfInBounds (34 + k * 2) (str p.1)).setIfInBounds (34 + k * 2 + 1) (str p.2)
abbrev setK (A : Array Value) (k : Nat) (q : Nat) : Array Value := (A.setIfInBounds (2 + k) (.int .i64 2)).setIfInBounds (98 + k) (ptr q)
theorem setP_ne (p : Pr) {j : Nat} (h1 : j ≠ 2 + k) (h2 : j ≠ 34 + k * 2) (h3 : j ≠ 34 + k * 2 + 1) : (setP A k p)[j]? = A[j]? := by
  rw [Array.getElem?_setIfInBounds_ne (Ne.symm h3), Array.getElem?_setIfInBounds_ne (Ne.symm h2), Array.getElem?_setIfInBounds_ne (Ne.symm h1)]
theorem setK_ne (q : Nat) {j : Nat} (h1 : j ≠ 2 + k) (h2 : j ≠ 98 + k) : (setK A k q)[j]? = A[j]? := by
  rw [Array.getElem?_setIfInBounds_ne (Ne.symm h2), Array.getElem?_setIfInBounds_ne (Ne.symm h1)]
theorem Zs.next (h : Zs A c) : Zs A (c + 1) := ⟨h.size, h.bk, h.sl, fun k hk h32 => h.is k (by omega) h32, fun k hk h32 => h.p1 k (by omega) h32, fun k hk h32 => h.p2 k (by omega) h32, fun k hk h32 => h.kd k (by omega) h32⟩
theorem Zs.setP (h : Zs A c) (hc : c < 32) (p : Pr) : Zs (setP A c p) (c + 1) :=
  ⟨by simp [h.size], by rw [setP_ne p (by omega) (by omega) (by omega)]; exact h.bk, by rw [setP_ne p (by omega) (by omega) (by omega)]; exact h.sl,
   fun k hk h32 => by rw [setP_ne p (by omega) (by omega) (by omega)]; exact h.is k (by omega) h32,
   fun k hk h32 => by rw [setP_ne p (by omega) (by omega) (by omega)]; exact h.p1 k (by omega) h32,
   fun k hk h32 => by rw [setP_ne p (by omega) (by omega) (by omega)]; exact h.p2 k (by omega) h32,
   fun k hk h32 => by rw [setP_ne p (by omega) (by omega) (by omega)]; exact h.kd k (by omega) h32⟩
theorem Zs.setK (h : Zs A c) (hc : c < 32) (q : Nat) : Zs (setK A c q) (c + 1) :=
  ⟨by simp [h.size], by rw [setK_ne q (by omega) (by omega)]; exact h.bk, by rw [setK_ne q (by omega) (by omega)]; exact h.sl,
   fun k hk h32 => by rw [setK_ne q (by omega) (by omega)]; exact h.is k (by omega) h32,
   fun k hk h32 => by rw [setK_ne q (by omega) (by omega)]; exact h.p1 k (by omega) h32,
   fun k hk h32 => by rw [setK_ne q (by omega) (by omega)]; exact h.p2 k (by omega) h32,
   fun k hk h32 => by rw [setK_ne q (by omega) (by omega)]; exact h.kd k (by omega) h32⟩
theorem ent_pr (h : Zs A c) (hc : c < 32) (p : Pr) : EntOk R (setP A c p) c [p] := by
  have hs := h.size
  refine .inr (.inl ⟨p, rfl, ?_, ?_, ?_⟩)
  · rw [Array.getElem?_setIfInBounds_ne (by omega), Array.getElem?_setIfInBounds_ne (by omega), Array.getElem?_setIfInBounds_self_of_lt (by omega)]
  · rw [show 34 + 2 * c = 34 + c * 2 by omega, Array.getElem?_setIfInBounds_ne (by omega), Array.getElem?_setIfInBounds_self_of_lt (by simp; omega)]
  · rw [show 35 + 2 * c = 34 + c * 2 + 1 by omega, Array.getElem?_setIfInBounds_self_of_lt (by simp; omega)]
theorem ent_kid (h : Zs A c) (hc : c < 32) {q : Nat} {x : List Pr} (hx : 2 ≤ x.length) (hR : R q x) : EntOk R (setK A c q) c x := by
  have hs := h.size
  refine .inr (.inr ⟨hx, q, ?_, ?_, hR⟩)
  · rw [Array.getElem?_setIfInBounds_ne (by omega), Array.getElem?_setIfInBounds_self_of_lt (by omega)]
  · rw [Array.getElem?_setIfInBounds_self_of_lt (by simp; omega)]
theorem ents_pr {f : Nat → List Pr} (h : Zs A c) (hc : c < 32) (hE : ∀ k, k < c → EntOk R A k (f k)) {p : Pr} (hp : f c = [p]) : ∀ k, k < c + 1 → EntOk R (setP A c p) k (f k) := fun k hk => by
  by_cases e : k = c
  · subst e; rw [hp]; exact ent_pr h hc p
  · exact (hE k (by omega)).other (c := c) hc (by omega) e (fun j h1 h2 h3 h4 => setP_ne p (by omega) (by omega) (by omega))
theorem ents_kid {f : Nat → List Pr} (h : Zs A c) (hc : c < 32) (hE : ∀ k, k < c → EntOk R A k (f k)) {q : Nat} (hx : 2 ≤ (f c).length) (hR : R q (f c)) : ∀ k, k < c + 1 → EntOk R (setK A c q) k (f k) := fun k hk => by
  by_cases e : k = c
  · subst e; exact ent_kid h hc hx hR
  · exact (hE k (by omega)).other (c := c) hc (by omega) e (fun j h1 h2 h3 h4 => setK_ne q (by omega) (by omega))
theorem ents_no {f : Nat → List Pr} (h : Zs A c) (hc : c < 32) (hE : ∀ k, k < c → EntOk R A k (f k)) (hx : f c = []) : ∀ k, k < c + 1 → EntOk R A k (f k) := fun k hk => by
  by_cases e : k = c
  · subst e; exact .inl ⟨hx, h.is k (Nat.le_refl _) hc⟩
  · exact hE k (by omega)
end
theorem part_take {H : List UInt8 → Nat} {lv c i : Nat} {l : List Pr} {p : Pr} (hp : l[i]? = some p) : Go.QS.part H lv c (l.take (i + 1)) = Go.QS.part H lv c (l.take i) ++ (if chk (H p.1) lv = c then [p] else []) := by
  rw [take_snoc hp]
  unfold Go.QS.part
  rw [List.filter_append]
  by_cases h : chk (H p.1) lv = c <;> simp [h]
theorem keepT_ext {B : Nat} {a b W : World} (h : KeepT B b W) (f : Ext a b) (hB : B ≤ a.heap.size) : KeepT B a W :=
  ⟨h.os.trans f.os, h.tape.trans f.tape, h.output.trans f.output, Nat.le_trans f.size h.size, fun k hk hn => by
    refine (h.block k (Nat.lt_of_lt_of_le hk f.size) (fun hs => hn ⟨hs.1, ?_⟩)).trans (f.block k hk)
    obtain ⟨A, T, hA, hT⟩ := hs.2
    exact ⟨A, T, (f.block k hk).symm.trans hA, hT⟩⟩
theorem keepT_mono {B B' : Nat} {a W : World} (h : KeepT B a W) (hB : B ≤ B') : KeepT B' a W := h.mono (fun i _ hi => ⟨by omega, hi.2⟩)
theorem keepT_set {B q : Nat} {a b W : World} {A : Array Value} (h : KeepT B b W) (f : Only (fun k => k = q) a b) (hq : q < B) (hqa : a.heap[q]? = some (.cells A TT (0, 0))) : KeepT B a W :=
  ⟨h.os.trans f.os, h.tape.trans f.tape, h.output.trans f.output, Nat.le_trans f.size h.size, fun k hk hn => by
    by_cases e : k = q
    · subst e; exact absurd ⟨hq, A, TT, hqa, by decide⟩ hn
    · refine (h.block k (Nat.lt_of_lt_of_le hk f.size) (fun hs => hn ⟨hs.1, ?_⟩)).trans (f.block k hk e)
      obtain ⟨A, T, hA, hT⟩ := hs.2
      exact ⟨A, T, (f.block k hk e).symm.trans hA, hT⟩⟩
theorem keepT_row {B : Nat} {a W : World} (h : KeepT B a W) {b n : Nat} {v : Value} {l : List Pr} (ho : a.ownsRow b RP 2 v n (flat l)) : PS W v l := by
  refine PS.of_own (h.own ho (fun k hk hs => ?_))
  obtain ⟨_, A, T, hA, hT⟩ := hs
  exact own_block_ne ho hA (fun e => hT e) hk
end Go.Proofs.YtclcgelbcbnekaaDoor
