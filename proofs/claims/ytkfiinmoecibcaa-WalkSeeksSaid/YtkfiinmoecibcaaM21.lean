/- Texts joined. -/
import Derived.Test.YtkfiinmoecibcaaFc
import Derived.BigRegion
set_option linter.unusedVariables false
set_option linter.unusedSimpArgs false
/- The document's trie: a pair is put down: a law of its own. -/
namespace Go.Proofs.Ytkfiinmoecibcaa
open Go.RowKit Go.QS Go.QS.Nk
set_option linter.unusedVariables false

theorem wpAnyT_one {P : Program} {ops : Array Oper} {Q : Exit → Act → World → Prop} {md : Region.Mode} {S : World → Prop} {n i fuel : Nat} {listed : Array Bool} {a : Act} {w : World} (hr : Region.ready md ops listed = [i])
    (h : wpOp P ops Q i (fun a' w' => (n ≤ i ∨ S w') ∧ wpAnyT P md ops Q S n fuel (listed.setIfInBounds i true) a' w') a w) : wpAnyT P md ops Q S n (fuel + 1) listed a w :=
  wpAnyT_all hr (by simp) (fun j hj => by cases List.mem_singleton.1 hj; exact h)
theorem cell_at {w : World} {g j : Nat} {A : Array Value} {T : TypeId} {u : Value} (h : w.heap[g]? = some (.cells A T (0, 0))) (hu : A[j]? = some u) : w.cell? ⟨g, j, none⟩ = some u := by
  simp [World.cell?, h, hu]
set_option maxRecDepth 100000 in
set_option maxHeartbeats 2000000 in
theorem of_16 (wr : World) (q k bo oo c9 : Nat) (A : Array Value) (p : Pr) (z0 z1 z2 : Value) (hk : k < 32) (H : Hid (wr.heap[q]? = some (.cells A TT (0, 0)) ∧ A[2 + k]? = some z0 ∧ A[34 + k * 2]? = some z1 ∧ A[34 + k * 2 + 1]? = some z2 ∧ wr.cell? ⟨bo, oo, none⟩ = some (str p.1) ∧ wr.cell? ⟨bo, oo + 1, none⟩ = some (str p.2) ∧ bo ≠ q)) (hcc : 1 ≤ c9) (c : Code) (Q : Exit → Act → World → Prop) (t0 t1 t2 t3 t4 t5 t6 t10 t11 t12 t13 t14 t15 t16 t17 t18 t19 t20 t21 t22 t23 t24 t25 t26 t27 t28 t29 t30 t31 t32 t33 t34 t35 t36 t37 t38 t39 t40 t41 t42 t43 t44 t45 t46 t47 t48 t49 t50 t51 t52 t53 t54 t55 t56 t57 t58 t59 t60 t61 t62 t63 t64 t65 t66 t67 t68 t69 t70 t71 t72 t73 t74 t75 t76 t77 t78 t79 t80 t81 t82 t83 t84 t85 : Value)
    (hc : (Try.f60.body.bind (findR 16)) = some c)
    (hQ : ∀ (u54 u55 u56 u57 u58 u59 u60 u61 u62 u63 u64 u65 u66 : Value) (wx : World), wx.heap[q]? = some (.cells (((A.setIfInBounds (2 + k) (.int .i64 1)).setIfInBounds (34 + k * 2) (str p.1)).setIfInBounds (34 + k * 2 + 1) (str p.2)) TT (0, 0)) ∧ Only (fun k => k = q) wr wx → Q .normal { tmps := List.toArray (t0 :: t1 :: t2 :: t3 :: t4 :: t5 :: t6 :: (ptr q) :: (.int .i64 k) :: (.slice (some ⟨bo, oo, none⟩) 1 c9) :: t10 :: t11 :: t12 :: t13 :: t14 :: t15 :: t16 :: t17 :: t18 :: t19 :: t20 :: t21 :: t22 :: t23 :: t24 :: t25 :: t26 :: t27 :: t28 :: t29 :: t30 :: t31 :: t32 :: t33 :: t34 :: t35 :: t36 :: t37 :: t38 :: t39 :: t40 :: t41 :: t42 :: t43 :: t44 :: t45 :: t46 :: t47 :: t48 :: t49 :: t50 :: t51 :: t52 :: t53 :: u54 :: u55 :: u56 :: u57 :: u58 :: u59 :: u60 :: u61 :: u62 :: u63 :: u64 :: u65 :: u66 :: t67 :: t68 :: t69 :: t70 :: t71 :: t72 :: t73 :: t74 :: t75 :: t76 :: t77 :: t78 :: t79 :: t80 :: t81 :: t82 :: t83 :: t84 :: t85 :: []), defers := [] } wx) :
    c.wp Try.prog Q { tmps := List.toArray (t0 :: t1 :: t2 :: t3 :: t4 :: t5 :: t6 :: (ptr q) :: (.int .i64 k) :: (.slice (some ⟨bo, oo, none⟩) 1 c9) :: t10 :: t11 :: t12 :: t13 :: t14 :: t15 :: t16 :: t17 :: t18 :: t19 :: t20 :: t21 :: t22 :: t23 :: t24 :: t25 :: t26 :: t27 :: t28 :: t29 :: t30 :: t31 :: t32 :: t33 :: t34 :: t35 :: t36 :: t37 :: t38 :: t39 :: t40 :: t41 :: t42 :: t43 :: t44 :: t45 :: t46 :: t47 :: t48 :: t49 :: t50 :: t51 :: t52 :: t53 :: t54 :: t55 :: t56 :: t57 :: t58 :: t59 :: t60 :: t61 :: t62 :: t63 :: t64 :: t65 :: t66 :: t67 :: t68 :: t69 :: t70 :: t71 :: t72 :: t73 :: t74 :: t75 :: t76 :: t77 :: t78 :: t79 :: t80 :: t81 :: t82 :: t83 :: t84 :: t85 :: []), defers := [] } wr := by
  change some _ = some c at hc
  cases hc
  have HQF := Lib.hid hQ
  clear hQ
  have hc1 : (k : Int) < 32 := by omega
  have hc0 : (0 : Int) ≤ (k : Int) := by omega
  obtain ⟨hq, a0, a1, a2, o0, o1, hne⟩ := H.out
  have c0 := cell_at hq a0
  have c1 := cell_at hq a1
  have c2 := cell_at hq a2
  have cf : ∀ j, wr.frozen? ⟨q, j, none⟩ = false := fun j => by simp [World.frozen?, hq]
  clear hq a0 a1 a2 hne
  refine wp_region_noPanic ?_
  refine wp_region_T (n := 15) (S := (fun w' : World => w'.cell? ⟨bo, oo, none⟩ = some (str p.1) ∧ w'.cell? ⟨bo, oo + 1, none⟩ = some (str p.2))) (by kernel_rfl) ?_
  change wpAnyT _ _ _ _ _ _ 15 _ _ wr.drew
  have hH : (fun w' : World => w'.cell? ⟨bo, oo, none⟩ = some (str p.1) ∧ w'.cell? ⟨bo, oo + 1, none⟩ = some (str p.2)) wr.drew := ⟨o0, o1⟩
  refine wpAnyT_take (i := 0) (v := ?_) rfl (by kernel_rfl) (by kernel_rfl) (by kernel_rfl) (by kernel_rfl) (fun _ _ _ h => h) (Or.inl ⟨by rfl, ?_⟩) hH ?_
  rotate_left
  · (intro w hSw; (try dsimp only at hSw); obtain ⟨s0, s1⟩ := hSw; go_simp; try with_reducible rfl)
  try simp only [Act.put, List.setIfInBounds_toArray, List.set_cons_zero, List.set_cons_succ]
  refine wpAnyT_take (i := 1) (v := ?_) rfl (by kernel_rfl) (by kernel_rfl) (by kernel_rfl) (by kernel_rfl) (fun _ _ _ h => h) (Or.inl ⟨by rfl, ?_⟩) hH ?_
  rotate_left
  · (intro w hSw; (try dsimp only at hSw); obtain ⟨s0, s1⟩ := hSw; go_simp; try with_reducible rfl)
  try simp only [Act.put, List.setIfInBounds_toArray, List.set_cons_zero, List.set_cons_succ]
  refine wpAnyT_take (i := 2) (v := ?_) rfl (by kernel_rfl) (by kernel_rfl) (by kernel_rfl) (by kernel_rfl) (fun _ _ _ h => h) (Or.inl ⟨by rfl, ?_⟩) hH ?_
  rotate_left
  · (intro w hSw; (try dsimp only at hSw); obtain ⟨s0, s1⟩ := hSw; go_simp; try with_reducible rfl)
  try simp only [Act.put, List.setIfInBounds_toArray, List.set_cons_zero, List.set_cons_succ]
  refine wpAnyT_take (i := 3) (v := ?_) rfl (by kernel_rfl) (by kernel_rfl) (by kernel_rfl) (by kernel_rfl) (fun _ _ _ h => h) (Or.inl ⟨by rfl, ?_⟩) hH ?_
  rotate_left
  · (intro w hSw; (try dsimp only at hSw); obtain ⟨s0, s1⟩ := hSw; go_simp; try with_reducible rfl)
  try simp only [Act.put, List.setIfInBounds_toArray, List.set_cons_zero, List.set_cons_succ]
  refine wpAnyT_take (i := 4) (v := ?_) rfl (by kernel_rfl) (by kernel_rfl) (by kernel_rfl) (by kernel_rfl) (fun _ _ _ h => h) (Or.inl ⟨by rfl, ?_⟩) hH ?_
  rotate_left
  · (intro w hSw; (try dsimp only at hSw); obtain ⟨s0, s1⟩ := hSw; go_simp; try with_reducible rfl)
  try simp only [Act.put, List.setIfInBounds_toArray, List.set_cons_zero, List.set_cons_succ]
  refine wpAnyT_take (i := 5) (v := ?_) rfl (by kernel_rfl) (by kernel_rfl) (by kernel_rfl) (by kernel_rfl) (fun _ _ _ h => h) (Or.inl ⟨by rfl, ?_⟩) hH ?_
  rotate_left
  · (intro w hSw; (try dsimp only at hSw); obtain ⟨s0, s1⟩ := hSw; go_simp; try with_reducible rfl)
  try simp only [Act.put, List.setIfInBounds_toArray, List.set_cons_zero, List.set_cons_succ]
  refine wpAnyT_take (i := 6) (v := ?_) rfl (by kernel_rfl) (by kernel_rfl) (by kernel_rfl) (by kernel_rfl) (fun _ _ _ h => h) (Or.inl ⟨by rfl, ?_⟩) hH ?_
  rotate_left
  · (intro w hSw; (try dsimp only at hSw); obtain ⟨s0, s1⟩ := hSw; go_simp; try with_reducible rfl)
  try simp only [Act.put, List.setIfInBounds_toArray, List.set_cons_zero, List.set_cons_succ]
  refine wpAnyT_take (i := 7) (v := ?_) rfl (by kernel_rfl) (by kernel_rfl) (by kernel_rfl) (by kernel_rfl) (fun _ _ _ h => h) (Or.inl ⟨by rfl, ?_⟩) hH ?_
  rotate_left
  · (intro w hSw; (try dsimp only at hSw); obtain ⟨s0, s1⟩ := hSw; go_simp; try with_reducible rfl)
  try simp only [Act.put, List.setIfInBounds_toArray, List.set_cons_zero, List.set_cons_succ]
  refine wpAnyT_take (i := 8) (v := ?_) rfl (by kernel_rfl) (by kernel_rfl) (by kernel_rfl) (by kernel_rfl) (fun _ _ _ h => h) (Or.inl ⟨by rfl, ?_⟩) hH ?_
  rotate_left
  · (intro w hSw; (try dsimp only at hSw); obtain ⟨s0, s1⟩ := hSw; go_simp; try with_reducible rfl)
  try simp only [Act.put, List.setIfInBounds_toArray, List.set_cons_zero, List.set_cons_succ]
  refine wpAnyT_take (i := 9) (v := ?_) rfl (by kernel_rfl) (by kernel_rfl) (by kernel_rfl) (by kernel_rfl) (fun _ _ _ h => h) (Or.inl ⟨by rfl, ?_⟩) hH ?_
  rotate_left
  · (intro w hSw; (try dsimp only at hSw); obtain ⟨s0, s1⟩ := hSw; go_simp; try with_reducible rfl)
  try simp only [Act.put, List.setIfInBounds_toArray, List.set_cons_zero, List.set_cons_succ]
  refine wpAnyT_take (i := 11) (v := ?_) rfl (by kernel_rfl) (by kernel_rfl) (by kernel_rfl) (by kernel_rfl) (fun _ _ _ h => h) (Or.inl ⟨by rfl, ?_⟩) hH ?_
  rotate_left
  · (intro w hSw; (try dsimp only at hSw); obtain ⟨s0, s1⟩ := hSw; go_simp; try with_reducible rfl)
  try simp only [Act.put, List.setIfInBounds_toArray, List.set_cons_zero, List.set_cons_succ]
  refine wpAnyT_take (i := 12) (v := ?_) rfl (by kernel_rfl) (by kernel_rfl) (by kernel_rfl) (by kernel_rfl) (fun _ _ _ h => h) (Or.inl ⟨by rfl, ?_⟩) hH ?_
  rotate_left
  · (intro w hSw; (try dsimp only at hSw); obtain ⟨s0, s1⟩ := hSw; go_simp; try with_reducible rfl)
  try simp only [Act.put, List.setIfInBounds_toArray, List.set_cons_zero, List.set_cons_succ]
  refine wpAnyT_one (i := 10) (by kernel_rfl) ?_
  refine wpOp_goK rfl rfl (fun K9 hK9 => ?_)
  go_simp
  have O1 : Only (fun j => j = q) wr ((wr.setCell ⟨q, 2 + k, none⟩ (.int .i64 1)).drew) := (Only.setCell (S := fun j => j = q) (p := ⟨q, 2 + k, none⟩) (Only.refl wr) (.inl rfl) _).drew
  obtain ⟨hq, a0, a1, a2, _, _, hne⟩ := H.out
  have hq1 : ((wr.setCell ⟨q, 2 + k, none⟩ (.int .i64 1)).drew).heap[q]? = some (.cells (A.setIfInBounds (2 + k) (.int .i64 1)) TT (0, 0)) := heap_set hq (2 + k) _
  refine hK9.out _ _ ⟨.inr ⟨O1.cell o0 hne, O1.cell o1 hne⟩, ?_⟩
  clear hK9 K9 hH
  have hH : (fun w' : World => w'.cell? ⟨bo, oo, none⟩ = some (str p.1) ∧ w'.cell? ⟨bo, oo + 1, none⟩ = some (str p.2)) ((wr.setCell ⟨q, 2 + k, none⟩ (.int .i64 1)).drew) := ⟨O1.cell o0 hne, O1.cell o1 hne⟩
  obtain ⟨w1, hw1⟩ : ∃ w1, w1 = (wr.setCell ⟨q, 2 + k, none⟩ (.int .i64 1)).drew := ⟨_, rfl⟩
  rw [← hw1] at O1 hq1 hH ⊢
  clear hw1 c0 c1 c2 cf hq
  have c1 := cell_at hq1 (j := 34 + k * 2) (by rw [Array.getElem?_setIfInBounds_ne (by omega)]; exact a1)
  have c2 := cell_at hq1 (j := 34 + k * 2 + 1) (by rw [Array.getElem?_setIfInBounds_ne (by omega)]; exact a2)
  have cf : ∀ j, w1.frozen? ⟨q, j, none⟩ = false := fun j => by simp [World.frozen?, hq1]
  have H1 := Lib.hid (And.intro hq1 (And.intro O1 hne))
  clear hq1 O1 a0 a1 a2 hne
  refine wpAnyT_take (i := 13) (v := ?_) rfl (by kernel_rfl) (by kernel_rfl) (by kernel_rfl) (by kernel_rfl) (fun _ _ _ h => h) (Or.inl ⟨by rfl, ?_⟩) hH ?_
  rotate_left
  · (intro w hSw; (try dsimp only at hSw); obtain ⟨s0, s1⟩ := hSw; go_simp; try with_reducible rfl)
  try simp only [Act.put, List.setIfInBounds_toArray, List.set_cons_zero, List.set_cons_succ]
  refine wpAnyT_one (i := 14) (by kernel_rfl) ?_
  refine wpOp_goK rfl rfl (fun K9 hK9 => ?_)
  go_simp
  have O2 : Only (fun j => j = q) wr ((w1.setCell ⟨q, 34 + k * 2, none⟩ (str p.1)).setCell ⟨q, 34 + k * 2 + 1, none⟩ (str p.2)) := (H1.out.2.1.setCell (p := ⟨q, 34 + k * 2, none⟩) (.inl rfl) _).setCell (p := ⟨q, 34 + k * 2 + 1, none⟩) (.inl rfl) _
  refine hK9.out _ _ ⟨.inr ⟨O2.cell H.out.2.2.2.2.1 H1.out.2.2, O2.cell H.out.2.2.2.2.2.1 H1.out.2.2⟩, (by kernel_rfl), ?_⟩
  refine NoPanic.normal ?_
  exact HQF.out _ _ _ _ _ _ _ _ _ _ _ _ _ _ ⟨heap_set (heap_set H1.out.1 _ _) _ _, O2⟩

end Go.Proofs.Ytkfiinmoecibcaa
/- The document's trie: a kid is put down: a law of its own. -/
namespace Go.Proofs.Ytkfiinmoecibcaa
open Go.RowKit Go.QS Go.QS.Nk
set_option linter.unusedVariables false

set_option maxRecDepth 100000 in
set_option maxHeartbeats 2000000 in
theorem of_18 (wr : World) (q k lv : Nat) (v9 v10 : Value) (A : Array Value) (z0 z1 : Value) (R : Nat → World → Prop) (hk : k < 32) (hlv : lv ≤ 20) (H : Hid (wr.heap[q]? = some (.cells A TT (0, 0)) ∧ A[2 + k]? = some z0 ∧ A[98 + k]? = some z1)) (HC : Hid (∀ W, Ext wr W → Calls Try.prog 60 #[v9, v10, .int .i64 ((lv + 1 : Nat) : Int)] W fun e w2 => ∃ q2, e = .returned (ptr q2) ∧ Ext W w2 ∧ R q2 w2)) (c : Code) (Q : Exit → Act → World → Prop) (t0 t1 t3 t4 t5 t6 t11 t12 t13 t14 t15 t16 t17 t18 t19 t20 t21 t22 t23 t24 t25 t26 t27 t28 t29 t30 t31 t32 t33 t34 t35 t36 t37 t38 t39 t40 t41 t42 t43 t44 t45 t46 t47 t48 t49 t50 t51 t52 t53 t54 t55 t56 t57 t58 t59 t60 t61 t62 t63 t64 t65 t66 t67 t68 t69 t70 t71 t72 t73 t74 t75 t76 t77 t78 t79 t80 t81 t82 t83 t84 t85 : Value)
    (hc : (Try.f60.body.bind (findR 18)) = some c)
    (hQ : ∀ (u70 u71 u72 u73 u74 u75 u76 u77 u78 u79 u80 u81 u82 u83 u84 : Value) (wx : World), (∃ q2 w2, Ext wr w2 ∧ R q2 w2 ∧ wx.heap[q]? = some (.cells ((A.setIfInBounds (2 + k) (.int .i64 2)).setIfInBounds (98 + k) (ptr q2)) TT (0, 0)) ∧ Only (fun k => k = q) w2 wx) → Q .normal { tmps := List.toArray (t0 :: t1 :: (.int .i64 lv) :: t3 :: t4 :: t5 :: t6 :: (ptr q) :: (.int .i64 k) :: v9 :: v10 :: t11 :: t12 :: t13 :: t14 :: t15 :: t16 :: t17 :: t18 :: t19 :: t20 :: t21 :: t22 :: t23 :: t24 :: t25 :: t26 :: t27 :: t28 :: t29 :: t30 :: t31 :: t32 :: t33 :: t34 :: t35 :: t36 :: t37 :: t38 :: t39 :: t40 :: t41 :: t42 :: t43 :: t44 :: t45 :: t46 :: t47 :: t48 :: t49 :: t50 :: t51 :: t52 :: t53 :: t54 :: t55 :: t56 :: t57 :: t58 :: t59 :: t60 :: t61 :: t62 :: t63 :: t64 :: t65 :: t66 :: t67 :: t68 :: t69 :: u70 :: u71 :: u72 :: u73 :: u74 :: u75 :: u76 :: u77 :: u78 :: u79 :: u80 :: u81 :: u82 :: u83 :: u84 :: t85 :: []), defers := [] } wx) :
    c.wp Try.prog Q { tmps := List.toArray (t0 :: t1 :: (.int .i64 lv) :: t3 :: t4 :: t5 :: t6 :: (ptr q) :: (.int .i64 k) :: v9 :: v10 :: t11 :: t12 :: t13 :: t14 :: t15 :: t16 :: t17 :: t18 :: t19 :: t20 :: t21 :: t22 :: t23 :: t24 :: t25 :: t26 :: t27 :: t28 :: t29 :: t30 :: t31 :: t32 :: t33 :: t34 :: t35 :: t36 :: t37 :: t38 :: t39 :: t40 :: t41 :: t42 :: t43 :: t44 :: t45 :: t46 :: t47 :: t48 :: t49 :: t50 :: t51 :: t52 :: t53 :: t54 :: t55 :: t56 :: t57 :: t58 :: t59 :: t60 :: t61 :: t62 :: t63 :: t64 :: t65 :: t66 :: t67 :: t68 :: t69 :: t70 :: t71 :: t72 :: t73 :: t74 :: t75 :: t76 :: t77 :: t78 :: t79 :: t80 :: t81 :: t82 :: t83 :: t84 :: t85 :: []), defers := [] } wr := by
  change some _ = some c at hc
  cases hc
  have HQF := Lib.hid hQ
  clear hQ
  have hc1 : (k : Int) < 32 := by omega
  have hc0 : (0 : Int) ≤ (k : Int) := by omega
  refine wp_region_noPanic ?_
  refine wp_region_T (n := 17) (S := (fun _ : World => True)) (by kernel_rfl) ?_
  change wpAnyT _ _ _ _ _ _ 17 _ _ wr.drew
  have hH : (fun _ : World => True) wr.drew := trivial
  refine wpAnyT_take (i := 0) (v := ?_) rfl (by kernel_rfl) (by kernel_rfl) (by kernel_rfl) (by kernel_rfl) (fun _ _ _ h => h) (Or.inl ⟨by rfl, ?_⟩) hH ?_
  rotate_left
  · (intro w hSw; skip; go_simp; try with_reducible rfl)
  try simp only [Act.put, List.setIfInBounds_toArray, List.set_cons_zero, List.set_cons_succ]
  refine wpAnyT_take (i := 1) (v := ?_) rfl (by kernel_rfl) (by kernel_rfl) (by kernel_rfl) (by kernel_rfl) (fun _ _ _ h => h) (Or.inl ⟨by rfl, ?_⟩) hH ?_
  rotate_left
  · (intro w hSw; skip; go_simp; try with_reducible rfl)
  try simp only [Act.put, List.setIfInBounds_toArray, List.set_cons_zero, List.set_cons_succ]
  refine wpAnyT_take (i := 2) (v := ?_) rfl (by kernel_rfl) (by kernel_rfl) (by kernel_rfl) (by kernel_rfl) (fun _ _ _ h => h) (Or.inl ⟨by rfl, ?_⟩) hH ?_
  rotate_left
  · (intro w hSw; skip; go_simp; try with_reducible rfl)
  try simp only [Act.put, List.setIfInBounds_toArray, List.set_cons_zero, List.set_cons_succ]
  refine wpAnyT_take (i := 3) (v := ?_) rfl (by kernel_rfl) (by kernel_rfl) (by kernel_rfl) (by kernel_rfl) (fun _ _ _ h => h) (Or.inl ⟨by rfl, ?_⟩) hH ?_
  rotate_left
  · (intro w hSw; skip; go_simp; try with_reducible rfl)
  try simp only [Act.put, List.setIfInBounds_toArray, List.set_cons_zero, List.set_cons_succ]
  refine wpAnyT_take (i := 4) (v := ?_) rfl (by kernel_rfl) (by kernel_rfl) (by kernel_rfl) (by kernel_rfl) (fun _ _ _ h => h) (Or.inl ⟨by rfl, ?_⟩) hH ?_
  rotate_left
  · (intro w hSw; skip; go_simp; try with_reducible rfl)
  try simp only [Act.put, List.setIfInBounds_toArray, List.set_cons_zero, List.set_cons_succ]
  refine wpAnyT_take (i := 5) (v := ?_) rfl (by kernel_rfl) (by kernel_rfl) (by kernel_rfl) (by kernel_rfl) (fun _ _ _ h => h) (Or.inl ⟨by rfl, ?_⟩) hH ?_
  rotate_left
  · (intro w hSw; skip; go_simp; try with_reducible rfl)
  try simp only [Act.put, List.setIfInBounds_toArray, List.set_cons_zero, List.set_cons_succ]
  refine wpAnyT_take (i := 6) (v := ?_) rfl (by kernel_rfl) (by kernel_rfl) (by kernel_rfl) (by kernel_rfl) (fun _ _ _ h => h) (Or.inl ⟨by rfl, ?_⟩) hH ?_
  rotate_left
  · (intro w hSw; skip; go_simp; try with_reducible rfl)
  try simp only [Act.put, List.setIfInBounds_toArray, List.set_cons_zero, List.set_cons_succ]
  refine wpAnyT_take (i := 7) (v := ?_) rfl (by kernel_rfl) (by kernel_rfl) (by kernel_rfl) (by kernel_rfl) (fun _ _ _ h => h) (Or.inl ⟨by rfl, ?_⟩) hH ?_
  rotate_left
  · (intro w hSw; skip; go_simp; try with_reducible rfl)
  try simp only [Act.put, List.setIfInBounds_toArray, List.set_cons_zero, List.set_cons_succ]
  refine wpAnyT_take (i := 9) (v := ?_) rfl (by kernel_rfl) (by kernel_rfl) (by kernel_rfl) (by kernel_rfl) (fun _ _ _ h => h) (Or.inl ⟨by rfl, ?_⟩) hH ?_
  rotate_left
  · (intro w hSw; skip; go_simp; try with_reducible rfl)
  try simp only [Act.put, List.setIfInBounds_toArray, List.set_cons_zero, List.set_cons_succ]
  refine wpAnyT_take (i := 10) (v := ?_) rfl (by kernel_rfl) (by kernel_rfl) (by kernel_rfl) (by kernel_rfl) (fun _ _ _ h => h) (Or.inl ⟨by rfl, ?_⟩) hH ?_
  rotate_left
  · (intro w hSw; skip; go_simp; try with_reducible rfl)
  try simp only [Act.put, List.setIfInBounds_toArray, List.set_cons_zero, List.set_cons_succ]
  refine wpAnyT_take (i := 13) (v := ?_) rfl (by kernel_rfl) (by kernel_rfl) (by kernel_rfl) (by kernel_rfl) (fun _ _ _ h => h) (Or.inl ⟨by rfl, ?_⟩) hH ?_
  rotate_left
  · (intro w hSw; skip; go_simp; try with_reducible rfl)
  try simp only [Act.put, List.setIfInBounds_toArray, List.set_cons_zero, List.set_cons_succ]
  refine wpAnyT_take (i := 14) (v := ?_) rfl (by kernel_rfl) (by kernel_rfl) (by kernel_rfl) (by kernel_rfl) (fun _ _ _ h => h) (Or.inl ⟨by rfl, ?_⟩) hH ?_
  rotate_left
  · (intro w hSw; skip; go_simp; try with_reducible rfl)
  try simp only [Act.put, List.setIfInBounds_toArray, List.set_cons_zero, List.set_cons_succ]
  refine wpAnyT_one (i := 8) (by kernel_rfl) ?_
  refine wpOp_goK rfl rfl (fun K9 hK9 => ?_)
  go_simp
  have hwrap : IntKind.i64.wrap ((lv : Int) + 1) = ((lv + 1 : Nat) : Int) := by rw [IntKind.wrap_i64]; omega
  rw [hwrap]
  refine (HC.out wr.drew (ext_drew (Ext.refl wr))).mono ?_
  rintro e w2 ⟨q2, rfl, f2, r2⟩
  have e2 : Ext wr w2 := (ext_drew (Ext.refl wr)).trans f2
  have H2 : Hid (Ext wr w2 ∧ R q2 w2) := Lib.hid ⟨e2, r2⟩
  clear r2 f2 hwrap
  go_simp
  refine hK9.out _ _ ⟨.inr trivial, ?_⟩
  clear hK9 K9 hH
  have hH : (fun _ : World => True) w2 := trivial
  obtain ⟨hq, a0, a1⟩ := H.out
  have hq2 : w2.heap[q]? = some (.cells A TT (0, 0)) := (e2.block q (heap_lt hq)).trans hq
  have c0 := cell_at hq2 a0
  have c1 := cell_at hq2 a1
  have cf : ∀ j, w2.frozen? ⟨q, j, none⟩ = false := fun j => by simp [World.frozen?, hq2]
  clear hq hq2 a0 a1 e2
  refine wpAnyT_take (i := 11) (v := ?_) rfl (by kernel_rfl) (by kernel_rfl) (by kernel_rfl) (by kernel_rfl) (fun _ _ _ h => h) (Or.inl ⟨by rfl, ?_⟩) hH ?_
  rotate_left
  · (intro w hSw; skip; go_simp; try with_reducible rfl)
  try simp only [Act.put, List.setIfInBounds_toArray, List.set_cons_zero, List.set_cons_succ]
  refine wpAnyT_one (i := 12) (by kernel_rfl) ?_
  refine wpOp_goK rfl rfl (fun K9 hK9 => ?_)
  go_simp
  obtain ⟨hq, a0, a1⟩ := H.out
  have hq2 : w2.heap[q]? = some (.cells A TT (0, 0)) := (H2.out.1.block q (heap_lt hq)).trans hq
  have O1 : Only (fun j => j = q) w2 (w2.setCell ⟨q, 2 + k, none⟩ (.int .i64 2)) := Only.setCell (S := fun j => j = q) (p := ⟨q, 2 + k, none⟩) (Only.refl w2) (.inl rfl) _
  have hq1 : (w2.setCell ⟨q, 2 + k, none⟩ (.int .i64 2)).heap[q]? = some (.cells (A.setIfInBounds (2 + k) (.int .i64 2)) TT (0, 0)) := heap_set hq2 (2 + k) _
  refine hK9.out _ _ ⟨.inr trivial, ?_⟩
  clear hK9 K9 hH
  have hH : (fun _ : World => True) (w2.setCell ⟨q, 2 + k, none⟩ (.int .i64 2)) := trivial
  obtain ⟨w1, hw1⟩ : ∃ w1, w1 = w2.setCell ⟨q, 2 + k, none⟩ (.int .i64 2) := ⟨_, rfl⟩
  rw [← hw1] at O1 hq1 hH ⊢
  clear hw1 c0 c1 cf hq hq2
  have c1 := cell_at hq1 (j := 98 + k) (by rw [Array.getElem?_setIfInBounds_ne (by omega)]; exact a1)
  have cf : ∀ j, w1.frozen? ⟨q, j, none⟩ = false := fun j => by simp [World.frozen?, hq1]
  have H1 := Lib.hid (And.intro hq1 O1)
  clear hq1 O1 a0 a1
  refine wpAnyT_take (i := 15) (v := ?_) rfl (by kernel_rfl) (by kernel_rfl) (by kernel_rfl) (by kernel_rfl) (fun _ _ _ h => h) (Or.inl ⟨by rfl, ?_⟩) hH ?_
  rotate_left
  · (intro w hSw; skip; go_simp; try with_reducible rfl)
  try simp only [Act.put, List.setIfInBounds_toArray, List.set_cons_zero, List.set_cons_succ]
  refine wpAnyT_one (i := 16) (by kernel_rfl) ?_
  refine wpOp_goK rfl rfl (fun K9 hK9 => ?_)
  go_simp
  refine hK9.out _ _ ⟨.inr trivial, (by kernel_rfl), ?_⟩
  refine NoPanic.normal ?_
  exact HQF.out _ _ _ _ _ _ _ _ _ _ _ _ _ _ _ _ ⟨q2, w2, H2.out.1, H2.out.2, heap_set H1.out.1 _ _, H1.out.2.setCell (p := ⟨q, 98 + k, none⟩) (.inl rfl) _⟩

end Go.Proofs.Ytkfiinmoecibcaa
