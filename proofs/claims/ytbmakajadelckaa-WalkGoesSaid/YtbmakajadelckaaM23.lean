/- Texts joined. -/
import Derived.Test.YtbmakajadelckaaFc
import Derived.BigRegion
import Derived.Test.YtbmakajadelckaaM05
import Derived.Deep.LoopGhost
import Derived.Deep.DeepCutAuto
set_option linter.unusedVariables false
set_option linter.unusedSimpArgs false
/- The document's trie: a pair is put down: a law of its own. -/
namespace Go.Proofs.Ytbmakajadelckaa
open Go.RowKit Go.QS Go.QS.Nk
set_option linter.unusedVariables false

theorem wpAnyT_one {P : Program} {ops : Array Oper} {Q : Exit → Act → World → Prop} {md : Region.Mode} {S : World → Prop} {n i fuel : Nat} {listed : Array Bool} {a : Act} {w : World} (hr : Region.ready md ops listed = [i])
    (h : wpOp P ops Q i (fun a' w' => (n ≤ i ∨ S w') ∧ wpAnyT P md ops Q S n fuel (listed.setIfInBounds i true) a' w') a w) : wpAnyT P md ops Q S n (fuel + 1) listed a w :=
  wpAnyT_all hr (by simp) (fun j hj => by cases List.mem_singleton.1 hj; exact h)
theorem cell_at {w : World} {g j : Nat} {A : Array Value} {T : TypeId} {u : Value} (h : w.heap[g]? = some (.cells A T (0, 0))) (hu : A[j]? = some u) : w.cell? ⟨g, j, none⟩ = some u := by
  simp [World.cell?, h, hu]
set_option maxRecDepth 100000 in
set_option maxHeartbeats 2000000 in
theorem of_16 (wr : World) (q k bo oo c9 : Nat) (A : Array Value) (p : Pr) (z0 z1 z2 : Value) (hk : k < 32) (H : Hid (wr.heap[q]? = some (.cells A TT (0, 0)) ∧ A[2 + k]? = some z0 ∧ A[34 + k * 2]? = some z1 ∧ A[34 + k * 2 + 1]? = some z2 ∧ wr.cell? ⟨bo, oo, none⟩ = some (str p.1) ∧ wr.cell? ⟨bo, oo + 1, none⟩ = some (str p.2) ∧ bo ≠ q)) (hcc : 1 ≤ c9) (c : Code) (Q : Exit → Act → World → Prop) (t0 t1 t2 t3 t4 t5 t6 t10 t11 t12 t13 t14 t15 t16 t17 t18 t19 t20 t21 t22 t23 t24 t25 t26 t27 t28 t29 t30 t31 t32 t33 t34 t35 t36 t37 t38 t39 t40 t41 t42 t43 t44 t45 t46 t47 t48 t49 t50 t51 t52 t53 t54 t55 t56 t57 t58 t59 t60 t61 t62 t63 t64 t65 t66 t67 t68 t69 t70 t71 t72 t73 t74 t75 t76 t77 t78 t79 t80 t81 t82 t83 t84 t85 : Value)
    (hc : (Try.f80.body.bind (findR 16)) = some c)
    (hQ : ∀ (u54 u55 u56 u57 u58 u59 u60 u61 u62 u63 u64 u65 u66 : Value) (wx : World), wx.heap[q]? = some (.cells (((A.setIfInBounds (2 + k) (.int .i64 1)).setIfInBounds (34 + k * 2) (str p.1)).setIfInBounds (34 + k * 2 + 1) (str p.2)) TT (0, 0)) ∧ Only (fun k => k = q) wr wx → Q .normal { tmps := List.toArray (t0 :: t1 :: t2 :: t3 :: t4 :: t5 :: t6 :: (ptr q) :: (.int .i64 k) :: (.slice (some ⟨bo, oo, none⟩) 1 c9) :: t10 :: t11 :: t12 :: t13 :: t14 :: t15 :: t16 :: t17 :: t18 :: t19 :: t20 :: t21 :: t22 :: t23 :: t24 :: t25 :: t26 :: t27 :: t28 :: t29 :: t30 :: t31 :: t32 :: t33 :: t34 :: t35 :: t36 :: t37 :: t38 :: t39 :: t40 :: t41 :: t42 :: t43 :: t44 :: t45 :: t46 :: t47 :: t48 :: t49 :: t50 :: t51 :: t52 :: t53 :: u54 :: u55 :: u56 :: u57 :: u58 :: u59 :: u60 :: u61 :: u62 :: u63 :: u64 :: u65 :: u66 :: t67 :: t68 :: t69 :: t70 :: t71 :: t72 :: t73 :: t74 :: t75 :: t76 :: t77 :: t78 :: t79 :: t80 :: t81 :: t82 :: t83 :: t84 :: t85 :: []), defers := [] } wx) :
    c.wp Try.prog Q { tmps := List.toArray (t0 :: t1 :: t2 :: t3 :: t4 :: t5 :: t6 :: (ptr q) :: (.int .i64 k) :: (.slice (some ⟨bo, oo, none⟩) 1 c9) :: t10 :: t11 :: t12 :: t13 :: t14 :: t15 :: t16 :: t17 :: t18 :: t19 :: t20 :: t21 :: t22 :: t23 :: t24 :: t25 :: t26 :: t27 :: t28 :: t29 :: t30 :: t31 :: t32 :: t33 :: t34 :: t35 :: t36 :: t37 :: t38 :: t39 :: t40 :: t41 :: t42 :: t43 :: t44 :: t45 :: t46 :: t47 :: t48 :: t49 :: t50 :: t51 :: t52 :: t53 :: t54 :: t55 :: t56 :: t57 :: t58 :: t59 :: t60 :: t61 :: t62 :: t63 :: t64 :: t65 :: t66 :: t67 :: t68 :: t69 :: t70 :: t71 :: t72 :: t73 :: t74 :: t75 :: t76 :: t77 :: t78 :: t79 :: t80 :: t81 :: t82 :: t83 :: t84 :: t85 :: []), defers := [] } wr := by
  change some _ = some c at hc
  cases hc
  have HQF := Lib.hid hQ
  clear hQ
  have hc1 : (k : Int) < 32 := by omega
  have hc0 : (0 : Int) ≤ (k : Int) := by omega
  obtain ⟨hq, a0, a1, a2, o0, o1, hne⟩ := H.out
  have c0 := cell_at hq a0
  have c1 := cell_at hq a1
  have c2 := cell_at hq a2
  have cf : ∀ j, wr.frozen? ⟨q, j, none⟩ = false := fun j => by simp [World.frozen?, hq]
  clear hq a0 a1 a2 hne
  refine wp_region_noPanic ?_
  refine wp_region_T (n := 15) (S := (fun w' : World => w'.cell? ⟨bo, oo, none⟩ = some (str p.1) ∧ w'.cell? ⟨bo, oo + 1, none⟩ = some (str p.2))) (by kernel_rfl) ?_
  change wpAnyT _ _ _ _ _ _ 15 _ _ wr.drew
  have hH : (fun w' : World => w'.cell? ⟨bo, oo, none⟩ = some (str p.1) ∧ w'.cell? ⟨bo, oo + 1, none⟩ = some (str p.2)) wr.drew := ⟨o0, o1⟩
  refine wpAnyT_take (i := 0) (v := ?_) rfl (by kernel_rfl) (by kernel_rfl) (by kernel_rfl) (by kernel_rfl) (fun _ _ _ h => h) (Or.inl ⟨by rfl, ?_⟩) hH ?_
  rotate_left
  · (intro w hSw; (try dsimp only at hSw); obtain ⟨s0, s1⟩ := hSw; go_simp; try with_reducible rfl)
  try simp only [Act.put, List.setIfInBounds_toArray, List.set_cons_zero, List.set_cons_succ]
  refine wpAnyT_take (i := 1) (v := ?_) rfl (by kernel_rfl) (by kernel_rfl) (by kernel_rfl) (by kernel_rfl) (fun _ _ _ h => h) (Or.inl ⟨by rfl, ?_⟩) hH ?_
  rotate_left
  · (intro w hSw; (try dsimp only at hSw); obtain ⟨s0, s1⟩ := hSw; go_simp; try with_reducible rfl)
  try simp only [Act.put, List.setIfInBounds_toArray, List.set_cons_zero, List.set_cons_succ]
  refine wpAnyT_take (i := 2) (v := ?_) rfl (by kernel_rfl) (by kernel_rfl) (by kernel_rfl) (by kernel_rfl) (fun _ _ _ h => h) (Or.inl ⟨by rfl, ?_⟩) hH ?_
  rotate_left
  · (intro w hSw; (try dsimp only at hSw); obtain ⟨s0, s1⟩ := hSw; go_simp; try with_reducible rfl)
  try simp only [Act.put, List.setIfInBounds_toArray, List.set_cons_zero, List.set_cons_succ]
  refine wpAnyT_take (i := 3) (v := ?_) rfl (by kernel_rfl) (by kernel_rfl) (by kernel_rfl) (by kernel_rfl) (fun _ _ _ h => h) (Or.inl ⟨by rfl, ?_⟩) hH ?_
  rotate_left
  · (intro w hSw; (try dsimp only at hSw); obtain ⟨s0, s1⟩ := hSw; go_simp; try with_reducible rfl)
  try simp only [Act.put, List.setIfInBounds_toArray, List.set_cons_zero, List.set_cons_succ]
  refine wpAnyT_take (i := 4) (v := ?_) rfl (by kernel_rfl) (by kernel_rfl) (by kernel_rfl) (by kernel_rfl) (fun _ _ _ h => h) (Or.inl ⟨by rfl, ?_⟩) hH ?_
  rotate_left
  · (intro w hSw; (try dsimp only at hSw); obtain ⟨s0, s1⟩ := hSw; go_simp; try with_reducible rfl)
  try simp only [Act.put, List.setIfInBounds_toArray, List.set_cons_zero, List.set_cons_succ]
  refine wpAnyT_take (i := 5) (v := ?_) rfl (by kernel_rfl) (by kernel_rfl) (by kernel_rfl) (by kernel_rfl) (fun _ _ _ h => h) (Or.inl ⟨by rfl, ?_⟩) hH ?_
  rotate_left
  · (intro w hSw; (try dsimp only at hSw); obtain ⟨s0, s1⟩ := hSw; go_simp; try with_reducible rfl)
  try simp only [Act.put, List.setIfInBounds_toArray, List.set_cons_zero, List.set_cons_succ]
  refine wpAnyT_take (i := 6) (v := ?_) rfl (by kernel_rfl) (by kernel_rfl) (by kernel_rfl) (by kernel_rfl) (fun _ _ _ h => h) (Or.inl ⟨by rfl, ?_⟩) hH ?_
  rotate_left
  · (intro w hSw; (try dsimp only at hSw); obtain ⟨s0, s1⟩ := hSw; go_simp; try with_reducible rfl)
  try simp only [Act.put, List.setIfInBounds_toArray, List.set_cons_zero, List.set_cons_succ]
  refine wpAnyT_take (i := 7) (v := ?_) rfl (by kernel_rfl) (by kernel_rfl) (by kernel_rfl) (by kernel_rfl) (fun _ _ _ h => h) (Or.inl ⟨by rfl, ?_⟩) hH ?_
  rotate_left
  · (intro w hSw; (try dsimp only at hSw); obtain ⟨s0, s1⟩ := hSw; go_simp; try with_reducible rfl)
  try simp only [Act.put, List.setIfInBounds_toArray, List.set_cons_zero, List.set_cons_succ]
  refine wpAnyT_take (i := 8) (v := ?_) rfl (by kernel_rfl) (by kernel_rfl) (by kernel_rfl) (by kernel_rfl) (fun _ _ _ h => h) (Or.inl ⟨by rfl, ?_⟩) hH ?_
  rotate_left
  · (intro w hSw; (try dsimp only at hSw); obtain ⟨s0, s1⟩ := hSw; go_simp; try with_reducible rfl)
  try simp only [Act.put, List.setIfInBounds_toArray, List.set_cons_zero, List.set_cons_succ]
  refine wpAnyT_take (i := 9) (v := ?_) rfl (by kernel_rfl) (by kernel_rfl) (by kernel_rfl) (by kernel_rfl) (fun _ _ _ h => h) (Or.inl ⟨by rfl, ?_⟩) hH ?_
  rotate_left
  · (intro w hSw; (try dsimp only at hSw); obtain ⟨s0, s1⟩ := hSw; go_simp; try with_reducible rfl)
  try simp only [Act.put, List.setIfInBounds_toArray, List.set_cons_zero, List.set_cons_succ]
  refine wpAnyT_take (i := 11) (v := ?_) rfl (by kernel_rfl) (by kernel_rfl) (by kernel_rfl) (by kernel_rfl) (fun _ _ _ h => h) (Or.inl ⟨by rfl, ?_⟩) hH ?_
  rotate_left
  · (intro w hSw; (try dsimp only at hSw); obtain ⟨s0, s1⟩ := hSw; go_simp; try with_reducible rfl)
  try simp only [Act.put, List.setIfInBounds_toArray, List.set_cons_zero, List.set_cons_succ]
  refine wpAnyT_take (i := 12) (v := ?_) rfl (by kernel_rfl) (by kernel_rfl) (by kernel_rfl) (by kernel_rfl) (fun _ _ _ h => h) (Or.inl ⟨by rfl, ?_⟩) hH ?_
  rotate_left
  · (intro w hSw; (try dsimp only at hSw); obtain ⟨s0, s1⟩ := hSw; go_simp; try with_reducible rfl)
  try simp only [Act.put, List.setIfInBounds_toArray, List.set_cons_zero, List.set_cons_succ]
  refine wpAnyT_one (i := 10) (by kernel_rfl) ?_
  refine wpOp_goK rfl rfl (fun K9 hK9 => ?_)
  go_simp
  have O1 : Only (fun j => j = q) wr ((wr.setCell ⟨q, 2 + k, none⟩ (.int .i64 1)).drew) := (Only.setCell (S := fun j => j = q) (p := ⟨q, 2 + k, none⟩) (Only.refl wr) (.inl rfl) _).drew
  obtain ⟨hq, a0, a1, a2, _, _, hne⟩ := H.out
  have hq1 : ((wr.setCell ⟨q, 2 + k, none⟩ (.int .i64 1)).drew).heap[q]? = some (.cells (A.setIfInBounds (2 + k) (.int .i64 1)) TT (0, 0)) := heap_set hq (2 + k) _
  refine hK9.out _ _ ⟨.inr ⟨O1.cell o0 hne, O1.cell o1 hne⟩, ?_⟩
  clear hK9 K9 hH
  have hH : (fun w' : World => w'.cell? ⟨bo, oo, none⟩ = some (str p.1) ∧ w'.cell? ⟨bo, oo + 1, none⟩ = some (str p.2)) ((wr.setCell ⟨q, 2 + k, none⟩ (.int .i64 1)).drew) := ⟨O1.cell o0 hne, O1.cell o1 hne⟩
  obtain ⟨w1, hw1⟩ : ∃ w1, w1 = (wr.setCell ⟨q, 2 + k, none⟩ (.int .i64 1)).drew := ⟨_, rfl⟩
  rw [← hw1] at O1 hq1 hH ⊢
  clear hw1 c0 c1 c2 cf hq
  have c1 := cell_at hq1 (j := 34 + k * 2) (by rw [Array.getElem?_setIfInBounds_ne (by omega)]; exact a1)
  have c2 := cell_at hq1 (j := 34 + k * 2 + 1) (by rw [Array.getElem?_setIfInBounds_ne (by omega)]; exact a2)
  have cf : ∀ j, w1.frozen? ⟨q, j, none⟩ = false := fun j => by simp [World.frozen?, hq1]
  have H1 := Lib.hid (And.intro hq1 (And.intro O1 hne))
  clear hq1 O1 a0 a1 a2 hne
  refine wpAnyT_take (i := 13) (v := ?_) rfl (by kernel_rfl) (by kernel_rfl) (by kernel_rfl) (by kernel_rfl) (fun _ _ _ h => h) (Or.inl ⟨by rfl, ?_⟩) hH ?_
  rotate_left
  · (intro w hSw; (try dsimp only at hSw); obtain ⟨s0, s1⟩ := hSw; go_simp; try with_reducible rfl)
  try simp only [Act.put, List.setIfInBounds_toArray, List.set_cons_zero, List.set_cons_succ]
  refine wpAnyT_one (i := 14) (by kernel_rfl) ?_
  refine wpOp_goK rfl rfl (fun K9 hK9 => ?_)
  go_simp
  have O2 : Only (fun j => j = q) wr ((w1.setCell ⟨q, 34 + k * 2, none⟩ (str p.1)).setCell ⟨q, 34 + k * 2 + 1, none⟩ (str p.2)) := (H1.out.2.1.setCell (p := ⟨q, 34 + k * 2, none⟩) (.inl rfl) _).setCell (p := ⟨q, 34 + k * 2 + 1, none⟩) (.inl rfl) _
  refine hK9.out _ _ ⟨.inr ⟨O2.cell H.out.2.2.2.2.1 H1.out.2.2, O2.cell H.out.2.2.2.2.2.1 H1.out.2.2⟩, (by kernel_rfl), ?_⟩
  refine NoPanic.normal ?_
  exact HQF.out _ _ _ _ _ _ _ _ _ _ _ _ _ _ ⟨heap_set (heap_set H1.out.1 _ _) _ _, O2⟩

end Go.Proofs.Ytbmakajadelckaa
/- Contracts: the document's Level and Buckets of a trie. -/
namespace Go.QS
open Go.RowKit Go.QS.Nk
/-- What hangs at each chunk of the document's node: no kid, or one that C tells of. -/
def Hang (A : Array Value) (xs : List (List WT)) (C : Nat → WT → Prop) : Prop := xs.length = 32 ∧ ∀ c, c < 32 →
  (xs[c]? = some [] ∧ ∃ i : Nat, A[2 + c]? = some (.int .i64 (i : Int)) ∧ i ≠ 2) ∨ (∃ u q, xs[c]? = some [u] ∧ A[2 + c]? = some (.int .i64 2) ∧ A[98 + c]? = some (ptr q) ∧ C q u)
theorem flat_snoc {xs : List (List WT)} {c : Nat} {x : List WT} (h : xs[c]? = some x) : (xs.take (c + 1)).flatten = (xs.take c).flatten ++ x := by
  rw [take_snoc h, List.flatten_append]; simp
theorem flat_sub (xs : List (List WT)) (c : Nat) : xs.flatten = (xs.take c).flatten ++ (xs.drop c).flatten := by
  rw [← List.flatten_append, List.take_append_drop]
theorem bksL_append (a b : List WT) : bksL (a ++ b) = bksL a + bksL b := by
  induction a with
  | nil => simp [bksL]
  | cons t a ih => rw [List.cons_append, bksL_cons, bksL_cons, ih]; omega
theorem mostL_append (a b : List WT) : mostL (a ++ b) = max (mostL a) (mostL b) := by
  induction a with
  | nil => simp [mostL]
  | cons t a ih => rw [List.cons_append, mostL_cons, mostL_cons, ih]; omega
/-- The kids of a trie by their chunks. -/
def hung (H : List UInt8 → Nat) (f : Nat) (l : List Pr) : List (List WT) := (parts H (12 - f) l).map fun x => if 2 ≤ x.length then [trieOf H f x] else []
theorem hung_flat (H : List UInt8 → Nat) (f : Nat) (l : List Pr) : (hung H f l).flatten = (trieOf H (f + 1) l).ks := by
  unfold hung
  simp only [trieOf, WT.ks_mk]
  generalize parts H (12 - f) l = xs
  induction xs with
  | nil => rfl
  | cons x xs ih =>
    rw [List.map_cons, List.flatten_cons, ih]
    by_cases h : 2 ≤ x.length
    · rw [if_pos h]
      have e : twos (x :: xs) = x :: twos xs := by simp [twos, h]
      rw [e]; rfl
    · rw [if_neg h]
      have e : twos (x :: xs) = twos xs := by simp [twos, h]
      rw [e]; rfl
theorem hang_zero {A : Array Value} (C : Nat → WT → Prop) (h : ∀ c, c < 32 → A[2 + c]? = some (.int .i64 0)) : Hang A (List.replicate 32 []) C :=
  ⟨by simp, fun c hc => .inl ⟨by rw [List.getElem?_replicate]; simp [hc], 0, h c hc, by decide⟩⟩
end Go.QS
namespace Go.Proofs.Ytbmakajadelckaa
open Go.RowKit Go.QS Go.QS.Nk
set_option linter.unusedVariables false

theorem hang_succ {H : List UInt8 → Nat} {w : World} {f : Nat} {A : Array Value} {l : List Pr} {C : Nat → WT → Prop} (h : ∀ c, c < 32 → EntOk (DR H w f) A c (Go.QS.part H (12 - f) c l)) (hl : l.length ≤ 100000)
    (hC : ∀ q x, DR H w f q x → x.length ≤ 100000 → C q (trieOf H f x)) : Hang A (hung H f l) C := by
  refine ⟨by simp [hung, parts_length], fun c hc => ?_⟩
  have hg : (hung H f l)[c]? = some (if 2 ≤ (Go.QS.part H (12 - f) c l).length then [trieOf H f (Go.QS.part H (12 - f) c l)] else []) := by
    unfold hung
    rw [List.getElem?_map, parts_get H _ l hc]; rfl
  rcases h c hc with ⟨h0, b0⟩ | ⟨p, h0, b0, _, _⟩ | ⟨h2, q, b0, b1, hR⟩
  · rw [h0] at hg
    exact .inl ⟨by simpa using hg, 0, b0, by decide⟩
  · rw [h0] at hg
    exact .inl ⟨by simpa using hg, 1, b0, by decide⟩
  · rw [if_pos h2] at hg
    exact .inr ⟨_, q, hg, b0, b1, hC q _ hR (Nat.le_trans part_length hl)⟩

theorem bksL_cnt : ∀ l : List WT, (∀ t ∈ l, bksT t ≤ cntT t) → bksL l ≤ cntL l
  | [], _ => Nat.le_refl _
  | t :: r, h => by
    have := bksL_cnt r fun u hu => h u (List.mem_cons_of_mem _ hu)
    have := h t (List.mem_cons_self ..)
    rw [bksL_cons, cntL_cons]; omega
theorem most_prs (H : List UInt8 → Nat) : ∀ (f : Nat) (l : List Pr), mostT (trieOf H f l) ≤ l.length
  | 0, l => by simp [trieOf, mostT, mostL]
  | f + 1, l => by
    rw [mostT_eq]
    simp only [trieOf, WT.b_mk, WT.ks_mk, Bool.false_eq_true, if_false]
    have key : ∀ xs : List (List Pr), (∀ x ∈ xs, x.length ≤ l.length) → mostL (xs.map (trieOf H f)) ≤ l.length := by
      intro xs
      induction xs with
      | nil => intro _; simp [mostL]
      | cons x xs ih =>
        intro hx
        have h1 := most_prs H f x
        have h2 := hx x (List.mem_cons_self ..)
        have h3 := ih fun y hy => hx y (List.mem_cons_of_mem _ hy)
        rw [List.map_cons, mostL_cons]
        omega
    have := key _ fun x hx => part_le (twos_two (xs := parts H (12 - f) l) hx).2
    omega
end Go.Proofs.Ytbmakajadelckaa
