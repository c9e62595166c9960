/- Texts joined. -/
import Derived.Test.YtclcgelbcbnekaaDoorM17
import Derived.Test.YtclcgelbcbnekaaDoorM12
set_option linter.unusedVariables false
set_option linter.unusedSimpArgs false
/- SetKid's region that inserts: a law of its own. -/
namespace Go.Proofs.YtclcgelbcbnekaaDoor
open Go.RowKit Go.QS Go.QS.Nk
set_option linter.unusedVariables false
variable [Zero (Nat → Prop)]
set_option linter.unusedSectionVars false

set_option maxRecDepth 100000 in
set_option maxHeartbeats 2000000 in
theorem setk_10 (base : Nat) (wr : World) (cn g i : Nat) (sl : List (Slot Nat)) (ow : Option Addr) (pv kv : Value) (H : Hid (InO base wr cn sl ow pv kv ∧ sl[i]? = some .no)) (hbase : base ≤ wr.heap.size) (c : Code) (Q : Exit → Act → World → Prop) (t0 t1 t4 t5 t6 t7 t8 t10 t11 t12 t13 t14 t15 t16 t17 t18 t19 t20 t21 t22 t23 t24 t25 t26 t27 t28 t29 t30 t31 t32 t33 t34 t35 t36 t37 t38 t39 t40 t41 t42 t43 t44 t45 t46 t47 t48 t49 t50 t51 t52 t53 t54 t55 t56 t57 t58 t59 t60 t61 t62 t63 t64 t65 t66 t67 t68 t69 t70 t71 t72 t73 t74 t75 t76 t77 t78 t79 t80 t81 : Value)
    (hc : (Tryd.f19.body.bind (findR 10)) = some c)
    (hQ : ∀ (u51 u52 u53 u54 u55 u56 u57 u58 u59 u60 u61 u62 u63 u64 u65 u66 u67 u68 u69 : Value) (wx : World), ∀ kv' : Value, NdAt ND wx cn (dataOf sl) (nodesOf sl) pv kv' false ow → wx.ownsRow base NP 2 pv (prsOf (sl.set i (.kid g))).length (flat (prsOf (sl.set i (.kid g)))) → wx.ownsRow base NK 1 kv' (kdsOf (sl.set i (.kid g))).length (ptrs (kdsOf (sl.set i (.kid g)))) → Only (fun k => k = cn ∨ pv.ownBlock = some k ∨ kv.ownBlock = some k) wr wx → (kv'.ownBlock = kv.ownBlock ∨ ∃ b, kv'.ownBlock = some b ∧ wr.heap.size ≤ b) → Q .normal { tmps := List.toArray (t0 :: t1 :: (.int .i64 i) :: (ptr g) :: t4 :: t5 :: t6 :: t7 :: t8 :: (ptr cn) :: t10 :: t11 :: t12 :: t13 :: t14 :: t15 :: t16 :: t17 :: t18 :: t19 :: t20 :: t21 :: t22 :: t23 :: t24 :: t25 :: t26 :: t27 :: t28 :: t29 :: t30 :: t31 :: t32 :: t33 :: t34 :: t35 :: t36 :: t37 :: t38 :: t39 :: t40 :: t41 :: t42 :: t43 :: t44 :: t45 :: t46 :: t47 :: t48 :: t49 :: t50 :: u51 :: u52 :: u53 :: u54 :: u55 :: u56 :: u57 :: u58 :: u59 :: u60 :: u61 :: u62 :: u63 :: u64 :: u65 :: u66 :: u67 :: u68 :: u69 :: t70 :: t71 :: t72 :: t73 :: t74 :: t75 :: t76 :: t77 :: t78 :: t79 :: t80 :: t81 :: []), defers := [] } wx) :
    c.wp Tryd.prog Q { tmps := List.toArray (t0 :: t1 :: (.int .i64 i) :: (ptr g) :: t4 :: t5 :: t6 :: t7 :: t8 :: (ptr cn) :: t10 :: t11 :: t12 :: t13 :: t14 :: t15 :: t16 :: t17 :: t18 :: t19 :: t20 :: t21 :: t22 :: t23 :: t24 :: t25 :: t26 :: t27 :: t28 :: t29 :: t30 :: t31 :: t32 :: t33 :: t34 :: t35 :: t36 :: t37 :: t38 :: t39 :: t40 :: t41 :: t42 :: t43 :: t44 :: t45 :: t46 :: t47 :: t48 :: t49 :: t50 :: t51 :: t52 :: t53 :: t54 :: t55 :: t56 :: t57 :: t58 :: t59 :: t60 :: t61 :: t62 :: t63 :: t64 :: t65 :: t66 :: t67 :: t68 :: t69 :: t70 :: t71 :: t72 :: t73 :: t74 :: t75 :: t76 :: t77 :: t78 :: t79 :: t80 :: t81 :: []), defers := [] } wr := by
  change some _ = some c at hc
  cases hc
  have HQF := Lib.hid hQ
  clear hQ
  have hO := H.out.1
  have hs := H.out.2
  have hi : i < 32 := by have := get_lt hs; rw [hO.1] at this; exact this
  obtain ⟨n, hd⟩ : ∃ n, n = nodesOf sl := ⟨_, rfl⟩
  have hd9 : n < 4294967296 := by rw [hd]; exact bits32 _ hO.1
  have h2 := hO.2
  rw [← hd] at h2
  obtain ⟨c0, c1, c2, c3, c4, c5⟩ := h2.node.cells
  obtain ⟨r, hr⟩ : ∃ r, r = rkK sl i := ⟨_, rfl⟩
  have HB : Hid (rnk n i = r) := Lib.hid (by rw [hd, hr]; exact rk_nodes (by rw [hO.1]; decide) i)
  have hp32 := kdsOf_len sl
  rw [hO.1] at hp32
  have hne : kv.ownBlock ≠ some cn := own_block_ne h2.kids h2.node (by decide)
  have hrl := rkK_le sl i
  rw [← hr] at hrl
  have hf := h2.node.free
  have hcl : cn < wr.heap.size := h2.node.lt
  have HN := Lib.hid h2
  have HK := Lib.hid (And.intro c1 c3)
  have HX := Lib.hid (And.intro hne hr)
  have HD := Lib.hid hd
  have HKV : Hid (∀ (x : World), Ext wr x → ∀ b, pv.ownBlock = some b → ¬ kv.ownBlock = some b) := Lib.hid (fun x f b hb e => by
    rcases HN.out.kids.2 with ⟨h, _⟩ | ⟨g', cap, cur, h1, h2, h3, h4⟩
    · rw [h] at e; cases e
    · rw [h1] at e
      cases e
      exact own_block_ne HN.out.pairs h3 (by decide) hb)
  clear hO hs hd h2 c0 c2 c4 c5 hr hne
  refine wp_region_noPanic ?_
  refine wp_region_T (n := 16) (S := fun w' : World => w'.cell? ⟨cn, 1, none⟩ = some (.int .u32 n) ∧ w'.cell? ⟨cn, 3, none⟩ = some kv) (by kernel_rfl) ?_
  change wpAnyT _ _ _ _ _ _ 20 _ _ wr.drew
  have hH : (fun w' : World => w'.cell? ⟨cn, 1, none⟩ = some (.int .u32 n) ∧ w'.cell? ⟨cn, 3, none⟩ = some kv) wr.drew := keep2n (ext_drew (Ext.refl wr)) HK.out
  refine wpAnyT_take (i := 0) (v := ?_) rfl (by kernel_rfl) (by kernel_rfl) (by kernel_rfl) (by kernel_rfl) (fun _ _ _ h => h) (Or.inl ⟨by rfl, ?_⟩) hH ?_
  rotate_left
  · (intro w hSw; (try dsimp only at hSw); obtain ⟨s0, s1⟩ := hSw; go_simp; try with_reducible rfl)
  try simp only [Act.put, List.setIfInBounds_toArray, List.set_cons_zero, List.set_cons_succ]
  refine wpAnyT_take (i := 1) (v := ?_) rfl (by kernel_rfl) (by kernel_rfl) (by kernel_rfl) (by kernel_rfl) (fun _ _ _ h => h) (Or.inl ⟨by rfl, ?_⟩) hH ?_
  rotate_left
  · (intro w hSw; (try dsimp only at hSw); obtain ⟨s0, s1⟩ := hSw; go_simp; try with_reducible rfl)
  try simp only [Act.put, List.setIfInBounds_toArray, List.set_cons_zero, List.set_cons_succ]
  refine wpAnyT_take (i := 2) (v := ?_) rfl (by kernel_rfl) (by kernel_rfl) (by kernel_rfl) (by kernel_rfl) (fun _ _ _ h => h) (Or.inl ⟨by rfl, ?_⟩) hH ?_
  rotate_left
  · (intro w hSw; (try dsimp only at hSw); obtain ⟨s0, s1⟩ := hSw; go_simp; try with_reducible rfl)
  try simp only [Act.put, List.setIfInBounds_toArray, List.set_cons_zero, List.set_cons_succ]
  refine wpAnyT_take (i := 3) (v := ?_) rfl (by kernel_rfl) (by kernel_rfl) (by kernel_rfl) (by kernel_rfl) (fun _ _ _ h => h) (Or.inl ⟨by rfl, ?_⟩) hH ?_
  rotate_left
  · (intro w hSw; (try dsimp only at hSw); obtain ⟨s0, s1⟩ := hSw; go_simp; try with_reducible rfl)
  try simp only [Act.put, List.setIfInBounds_toArray, List.set_cons_zero, List.set_cons_succ]
  refine wpAnyT_take (i := 4) (v := ?_) rfl (by kernel_rfl) (by kernel_rfl) (by kernel_rfl) (by kernel_rfl) (fun _ _ _ h => h) (Or.inl ⟨by rfl, ?_⟩) hH ?_
  rotate_left
  · (intro w hSw; (try dsimp only at hSw); obtain ⟨s0, s1⟩ := hSw; go_simp; try with_reducible rfl)
  try simp only [Act.put, List.setIfInBounds_toArray, List.set_cons_zero, List.set_cons_succ]
  refine wpAnyT_take (i := 5) (v := ?_) rfl (by kernel_rfl) (by kernel_rfl) (by kernel_rfl) (by kernel_rfl) (fun _ _ _ h => h) (Or.inl ⟨by rfl, ?_⟩) hH ?_
  rotate_left
  · (intro w hSw; (try dsimp only at hSw); obtain ⟨s0, s1⟩ := hSw; go_simp; try with_reducible rfl)
  try simp only [Act.put, List.setIfInBounds_toArray, List.set_cons_zero, List.set_cons_succ]
  refine wpAnyT_take (i := 6) (v := ?_) rfl (by kernel_rfl) (by kernel_rfl) (by kernel_rfl) (by kernel_rfl) (fun _ _ _ h => h) (Or.inl ⟨by rfl, ?_⟩) hH ?_
  rotate_left
  · (intro w hSw; (try dsimp only at hSw); obtain ⟨s0, s1⟩ := hSw; go_simp; try with_reducible rfl)
  try simp only [Act.put, List.setIfInBounds_toArray, List.set_cons_zero, List.set_cons_succ]
  refine wpAnyT_take (i := 7) (v := ?_) rfl (by kernel_rfl) (by kernel_rfl) (by kernel_rfl) (by kernel_rfl) (fun _ _ _ h => h) (Or.inl ⟨by rfl, ?_⟩) hH ?_
  rotate_left
  · (intro w hSw; (try dsimp only at hSw); obtain ⟨s0, s1⟩ := hSw; go_simp; try with_reducible rfl)
  try simp only [Act.put, List.setIfInBounds_toArray, List.set_cons_zero, List.set_cons_succ]
  refine wpAnyT_take (i := 8) (v := ?_) rfl (by kernel_rfl) (by kernel_rfl) (by kernel_rfl) (by kernel_rfl) (fun _ _ _ h => h) (Or.inl ⟨by rfl, ?_⟩) hH ?_
  rotate_left
  · (intro w hSw; (try dsimp only at hSw); obtain ⟨s0, s1⟩ := hSw; go_simp; try with_reducible rfl)
  try simp only [Act.put, List.setIfInBounds_toArray, List.set_cons_zero, List.set_cons_succ]
  refine wpAnyT_take (i := 9) (v := ?_) rfl (by kernel_rfl) (by kernel_rfl) (by kernel_rfl) (by kernel_rfl) (fun _ _ _ h => h) (Or.inl ⟨by rfl, ?_⟩) hH ?_
  rotate_left
  · (intro w hSw; (try dsimp only at hSw); obtain ⟨s0, s1⟩ := hSw; go_simp; try with_reducible rfl)
  try simp only [Act.put, List.setIfInBounds_toArray, List.set_cons_zero, List.set_cons_succ]
  refine wpAnyT_take (i := 10) (v := ?_) rfl (by kernel_rfl) (by kernel_rfl) (by kernel_rfl) (by kernel_rfl) (fun _ _ _ h => h) (Or.inl ⟨by rfl, ?_⟩) hH ?_
  rotate_left
  · (intro w hSw; (try dsimp only at hSw); obtain ⟨s0, s1⟩ := hSw; go_simp; try with_reducible rfl)
  try simp only [Act.put, List.setIfInBounds_toArray, List.set_cons_zero, List.set_cons_succ]
  refine wpAnyT_take (i := 11) (v := ?_) rfl (by kernel_rfl) (by kernel_rfl) (by kernel_rfl) (by kernel_rfl) (fun _ _ _ h => h) (Or.inl ⟨by rfl, ?_⟩) hH ?_
  rotate_left
  · (intro w hSw; (try dsimp only at hSw); obtain ⟨s0, s1⟩ := hSw; go_simp; try with_reducible rfl)
  try simp only [Act.put, List.setIfInBounds_toArray, List.set_cons_zero, List.set_cons_succ]
  refine wpAnyT_take (i := 13) (v := ?_) rfl (by kernel_rfl) (by kernel_rfl) (by kernel_rfl) (by kernel_rfl) (fun _ _ _ h => h) (Or.inl ⟨by rfl, ?_⟩) hH ?_
  rotate_left
  · (intro w hSw; (try dsimp only at hSw); obtain ⟨s0, s1⟩ := hSw; go_simp; try with_reducible rfl)
  try simp only [Act.put, List.setIfInBounds_toArray, List.set_cons_zero, List.set_cons_succ]
  refine wpAnyT_all (rs := [12, 14]) (by kernel_rfl) (by simp) ?_
  intro i9 hi9
  simp only [List.mem_cons, List.not_mem_nil, or_false] at hi9
  rcases hi9 with rfl | rfl
  · skip
    refine wpOp_goK rfl rfl (fun K9 hK9 => ?_)
    go_simp
    refine (rank_c _ n i hd9 hi).mono ?_
    rintro e x1 ⟨rfl, f1⟩
    rw [HB.out]
    have k0 := Lib.hid f1
    have k1 : Hid (Ext wr x1) := Lib.hid (Ext.trans (ext_drew (Ext.refl wr)) f1)
    have N1 := Lib.hid (HN.out.ext k1.out)
    have hx1 := k1.out.size
    clear f1
    go_simp
    refine hK9.out _ _ ⟨.inr (keep2n k1.out HK.out), ?_⟩
    clear hK9 K9
    refine wpAnyT_all (rs := [14]) (by kernel_rfl) (by simp) ?_
    intro i9 hi9
    obtain rfl := List.mem_singleton.1 hi9
    refine wpOp_goK rfl rfl (fun K9 hK9 => ?_)
    go_simp
    refine hK9.out _ _ ⟨.inr (keep2n (ext_alloc k1.out _) HK.out), ?_⟩
    clear hK9 K9
    refine wpAnyT_all (rs := [15]) (by kernel_rfl) (by simp) ?_
    intro i9 hi9
    obtain rfl := List.mem_singleton.1 hi9
    refine wpOp_goK rfl rfl (fun K9 hK9 => ?_)
    go_simp
    have e1 : Ext x1 (x1.alloc (.cells #[ptr g] NK)) := (Ext.refl _).alloc (Nat.le_refl _) _
    refine (kinsert_c base (x1.alloc (.cells #[ptr g] NK)) kv (kdsOf sl) r x1.heap.size g (row_ext N1.out.kids e1) hrl (heap_new x1 _) (fun e => by have := (N1.out.kids.lt _ e).2; omega) (by omega) (by (try simp); omega)).mono ?_
    rintro e x2 ⟨v2, rfl, o2, f2, b2⟩
    obtain ⟨q, hq⟩ : ∃ q, q = (kdsOf sl).take r ++ g :: (kdsOf sl).drop r := ⟨_, rfl⟩
    rw [← hq] at o2
    obtain ⟨A2, C2, rfl⟩ := own_slice o2
    have N2 : Hid (NdAt ND x2 cn (dataOf sl) n pv kv false ow) := Lib.hid (NdAt.only (N1.out.node.ext e1) (Only.of_grown f2) HX.out.1)
    have K2 : Hid (Only (fun k => k = cn ∨ pv.ownBlock = some k ∨ kv.ownBlock = some k) wr x2) := Lib.hid (((Only.of_ext k1.out).trans (Only.of_ext e1)).trans ((Only.of_grown f2).mono fun j _ hj => .inr (.inr hj)))
    have O2 := Lib.hid (And.intro o2 (And.intro hq b2))
    have R2 : Hid (x2.ownsRow base NP 2 pv (prsOf sl).length (flat (prsOf sl))) := Lib.hid ((Only.of_grown f2).own (row_ext N1.out.pairs e1) (HKV.out x1 k1.out))
    obtain ⟨z0, z1, z2, z3, z4, z5⟩ := N2.out.cells
    have zf := N2.out.free
    have K3 := Lib.hid (And.intro z1 z3)
    clear e1 o2 hq f2 b2
    go_simp
    refine hK9.out _ _ ⟨.inr K3.out, ?_⟩
    clear hK9 K9
    refine wpAnyT_tail 16 (Nat.le_refl _) rfl (by kernel_rfl) ?_
    simp only [List.drop_succ_cons, List.drop_zero]
    repeat' go_step
    have hfin : NdAt ND (x2.setCell ⟨cn, 3, none⟩ (.slice A2 q.length C2)) cn (dataOf sl) n pv (.slice A2 q.length C2) false ow := N2.out.set3 _
    refine NoPanic.normal ?_
    refine HQF.out _ _ _ _ _ _ _ _ _ _ _ _ _ _ _ _ _ _ _ _ (.slice A2 q.length C2) ?_ ?_ ?_ ?_ ?_
    · rw [HD.out] at hfin; exact hfin
    · rw [prs_set_nn H.out.2 rfl (s := .kid g) rfl]; exact own_other R2.out N2.out (by decide) 3 _
    · rw [kds_set_nk H.out.2, ← HX.out.2, ← O2.out.2.1]; exact own_other O2.out.1 N2.out (by decide) 3 _
    · exact K2.out.setCell (p := ⟨cn, 3, none⟩) (.inl (.inl rfl)) _
    · rcases O2.out.2.2 with h | h
      · exact .inl h
      · exact .inr ⟨_, h, by (try simp); omega⟩
  · skip
    refine wpOp_goK rfl rfl (fun K9 hK9 => ?_)
    go_simp
    refine hK9.out _ _ ⟨.inr (keep2n (ext_alloc (ext_drew (Ext.refl wr)) _) HK.out), ?_⟩
    clear hK9 K9
    refine wpAnyT_all (rs := [12]) (by kernel_rfl) (by simp) ?_
    intro i9 hi9
    obtain rfl := List.mem_singleton.1 hi9
    refine wpOp_goK rfl rfl (fun K9 hK9 => ?_)
    go_simp
    refine (rank_c _ n i hd9 hi).mono ?_
    rintro e x1 ⟨rfl, f1⟩
    rw [HB.out]
    have k0 := Lib.hid f1
    have k1 : Hid (Ext wr x1) := Lib.hid (Ext.trans (ext_alloc (ext_drew (Ext.refl wr)) _) f1)
    have N1 := Lib.hid (HN.out.ext k1.out)
    have hx1 := k1.out.size
    clear f1
    go_simp
    refine hK9.out _ _ ⟨.inr (keep2n k1.out HK.out), ?_⟩
    clear hK9 K9
    refine wpAnyT_all (rs := [15]) (by kernel_rfl) (by simp) ?_
    intro i9 hi9
    obtain rfl := List.mem_singleton.1 hi9
    refine wpOp_goK rfl rfl (fun K9 hK9 => ?_)
    go_simp
    have e1 : Ext x1 x1 := Ext.refl _
    refine (kinsert_c base x1 kv (kdsOf sl) r wr.heap.size g (row_ext N1.out.kids e1) hrl (box_ext' (w := wr.drew.alloc (.cells #[ptr g] NK)) (heap_new wr.drew _) k0.out) (fun e => by have := (HN.out.kids.lt _ e).2; omega) (by omega) (by (try simp); omega)).mono ?_
    rintro e x2 ⟨v2, rfl, o2, f2, b2⟩
    obtain ⟨q, hq⟩ : ∃ q, q = (kdsOf sl).take r ++ g :: (kdsOf sl).drop r := ⟨_, rfl⟩
    rw [← hq] at o2
    obtain ⟨A2, C2, rfl⟩ := own_slice o2
    have N2 : Hid (NdAt ND x2 cn (dataOf sl) n pv kv false ow) := Lib.hid (NdAt.only (N1.out.node.ext e1) (Only.of_grown f2) HX.out.1)
    have K2 : Hid (Only (fun k => k = cn ∨ pv.ownBlock = some k ∨ kv.ownBlock = some k) wr x2) := Lib.hid (((Only.of_ext k1.out).trans (Only.of_ext e1)).trans ((Only.of_grown f2).mono fun j _ hj => .inr (.inr hj)))
    have O2 := Lib.hid (And.intro o2 (And.intro hq b2))
    have R2 : Hid (x2.ownsRow base NP 2 pv (prsOf sl).length (flat (prsOf sl))) := Lib.hid ((Only.of_grown f2).own (row_ext N1.out.pairs e1) (HKV.out x1 k1.out))
    obtain ⟨z0, z1, z2, z3, z4, z5⟩ := N2.out.cells
    have zf := N2.out.free
    have K3 := Lib.hid (And.intro z1 z3)
    clear e1 o2 hq f2 b2
    go_simp
    refine hK9.out _ _ ⟨.inr K3.out, ?_⟩
    clear hK9 K9
    refine wpAnyT_tail 16 (Nat.le_refl _) rfl (by kernel_rfl) ?_
    simp only [List.drop_succ_cons, List.drop_zero]
    repeat' go_step
    have hfin : NdAt ND (x2.setCell ⟨cn, 3, none⟩ (.slice A2 q.length C2)) cn (dataOf sl) n pv (.slice A2 q.length C2) false ow := N2.out.set3 _
    refine NoPanic.normal ?_
    refine HQF.out _ _ _ _ _ _ _ _ _ _ _ _ _ _ _ _ _ _ _ _ (.slice A2 q.length C2) ?_ ?_ ?_ ?_ ?_
    · rw [HD.out] at hfin; exact hfin
    · rw [prs_set_nn H.out.2 rfl (s := .kid g) rfl]; exact own_other R2.out N2.out (by decide) 3 _
    · rw [kds_set_nk H.out.2, ← HX.out.2, ← O2.out.2.1]; exact own_other O2.out.1 N2.out (by decide) 3 _
    · exact K2.out.setCell (p := ⟨cn, 3, none⟩) (.inl (.inl rfl)) _
    · rcases O2.out.2.2 with h | h
      · exact .inl h
      · exact .inr ⟨_, h, by (try simp); omega⟩

end Go.Proofs.YtclcgelbcbnekaaDoor
/- SetKid's region that stores in place: a law of its own. -/
namespace Go.Proofs.YtclcgelbcbnekaaDoor
open Go.RowKit Go.QS Go.QS.Nk
set_option linter.unusedVariables false
variable [Zero (Nat → Prop)]
set_option linter.unusedSectionVars false

theorem keep2s {w : World} {c b i : Nat} {v u1 u2 : Value} (h : w.cell? ⟨c, 1, none⟩ = some u1 ∧ w.cell? ⟨c, 3, none⟩ = some u2) (h1 : b ≠ c) :
    (w.setCell ⟨b, i, none⟩ v).cell? ⟨c, 1, none⟩ = some u1 ∧ (w.setCell ⟨b, i, none⟩ v).cell? ⟨c, 3, none⟩ = some u2 :=
  ⟨(World.cell?_setCell_other _ _ _ _ (by intro e; simp only [Addr.mk.injEq] at e; omega)).trans h.1, (World.cell?_setCell_other _ _ _ _ (by intro e; simp only [Addr.mk.injEq] at e; omega)).trans h.2⟩

set_option maxRecDepth 100000 in
set_option maxHeartbeats 2000000 in
theorem setk_7 (base : Nat) (wr : World) (cn g i q : Nat) (sl : List (Slot Nat)) (ow : Option Addr) (pv kv : Value) (H : Hid (InO base wr cn sl ow pv kv ∧ sl[i]? = some (.kid q))) (c : Code) (Q : Exit → Act → World → Prop) (t0 t1 t4 t5 t6 t7 t8 t10 t11 t12 t13 t14 t15 t16 t17 t18 t19 t20 t21 t22 t23 t24 t25 t26 t27 t28 t29 t30 t31 t32 t33 t34 t35 t36 t37 t38 t39 t40 t41 t42 t43 t44 t45 t46 t47 t48 t49 t50 t51 t52 t53 t54 t55 t56 t57 t58 t59 t60 t61 t62 t63 t64 t65 t66 t67 t68 t69 t70 t71 t72 t73 t74 t75 t76 t77 t78 t79 t80 t81 : Value)
    (hc : (Tryd.f19.body.bind (findR 7)) = some c)
    (hQ : ∀ (u31 u32 u33 u34 u35 u36 u37 u38 u39 u40 u41 u42 u43 u44 : Value) (wx : World), InO base wx cn (sl.set i (.kid g)) ow pv kv → Only (fun k => k = cn ∨ pv.ownBlock = some k ∨ kv.ownBlock = some k) wr wx → Q .normal { tmps := List.toArray (t0 :: t1 :: (.int .i64 i) :: (ptr g) :: t4 :: t5 :: t6 :: t7 :: t8 :: (ptr cn) :: t10 :: t11 :: t12 :: t13 :: t14 :: t15 :: t16 :: t17 :: t18 :: t19 :: t20 :: t21 :: t22 :: t23 :: t24 :: t25 :: t26 :: t27 :: t28 :: t29 :: t30 :: u31 :: u32 :: u33 :: u34 :: u35 :: u36 :: u37 :: u38 :: u39 :: u40 :: u41 :: u42 :: u43 :: u44 :: t45 :: t46 :: t47 :: t48 :: t49 :: t50 :: t51 :: t52 :: t53 :: t54 :: t55 :: t56 :: t57 :: t58 :: t59 :: t60 :: t61 :: t62 :: t63 :: t64 :: t65 :: t66 :: t67 :: t68 :: t69 :: t70 :: t71 :: t72 :: t73 :: t74 :: t75 :: t76 :: t77 :: t78 :: t79 :: t80 :: t81 :: []), defers := [] } wx) :
    c.wp Tryd.prog Q { tmps := List.toArray (t0 :: t1 :: (.int .i64 i) :: (ptr g) :: t4 :: t5 :: t6 :: t7 :: t8 :: (ptr cn) :: t10 :: t11 :: t12 :: t13 :: t14 :: t15 :: t16 :: t17 :: t18 :: t19 :: t20 :: t21 :: t22 :: t23 :: t24 :: t25 :: t26 :: t27 :: t28 :: t29 :: t30 :: t31 :: t32 :: t33 :: t34 :: t35 :: t36 :: t37 :: t38 :: t39 :: t40 :: t41 :: t42 :: t43 :: t44 :: t45 :: t46 :: t47 :: t48 :: t49 :: t50 :: t51 :: t52 :: t53 :: t54 :: t55 :: t56 :: t57 :: t58 :: t59 :: t60 :: t61 :: t62 :: t63 :: t64 :: t65 :: t66 :: t67 :: t68 :: t69 :: t70 :: t71 :: t72 :: t73 :: t74 :: t75 :: t76 :: t77 :: t78 :: t79 :: t80 :: t81 :: []), defers := [] } wr := by
  change some _ = some c at hc
  cases hc
  have HQF := Lib.hid hQ
  clear hQ
  have hO := H.out.1
  have hs := H.out.2
  have hi : i < 32 := by have := get_lt hs; rw [hO.1] at this; exact this
  obtain ⟨n, hd⟩ : ∃ n, n = nodesOf sl := ⟨_, rfl⟩
  have hd9 : n < 4294967296 := by rw [hd]; exact bits32 _ hO.1
  have h2 := hO.2
  rw [← hd] at h2
  obtain ⟨c0, c1, c2, c3, c4, c5⟩ := h2.node.cells
  obtain ⟨r, hr⟩ : ∃ r, r = rkK sl i := ⟨_, rfl⟩
  have HB : Hid (rnk n i = r) := Lib.hid (by rw [hd, hr]; exact rk_nodes (by rw [hO.1]; decide) i)
  have hp32 := kdsOf_len sl
  rw [hO.1] at hp32
  have hne : kv.ownBlock ≠ some cn := own_block_ne h2.kids h2.node (by decide)
  have hat := kds_at hs
  rw [← hr] at hat
  have hrl : r < (kdsOf sl).length := (List.getElem?_eq_some_iff.1 hat).1
  rcases h2.kids.2 with ⟨_, h0⟩ | ⟨b, cap, cur, rfl, hbb, hbh, hbn, hbc, hbs, hbt⟩
  · omega
  obtain ⟨m, hm⟩ : ∃ m, m = (kdsOf sl).length := ⟨_, rfl⟩
  have hbc' : b ≠ cn := fun e => hne (by rw [e]; rfl)
  have hrow0 : (wr.cell? ⟨b, r, none⟩).isSome = true := by rw [seg_of_heap hbh, Array.getElem?_eq_getElem (by omega)]; rfl
  obtain ⟨u0, hu0⟩ := Option.isSome_iff_exists.1 hrow0
  have HF : Hid (∀ x, Ext wr x → ∀ j, x.frozen? ⟨b, j, none⟩ = false) := Lib.hid (fun x f j => by simp [World.frozen?, (f.block b (heap_lt hbh)).trans hbh])
  have HU := Lib.hid hu0
  have HK := Lib.hid (And.intro c1 c3)
  have HR : Hid (∀ x, Ext wr x → InO base (x.setCell ⟨b, r, none⟩ (ptr g)) cn (sl.set i (.kid g)) ow pv (.slice (some ⟨b, 0, none⟩) (kdsOf sl).length cap)) := Lib.hid (fun x f => by
    refine ⟨by rw [List.length_set]; exact H.out.1.1, ?_⟩
    have hx := H.out.1.2.ext f
    have hxb : x.heap[b]? = some (.cells cur NK (0, 0)) := (f.block b (heap_lt hbh)).trans hbh
    have ed : dataOf (sl.set i (.kid g)) = dataOf sl := bits_set_same Slot.isP H.out.2 (s := .kid g) rfl
    have en : nodesOf (sl.set i (.kid g)) = nodesOf sl := bits_set_same Slot.isK H.out.2 (s := .kid g) rfl
    rw [ed, en, kds_set_kk H.out.2, prs_set_nn H.out.2 rfl (s := .kid g) rfl, ← hr]
    refine ⟨?_, ?_, ?_⟩
    · exact (Below.heap_setCell _ _ _ cn (fun e => hbc' e.symm)).trans hx.node
    · exact own_other hx.pairs hxb (by decide) _ _
    · rw [show ptrs ((kdsOf sl).set r g) = (ptrs (kdsOf sl)).set r (ptr g) by simp [ptrs, List.map_set], List.length_set]
      exact (World.ownsRow.stored hx.kids r (ptr g)).1)
  have hri : (r : Int) < (m : Int) := by omega
  have hr0 : (0 : Int) ≤ (r : Int) := by omega
  have HN := Lib.hid (And.intro hm hbc')
  rw [← hm] at HR HQF hp32 hbn HK
  clear hO hs hd h2 c0 c2 c4 c5 hr hat hrl hne hbh hbs hbt hrow0 hu0 c1 c3 hm
  obtain ⟨c1, c3⟩ := HK.out
  go_region_held3 (fun w' => w'.cell? ⟨cn, 1, none⟩ = some (.int .u32 n) ∧ w'.cell? ⟨cn, 3, none⟩ = some (.slice (some ⟨b, 0, none⟩) m cap))
    (first | exact keep2s (keep2n k1.out HK.out) HN.out.2 | exact keep2n k1.out HK.out | exact keep2n (by repeat' (first | exact Ext.refl _ | apply ext_alloc | apply ext_drew | exact below_drewN (Ext.refl _) _)) HK.out)
    ((go_at_call 42; refine (rank_c _ n i hd9 hi).mono ?_; rintro e x1 ⟨rfl, f1⟩; rw [HB.out]; have k1 : Hid (Ext wr x1) := Lib.hid (Ext.trans (by repeat' (first | exact Ext.refl _ | apply ext_alloc | apply ext_drew | exact below_drewN (Ext.refl _) _)) f1); have v0 := Ext.cell' k1.out HU.out; have vf := HF.out x1 k1.out; clear f1))
  refine HQF.out _ _ _ _ _ _ _ _ _ _ _ _ _ _ _ ?_ ?_
  · exact HR.out x1 k1.out
  · exact (Only.of_ext k1.out).setCell (p := ⟨b, r, none⟩) (.inl (.inr (.inr rfl))) _

end Go.Proofs.YtclcgelbcbnekaaDoor
