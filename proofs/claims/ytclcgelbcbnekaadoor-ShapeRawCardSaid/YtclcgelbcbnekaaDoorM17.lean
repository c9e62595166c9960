/- Texts joined. -/
import Derived.Test.YtclcgelbcbnekaaDoorNs
import Derived.Test.YtclcgelbcbnekaaDoorM12
set_option linter.unusedVariables false
set_option linter.unusedSimpArgs false
/- Small laws for the node chapter's regions. -/
namespace Go.Proofs.YtclcgelbcbnekaaDoor
open Go.RowKit Go.QS Go.QS.Nk
set_option linter.unusedVariables false
variable [Zero (Nat → Prop)]
set_option linter.unusedSectionVars false

theorem ext_alloc {a w : World} (h : Ext a w) (o : Obj) : Ext a (w.alloc o) := h.alloc h.size o
theorem ext_drew {a w : World} (h : Ext a w) : Ext a w.drew := h.drew
theorem Ext.cell' {w w' : World} {a : Addr} {u : Value} (f : Ext w w') (h : w.cell? a = some u) : w'.cell? a = some u := (f.cell (World.block_lt_of_cell? w _ h)).trans h
end Go.Proofs.YtclcgelbcbnekaaDoor
/- SetPair's region that inserts: a law of its own. -/
namespace Go.Proofs.YtclcgelbcbnekaaDoor
open Go.RowKit Go.QS Go.QS.Nk
set_option linter.unusedVariables false
variable [Zero (Nat → Prop)]
set_option linter.unusedSectionVars false

theorem keep3n {w w' : World} {a1 a2 a3 : Addr} {u1 u2 u3 : Value} (f : Ext w w') (h : w.cell? a1 = some u1 ∧ w.cell? a2 = some u2 ∧ w.cell? a3 = some u3) : w'.cell? a1 = some u1 ∧ w'.cell? a2 = some u2 ∧ w'.cell? a3 = some u3 :=
  ⟨Ext.cell' f h.1, Ext.cell' f h.2.1, Ext.cell' f h.2.2⟩
theorem keep3s {w : World} {c g : Nat} {v u1 u2 u3 : Value} (h : w.cell? ⟨c, 0, none⟩ = some u1 ∧ w.cell? ⟨g, 0, none⟩ = some u2 ∧ w.cell? ⟨g, 1, none⟩ = some u3) (hne : g ≠ c) :
    (w.setCell ⟨c, 2, none⟩ v).cell? ⟨c, 0, none⟩ = some u1 ∧ (w.setCell ⟨c, 2, none⟩ v).cell? ⟨g, 0, none⟩ = some u2 ∧ (w.setCell ⟨c, 2, none⟩ v).cell? ⟨g, 1, none⟩ = some u3 :=
  ⟨(World.cell?_setCell_other _ _ _ _ (by intro e; simp only [Addr.mk.injEq] at e; omega)).trans h.1, (World.cell?_setCell_other _ _ _ _ (by intro e; simp only [Addr.mk.injEq] at e; omega)).trans h.2.1, (World.cell?_setCell_other _ _ _ _ (by intro e; simp only [Addr.mk.injEq] at e; omega)).trans h.2.2⟩
set_option maxRecDepth 100000 in
set_option maxHeartbeats 2000000 in
theorem setp_8 (base : Nat) (wr : World) (cn gp i : Nat) (sl : List (Slot Nat)) (ow : Option Addr) (pv kv : Value) (p : Pr) (H : Hid (InO base wr cn sl ow pv kv ∧ sl[i]? = some .no ∧ wr.heap[gp]? = some (.cells #[str p.1, str p.2] NP (0, 0)) ∧ pv.ownBlock ≠ some gp)) (hbase : base ≤ wr.heap.size) (c : Code) (Q : Exit → Act → World → Prop) (t0 t1 t3 t4 t5 t6 t8 t10 t11 t12 t13 t14 t15 t16 t17 t18 t19 t20 t21 t22 t23 t24 t25 t26 t27 t28 t29 t30 t31 t32 t33 t34 t35 t36 t37 t38 t39 t40 t41 t42 t43 t44 t45 t46 t47 t48 t49 t50 t51 t52 t53 t54 t55 t56 t57 t58 t59 t60 t61 t62 t63 t64 t65 t66 t67 t68 t69 t70 t71 t72 t73 t74 t75 : Value)
    (hc : (Tryd.f17.body.bind (findR 8)) = some c)
    (hQ : ∀ (u45 u46 u47 u48 u49 u50 u51 u52 u53 u54 u55 u56 u57 u58 u59 u60 u61 u62 u63 : Value) (wx : World), ∀ pv' : Value, NdAt ND wx cn (dataOf sl) (nodesOf sl) pv' kv false ow → wx.ownsRow base NP 2 pv' (prsOf (sl.set i (.pr p))).length (flat (prsOf (sl.set i (.pr p)))) → wx.ownsRow base NK 1 kv (kdsOf (sl.set i (.pr p))).length (ptrs (kdsOf (sl.set i (.pr p)))) → Only (fun k => k = cn ∨ pv.ownBlock = some k ∨ kv.ownBlock = some k) wr wx → (pv'.ownBlock = pv.ownBlock ∨ ∃ b, pv'.ownBlock = some b ∧ wr.heap.size ≤ b) → Q .normal { tmps := List.toArray (t0 :: t1 :: (.int .i64 i) :: t3 :: t4 :: t5 :: t6 :: (ptr gp) :: t8 :: (ptr cn) :: t10 :: t11 :: t12 :: t13 :: t14 :: t15 :: t16 :: t17 :: t18 :: t19 :: t20 :: t21 :: t22 :: t23 :: t24 :: t25 :: t26 :: t27 :: t28 :: t29 :: t30 :: t31 :: t32 :: t33 :: t34 :: t35 :: t36 :: t37 :: t38 :: t39 :: t40 :: t41 :: t42 :: t43 :: t44 :: u45 :: u46 :: u47 :: u48 :: u49 :: u50 :: u51 :: u52 :: u53 :: u54 :: u55 :: u56 :: u57 :: u58 :: u59 :: u60 :: u61 :: u62 :: u63 :: t64 :: t65 :: t66 :: t67 :: t68 :: t69 :: t70 :: t71 :: t72 :: t73 :: t74 :: t75 :: []), defers := [] } wx) :
    c.wp Tryd.prog Q { tmps := List.toArray (t0 :: t1 :: (.int .i64 i) :: t3 :: t4 :: t5 :: t6 :: (ptr gp) :: t8 :: (ptr cn) :: t10 :: t11 :: t12 :: t13 :: t14 :: t15 :: t16 :: t17 :: t18 :: t19 :: t20 :: t21 :: t22 :: t23 :: t24 :: t25 :: t26 :: t27 :: t28 :: t29 :: t30 :: t31 :: t32 :: t33 :: t34 :: t35 :: t36 :: t37 :: t38 :: t39 :: t40 :: t41 :: t42 :: t43 :: t44 :: t45 :: t46 :: t47 :: t48 :: t49 :: t50 :: t51 :: t52 :: t53 :: t54 :: t55 :: t56 :: t57 :: t58 :: t59 :: t60 :: t61 :: t62 :: t63 :: t64 :: t65 :: t66 :: t67 :: t68 :: t69 :: t70 :: t71 :: t72 :: t73 :: t74 :: t75 :: []), defers := [] } wr := by
  change some _ = some c at hc
  cases hc
  have HQF := Lib.hid hQ
  clear hQ
  have hO := H.out.1
  have hs := H.out.2.1
  have hi : i < 32 := by have := get_lt hs; rw [hO.1] at this; exact this
  obtain ⟨d, hd⟩ : ∃ d, d = dataOf sl := ⟨_, rfl⟩
  have hd9 : d < 4294967296 := by rw [hd]; exact bits32 _ hO.1
  have HB : Hid (rnk d i = rkP sl i) := Lib.hid (by rw [hd]; exact rk_data (by rw [hO.1]; decide) i)
  have h2 := hO.2
  rw [← hd] at h2
  obtain ⟨c0, c1, c2, c3, c4, c5⟩ := h2.node.cells
  have hf := h2.node.free
  obtain ⟨r, hr⟩ : ∃ r, r = rkP sl i := ⟨_, rfl⟩
  have hrl := rkP_le sl i
  rw [← hr] at HB hrl
  have hp32 := prsOf_len sl
  rw [hO.1] at hp32
  have hne : pv.ownBlock ≠ some cn := own_block_ne h2.pairs h2.node (by decide)
  have hnk : kv.ownBlock ≠ some cn := own_block_ne h2.kids h2.node (by decide)
  have hgl : gp < wr.heap.size := heap_lt H.out.2.2.1
  have hcl : cn < wr.heap.size := h2.node.lt
  obtain ⟨b0, b1, bf⟩ := box_facts H.out.2.2.1
  have HN := Lib.hid h2
  have HK := Lib.hid (And.intro c0 (And.intro c2 (And.intro b0 b1)))
  have HX := Lib.hid (And.intro hne (And.intro hnk hr))
  have HX3 : Hid (gp ≠ cn) := Lib.hid (fun e => by
    have h1 := h2.node
    unfold NdAt at h1
    rw [← e, H.out.2.2.1] at h1
    simp at h1)
  have HK3 := Lib.hid (And.intro c0 (And.intro b0 b1))
  have h9p : pv.ownBlock ≠ some gp := H.out.2.2.2
  have HKV : Hid (∀ (x : World), Ext wr x → ∀ b, kv.ownBlock = some b → ¬ pv.ownBlock = some b) := Lib.hid (fun x f b hb e => by
    rcases HN.out.pairs.2 with ⟨h, _⟩ | ⟨g', cap, cur, h1, h2, h3, h4⟩
    · rw [h] at e; cases e
    · rw [h1] at e
      cases e
      exact own_block_ne HN.out.kids h3 (by decide) hb)
  have HD := Lib.hid hd
  clear hO hs hd h2 c1 c3 c4 c5 hr hne hnk bf
  refine wp_region_noPanic ?_
  refine wp_region_T (n := 16) (S := fun w' => w'.cell? ⟨cn, 0, none⟩ = some (.int .u32 d) ∧ w'.cell? ⟨cn, 2, none⟩ = some pv ∧ w'.cell? ⟨gp, 0, none⟩ = some (str p.1) ∧ w'.cell? ⟨gp, 1, none⟩ = some (str p.2)) (by kernel_rfl) ?_
  change wpAnyT _ _ _ _ _ _ 20 _ _ wr.drew
  have hH : (fun w' : World => w'.cell? ⟨cn, 0, none⟩ = some (.int .u32 d) ∧ w'.cell? ⟨cn, 2, none⟩ = some pv ∧ w'.cell? ⟨gp, 0, none⟩ = some (str p.1) ∧ w'.cell? ⟨gp, 1, none⟩ = some (str p.2)) wr.drew := keep4c (ext_drew (Ext.refl wr)) HK.out
  refine wpAnyT_take (i := 0) (v := ?_) rfl (by kernel_rfl) (by kernel_rfl) (by kernel_rfl) (by kernel_rfl) (fun _ _ _ h => h) (Or.inl ⟨by rfl, ?_⟩) hH ?_
  rotate_left
  · (intro w hSw; (try dsimp only at hSw); obtain ⟨s0, s1, s2, s3⟩ := hSw; go_simp; try with_reducible rfl)
  try simp only [Act.put, List.setIfInBounds_toArray, List.set_cons_zero, List.set_cons_succ]
  refine wpAnyT_take (i := 1) (v := ?_) rfl (by kernel_rfl) (by kernel_rfl) (by kernel_rfl) (by kernel_rfl) (fun _ _ _ h => h) (Or.inl ⟨by rfl, ?_⟩) hH ?_
  rotate_left
  · (intro w hSw; (try dsimp only at hSw); obtain ⟨s0, s1, s2, s3⟩ := hSw; go_simp; try with_reducible rfl)
  try simp only [Act.put, List.setIfInBounds_toArray, List.set_cons_zero, List.set_cons_succ]
  refine wpAnyT_take (i := 2) (v := ?_) rfl (by kernel_rfl) (by kernel_rfl) (by kernel_rfl) (by kernel_rfl) (fun _ _ _ h => h) (Or.inl ⟨by rfl, ?_⟩) hH ?_
  rotate_left
  · (intro w hSw; (try dsimp only at hSw); obtain ⟨s0, s1, s2, s3⟩ := hSw; go_simp; try with_reducible rfl)
  try simp only [Act.put, List.setIfInBounds_toArray, List.set_cons_zero, List.set_cons_succ]
  refine wpAnyT_take (i := 3) (v := ?_) rfl (by kernel_rfl) (by kernel_rfl) (by kernel_rfl) (by kernel_rfl) (fun _ _ _ h => h) (Or.inl ⟨by rfl, ?_⟩) hH ?_
  rotate_left
  · (intro w hSw; (try dsimp only at hSw); obtain ⟨s0, s1, s2, s3⟩ := hSw; go_simp; try with_reducible rfl)
  try simp only [Act.put, List.setIfInBounds_toArray, List.set_cons_zero, List.set_cons_succ]
  refine wpAnyT_take (i := 4) (v := ?_) rfl (by kernel_rfl) (by kernel_rfl) (by kernel_rfl) (by kernel_rfl) (fun _ _ _ h => h) (Or.inl ⟨by rfl, ?_⟩) hH ?_
  rotate_left
  · (intro w hSw; (try dsimp only at hSw); obtain ⟨s0, s1, s2, s3⟩ := hSw; go_simp; try with_reducible rfl)
  try simp only [Act.put, List.setIfInBounds_toArray, List.set_cons_zero, List.set_cons_succ]
  refine wpAnyT_take (i := 5) (v := ?_) rfl (by kernel_rfl) (by kernel_rfl) (by kernel_rfl) (by kernel_rfl) (fun _ _ _ h => h) (Or.inl ⟨by rfl, ?_⟩) hH ?_
  rotate_left
  · (intro w hSw; (try dsimp only at hSw); obtain ⟨s0, s1, s2, s3⟩ := hSw; go_simp; try with_reducible rfl)
  try simp only [Act.put, List.setIfInBounds_toArray, List.set_cons_zero, List.set_cons_succ]
  refine wpAnyT_take (i := 6) (v := ?_) rfl (by kernel_rfl) (by kernel_rfl) (by kernel_rfl) (by kernel_rfl) (fun _ _ _ h => h) (Or.inl ⟨by rfl, ?_⟩) hH ?_
  rotate_left
  · (intro w hSw; (try dsimp only at hSw); obtain ⟨s0, s1, s2, s3⟩ := hSw; go_simp; try with_reducible rfl)
  try simp only [Act.put, List.setIfInBounds_toArray, List.set_cons_zero, List.set_cons_succ]
  refine wpAnyT_take (i := 7) (v := ?_) rfl (by kernel_rfl) (by kernel_rfl) (by kernel_rfl) (by kernel_rfl) (fun _ _ _ h => h) (Or.inl ⟨by rfl, ?_⟩) hH ?_
  rotate_left
  · (intro w hSw; (try dsimp only at hSw); obtain ⟨s0, s1, s2, s3⟩ := hSw; go_simp; try with_reducible rfl)
  try simp only [Act.put, List.setIfInBounds_toArray, List.set_cons_zero, List.set_cons_succ]
  refine wpAnyT_take (i := 8) (v := ?_) rfl (by kernel_rfl) (by kernel_rfl) (by kernel_rfl) (by kernel_rfl) (fun _ _ _ h => h) (Or.inl ⟨by rfl, ?_⟩) hH ?_
  rotate_left
  · (intro w hSw; (try dsimp only at hSw); obtain ⟨s0, s1, s2, s3⟩ := hSw; go_simp; try with_reducible rfl)
  try simp only [Act.put, List.setIfInBounds_toArray, List.set_cons_zero, List.set_cons_succ]
  refine wpAnyT_take (i := 9) (v := ?_) rfl (by kernel_rfl) (by kernel_rfl) (by kernel_rfl) (by kernel_rfl) (fun _ _ _ h => h) (Or.inl ⟨by rfl, ?_⟩) hH ?_
  rotate_left
  · (intro w hSw; (try dsimp only at hSw); obtain ⟨s0, s1, s2, s3⟩ := hSw; go_simp; try with_reducible rfl)
  try simp only [Act.put, List.setIfInBounds_toArray, List.set_cons_zero, List.set_cons_succ]
  refine wpAnyT_take (i := 10) (v := ?_) rfl (by kernel_rfl) (by kernel_rfl) (by kernel_rfl) (by kernel_rfl) (fun _ _ _ h => h) (Or.inl ⟨by rfl, ?_⟩) hH ?_
  rotate_left
  · (intro w hSw; (try dsimp only at hSw); obtain ⟨s0, s1, s2, s3⟩ := hSw; go_simp; try with_reducible rfl)
  try simp only [Act.put, List.setIfInBounds_toArray, List.set_cons_zero, List.set_cons_succ]
  refine wpAnyT_take (i := 11) (v := ?_) rfl (by kernel_rfl) (by kernel_rfl) (by kernel_rfl) (by kernel_rfl) (fun _ _ _ h => h) (Or.inl ⟨by rfl, ?_⟩) hH ?_
  rotate_left
  · (intro w hSw; (try dsimp only at hSw); obtain ⟨s0, s1, s2, s3⟩ := hSw; go_simp; try with_reducible rfl)
  try simp only [Act.put, List.setIfInBounds_toArray, List.set_cons_zero, List.set_cons_succ]
  refine wpAnyT_take (i := 13) (v := ?_) rfl (by kernel_rfl) (by kernel_rfl) (by kernel_rfl) (by kernel_rfl) (fun _ _ _ h => h) (Or.inl ⟨by rfl, ?_⟩) hH ?_
  rotate_left
  · (intro w hSw; (try dsimp only at hSw); obtain ⟨s0, s1, s2, s3⟩ := hSw; go_simp; try with_reducible rfl)
  try simp only [Act.put, List.setIfInBounds_toArray, List.set_cons_zero, List.set_cons_succ]
  refine wpAnyT_all (rs := [12, 14]) (by kernel_rfl) (by simp) ?_
  intro i9 hi9
  simp only [List.mem_cons, List.not_mem_nil, or_false] at hi9
  rcases hi9 with rfl | rfl
  · skip
    refine wpOp_goK rfl rfl (fun K9 hK9 => ?_)
    go_simp
    refine (rank_c _ d i hd9 hi).mono ?_
    rintro e x1 ⟨rfl, f1⟩
    rw [HB.out]
    have k0 := Lib.hid f1
    have k1 : Hid (Ext wr x1) := Lib.hid (Ext.trans (ext_drew (Ext.refl wr)) f1)
    have N1 := Lib.hid (HN.out.ext k1.out)
    have hx1 := k1.out.size
    clear f1
    go_simp
    refine hK9.out _ _ ⟨.inr (keep4c k1.out HK.out), ?_⟩
    clear hK9 K9
    refine wpAnyT_all (rs := [14]) (by kernel_rfl) (by simp) ?_
    intro i9 hi9
    obtain rfl := List.mem_singleton.1 hi9
    refine wpOp_goK rfl rfl (fun K9 hK9 => ?_)
    go_simp
    refine hK9.out _ _ ⟨.inr (keep4c (ext_alloc k1.out _) HK.out), ?_⟩
    clear hK9 K9
    refine wpAnyT_all (rs := [15]) (by kernel_rfl) (by simp) ?_
    intro i9 hi9
    obtain rfl := List.mem_singleton.1 hi9
    refine wpOp_goK rfl rfl (fun K9 hK9 => ?_)
    go_simp
    have e1 : Ext x1 (x1.alloc (.cells #[str p.1, str p.2] NP)) := (Ext.refl _).alloc (Nat.le_refl _) _
    refine (pinsert_c base (x1.alloc (.cells #[str p.1, str p.2] NP)) pv (prsOf sl) r x1.heap.size p (row_ext N1.out.pairs e1) hrl (heap_new x1 _) (fun e => by have := (N1.out.pairs.lt _ e).2; omega) (by omega) (by (try simp); omega)).mono ?_
    rintro e x2 ⟨v2, rfl, o2, f2, b2⟩
    obtain ⟨q, hq⟩ : ∃ q, q = (prsOf sl).take r ++ p :: (prsOf sl).drop r := ⟨_, rfl⟩
    rw [← hq] at o2
    obtain ⟨A2, C2, rfl⟩ := own_slice o2
    have N2 : Hid (NdAt ND x2 cn d (nodesOf sl) pv kv false ow) := Lib.hid (NdAt.only (N1.out.node.ext e1) (Only.of_grown f2) HX.out.1)
    have K2 : Hid (Only (fun k => k = cn ∨ pv.ownBlock = some k ∨ kv.ownBlock = some k) wr x2) := Lib.hid (((Only.of_ext k1.out).trans (Only.of_ext e1)).trans ((Only.of_grown f2).mono fun j _ hj => .inr (.inl hj)))
    have O2 := Lib.hid (And.intro o2 (And.intro hq b2))
    have R2 : Hid (x2.ownsRow base NK 1 kv (kdsOf sl).length (ptrs (kdsOf sl))) := Lib.hid ((Only.of_grown f2).own (row_ext N1.out.kids e1) (HKV.out x1 k1.out))
    obtain ⟨z0, z1, z2, z3, z4, z5⟩ := N2.out.cells
    have zf := N2.out.free
    have K3 := Lib.hid (And.intro z0 (And.intro z2 (And.intro (f2.cell (Ext.cell' (k1.out.trans e1) HK.out.2.2.1) (fun h => h9p h.symm)) (f2.cell (Ext.cell' (k1.out.trans e1) HK.out.2.2.2) (fun h => h9p h.symm)))))
    clear e1 o2 hq f2 b2
    go_simp
    refine hK9.out _ _ ⟨.inr K3.out, ?_⟩
    clear hK9 K9
    refine wpAnyT_tail 16 (Nat.le_refl _) rfl (by kernel_rfl) ?_
    simp only [List.drop_succ_cons, List.drop_zero]
    repeat' go_step
    have hfin : NdAt ND (x2.setCell ⟨cn, 2, none⟩ (.slice A2 q.length C2)) cn d (nodesOf sl) (.slice A2 q.length C2) kv false ow := N2.out.set2 _
    refine NoPanic.normal ?_
    refine HQF.out _ _ _ _ _ _ _ _ _ _ _ _ _ _ _ _ _ _ _ _ (.slice A2 q.length C2) ?_ ?_ ?_ ?_ ?_
    · rw [HD.out] at hfin; exact hfin
    · rw [prs_set_np H.out.2.1, ← HX.out.2.2, ← O2.out.2.1]; exact own_other O2.out.1 N2.out (by decide) 2 _
    · rw [kds_set_nn H.out.2.1 rfl (s := .pr p) rfl]; exact own_other R2.out N2.out (by decide) 2 _
    · exact K2.out.setCell (p := ⟨cn, 2, none⟩) (.inl (.inl rfl)) _
    · rcases O2.out.2.2 with h | h
      · exact .inl h
      · exact .inr ⟨_, h, by (try simp); omega⟩
  · skip
    refine wpOp_goK rfl rfl (fun K9 hK9 => ?_)
    go_simp
    refine hK9.out _ _ ⟨.inr (keep4c (ext_alloc (ext_drew (Ext.refl wr)) _) HK.out), ?_⟩
    clear hK9 K9
    refine wpAnyT_all (rs := [12]) (by kernel_rfl) (by simp) ?_
    intro i9 hi9
    obtain rfl := List.mem_singleton.1 hi9
    refine wpOp_goK rfl rfl (fun K9 hK9 => ?_)
    go_simp
    refine (rank_c _ d i hd9 hi).mono ?_
    rintro e x1 ⟨rfl, f1⟩
    rw [HB.out]
    have k0 := Lib.hid f1
    have k1 : Hid (Ext wr x1) := Lib.hid (Ext.trans (ext_alloc (ext_drew (Ext.refl wr)) _) f1)
    have N1 := Lib.hid (HN.out.ext k1.out)
    have hx1 := k1.out.size
    clear f1
    go_simp
    refine hK9.out _ _ ⟨.inr (keep4c k1.out HK.out), ?_⟩
    clear hK9 K9
    refine wpAnyT_all (rs := [15]) (by kernel_rfl) (by simp) ?_
    intro i9 hi9
    obtain rfl := List.mem_singleton.1 hi9
    refine wpOp_goK rfl rfl (fun K9 hK9 => ?_)
    go_simp
    have e1 : Ext x1 x1 := Ext.refl _
    refine (pinsert_c base x1 pv (prsOf sl) r wr.heap.size p (row_ext N1.out.pairs e1) hrl (box_ext' (w := wr.drew.alloc (.cells #[str p.1, str p.2] NP)) (heap_new wr.drew _) k0.out) (fun e => by have := (HN.out.pairs.lt _ e).2; omega) (by omega) (by (try simp); omega)).mono ?_
    rintro e x2 ⟨v2, rfl, o2, f2, b2⟩
    obtain ⟨q, hq⟩ : ∃ q, q = (prsOf sl).take r ++ p :: (prsOf sl).drop r := ⟨_, rfl⟩
    rw [← hq] at o2
    obtain ⟨A2, C2, rfl⟩ := own_slice o2
    have N2 : Hid (NdAt ND x2 cn d (nodesOf sl) pv kv false ow) := Lib.hid (NdAt.only (N1.out.node.ext e1) (Only.of_grown f2) HX.out.1)
    have K2 : Hid (Only (fun k => k = cn ∨ pv.ownBlock = some k ∨ kv.ownBlock = some k) wr x2) := Lib.hid (((Only.of_ext k1.out).trans (Only.of_ext e1)).trans ((Only.of_grown f2).mono fun j _ hj => .inr (.inl hj)))
    have O2 := Lib.hid (And.intro o2 (And.intro hq b2))
    have R2 : Hid (x2.ownsRow base NK 1 kv (kdsOf sl).length (ptrs (kdsOf sl))) := Lib.hid ((Only.of_grown f2).own (row_ext N1.out.kids e1) (HKV.out x1 k1.out))
    obtain ⟨z0, z1, z2, z3, z4, z5⟩ := N2.out.cells
    have zf := N2.out.free
    have K3 := Lib.hid (And.intro z0 (And.intro z2 (And.intro (f2.cell (Ext.cell' (k1.out.trans e1) HK.out.2.2.1) (fun h => h9p h.symm)) (f2.cell (Ext.cell' (k1.out.trans e1) HK.out.2.2.2) (fun h => h9p h.symm)))))
    clear e1 o2 hq f2 b2
    go_simp
    refine hK9.out _ _ ⟨.inr K3.out, ?_⟩
    clear hK9 K9
    refine wpAnyT_tail 16 (Nat.le_refl _) rfl (by kernel_rfl) ?_
    simp only [List.drop_succ_cons, List.drop_zero]
    repeat' go_step
    have hfin : NdAt ND (x2.setCell ⟨cn, 2, none⟩ (.slice A2 q.length C2)) cn d (nodesOf sl) (.slice A2 q.length C2) kv false ow := N2.out.set2 _
    refine NoPanic.normal ?_
    refine HQF.out _ _ _ _ _ _ _ _ _ _ _ _ _ _ _ _ _ _ _ _ (.slice A2 q.length C2) ?_ ?_ ?_ ?_ ?_
    · rw [HD.out] at hfin; exact hfin
    · rw [prs_set_np H.out.2.1, ← HX.out.2.2, ← O2.out.2.1]; exact own_other O2.out.1 N2.out (by decide) 2 _
    · rw [kds_set_nn H.out.2.1 rfl (s := .pr p) rfl]; exact own_other R2.out N2.out (by decide) 2 _
    · exact K2.out.setCell (p := ⟨cn, 2, none⟩) (.inl (.inl rfl)) _
    · rcases O2.out.2.2 with h | h
      · exact .inl h
      · exact .inr ⟨_, h, by (try simp); omega⟩

end Go.Proofs.YtclcgelbcbnekaaDoor
/- SetPair's region that stores in place: a law of its own. -/
namespace Go.Proofs.YtclcgelbcbnekaaDoor
open Go.RowKit Go.QS Go.QS.Nk
set_option linter.unusedVariables false
variable [Zero (Nat → Prop)]
set_option linter.unusedSectionVars false

theorem flat_set (l : List Pr) (r : Nat) (p : Pr) : flat (l.set r p) = ((flat l).set (r * 2) (str p.1)).set (r * 2 + 1) (str p.2) := by
  induction l generalizing r with
  | nil => simp
  | cons q l ih =>
    cases r with
    | zero => simp [flat_cons]
    | succ r =>
      rw [List.set_cons_succ, flat_cons, flat_cons, ih, show (r + 1) * 2 = r * 2 + 1 + 1 by omega]
      simp
theorem keep4s {w : World} {c g b i j : Nat} {v v' u1 u2 u3 u4 : Value} (h : w.cell? ⟨c, 0, none⟩ = some u1 ∧ w.cell? ⟨c, 2, none⟩ = some u2 ∧ w.cell? ⟨g, 0, none⟩ = some u3 ∧ w.cell? ⟨g, 1, none⟩ = some u4) (h1 : b ≠ c) (h2 : b ≠ g) :
    ((w.setCell ⟨b, i, none⟩ v).setCell ⟨b, j, none⟩ v').cell? ⟨c, 0, none⟩ = some u1 ∧ ((w.setCell ⟨b, i, none⟩ v).setCell ⟨b, j, none⟩ v').cell? ⟨c, 2, none⟩ = some u2 ∧ ((w.setCell ⟨b, i, none⟩ v).setCell ⟨b, j, none⟩ v').cell? ⟨g, 0, none⟩ = some u3 ∧ ((w.setCell ⟨b, i, none⟩ v).setCell ⟨b, j, none⟩ v').cell? ⟨g, 1, none⟩ = some u4 := by
  have f : ∀ (x : Nat) (k : Nat) (u : Value), b ≠ x → w.cell? ⟨x, k, none⟩ = some u → ((w.setCell ⟨b, i, none⟩ v).setCell ⟨b, j, none⟩ v').cell? ⟨x, k, none⟩ = some u := fun x k u hb hu => by
    rw [World.cell?_setCell_other _ _ _ _ (by intro e; simp only [Addr.mk.injEq] at e; omega), World.cell?_setCell_other _ _ _ _ (by intro e; simp only [Addr.mk.injEq] at e; omega)]
    exact hu
  exact ⟨f _ _ _ h1 h.1, f _ _ _ h1 h.2.1, f _ _ _ h2 h.2.2.1, f _ _ _ h2 h.2.2.2⟩

set_option maxRecDepth 100000 in
set_option maxHeartbeats 2000000 in
theorem setp_5 (base : Nat) (wr : World) (cn gp i : Nat) (sl : List (Slot Nat)) (ow : Option Addr) (pv kv : Value) (p q : Pr) (H : Hid (InO base wr cn sl ow pv kv ∧ sl[i]? = some (.pr q) ∧ wr.heap[gp]? = some (.cells #[str p.1, str p.2] NP (0, 0)) ∧ pv.ownBlock ≠ some gp)) (c : Code) (Q : Exit → Act → World → Prop) (t0 t1 t3 t4 t5 t6 t8 t10 t11 t12 t13 t14 t15 t16 t17 t18 t19 t20 t21 t22 t23 t24 t25 t26 t27 t28 t29 t30 t31 t32 t33 t34 t35 t36 t37 t38 t39 t40 t41 t42 t43 t44 t45 t46 t47 t48 t49 t50 t51 t52 t53 t54 t55 t56 t57 t58 t59 t60 t61 t62 t63 t64 t65 t66 t67 t68 t69 t70 t71 t72 t73 t74 t75 : Value)
    (hc : (Tryd.f17.body.bind (findR 5)) = some c)
    (hQ : ∀ (u25 u26 u27 u28 u29 u30 u31 u32 u33 u34 u35 u36 u37 u38 : Value) (wx : World), InO base wx cn (sl.set i (.pr p)) ow pv kv → Only (fun k => k = cn ∨ pv.ownBlock = some k ∨ kv.ownBlock = some k) wr wx → Q .normal { tmps := List.toArray (t0 :: t1 :: (.int .i64 i) :: t3 :: t4 :: t5 :: t6 :: (ptr gp) :: t8 :: (ptr cn) :: t10 :: t11 :: t12 :: t13 :: t14 :: t15 :: t16 :: t17 :: t18 :: t19 :: t20 :: t21 :: t22 :: t23 :: t24 :: u25 :: u26 :: u27 :: u28 :: u29 :: u30 :: u31 :: u32 :: u33 :: u34 :: u35 :: u36 :: u37 :: u38 :: t39 :: t40 :: t41 :: t42 :: t43 :: t44 :: t45 :: t46 :: t47 :: t48 :: t49 :: t50 :: t51 :: t52 :: t53 :: t54 :: t55 :: t56 :: t57 :: t58 :: t59 :: t60 :: t61 :: t62 :: t63 :: t64 :: t65 :: t66 :: t67 :: t68 :: t69 :: t70 :: t71 :: t72 :: t73 :: t74 :: t75 :: []), defers := [] } wx) :
    c.wp Tryd.prog Q { tmps := List.toArray (t0 :: t1 :: (.int .i64 i) :: t3 :: t4 :: t5 :: t6 :: (ptr gp) :: t8 :: (ptr cn) :: t10 :: t11 :: t12 :: t13 :: t14 :: t15 :: t16 :: t17 :: t18 :: t19 :: t20 :: t21 :: t22 :: t23 :: t24 :: t25 :: t26 :: t27 :: t28 :: t29 :: t30 :: t31 :: t32 :: t33 :: t34 :: t35 :: t36 :: t37 :: t38 :: t39 :: t40 :: t41 :: t42 :: t43 :: t44 :: t45 :: t46 :: t47 :: t48 :: t49 :: t50 :: t51 :: t52 :: t53 :: t54 :: t55 :: t56 :: t57 :: t58 :: t59 :: t60 :: t61 :: t62 :: t63 :: t64 :: t65 :: t66 :: t67 :: t68 :: t69 :: t70 :: t71 :: t72 :: t73 :: t74 :: t75 :: []), defers := [] } wr := by
  change some _ = some c at hc
  cases hc
  have HQF := Lib.hid hQ
  clear hQ
  have hO := H.out.1
  have hs := H.out.2.1
  have hi : i < 32 := by have := get_lt hs; rw [hO.1] at this; exact this
  obtain ⟨d, hd⟩ : ∃ d, d = dataOf sl := ⟨_, rfl⟩
  have hd9 : d < 4294967296 := by rw [hd]; exact bits32 _ hO.1
  have h2 := hO.2
  rw [← hd] at h2
  obtain ⟨c0, c1, c2, c3, c4, c5⟩ := h2.node.cells
  obtain ⟨r, hr⟩ : ∃ r, r = rkP sl i := ⟨_, rfl⟩
  have HB : Hid (rnk d i = r) := Lib.hid (by rw [hd, hr]; exact rk_data (by rw [hO.1]; decide) i)
  have hat := prs_at hs
  rw [← hr] at hat
  have hrl : r < (prsOf sl).length := (List.getElem?_eq_some_iff.1 hat).1
  have hp32 := prsOf_len sl
  rw [hO.1] at hp32
  have hne : pv.ownBlock ≠ some cn := own_block_ne h2.pairs h2.node (by decide)
  obtain ⟨b0, b1, bf⟩ := box_facts H.out.2.2.1
  rcases h2.pairs.2 with ⟨_, h0⟩ | ⟨b, cap, cur, rfl, hbb, hbh, hbn, hbc, hbs, hbt⟩
  · omega
  obtain ⟨n, hn⟩ : ∃ n, n = (prsOf sl).length := ⟨_, rfl⟩
  have hbc' : b ≠ cn := fun e => hne (by rw [e]; rfl)
  have hbg' : b ≠ gp := fun e => H.out.2.2.2 (by rw [e]; rfl)
  have hrow0 : (wr.cell? ⟨b, r * 2, none⟩).isSome = true := by rw [seg_of_heap hbh, Array.getElem?_eq_getElem (by omega)]; rfl
  have hrow1 : (wr.cell? ⟨b, r * 2 + 1, none⟩).isSome = true := by rw [seg_of_heap hbh, Array.getElem?_eq_getElem (by omega)]; rfl
  obtain ⟨u0, hu0⟩ := Option.isSome_iff_exists.1 hrow0
  obtain ⟨u1, hu1⟩ := Option.isSome_iff_exists.1 hrow1
  have HF : Hid (∀ x, Ext wr x → ∀ j, x.frozen? ⟨b, j, none⟩ = false) := Lib.hid (fun x f j => by simp [World.frozen?, (f.block b (heap_lt hbh)).trans hbh])
  have HU := Lib.hid (And.intro hu0 hu1)
  have HK := Lib.hid (And.intro c0 (And.intro c2 (And.intro b0 b1)))
  have HR : Hid (∀ x, Ext wr x → InO base ((x.setCell ⟨b, r * 2, none⟩ (str p.1)).setCell ⟨b, r * 2 + 1, none⟩ (str p.2)) cn (sl.set i (.pr p)) ow (.slice (some ⟨b, 0, none⟩) (prsOf sl).length cap) kv) := Lib.hid (fun x f => by
    refine ⟨by rw [List.length_set]; exact H.out.1.1, ?_⟩
    have hx := H.out.1.2.ext f
    have hxb : x.heap[b]? = some (.cells cur NP (0, 0)) := (f.block b (heap_lt hbh)).trans hbh
    have ed : dataOf (sl.set i (.pr p)) = dataOf sl := bits_set_same Slot.isP H.out.2.1 (s := .pr p) rfl
    have en : nodesOf (sl.set i (.pr p)) = nodesOf sl := bits_set_same Slot.isK H.out.2.1 (s := .pr p) rfl
    rw [ed, en, prs_set_pp H.out.2.1, kds_set_nn H.out.2.1 rfl (s := .pr p) rfl, ← hr]
    have hf2 : flat ((prsOf sl).set r p) = ((flat (prsOf sl)).set (r * 2) (str p.1)).set (r * 2 + 1) (str p.2) := flat_set _ _ _
    refine ⟨?_, ?_, ?_⟩
    · exact (Below.heap_setCell _ _ _ cn (fun e => hbc' e.symm)).trans ((Below.heap_setCell _ _ _ cn (fun e => hbc' e.symm)).trans hx.node)
    · rw [hf2, List.length_set]
      exact (World.ownsRow.stored (World.ownsRow.stored hx.pairs (r * 2) (str p.1)).1 (r * 2 + 1) (str p.2)).1
    · exact own_other (own_other hx.kids hxb (by decide) _ _) (heap_set hxb _ _) (by decide) _ _)
  have hri : (r : Int) < (n : Int) := by omega
  have hr0 : (0 : Int) ≤ (r : Int) := by omega
  have HN := Lib.hid (And.intro hn (And.intro hbc' hbg'))
  rw [← hn] at HR HQF hp32 hbn HK
  clear hO hs hd h2 c1 c3 c4 c5 hr hat hrl hne b0 b1 bf hbh hbs hbt hrow0 hrow1 hu0 hu1 c0 c2 hn
  obtain ⟨c0, c2, b0, b1⟩ := HK.out
  go_region_held3 (fun w' => w'.cell? ⟨cn, 0, none⟩ = some (.int .u32 d) ∧ w'.cell? ⟨cn, 2, none⟩ = some (.slice (some ⟨b, 0, none⟩) n cap) ∧ w'.cell? ⟨gp, 0, none⟩ = some (str p.1) ∧ w'.cell? ⟨gp, 1, none⟩ = some (str p.2))
    (first | exact keep4s (keep4c k1.out HK.out) HN.out.2.1 HN.out.2.2 | exact keep4c k1.out HK.out | exact keep4c (by repeat' (first | exact Ext.refl _ | apply ext_alloc | apply ext_drew | exact below_drewN (Ext.refl _) _)) HK.out)
    ((go_at_call 42; refine (rank_c _ d i hd9 hi).mono ?_; rintro e x1 ⟨rfl, f1⟩; rw [HB.out]; have k1 : Hid (Ext wr x1) := Lib.hid (Ext.trans (by repeat' (first | exact Ext.refl _ | apply ext_alloc | apply ext_drew | exact below_drewN (Ext.refl _) _)) f1); have v0 := Ext.cell' k1.out HU.out.1; have v1 := Ext.cell' k1.out HU.out.2; have vf := HF.out x1 k1.out; clear f1))
  refine HQF.out _ _ _ _ _ _ _ _ _ _ _ _ _ _ _ ?_ ?_
  · exact HR.out x1 k1.out
  · exact ((Only.of_ext k1.out).setCell (p := ⟨b, r * 2, none⟩) (.inl (.inr (.inl rfl))) _).setCell (p := ⟨b, r * 2 + 1, none⟩) (.inl (.inr (.inl rfl))) _

end Go.Proofs.YtclcgelbcbnekaaDoor
