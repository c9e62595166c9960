/- The document's trie: two rows grow: a law of its own. -/
import Derived.Test.YtclcgelbcbnekaaFb
import Derived.Deep.RegionHeld3
import Derived.Deep.DeepCutAuto
import Derived.Test.YtclcgelbcbnekaaBs
set_option linter.unusedVariables false
set_option linter.unusedSimpArgs false
namespace Go.Proofs.Ytclcgelbcbnekaa
open Go.RowKit Go.QS Go.QS.Nk
set_option linter.unusedVariables false
variable [Zero (Nat → Prop)]
set_option linter.unusedSectionVars false

theorem oper_appB {P : Program} {w : World} {o : Oper} {a : Act} {K : Act → World → Prop} {Q : Exit → Act → World → Prop} (hgd : o.guard = none) (s x : Operand) (t : TypeId)
    (ho : o.op = .call { callee := .builtin .append, args := #[s, x], argTypes := #[t, t] }) (base : Nat)
    (e : TypeId) (size bytes : Nat) (ht : P.underlying t = some (.slice e)) (hi : ∃ i z, P.info? e = some i ∧ i.zero = some z ∧ i.size = size ∧ i.bytes = bytes ∧ z.cells.size = size) (hsz : 0 < size)
    (v : Value) (n : Nat) (xs : List Value) (hs : a.eval s = v) (hown : w.ownsRow base e size v n xs)
    (A : Option Addr) (m c : Nat) (news : List Value) (hx : a.eval x = .slice A m c) (hl : news.length = m * size) (hr : Seg w A news) (h1 : ∀ u ∈ news, u.oneCell' = true)
    (h63 : n + m ≤ maxLen) (hbytes : (n + m) * bytes ≤ 140737488355328) (hbase : base ≤ w.heap.size)
    (h : ∀ v' w', w'.ownsRow base e size v' (n + m) (xs ++ news) → w.grownBy w' v.ownBlock → (∀ g, v.ownBlock = some g → base ≤ g) → K (a.put o.dst v') w') :
    Oper.wp P o a w K Q := by
  obtain ⟨i, z, hi, hz, hsize, hby, hzs⟩ := hi
  obtain ⟨v', w', hrun, h2, h3, h4⟩ := run_app (P := P) w base t o.type e i z size bytes ht hi hz hsize hby hzs hsz v n xs hown A m c news hl hr h1 h63 hbytes hbase
  unfold Oper.wp execOp
  simp only [ho, resolve, invoke, builtin, Sem.run_bind, Sem.run_pure, Result.andThen_ok, List.map_toArray, List.map_cons, List.map_nil, hs, hx, hrun]
  exact h v' w' h2 h3 (fun k hk => (hown.lt k hk).1)
theorem rows_ne {w : World} {B B' k k' n n' : Nat} {e e' : TypeId} {v v' : Value} {xs xs' : List Value} (h : w.ownsRow B e k v n xs) (h' : w.ownsRow B' e' k' v' n' xs') (he : e ≠ e') (b : Nat) (hb : v.ownBlock = some b) : v'.ownBlock ≠ some b := by
  intro hb'
  rcases h.2 with ⟨rfl, _⟩ | ⟨g, cap, cur, rfl, _, hg, _⟩
  · cases hb
  · rcases h'.2 with ⟨rfl, _⟩ | ⟨g', cap', cur', rfl, _, hg', _⟩
    · cases hb'
    · cases hb; cases hb'
      rw [hg] at hg'
      cases hg'
      exact he rfl
abbrev In13 (wr : World) (B gp bh oh i hp : Nat) (v9 v10 : Value) (X : List Pr) (Y : List Value) (p : Pr) : Prop := Hid (wr.ownsRow B RP 2 v9 X.length (flat X) ∧ wr.ownsRow B U64 1 v10 Y.length Y ∧ wr.cell? ⟨gp, 0, none⟩ = some (str p.1) ∧ wr.cell? ⟨gp, 1, none⟩ = some (str p.2) ∧ wr.cell? ⟨bh, oh + i, none⟩ = some (.int .u64 hp) ∧ v9.ownBlock ≠ some gp ∧ v10.ownBlock ≠ some gp ∧ v9.ownBlock ≠ some bh ∧ v10.ownBlock ≠ some bh)
abbrev Two13 (v9 v10 : Value) (k : Nat) : Prop := v9.ownBlock = some k ∨ v10.ownBlock = some k
theorem sS {wr W : World} {B gp bh oh i hp : Nat} {v9 v10 : Value} {X : List Pr} {Y : List Value} {p : Pr} (H : In13 wr B gp bh oh i hp v9 v10 X Y p) (h : Only (Two13 v9 v10) wr W) : W.cell? ⟨gp, 0, none⟩ = some (str p.1) ∧ W.cell? ⟨gp, 1, none⟩ = some (str p.2) ∧ W.cell? ⟨bh, oh + i, none⟩ = some (.int .u64 hp) := by
  obtain ⟨_, _, q0, q1, q2, n1, n2, n3, n4⟩ := H.out
  exact ⟨h.cell q0 (fun e => e.elim n1 n2), h.cell q1 (fun e => e.elim n1 n2), h.cell q2 (fun e => e.elim n3 n4)⟩
structure W13 (B : Nat) (X : List Pr) (Y : List Value) (v9 v10 : Value) (wr W : World) : Prop where
  only : Only (Two13 v9 v10) wr W
  r9 : W.ownsRow B RP 2 v9 X.length (flat X)
  r10 : W.ownsRow B U64 1 v10 Y.length Y
structure V13 (B : Nat) (X : List Pr) (Y : List Value) (p : Pr) (v9 v10 v9b : Value) (wr W : World) : Prop where
  only : Only (Two13 v9 v10) wr W
  r9b : W.ownsRow B RP 2 v9b (X.length + 1) (flat (X ++ [p]))
  r10 : W.ownsRow B U64 1 v10 Y.length Y
section
variable {B : Nat} {X : List Pr} {Y : List Value} {p : Pr} {v9 v10 v9b : Value} {wr W w3 : World}
theorem W13.alloc (h : W13 B X Y v9 v10 wr W) (o : Obj) : W13 B X Y v9 v10 wr (W.alloc o) := ⟨h.only.alloc o, row_ext h.r9 (ext_alloc (Ext.refl W) o), row_ext h.r10 (ext_alloc (Ext.refl W) o)⟩
theorem V13.alloc (h : V13 B X Y p v9 v10 v9b wr W) (o : Obj) : V13 B X Y p v9 v10 v9b wr (W.alloc o) := ⟨h.only.alloc o, row_ext h.r9b (ext_alloc (Ext.refl W) o), row_ext h.r10 (ext_alloc (Ext.refl W) o)⟩
theorem W13.app9 (h : W13 B X Y v9 v10 wr W) (hown : w3.ownsRow B RP 2 v9b (X.length + 1) (flat X ++ [str p.1, str p.2])) (hg : W.grownBy w3 v9.ownBlock) : V13 B X Y p v9 v10 v9b wr w3 :=
  ⟨h.only.trans' (Only.of_grown hg) (fun i _ hi => .inl hi), by rw [flat_append]; exact hown, (Only.of_grown hg).own h.r10 (fun b hb e => rows_ne h.r9 h.r10 (by decide) b e hb)⟩
theorem V13.app10 (h : V13 B X Y p v9 v10 v9b wr W) {v10b : Value} {hp : Nat} (hown : w3.ownsRow B U64 1 v10b (Y.length + 1) (Y ++ [.int .u64 hp])) (hg : W.grownBy w3 v10.ownBlock) : w3.ownsRow B RP 2 v9b (X.length + 1) (flat (X ++ [p])) ∧ w3.ownsRow B U64 1 v10b (Y.length + 1) (Y ++ [.int .u64 hp]) ∧ Only (Two13 v9 v10) wr w3 :=
  ⟨(Only.of_grown hg).own h.r9b (fun b hb e => rows_ne h.r10 h.r9b (by decide) b e hb), hown, h.only.trans' (Only.of_grown hg) (fun i _ hi => .inr hi)⟩
end
set_option maxRecDepth 100000 in
set_option maxHeartbeats 2000000 in
theorem of_13 (wr : World) (B gp bh oh n i ch hp : Nat) (v9 v10 : Value) (X : List Pr) (Y : List Value) (p : Pr) (H : Hid (wr.ownsRow B RP 2 v9 X.length (flat X) ∧ wr.ownsRow B U64 1 v10 Y.length Y ∧ wr.cell? ⟨gp, 0, none⟩ = some (str p.1) ∧ wr.cell? ⟨gp, 1, none⟩ = some (str p.2) ∧ wr.cell? ⟨bh, oh + i, none⟩ = some (.int .u64 hp) ∧ v9.ownBlock ≠ some gp ∧ v10.ownBlock ≠ some gp ∧ v9.ownBlock ≠ some bh ∧ v10.ownBlock ≠ some bh)) (hin : i < n) (hX : X.length ≤ 100000) (hY : Y.length ≤ 100000) (hB : B ≤ wr.heap.size) (c : Code) (Q : Exit → Act → World → Prop) (t0 t2 t3 t4 t5 t6 t7 t8 t13 t14 t15 t16 t17 t18 t19 t20 t21 t22 t23 t24 t25 t26 t27 t28 t29 t30 t31 t32 t33 t34 t35 t36 t37 t38 t39 t40 t41 t42 t43 t44 t45 t46 t47 t48 t49 t50 t51 t52 t53 t54 t55 t56 t57 t58 t59 t60 t61 t62 t63 t64 t65 t66 t67 t68 t69 t70 t71 t72 t73 t74 t75 t76 t77 t78 t79 t80 t81 t82 t83 t84 t85 : Value)
    (hc : (Try.f146.body.bind (findR 13)) = some c)
    (hQ : ∀ (u9 u10 u39 u40 u41 u42 u43 u44 u45 u46 u47 u48 u49 : Value) (wx : World), wx.ownsRow B RP 2 u9 (X.length + 1) (flat (X ++ [p])) ∧ wx.ownsRow B U64 1 u10 (Y.length + 1) (Y ++ [.int .u64 hp]) ∧ Only (fun k => v9.ownBlock = some k ∨ v10.ownBlock = some k) wr wx → Q .normal { tmps := List.toArray (t0 :: (.slice (some ⟨bh, oh, none⟩) n ch) :: t2 :: t3 :: t4 :: t5 :: t6 :: t7 :: t8 :: u9 :: u10 :: (.int .i64 i) :: (ptr gp) :: t13 :: t14 :: t15 :: t16 :: t17 :: t18 :: t19 :: t20 :: t21 :: t22 :: t23 :: t24 :: t25 :: t26 :: t27 :: t28 :: t29 :: t30 :: t31 :: t32 :: t33 :: t34 :: t35 :: t36 :: t37 :: t38 :: u39 :: u40 :: u41 :: u42 :: u43 :: u44 :: u45 :: u46 :: u47 :: u48 :: u49 :: t50 :: t51 :: t52 :: t53 :: t54 :: t55 :: t56 :: t57 :: t58 :: t59 :: t60 :: t61 :: t62 :: t63 :: t64 :: t65 :: t66 :: t67 :: t68 :: t69 :: t70 :: t71 :: t72 :: t73 :: t74 :: t75 :: t76 :: t77 :: t78 :: t79 :: t80 :: t81 :: t82 :: t83 :: t84 :: t85 :: []), defers := [] } wx) :
    c.wp Try.prog Q { tmps := List.toArray (t0 :: (.slice (some ⟨bh, oh, none⟩) n ch) :: t2 :: t3 :: t4 :: t5 :: t6 :: t7 :: t8 :: v9 :: v10 :: (.int .i64 i) :: (ptr gp) :: t13 :: t14 :: t15 :: t16 :: t17 :: t18 :: t19 :: t20 :: t21 :: t22 :: t23 :: t24 :: t25 :: t26 :: t27 :: t28 :: t29 :: t30 :: t31 :: t32 :: t33 :: t34 :: t35 :: t36 :: t37 :: t38 :: t39 :: t40 :: t41 :: t42 :: t43 :: t44 :: t45 :: t46 :: t47 :: t48 :: t49 :: t50 :: t51 :: t52 :: t53 :: t54 :: t55 :: t56 :: t57 :: t58 :: t59 :: t60 :: t61 :: t62 :: t63 :: t64 :: t65 :: t66 :: t67 :: t68 :: t69 :: t70 :: t71 :: t72 :: t73 :: t74 :: t75 :: t76 :: t77 :: t78 :: t79 :: t80 :: t81 :: t82 :: t83 :: t84 :: t85 :: []), defers := [] } wr := by
  change some _ = some c at hc
  cases hc
  have HQF := Lib.hid hQ
  clear hQ
  have hi1 : (i : Int) < (n : Int) := by omega
  obtain ⟨_, _, q0, q1, q2, _⟩ := H.out
  have T : W13 B X Y v9 v10 wr wr.drew := ⟨Only.of_ext (ext_drew (Ext.refl wr)), row_ext H.out.1 (ext_drew (Ext.refl wr)), row_ext H.out.2.1 (ext_drew (Ext.refl wr))⟩
  refine wp_region_noPanic ?_
  refine wp_region_T (n := 12) (S := (fun w' : World => w'.cell? ⟨gp, 0, none⟩ = some (str p.1) ∧ w'.cell? ⟨gp, 1, none⟩ = some (str p.2) ∧ w'.cell? ⟨bh, oh + i, none⟩ = some (.int .u64 hp))) (by kernel_rfl) ?_
  change wpAnyT _ _ _ _ _ _ 13 _ _ wr.drew
  have hH : (fun w' : World => w'.cell? ⟨gp, 0, none⟩ = some (str p.1) ∧ w'.cell? ⟨gp, 1, none⟩ = some (str p.2) ∧ w'.cell? ⟨bh, oh + i, none⟩ = some (.int .u64 hp)) wr.drew := sS H T.only
  refine wpAnyT_take (i := 0) (v := ?_) rfl (by kernel_rfl) (by kernel_rfl) (by kernel_rfl) (by kernel_rfl) (fun _ _ _ h => h) (Or.inl ⟨by rfl, ?_⟩) hH ?_
  rotate_left
  · (intro w hSw; (try dsimp only at hSw); obtain ⟨s0, s1, s2⟩ := hSw; go_simp; try with_reducible rfl)
  try simp only [Act.put, List.setIfInBounds_toArray, List.set_cons_zero, List.set_cons_succ]
  refine wpAnyT_take (i := 1) (v := ?_) rfl (by kernel_rfl) (by kernel_rfl) (by kernel_rfl) (by kernel_rfl) (fun _ _ _ h => h) (Or.inl ⟨by rfl, ?_⟩) hH ?_
  rotate_left
  · (intro w hSw; (try dsimp only at hSw); obtain ⟨s0, s1, s2⟩ := hSw; go_simp; try with_reducible rfl)
  try simp only [Act.put, List.setIfInBounds_toArray, List.set_cons_zero, List.set_cons_succ]
  refine wpAnyT_take (i := 4) (v := ?_) rfl (by kernel_rfl) (by kernel_rfl) (by kernel_rfl) (by kernel_rfl) (fun _ _ _ h => h) (Or.inl ⟨by rfl, ?_⟩) hH ?_
  rotate_left
  · (intro w hSw; (try dsimp only at hSw); obtain ⟨s0, s1, s2⟩ := hSw; go_simp; try with_reducible rfl)
  try simp only [Act.put, List.setIfInBounds_toArray, List.set_cons_zero, List.set_cons_succ]
  refine wpAnyT_take (i := 5) (v := ?_) rfl (by kernel_rfl) (by kernel_rfl) (by kernel_rfl) (by kernel_rfl) (fun _ _ _ h => h) (Or.inl ⟨by rfl, ?_⟩) hH ?_
  rotate_left
  · (intro w hSw; (try dsimp only at hSw); obtain ⟨s0, s1, s2⟩ := hSw; go_simp; try with_reducible rfl)
  try simp only [Act.put, List.setIfInBounds_toArray, List.set_cons_zero, List.set_cons_succ]
  refine wpAnyT_take (i := 6) (v := ?_) rfl (by kernel_rfl) (by kernel_rfl) (by kernel_rfl) (by kernel_rfl) (fun _ _ _ h => h) (Or.inl ⟨by rfl, ?_⟩) hH ?_
  rotate_left
  · (intro w hSw; (try dsimp only at hSw); obtain ⟨s0, s1, s2⟩ := hSw; go_simp; try with_reducible rfl)
  try simp only [Act.put, List.setIfInBounds_toArray, List.set_cons_zero, List.set_cons_succ]
  refine wpAnyT_take (i := 7) (v := ?_) rfl (by kernel_rfl) (by kernel_rfl) (by kernel_rfl) (by kernel_rfl) (fun _ _ _ h => h) (Or.inl ⟨by rfl, ?_⟩) hH ?_
  rotate_left
  · (intro w hSw; (try dsimp only at hSw); obtain ⟨s0, s1, s2⟩ := hSw; go_simp; try with_reducible rfl)
  try simp only [Act.put, List.setIfInBounds_toArray, List.set_cons_zero, List.set_cons_succ]
  refine wpAnyT_take (i := 8) (v := ?_) rfl (by kernel_rfl) (by kernel_rfl) (by kernel_rfl) (by kernel_rfl) (fun _ _ _ h => h) (Or.inl ⟨by rfl, ?_⟩) hH ?_
  rotate_left
  · (intro w hSw; (try dsimp only at hSw); obtain ⟨s0, s1, s2⟩ := hSw; go_simp; try with_reducible rfl)
  try simp only [Act.put, List.setIfInBounds_toArray, List.set_cons_zero, List.set_cons_succ]
  refine wpAnyT_all (rs := [2, 9]) (by kernel_rfl) (by simp) ?_
  intro i9 hi9
  simp only [List.mem_cons, List.not_mem_nil, or_false] at hi9
  rcases hi9 with rfl | rfl
  · refine wpOp_goK rfl rfl (fun K9 hK9 => ?_)
    go_simp
    have T2 := T.alloc (.cells #[str p.1, str p.2] RP)
    have hsa := Seg.new wr.drew ([str p.1, str p.2] : List Value) RP (g := wr.heap.size) (by simp)
    refine hK9.out _ _ ⟨.inr (sS H T2.only), ?_⟩
    clear hK9 K9
    refine wpAnyT_all (rs := [3, 9]) (by kernel_rfl) (by simp) ?_
    intro i9 hi9
    simp only [List.mem_cons, List.not_mem_nil, or_false] at hi9
    rcases hi9 with rfl | rfl
    · refine wpOp_goK rfl rfl (fun K9 hK9 => ?_)
      refine oper_appB rfl (.tmp 39) (.tmp 41) _ rfl B RP 2 32 Try.underlying46 infoRP (by decide) v9 X.length (flat X) rfl T2.r9 _ 1 1 [str p.1, str p.2] rfl rfl hsa (by intro u hu; simp at hu; rcases hu with rfl | rfl <;> rfl) (by unfold maxLen; omega) (by omega) (Nat.le_trans hB T2.only.size) ?_
      intro v9b w3 hown3 hg3 _
      have T23 := T2.app9 (p := p) hown3 hg3
      clear hown3 hg3 hsa
      refine hK9.out _ _ ⟨.inr (sS H T23.only), ?_⟩
      clear hK9 K9
      refine wpAnyT_all (rs := [9]) (by kernel_rfl) (by simp) ?_
      intro i9 hi9
      obtain rfl := List.mem_singleton.1 hi9
      refine wpOp_goK rfl rfl (fun K9 hK9 => ?_)
      go_simp
      have T239 := T23.alloc (.cells #[.int .u64 hp] U64)
      have hsb := Seg.new w3 ([.int .u64 hp] : List Value) U64 (g := w3.heap.size) (by simp)
      refine hK9.out _ _ ⟨.inr (sS H T239.only), ?_⟩
      clear hK9 K9
      refine wpAnyT_all (rs := [10]) (by kernel_rfl) (by simp) ?_
      intro i9 hi9
      obtain rfl := List.mem_singleton.1 hi9
      refine wpOp_goK rfl rfl (fun K9 hK9 => ?_)
      refine oper_appB rfl (.tmp 43) (.tmp 48) _ rfl B U64 1 8 Try.underlying225 infoU (by decide) v10 Y.length Y rfl T239.r10 _ 1 1 [.int .u64 hp] rfl rfl hsb (by intro u hu; simp at hu; subst hu; rfl) (by unfold maxLen; omega) (by omega) (Nat.le_trans hB T239.only.size) ?_
      intro v10b w5 hown5 hg5 _
      have T5 := T239.app10 hown5 hg5
      clear hown5 hg5
      refine hK9.out _ _ ⟨.inr (sS H T5.2.2), ?_⟩
      clear hK9 K9 hH
      have hH : (fun w' : World => w'.cell? ⟨gp, 0, none⟩ = some (str p.1) ∧ w'.cell? ⟨gp, 1, none⟩ = some (str p.2) ∧ w'.cell? ⟨bh, oh + i, none⟩ = some (.int .u64 hp)) w5 := sS H T5.2.2
      refine wpAnyT_take (i := 11) (v := ?_) rfl (by kernel_rfl) (by kernel_rfl) (by kernel_rfl) (by kernel_rfl) (fun _ _ _ h => h) (Or.inl ⟨by rfl, ?_⟩) hH ?_
      rotate_left
      · (intro w hSw; (try dsimp only at hSw); obtain ⟨s0, s1, s2⟩ := hSw; go_simp; try with_reducible rfl)
      try simp only [Act.put, List.setIfInBounds_toArray, List.set_cons_zero, List.set_cons_succ]
      refine wpAnyT_tail 12 (Nat.le_refl _) rfl (by kernel_rfl) ?_
      simp only [List.drop_succ_cons, List.drop_zero]
      repeat' go_step
      refine NoPanic.normal ?_
      exact HQF.out _ _ _ _ _ _ _ _ _ _ _ _ _ _ ⟨T5.1, T5.2.1, T5.2.2⟩
    · refine wpOp_goK rfl rfl (fun K9 hK9 => ?_)
      go_simp
      have T29 := T2.alloc (.cells #[.int .u64 hp] U64)
      have hsb := Seg.new (wr.drew.alloc (.cells #[str p.1, str p.2] RP)) ([.int .u64 hp] : List Value) U64 (g := wr.heap.size + 1) (by simp)
      have hsa := hsa.alloc (.cells #[.int .u64 hp] U64)
      refine hK9.out _ _ ⟨.inr (sS H T29.only), ?_⟩
      clear hK9 K9
      refine wpAnyT_all (rs := [3]) (by kernel_rfl) (by simp) ?_
      intro i9 hi9
      obtain rfl := List.mem_singleton.1 hi9
      refine wpOp_goK rfl rfl (fun K9 hK9 => ?_)
      refine oper_appB rfl (.tmp 39) (.tmp 41) _ rfl B RP 2 32 Try.underlying46 infoRP (by decide) v9 X.length (flat X) rfl T29.r9 _ 1 1 [str p.1, str p.2] rfl rfl hsa (by intro u hu; simp at hu; rcases hu with rfl | rfl <;> rfl) (by unfold maxLen; omega) (by omega) (Nat.le_trans hB T29.only.size) ?_
      intro v9b w3 hown3 hg3 _
      have T293 := T29.app9 (p := p) hown3 hg3
      have hsb := (Only.of_grown hg3).seg hsb (fun b o e h => by cases e; have := (H.out.1.lt _ h).2; omega)
      clear hown3 hg3 hsa
      refine hK9.out _ _ ⟨.inr (sS H T293.only), ?_⟩
      clear hK9 K9
      refine wpAnyT_all (rs := [10]) (by kernel_rfl) (by simp) ?_
      intro i9 hi9
      obtain rfl := List.mem_singleton.1 hi9
      refine wpOp_goK rfl rfl (fun K9 hK9 => ?_)
      refine oper_appB rfl (.tmp 43) (.tmp 48) _ rfl B U64 1 8 Try.underlying225 infoU (by decide) v10 Y.length Y rfl T293.r10 _ 1 1 [.int .u64 hp] rfl rfl hsb (by intro u hu; simp at hu; subst hu; rfl) (by unfold maxLen; omega) (by omega) (Nat.le_trans hB T293.only.size) ?_
      intro v10b w5 hown5 hg5 _
      have T5 := T293.app10 hown5 hg5
      clear hown5 hg5
      refine hK9.out _ _ ⟨.inr (sS H T5.2.2), ?_⟩
      clear hK9 K9 hH
      have hH : (fun w' : World => w'.cell? ⟨gp, 0, none⟩ = some (str p.1) ∧ w'.cell? ⟨gp, 1, none⟩ = some (str p.2) ∧ w'.cell? ⟨bh, oh + i, none⟩ = some (.int .u64 hp)) w5 := sS H T5.2.2
      refine wpAnyT_take (i := 11) (v := ?_) rfl (by kernel_rfl) (by kernel_rfl) (by kernel_rfl) (by kernel_rfl) (fun _ _ _ h => h) (Or.inl ⟨by rfl, ?_⟩) hH ?_
      rotate_left
      · (intro w hSw; (try dsimp only at hSw); obtain ⟨s0, s1, s2⟩ := hSw; go_simp; try with_reducible rfl)
      try simp only [Act.put, List.setIfInBounds_toArray, List.set_cons_zero, List.set_cons_succ]
      refine wpAnyT_tail 12 (Nat.le_refl _) rfl (by kernel_rfl) ?_
      simp only [List.drop_succ_cons, List.drop_zero]
      repeat' go_step
      refine NoPanic.normal ?_
      exact HQF.out _ _ _ _ _ _ _ _ _ _ _ _ _ _ ⟨T5.1, T5.2.1, T5.2.2⟩
  · refine wpOp_goK rfl rfl (fun K9 hK9 => ?_)
    go_simp
    have T9 := T.alloc (.cells #[.int .u64 hp] U64)
    have hsb := Seg.new wr.drew ([.int .u64 hp] : List Value) U64 (g := wr.heap.size) (by simp)
    refine hK9.out _ _ ⟨.inr (sS H T9.only), ?_⟩
    clear hK9 K9
    refine wpAnyT_all (rs := [2]) (by kernel_rfl) (by simp) ?_
    intro i9 hi9
    obtain rfl := List.mem_singleton.1 hi9
    refine wpOp_goK rfl rfl (fun K9 hK9 => ?_)
    go_simp
    have T92 := T9.alloc (.cells #[str p.1, str p.2] RP)
    have hsa := Seg.new (wr.drew.alloc (.cells #[.int .u64 hp] U64)) ([str p.1, str p.2] : List Value) RP (g := wr.heap.size + 1) (by simp)
    have hsb := hsb.alloc (.cells #[str p.1, str p.2] RP)
    refine hK9.out _ _ ⟨.inr (sS H T92.only), ?_⟩
    clear hK9 K9
    refine wpAnyT_all (rs := [3]) (by kernel_rfl) (by simp) ?_
    intro i9 hi9
    obtain rfl := List.mem_singleton.1 hi9
    refine wpOp_goK rfl rfl (fun K9 hK9 => ?_)
    refine oper_appB rfl (.tmp 39) (.tmp 41) _ rfl B RP 2 32 Try.underlying46 infoRP (by decide) v9 X.length (flat X) rfl T92.r9 _ 1 1 [str p.1, str p.2] rfl rfl hsa (by intro u hu; simp at hu; rcases hu with rfl | rfl <;> rfl) (by unfold maxLen; omega) (by omega) (Nat.le_trans hB T92.only.size) ?_
    intro v9b w3 hown3 hg3 _
    have T923 := T92.app9 (p := p) hown3 hg3
    have hsb := (Only.of_grown hg3).seg hsb (fun b o e h => by cases e; have := (H.out.1.lt _ h).2; omega)
    clear hown3 hg3 hsa
    refine hK9.out _ _ ⟨.inr (sS H T923.only), ?_⟩
    clear hK9 K9
    refine wpAnyT_all (rs := [10]) (by kernel_rfl) (by simp) ?_
    intro i9 hi9
    obtain rfl := List.mem_singleton.1 hi9
    refine wpOp_goK rfl rfl (fun K9 hK9 => ?_)
    refine oper_appB rfl (.tmp 43) (.tmp 48) _ rfl B U64 1 8 Try.underlying225 infoU (by decide) v10 Y.length Y rfl T923.r10 _ 1 1 [.int .u64 hp] rfl rfl hsb (by intro u hu; simp at hu; subst hu; rfl) (by unfold maxLen; omega) (by omega) (Nat.le_trans hB T923.only.size) ?_
    intro v10b w5 hown5 hg5 _
    have T5 := T923.app10 hown5 hg5
    clear hown5 hg5
    refine hK9.out _ _ ⟨.inr (sS H T5.2.2), ?_⟩
    clear hK9 K9 hH
    have hH : (fun w' : World => w'.cell? ⟨gp, 0, none⟩ = some (str p.1) ∧ w'.cell? ⟨gp, 1, none⟩ = some (str p.2) ∧ w'.cell? ⟨bh, oh + i, none⟩ = some (.int .u64 hp)) w5 := sS H T5.2.2
    refine wpAnyT_take (i := 11) (v := ?_) rfl (by kernel_rfl) (by kernel_rfl) (by kernel_rfl) (by kernel_rfl) (fun _ _ _ h => h) (Or.inl ⟨by rfl, ?_⟩) hH ?_
    rotate_left
    · (intro w hSw; (try dsimp only at hSw); obtain ⟨s0, s1, s2⟩ := hSw; go_simp; try with_reducible rfl)
    try simp only [Act.put, List.setIfInBounds_toArray, List.set_cons_zero, List.set_cons_succ]
    refine wpAnyT_tail 12 (Nat.le_refl _) rfl (by kernel_rfl) ?_
    simp only [List.drop_succ_cons, List.drop_zero]
    repeat' go_step
    refine NoPanic.normal ?_
    exact HQF.out _ _ _ _ _ _ _ _ _ _ _ _ _ _ ⟨T5.1, T5.2.1, T5.2.2⟩

end Go.Proofs.Ytclcgelbcbnekaa
