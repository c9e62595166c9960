/- Contracts: shape.canon's regions that draw their order. -/
import Derived.Test.YtclcgelbcbnekaaDoorM39
import Derived.Test.YtclcgelbcbnekaaDoorM12
import Derived.Test.YtclcgelbcbnekaaDoorM21
import Derived.Test.YtclcgelbcbnekaaDoorM29
set_option linter.unusedVariables false
set_option linter.unusedSimpArgs false
namespace Go.Proofs.YtclcgelbcbnekaaDoor
open Go Go.RowKit Go.QS Go.QS.Nk
set_option linter.unusedVariables false
variable [Zero (Nat → Prop)]
set_option linter.unusedSectionVars false

theorem infoInt : ∃ i z, Tryd.prog.info? 3 = some i ∧ i.zero = some z ∧ i.size = 1 ∧ i.bytes = 8 ∧ z.cells.size = 1 := info_of (z := .int .i64 0) (by kernel_rfl) rfl
/-- Append of one value onto a slice without spare room. -/
theorem run_appF (w : World) (t ty : TypeId) (ht : Tryd.prog.underlying t = some (.slice 3)) (A : Option Addr) (n : Nat) (xs : List Value) (hl : xs.length = n) (hs : Seg w A xs) (A' : Option Addr) (C : Nat) (u : Value) (hu : Seg w A' [u]) (h1 : u.oneCell' = true) (h9 : n ≤ 1000000) :
    ∃ v' w', (Builtin.append_ #[t, t] ty #[.slice A n n, .slice A' 1 C]).run Tryd.prog w = .ok v' w' ∧ w'.ownsRow w.heap.size 3 1 v' (n + 1) (xs ++ [u]) ∧ Ext w w' := by
  obtain ⟨i, z, hi, hz, h4, h5, h6⟩ := infoInt
  obtain ⟨b, o, rfl, hc⟩ := hu (by simp)
  have hcells : ∀ j x, [u][j]? = some x → w.cell? ((⟨b, o, none⟩ : Addr).add j) = some x := by
    intro j x hx
    rw [Addr.add_lit]
    exact hc j x hx
  have hone : ∀ x ∈ [u], x.oneCell' = true := fun x hx => by rw [List.mem_singleton.1 hx]; exact h1
  cases A with
  | none =>
    have h0 : xs = [] := by
      rcases List.eq_nil_or_concat xs with h | ⟨_, _, h⟩
      · exact h
      · obtain ⟨b, o, h', _⟩ := hs (by rw [h]; simp); cases h'
    subst h0
    obtain rfl : n = 0 := by simpa using hl.symm
    obtain ⟨v', w', hrun, r1, r2, _⟩ := run_app (P := Tryd.prog) w w.heap.size t ty 3 i z 1 8 ht hi hz h4 h5 h6 (by decide) (.slice none 0 0) 0 [] (World.ownsRow_nil w _ _ _) (some ⟨b, o, none⟩) 1 C [u] rfl hu hone (by unfold maxLen; omega) (by omega) (Nat.le_refl _)
    exact ⟨v', w', hrun, r1, (Ext.refl w).grown r2 (Nat.le_refl _) fun k hk => by cases hk⟩
  | some a0 =>
    obtain ⟨v', w', hrun, r1, r2⟩ := run_append_arg_grows (P := Tryd.prog) w t ty 3 i z 1 8 ht hi hz h4 h5 h6 (by decide) a0 n n xs (by omega) (fun j x hx => by
        obtain ⟨b1, o1, h', hc1⟩ := hs (fun e => by rw [e] at hx; simp at hx)
        cases h'
        rw [Addr.add_lit]
        exact hc1 j x hx) ⟨b, o, none⟩ 1 C [u] rfl hcells (by omega) (by unfold maxLen; omega) (by omega)
    exact ⟨v', w', hrun, r1, (Ext.refl w).grown r2 (Nat.le_refl _) fun k hk => by cases hk⟩
theorem oper_appF {w : World} {o : Oper} {a : Act} {K : Act → World → Prop} {Q : Exit → Act → World → Prop} (s x : Operand) (t : TypeId)
    (ho : o.op = .call { callee := .builtin .append, args := #[s, x], argTypes := #[t, t] }) (ht : Tryd.prog.underlying t = some (.slice 3))
    (A : Option Addr) (n : Nat) (xs : List Value) (hs : a.eval s = .slice A n n) (hl : xs.length = n) (hS : Seg w A xs) (A' : Option Addr) (C : Nat) (u : Value) (hx : a.eval x = .slice A' 1 C) (hu : Seg w A' [u]) (h1 : u.oneCell' = true) (h9 : n ≤ 1000000)
    (h : ∀ v' w', w'.ownsRow w.heap.size 3 1 v' (n + 1) (xs ++ [u]) → Ext w w' → K (a.put o.dst v') w') : o.wp Tryd.prog a w K Q := by
  obtain ⟨v', w', hrun, h2, h3⟩ := run_appF w t o.type ht A n xs hl hS A' C u hu h1 h9
  unfold Oper.wp execOp
  simp only [ho, resolve, invoke, builtin, Sem.run_bind, Sem.run_pure, Result.andThen_ok, List.map_toArray, List.map_cons, List.map_nil, hs, hx, hrun]
  exact h v' w' h2 h3
/-- A kid's canon. -/
def CanR (W : World) (ok : Prop) (cnt : Nat) (e : Ending) (w' : World) : Prop :=
  ((ok ∧ e = .returned (.tuple #[.int .i64 (cnt : Int), .bool true])) ∨ (¬ ok ∧ e = .returned (.tuple #[.int .i64 0, .bool false]))) ∧ Ext W w'

set_option maxRecDepth 100000 in
set_option maxHeartbeats 2000000 in
theorem canon_8 (wr : World) (h : Hs) (hk : h.Ok) (gh gw gp : Nat) (A : Option Addr) (n C : Nat) (way : List Nat) (key : List UInt8) (hn : n = way.length) (hn13 : n ≤ 13) (HH : HsAt wr gh h) (Hw : wr.cell? ⟨gw, 0, none⟩ = some (.slice A n C)) (hS : Sl wr 1 (.slice A n C) n (wayV way)) (Hp : wr.cell? ⟨gp, 0, none⟩ = some (str key)) (hp9 : key.length ≤ 1000000) (c : Code) (QX : Exit → Act → World → Prop) (t0 t1 t2 t4 t6 t7 t8 t9 t11 t12 t13 t14 t15 t16 t17 t18 t19 t20 t21 t22 t23 t24 t25 t26 t27 t28 t29 t30 t31 t32 t33 t34 t35 t36 t37 t38 t39 t40 t41 t42 t43 t44 t45 t46 t47 t48 t49 t50 t51 t52 t53 t54 t55 t56 t57 t58 t59 t60 t61 t62 t63 t64 t65 t66 t67 t68 t69 t70 t71 t72 t73 t74 t75 t76 t77 t78 t79 t80 t81 t82 t83 t84 t85 t86 t87 t88 t89 t90 t91 t92 t93 t94 t95 t96 t97 t98 t99 t100 t101 t102 t103 t104 t105 t106 t107 t108 : Value)
    (hc : (Tryd.f34.body.bind (findQ 8)) = some c)
    (hQ : ∀ (u38 u39 u40 u41 u42 u43 u44 : Value) (wx : World), ((Leads (h.hash key) way ∧ u44 = .bool false) ∨ (¬ Leads (h.hash key) way ∧ u44 = .bool true)) ∧ Ext wr wx → QX .normal { tmps := List.toArray (t0 :: t1 :: t2 :: (ptr gh) :: t4 :: (ptr gw) :: t6 :: t7 :: t8 :: t9 :: (ptr gp) :: t11 :: t12 :: t13 :: t14 :: t15 :: t16 :: t17 :: t18 :: t19 :: t20 :: t21 :: t22 :: t23 :: t24 :: t25 :: t26 :: t27 :: t28 :: t29 :: t30 :: t31 :: t32 :: t33 :: t34 :: t35 :: t36 :: t37 :: u38 :: u39 :: u40 :: u41 :: u42 :: u43 :: u44 :: t45 :: t46 :: t47 :: t48 :: t49 :: t50 :: t51 :: t52 :: t53 :: t54 :: t55 :: t56 :: t57 :: t58 :: t59 :: t60 :: t61 :: t62 :: t63 :: t64 :: t65 :: t66 :: t67 :: t68 :: t69 :: t70 :: t71 :: t72 :: t73 :: t74 :: t75 :: t76 :: t77 :: t78 :: t79 :: t80 :: t81 :: t82 :: t83 :: t84 :: t85 :: t86 :: t87 :: t88 :: t89 :: t90 :: t91 :: t92 :: t93 :: t94 :: t95 :: t96 :: t97 :: t98 :: t99 :: t100 :: t101 :: t102 :: t103 :: t104 :: t105 :: t106 :: t107 :: t108 :: []), defers := [] } wx) :
    c.wp Tryd.prog QX { tmps := List.toArray (t0 :: t1 :: t2 :: (ptr gh) :: t4 :: (ptr gw) :: t6 :: t7 :: t8 :: t9 :: (ptr gp) :: t11 :: t12 :: t13 :: t14 :: t15 :: t16 :: t17 :: t18 :: t19 :: t20 :: t21 :: t22 :: t23 :: t24 :: t25 :: t26 :: t27 :: t28 :: t29 :: t30 :: t31 :: t32 :: t33 :: t34 :: t35 :: t36 :: t37 :: t38 :: t39 :: t40 :: t41 :: t42 :: t43 :: t44 :: t45 :: t46 :: t47 :: t48 :: t49 :: t50 :: t51 :: t52 :: t53 :: t54 :: t55 :: t56 :: t57 :: t58 :: t59 :: t60 :: t61 :: t62 :: t63 :: t64 :: t65 :: t66 :: t67 :: t68 :: t69 :: t70 :: t71 :: t72 :: t73 :: t74 :: t75 :: t76 :: t77 :: t78 :: t79 :: t80 :: t81 :: t82 :: t83 :: t84 :: t85 :: t86 :: t87 :: t88 :: t89 :: t90 :: t91 :: t92 :: t93 :: t94 :: t95 :: t96 :: t97 :: t98 :: t99 :: t100 :: t101 :: t102 :: t103 :: t104 :: t105 :: t106 :: t107 :: t108 :: []), defers := [] } wr := by
  change some _ = some c at hc
  cases hc
  have HQF := Lib.hid hQ
  clear hQ
  have HcS : Hid (∀ y : World, Ext wr y → (fun y : World => y.cell? ⟨gh, 0, none⟩ = some (.int .u64 h.k0) ∧ y.cell? ⟨gh, 1, none⟩ = some (.int .u64 h.k1) ∧ y.cell? ⟨gh, 2, none⟩ = some (.int .u64 h.mask) ∧ y.cell? ⟨gp, 0, none⟩ = some (str key) ∧ y.cell? ⟨gw, 0, none⟩ = some (.slice A n C)) y) := Lib.hid (fun y hy => ⟨(HH.ext hy).cells.1, (HH.ext hy).cells.2.1, (HH.ext hy).cells.2.2, ext_cellS hy Hp, ext_cellS hy Hw⟩)
  have HS := Lib.hid (And.intro hS hn)
  clear HH Hw hS hn Hp
  refine wp_region_N (k := 7) (S := (fun y : World => y.cell? ⟨gh, 0, none⟩ = some (.int .u64 h.k0) ∧ y.cell? ⟨gh, 1, none⟩ = some (.int .u64 h.k1) ∧ y.cell? ⟨gh, 2, none⟩ = some (.int .u64 h.mask) ∧ y.cell? ⟨gp, 0, none⟩ = some (str key) ∧ y.cell? ⟨gw, 0, none⟩ = some (.slice A n C))) (by kernel_rfl) ?_
  change wpAnyT _ _ _ _ _ _ 7 _ _ wr.drew
  obtain ⟨x0, hx0⟩ : ∃ y, y = wr.drew := ⟨_, rfl⟩
  have E0 : Hid (Ext wr x0) := Lib.hid (by rw [hx0]; exact (Ext.refl wr).drew)
  rw [← hx0]
  clear hx0
  have hH : (fun y : World => y.cell? ⟨gh, 0, none⟩ = some (.int .u64 h.k0) ∧ y.cell? ⟨gh, 1, none⟩ = some (.int .u64 h.k1) ∧ y.cell? ⟨gh, 2, none⟩ = some (.int .u64 h.mask) ∧ y.cell? ⟨gp, 0, none⟩ = some (str key) ∧ y.cell? ⟨gw, 0, none⟩ = some (.slice A n C)) x0 := HcS.out _ E0.out
  refine wpAnyT_take (i := 0) (v := ?_) rfl (by kernel_rfl) (by kernel_rfl) (by kernel_rfl) (by kernel_rfl) (fun _ _ _ h => h) (Or.inl ⟨by rfl, ?_⟩) hH ?_
  rotate_left
  · (intro w hSw; (try dsimp only at hSw); go_simp; try with_reducible rfl)
  try simp only [Act.put, List.setIfInBounds_toArray, List.set_cons_zero, List.set_cons_succ]
  refine wpAnyT_take (i := 1) (v := ?_) rfl (by kernel_rfl) (by kernel_rfl) (by kernel_rfl) (by kernel_rfl) (fun _ _ _ h => h) (Or.inl ⟨by rfl, ?_⟩) hH ?_
  rotate_left
  · (intro w hSw; (try dsimp only at hSw); go_simp; try with_reducible rfl)
  try simp only [Act.put, List.setIfInBounds_toArray, List.set_cons_zero, List.set_cons_succ]
  refine wpAnyT_take (i := 2) (v := ?_) rfl (by kernel_rfl) (by kernel_rfl) (by kernel_rfl) (by kernel_rfl) (fun _ _ _ h => h) (Or.inl ⟨by rfl, ?_⟩) hH ?_
  rotate_left
  · (intro w hSw; (try dsimp only at hSw); go_simp; try with_reducible rfl)
  try simp only [Act.put, List.setIfInBounds_toArray, List.set_cons_zero, List.set_cons_succ]
  refine wpAnyT_take (i := 4) (v := ?_) rfl (by kernel_rfl) (by kernel_rfl) (by kernel_rfl) (by kernel_rfl) (fun _ _ _ h => h) (Or.inl ⟨by rfl, ?_⟩) hH ?_
  rotate_left
  · (intro w hSw; (try dsimp only at hSw); go_simp; try with_reducible rfl)
  try simp only [Act.put, List.setIfInBounds_toArray, List.set_cons_zero, List.set_cons_succ]
  clear hH
  refine wpAnyT_all (rs := [3]) (by kernel_rfl) (by simp) ?_
  intro i9 hi9
  obtain rfl := List.mem_singleton.1 hi9
  refine wpOp_goK rfl rfl (fun K9 hK9 => ?_)
  go_simp
  refine (hash_c x0 h key hk (by omega)).mono ?_
  rintro e x1 ⟨rfl, f⟩
  have E1 : Hid (Ext wr x1) := Lib.hid (Ext.trans E0.out f)
  clear f
  go_simp
  refine hK9.out _ _ ⟨.inr (HcS.out _ E1.out), ?_⟩
  clear hK9 K9
  try simp only [Act.put, List.setIfInBounds_toArray, List.set_cons_zero, List.set_cons_succ]
  refine wpAnyT_all (rs := [5]) (by kernel_rfl) (by simp) ?_
  intro i9 hi9
  obtain rfl := List.mem_singleton.1 hi9
  refine wpOp_goK rfl rfl (fun K9 hK9 => ?_)
  go_simp
  refine (leads_c x1 (h.hash key) (Hs.hash_lt hk key) (.slice A n C) way (by rw [← HS.out.2]; exact HS.out.1.below E1.out) (by rw [← HS.out.2]; exact hn13)).mono ?_
  rintro e x2 ⟨hLL, rfl⟩
  rcases hLL with ⟨hL, rfl⟩ | ⟨hL, rfl⟩
  · have HL := Lib.hid hL
    clear hL
    go_simp
    refine hK9.out _ _ ⟨.inr (HcS.out _ E1.out), ?_⟩
    clear hK9 K9
    try simp only [Act.put, List.setIfInBounds_toArray, List.set_cons_zero, List.set_cons_succ]
    have hH : (fun y : World => y.cell? ⟨gh, 0, none⟩ = some (.int .u64 h.k0) ∧ y.cell? ⟨gh, 1, none⟩ = some (.int .u64 h.k1) ∧ y.cell? ⟨gh, 2, none⟩ = some (.int .u64 h.mask) ∧ y.cell? ⟨gp, 0, none⟩ = some (str key) ∧ y.cell? ⟨gw, 0, none⟩ = some (.slice A n C)) x2 := HcS.out _ E1.out
    refine wpAnyT_take (i := 6) (v := ?_) rfl (by kernel_rfl) (by kernel_rfl) (by kernel_rfl) (by kernel_rfl) (fun _ _ _ h => h) (Or.inl ⟨by rfl, ?_⟩) hH ?_
    rotate_left
    · (intro w hSw; (try dsimp only at hSw); go_simp; try with_reducible rfl)
    try simp only [Act.put, List.setIfInBounds_toArray, List.set_cons_zero, List.set_cons_succ]
    clear hH
    refine ⟨by kernel_rfl, OnlyN.normal (HQF.out _ _ _ _ _ _ _ _ ⟨.inl ⟨HL.out, rfl⟩, E1.out⟩)⟩
  · have HL := Lib.hid hL
    clear hL
    go_simp
    refine hK9.out _ _ ⟨.inr (HcS.out _ E1.out), ?_⟩
    clear hK9 K9
    try simp only [Act.put, List.setIfInBounds_toArray, List.set_cons_zero, List.set_cons_succ]
    have hH : (fun y : World => y.cell? ⟨gh, 0, none⟩ = some (.int .u64 h.k0) ∧ y.cell? ⟨gh, 1, none⟩ = some (.int .u64 h.k1) ∧ y.cell? ⟨gh, 2, none⟩ = some (.int .u64 h.mask) ∧ y.cell? ⟨gp, 0, none⟩ = some (str key) ∧ y.cell? ⟨gw, 0, none⟩ = some (.slice A n C)) x2 := HcS.out _ E1.out
    refine wpAnyT_take (i := 6) (v := ?_) rfl (by kernel_rfl) (by kernel_rfl) (by kernel_rfl) (by kernel_rfl) (fun _ _ _ h => h) (Or.inl ⟨by rfl, ?_⟩) hH ?_
    rotate_left
    · (intro w hSw; (try dsimp only at hSw); go_simp; try with_reducible rfl)
    try simp only [Act.put, List.setIfInBounds_toArray, List.set_cons_zero, List.set_cons_succ]
    clear hH
    refine ⟨by kernel_rfl, OnlyN.normal (HQF.out _ _ _ _ _ _ _ _ ⟨.inr ⟨HL.out, rfl⟩, E1.out⟩)⟩

set_option maxRecDepth 100000 in
set_option maxHeartbeats 2000000 in
theorem canon_19 (r9 m9 : Nat) (wr : World) (h : Hs) (hk : h.Ok) (gh gw gp ci : Nat) (A : Option Addr) (n : Nat) (way : List Nat) (key : List UInt8) (hn : n = way.length) (hn13 : n < 13) (HH : HsAt wr gh h) (Hw : wr.cell? ⟨gw, 0, none⟩ = some (.slice A n n)) (hS : Seg wr A (wayV way)) (Hp : wr.cell? ⟨gp, 0, none⟩ = some (str key)) (hp9 : key.length ≤ 1000000) (c : Code) (QX : Exit → Act → World → Prop) (t0 t1 t2 t4 t6 t7 t8 t9 t10 t11 t14 t15 t16 t17 t18 t19 t20 t21 t22 t23 t24 t25 t26 t27 t28 t29 t30 t31 t32 t33 t34 t35 t36 t37 t38 t39 t40 t41 t42 t43 t44 t45 t46 t47 t48 t49 t50 t51 t52 t53 t54 t55 t56 t57 t58 t59 t60 t61 t62 t63 t64 t65 t66 t67 t68 t69 t70 t71 t72 t73 t74 t75 t76 t77 t78 t79 t80 t81 t82 t83 t84 t85 t86 t87 t88 t89 t90 t91 t92 t93 t94 t95 t96 t97 t98 t99 t100 t101 t102 t103 t104 t105 t106 t107 t108 : Value)
    (hc : (Tryd.f34.body.bind (findQ 19)) = some c)
    (hQ : ∀ (u69 u70 u71 u72 u73 u74 u75 u76 u77 u78 : Value) (wx : World), ((Leads (h.hash key) (way ++ [ci]) ∧ u78 = .bool false) ∨ (¬ Leads (h.hash key) (way ++ [ci]) ∧ u78 = .bool true)) ∧ Ext wr wx → QX .normal { tmps := List.toArray (t0 :: t1 :: t2 :: (ptr gh) :: t4 :: (ptr gw) :: t6 :: t7 :: t8 :: t9 :: t10 :: t11 :: (.int .i64 (ci : Int)) :: (ptr gp) :: t14 :: t15 :: t16 :: t17 :: t18 :: t19 :: t20 :: t21 :: t22 :: t23 :: t24 :: t25 :: t26 :: t27 :: t28 :: t29 :: t30 :: t31 :: t32 :: t33 :: t34 :: t35 :: t36 :: t37 :: t38 :: t39 :: t40 :: t41 :: t42 :: t43 :: t44 :: t45 :: t46 :: t47 :: t48 :: t49 :: t50 :: t51 :: t52 :: t53 :: t54 :: t55 :: t56 :: t57 :: t58 :: t59 :: t60 :: t61 :: t62 :: t63 :: t64 :: t65 :: t66 :: t67 :: t68 :: u69 :: u70 :: u71 :: u72 :: u73 :: u74 :: u75 :: u76 :: u77 :: u78 :: t79 :: t80 :: t81 :: t82 :: t83 :: t84 :: t85 :: t86 :: t87 :: t88 :: t89 :: t90 :: t91 :: t92 :: t93 :: t94 :: t95 :: t96 :: t97 :: t98 :: t99 :: t100 :: t101 :: t102 :: t103 :: t104 :: t105 :: t106 :: t107 :: t108 :: []), defers := [] } wx) :
    c.wpIn (Fence.wide.inRound r9) m9 Tryd.prog QX { tmps := List.toArray (t0 :: t1 :: t2 :: (ptr gh) :: t4 :: (ptr gw) :: t6 :: t7 :: t8 :: t9 :: t10 :: t11 :: (.int .i64 (ci : Int)) :: (ptr gp) :: t14 :: t15 :: t16 :: t17 :: t18 :: t19 :: t20 :: t21 :: t22 :: t23 :: t24 :: t25 :: t26 :: t27 :: t28 :: t29 :: t30 :: t31 :: t32 :: t33 :: t34 :: t35 :: t36 :: t37 :: t38 :: t39 :: t40 :: t41 :: t42 :: t43 :: t44 :: t45 :: t46 :: t47 :: t48 :: t49 :: t50 :: t51 :: t52 :: t53 :: t54 :: t55 :: t56 :: t57 :: t58 :: t59 :: t60 :: t61 :: t62 :: t63 :: t64 :: t65 :: t66 :: t67 :: t68 :: t69 :: t70 :: t71 :: t72 :: t73 :: t74 :: t75 :: t76 :: t77 :: t78 :: t79 :: t80 :: t81 :: t82 :: t83 :: t84 :: t85 :: t86 :: t87 :: t88 :: t89 :: t90 :: t91 :: t92 :: t93 :: t94 :: t95 :: t96 :: t97 :: t98 :: t99 :: t100 :: t101 :: t102 :: t103 :: t104 :: t105 :: t106 :: t107 :: t108 :: []), defers := [] } wr := by
  change some _ = some c at hc
  cases hc
  have HQF := Lib.hid hQ
  clear hQ
  have HcS : Hid (∀ y : World, Ext wr y → (fun y : World => y.cell? ⟨gh, 0, none⟩ = some (.int .u64 h.k0) ∧ y.cell? ⟨gh, 1, none⟩ = some (.int .u64 h.k1) ∧ y.cell? ⟨gh, 2, none⟩ = some (.int .u64 h.mask) ∧ y.cell? ⟨gp, 0, none⟩ = some (str key) ∧ y.cell? ⟨gw, 0, none⟩ = some (.slice A n n)) y) := Lib.hid (fun y hy => ⟨(HH.ext hy).cells.1, (HH.ext hy).cells.2.1, (HH.ext hy).cells.2.2, ext_cellS hy Hp, ext_cellS hy Hw⟩)
  have HS := Lib.hid (And.intro hS hn)
  clear HH Hw hS hn Hp
  refine wpIn_region_N (k := 10) (S := (fun y : World => y.cell? ⟨gh, 0, none⟩ = some (.int .u64 h.k0) ∧ y.cell? ⟨gh, 1, none⟩ = some (.int .u64 h.k1) ∧ y.cell? ⟨gh, 2, none⟩ = some (.int .u64 h.mask) ∧ y.cell? ⟨gp, 0, none⟩ = some (str key) ∧ y.cell? ⟨gw, 0, none⟩ = some (.slice A n n))) (by kernel_rfl) (by kernel_rfl) ?_
  change wpAnyT _ _ _ _ _ _ 10 _ _ wr.drew
  obtain ⟨x0, hx0⟩ : ∃ y, y = wr.drew := ⟨_, rfl⟩
  have E0 : Hid (Ext wr x0) := Lib.hid (by rw [hx0]; exact (Ext.refl wr).drew)
  rw [← hx0]
  clear hx0
  have hH : (fun y : World => y.cell? ⟨gh, 0, none⟩ = some (.int .u64 h.k0) ∧ y.cell? ⟨gh, 1, none⟩ = some (.int .u64 h.k1) ∧ y.cell? ⟨gh, 2, none⟩ = some (.int .u64 h.mask) ∧ y.cell? ⟨gp, 0, none⟩ = some (str key) ∧ y.cell? ⟨gw, 0, none⟩ = some (.slice A n n)) x0 := HcS.out _ E0.out
  refine wpAnyT_take (i := 0) (v := ?_) rfl (by kernel_rfl) (by kernel_rfl) (by kernel_rfl) (by kernel_rfl) (fun _ _ _ h => h) (Or.inl ⟨by rfl, ?_⟩) hH ?_
  rotate_left
  · (intro w hSw; (try dsimp only at hSw); go_simp; try with_reducible rfl)
  try simp only [Act.put, List.setIfInBounds_toArray, List.set_cons_zero, List.set_cons_succ]
  refine wpAnyT_take (i := 1) (v := ?_) rfl (by kernel_rfl) (by kernel_rfl) (by kernel_rfl) (by kernel_rfl) (fun _ _ _ h => h) (Or.inl ⟨by rfl, ?_⟩) hH ?_
  rotate_left
  · (intro w hSw; (try dsimp only at hSw); go_simp; try with_reducible rfl)
  try simp only [Act.put, List.setIfInBounds_toArray, List.set_cons_zero, List.set_cons_succ]
  refine wpAnyT_take (i := 2) (v := ?_) rfl (by kernel_rfl) (by kernel_rfl) (by kernel_rfl) (by kernel_rfl) (fun _ _ _ h => h) (Or.inl ⟨by rfl, ?_⟩) hH ?_
  rotate_left
  · (intro w hSw; (try dsimp only at hSw); go_simp; try with_reducible rfl)
  try simp only [Act.put, List.setIfInBounds_toArray, List.set_cons_zero, List.set_cons_succ]
  refine wpAnyT_take (i := 4) (v := ?_) rfl (by kernel_rfl) (by kernel_rfl) (by kernel_rfl) (by kernel_rfl) (fun _ _ _ h => h) (Or.inl ⟨by rfl, ?_⟩) hH ?_
  rotate_left
  · (intro w hSw; (try dsimp only at hSw); go_simp; try with_reducible rfl)
  try simp only [Act.put, List.setIfInBounds_toArray, List.set_cons_zero, List.set_cons_succ]
  refine wpAnyT_take (i := 5) (v := ?_) rfl (by kernel_rfl) (by kernel_rfl) (by kernel_rfl) (by kernel_rfl) (fun _ _ _ h => h) (Or.inl ⟨by rfl, ?_⟩) hH ?_
  rotate_left
  · (intro w hSw; (try dsimp only at hSw); go_simp; try with_reducible rfl)
  try simp only [Act.put, List.setIfInBounds_toArray, List.set_cons_zero, List.set_cons_succ]
  clear hH
  refine wpAnyT_all (rs := [3, 6]) (by kernel_rfl) (by simp) ?_
  intro i9 hi9
  have hi9' : i9 = 3 ∨ i9 = 6 := by simpa using hi9
  clear hi9
  rcases hi9' with rfl | rfl
  · refine wpOp_goK rfl rfl (fun K9 hK9 => ?_)
    go_simp
    refine (hash_c x0 h key hk (by omega)).mono ?_
    rintro e x1 ⟨rfl, f⟩
    have E1 : Hid (Ext wr x1) := Lib.hid (Ext.trans E0.out f)
    clear f
    go_simp
    refine hK9.out _ _ ⟨.inr (HcS.out _ E1.out), ?_⟩
    clear hK9 K9
    try simp only [Act.put, List.setIfInBounds_toArray, List.set_cons_zero, List.set_cons_succ]
    refine wpAnyT_all (rs := [6]) (by kernel_rfl) (by simp) ?_
    intro i9 hi9
    obtain rfl := List.mem_singleton.1 hi9
    refine wpOp_goK rfl rfl (fun K9 hK9 => ?_)
    go_simp
    obtain ⟨x2, hx⟩ : ∃ y, y = x1.alloc (.cells #[.int .i64 (ci : Int)] 3) := ⟨_, rfl⟩
    have fA : Ext x1 x2 := by rw [hx]; exact (Ext.refl _).alloc (Nat.le_refl _) _
    obtain ⟨gA, hgA⟩ : ∃ g, g = x1.heap.size := ⟨_, rfl⟩
    have oA : Hid (Seg x2 (some ⟨gA, 0, none⟩) [.int .i64 (ci : Int)]) := Lib.hid (by rw [hx, hgA]; exact Seg.new _ [_] _ rfl)
    rw [← hx, ← hgA]
    have E2 : Hid (Ext wr x2) := Lib.hid (Ext.trans E1.out fA)
    clear fA hx hgA
    refine hK9.out _ _ ⟨.inr (HcS.out _ E2.out), ?_⟩
    clear hK9 K9
    try simp only [Act.put, List.setIfInBounds_toArray, List.set_cons_zero, List.set_cons_succ]
    refine wpAnyT_all (rs := [7]) (by kernel_rfl) (by simp) ?_
    intro i9 hi9
    obtain rfl := List.mem_singleton.1 hi9
    refine wpOp_goK rfl rfl (fun K9 hK9 => ?_)
    refine oper_appF (.tmp 73) (.tmp 75) _ rfl Tryd.underlying124 A n (wayV way) rfl (by rw [wayV_length]; exact HS.out.2.symm) (HS.out.1.below E2.out) _ _ (.int .i64 (ci : Int)) rfl (by exact oA.out) rfl (by omega) ?_
    intro vA x3 rA fA
    have E3 : Hid (Ext wr x3) := Lib.hid (Ext.trans E2.out fA)
    obtain ⟨A5, C5, rfl⟩ := own_slice rA
    have HA : Hid (Sl x3 1 (.slice A5 (n + 1) C5) (n + 1) (wayV (way ++ [ci]))) := Lib.hid (by rw [wayV_snoc]; exact Sl.of_own rA)
    clear fA rA oA
    refine hK9.out _ _ ⟨.inr (HcS.out _ E3.out), ?_⟩
    clear hK9 K9
    try simp only [Act.put, List.setIfInBounds_toArray, List.set_cons_zero, List.set_cons_succ]
    refine wpAnyT_all (rs := [8]) (by kernel_rfl) (by simp) ?_
    intro i9 hi9
    obtain rfl := List.mem_singleton.1 hi9
    refine wpOp_goK rfl rfl (fun K9 hK9 => ?_)
    go_simp
    refine (leads_c x3 (h.hash key) (Hs.hash_lt hk key) (.slice A5 (n + 1) C5) (way ++ [ci]) (by rw [List.length_append, List.length_singleton, ← HS.out.2]; exact HA.out) (by rw [List.length_append, List.length_singleton, ← HS.out.2]; omega)).mono ?_
    rintro e x4 ⟨hLL, rfl⟩
    rcases hLL with ⟨hL, rfl⟩ | ⟨hL, rfl⟩
    · have HL := Lib.hid hL
      clear hL
      go_simp
      refine hK9.out _ _ ⟨.inr (HcS.out _ E3.out), ?_⟩
      clear hK9 K9
      try simp only [Act.put, List.setIfInBounds_toArray, List.set_cons_zero, List.set_cons_succ]
      have hH : (fun y : World => y.cell? ⟨gh, 0, none⟩ = some (.int .u64 h.k0) ∧ y.cell? ⟨gh, 1, none⟩ = some (.int .u64 h.k1) ∧ y.cell? ⟨gh, 2, none⟩ = some (.int .u64 h.mask) ∧ y.cell? ⟨gp, 0, none⟩ = some (str key) ∧ y.cell? ⟨gw, 0, none⟩ = some (.slice A n n)) x4 := HcS.out _ E3.out
      refine wpAnyT_take (i := 9) (v := ?_) rfl (by kernel_rfl) (by kernel_rfl) (by kernel_rfl) (by kernel_rfl) (fun _ _ _ h => h) (Or.inl ⟨by rfl, ?_⟩) hH ?_
      rotate_left
      · (intro w hSw; (try dsimp only at hSw); go_simp; try with_reducible rfl)
      try simp only [Act.put, List.setIfInBounds_toArray, List.set_cons_zero, List.set_cons_succ]
      clear hH
      refine ⟨by kernel_rfl, OnlyN.normal (HQF.out _ _ _ _ _ _ _ _ _ _ _ ⟨.inl ⟨HL.out, rfl⟩, E3.out⟩)⟩
    · have HL := Lib.hid hL
      clear hL
      go_simp
      refine hK9.out _ _ ⟨.inr (HcS.out _ E3.out), ?_⟩
      clear hK9 K9
      try simp only [Act.put, List.setIfInBounds_toArray, List.set_cons_zero, List.set_cons_succ]
      have hH : (fun y : World => y.cell? ⟨gh, 0, none⟩ = some (.int .u64 h.k0) ∧ y.cell? ⟨gh, 1, none⟩ = some (.int .u64 h.k1) ∧ y.cell? ⟨gh, 2, none⟩ = some (.int .u64 h.mask) ∧ y.cell? ⟨gp, 0, none⟩ = some (str key) ∧ y.cell? ⟨gw, 0, none⟩ = some (.slice A n n)) x4 := HcS.out _ E3.out
      refine wpAnyT_take (i := 9) (v := ?_) rfl (by kernel_rfl) (by kernel_rfl) (by kernel_rfl) (by kernel_rfl) (fun _ _ _ h => h) (Or.inl ⟨by rfl, ?_⟩) hH ?_
      rotate_left
      · (intro w hSw; (try dsimp only at hSw); go_simp; try with_reducible rfl)
      try simp only [Act.put, List.setIfInBounds_toArray, List.set_cons_zero, List.set_cons_succ]
      clear hH
      refine ⟨by kernel_rfl, OnlyN.normal (HQF.out _ _ _ _ _ _ _ _ _ _ _ ⟨.inr ⟨HL.out, rfl⟩, E3.out⟩)⟩
  · refine wpOp_goK rfl rfl (fun K9 hK9 => ?_)
    go_simp
    obtain ⟨x1, hx⟩ : ∃ y, y = x0.alloc (.cells #[.int .i64 (ci : Int)] 3) := ⟨_, rfl⟩
    have fA : Ext x0 x1 := by rw [hx]; exact (Ext.refl _).alloc (Nat.le_refl _) _
    obtain ⟨gA, hgA⟩ : ∃ g, g = x0.heap.size := ⟨_, rfl⟩
    have oA : Hid (Seg x1 (some ⟨gA, 0, none⟩) [.int .i64 (ci : Int)]) := Lib.hid (by rw [hx, hgA]; exact Seg.new _ [_] _ rfl)
    rw [← hx, ← hgA]
    have E1 : Hid (Ext wr x1) := Lib.hid (Ext.trans E0.out fA)
    clear fA hx hgA
    refine hK9.out _ _ ⟨.inr (HcS.out _ E1.out), ?_⟩
    clear hK9 K9
    try simp only [Act.put, List.setIfInBounds_toArray, List.set_cons_zero, List.set_cons_succ]
    refine wpAnyT_all (rs := [3]) (by kernel_rfl) (by simp) ?_
    intro i9 hi9
    obtain rfl := List.mem_singleton.1 hi9
    refine wpOp_goK rfl rfl (fun K9 hK9 => ?_)
    go_simp
    refine (hash_c x1 h key hk (by omega)).mono ?_
    rintro e x2 ⟨rfl, f⟩
    have E2 : Hid (Ext wr x2) := Lib.hid (Ext.trans E1.out f)
    have f_1_2 : Hid (Ext x1 x2) := Lib.hid f
    clear f
    go_simp
    refine hK9.out _ _ ⟨.inr (HcS.out _ E2.out), ?_⟩
    clear hK9 K9
    try simp only [Act.put, List.setIfInBounds_toArray, List.set_cons_zero, List.set_cons_succ]
    refine wpAnyT_all (rs := [7]) (by kernel_rfl) (by simp) ?_
    intro i9 hi9
    obtain rfl := List.mem_singleton.1 hi9
    refine wpOp_goK rfl rfl (fun K9 hK9 => ?_)
    refine oper_appF (.tmp 73) (.tmp 75) _ rfl Tryd.underlying124 A n (wayV way) rfl (by rw [wayV_length]; exact HS.out.2.symm) (HS.out.1.below E2.out) _ _ (.int .i64 (ci : Int)) rfl (by exact oA.out.below (f_1_2.out)) rfl (by omega) ?_
    intro vA x3 rA fA
    have E3 : Hid (Ext wr x3) := Lib.hid (Ext.trans E2.out fA)
    obtain ⟨A5, C5, rfl⟩ := own_slice rA
    have HA : Hid (Sl x3 1 (.slice A5 (n + 1) C5) (n + 1) (wayV (way ++ [ci]))) := Lib.hid (by rw [wayV_snoc]; exact Sl.of_own rA)
    clear fA rA oA
    refine hK9.out _ _ ⟨.inr (HcS.out _ E3.out), ?_⟩
    clear hK9 K9
    try simp only [Act.put, List.setIfInBounds_toArray, List.set_cons_zero, List.set_cons_succ]
    refine wpAnyT_all (rs := [8]) (by kernel_rfl) (by simp) ?_
    intro i9 hi9
    obtain rfl := List.mem_singleton.1 hi9
    refine wpOp_goK rfl rfl (fun K9 hK9 => ?_)
    go_simp
    refine (leads_c x3 (h.hash key) (Hs.hash_lt hk key) (.slice A5 (n + 1) C5) (way ++ [ci]) (by rw [List.length_append, List.length_singleton, ← HS.out.2]; exact HA.out) (by rw [List.length_append, List.length_singleton, ← HS.out.2]; omega)).mono ?_
    rintro e x4 ⟨hLL, rfl⟩
    rcases hLL with ⟨hL, rfl⟩ | ⟨hL, rfl⟩
    · have HL := Lib.hid hL
      clear hL
      go_simp
      refine hK9.out _ _ ⟨.inr (HcS.out _ E3.out), ?_⟩
      clear hK9 K9
      try simp only [Act.put, List.setIfInBounds_toArray, List.set_cons_zero, List.set_cons_succ]
      have hH : (fun y : World => y.cell? ⟨gh, 0, none⟩ = some (.int .u64 h.k0) ∧ y.cell? ⟨gh, 1, none⟩ = some (.int .u64 h.k1) ∧ y.cell? ⟨gh, 2, none⟩ = some (.int .u64 h.mask) ∧ y.cell? ⟨gp, 0, none⟩ = some (str key) ∧ y.cell? ⟨gw, 0, none⟩ = some (.slice A n n)) x4 := HcS.out _ E3.out
      refine wpAnyT_take (i := 9) (v := ?_) rfl (by kernel_rfl) (by kernel_rfl) (by kernel_rfl) (by kernel_rfl) (fun _ _ _ h => h) (Or.inl ⟨by rfl, ?_⟩) hH ?_
      rotate_left
      · (intro w hSw; (try dsimp only at hSw); go_simp; try with_reducible rfl)
      try simp only [Act.put, List.setIfInBounds_toArray, List.set_cons_zero, List.set_cons_succ]
      clear hH
      refine ⟨by kernel_rfl, OnlyN.normal (HQF.out _ _ _ _ _ _ _ _ _ _ _ ⟨.inl ⟨HL.out, rfl⟩, E3.out⟩)⟩
    · have HL := Lib.hid hL
      clear hL
      go_simp
      refine hK9.out _ _ ⟨.inr (HcS.out _ E3.out), ?_⟩
      clear hK9 K9
      try simp only [Act.put, List.setIfInBounds_toArray, List.set_cons_zero, List.set_cons_succ]
      have hH : (fun y : World => y.cell? ⟨gh, 0, none⟩ = some (.int .u64 h.k0) ∧ y.cell? ⟨gh, 1, none⟩ = some (.int .u64 h.k1) ∧ y.cell? ⟨gh, 2, none⟩ = some (.int .u64 h.mask) ∧ y.cell? ⟨gp, 0, none⟩ = some (str key) ∧ y.cell? ⟨gw, 0, none⟩ = some (.slice A n n)) x4 := HcS.out _ E3.out
      refine wpAnyT_take (i := 9) (v := ?_) rfl (by kernel_rfl) (by kernel_rfl) (by kernel_rfl) (by kernel_rfl) (fun _ _ _ h => h) (Or.inl ⟨by rfl, ?_⟩) hH ?_
      rotate_left
      · (intro w hSw; (try dsimp only at hSw); go_simp; try with_reducible rfl)
      try simp only [Act.put, List.setIfInBounds_toArray, List.set_cons_zero, List.set_cons_succ]
      clear hH
      refine ⟨by kernel_rfl, OnlyN.normal (HQF.out _ _ _ _ _ _ _ _ _ _ _ ⟨.inr ⟨HL.out, rfl⟩, E3.out⟩)⟩

set_option maxRecDepth 100000 in
set_option maxHeartbeats 2000000 in
theorem canon_24 (r9 m9 : Nat) (wr : World) (h : Hs) (hk : h.Ok) (gh gw ci q : Nat) (A : Option Addr) (n : Nat) (way : List Nat) (ok : Prop) (cnt : Nat) (hn : n = way.length) (hn13 : n < 13) (HH : HsAt wr gh h) (Hw : wr.cell? ⟨gw, 0, none⟩ = some (.slice A n n)) (hS : Seg wr A (wayV way))
    (hC : ∀ W v', Ext wr W → Sl W 1 v' (n + 1) (wayV (way ++ [ci])) → Calls Tryd.prog 34 #[hsV h, ptr q, v'] W (CanR W ok cnt)) (c : Code) (QX : Exit → Act → World → Prop) (t0 t1 t2 t4 t6 t7 t8 t9 t10 t11 t12 t13 t14 t17 t18 t19 t20 t21 t22 t23 t24 t25 t26 t27 t28 t29 t30 t31 t32 t33 t34 t35 t36 t37 t38 t39 t40 t41 t42 t43 t44 t45 t46 t47 t48 t49 t50 t51 t52 t53 t54 t55 t56 t57 t58 t59 t60 t61 t62 t63 t64 t65 t66 t67 t68 t69 t70 t71 t72 t73 t74 t75 t76 t77 t78 t79 t80 t81 t82 t83 t84 t85 t86 t87 t88 t89 t90 t91 t92 t93 t94 t95 t96 t97 t98 t99 t100 t101 t102 t103 t104 t105 t106 t107 t108 : Value)
    (hc : (Tryd.f34.body.bind (findQ 24)) = some c)
    (hQ : ∀ (u18 u19 u89 u90 u91 u92 u93 u94 u95 u96 u97 u98 : Value) (wx : World), ((ok ∧ u18 = .int .i64 (cnt : Int) ∧ u19 = .bool true) ∨ (¬ ok ∧ u18 = .int .i64 0 ∧ u19 = .bool false)) ∧ Ext wr wx → QX .normal { tmps := List.toArray (t0 :: t1 :: t2 :: (ptr gh) :: t4 :: (ptr gw) :: t6 :: t7 :: t8 :: t9 :: t10 :: t11 :: t12 :: t13 :: t14 :: (.int .i64 (ci : Int)) :: (ptr q) :: t17 :: u18 :: u19 :: t20 :: t21 :: t22 :: t23 :: t24 :: t25 :: t26 :: t27 :: t28 :: t29 :: t30 :: t31 :: t32 :: t33 :: t34 :: t35 :: t36 :: t37 :: t38 :: t39 :: t40 :: t41 :: t42 :: t43 :: t44 :: t45 :: t46 :: t47 :: t48 :: t49 :: t50 :: t51 :: t52 :: t53 :: t54 :: t55 :: t56 :: t57 :: t58 :: t59 :: t60 :: t61 :: t62 :: t63 :: t64 :: t65 :: t66 :: t67 :: t68 :: t69 :: t70 :: t71 :: t72 :: t73 :: t74 :: t75 :: t76 :: t77 :: t78 :: t79 :: t80 :: t81 :: t82 :: t83 :: t84 :: t85 :: t86 :: t87 :: t88 :: u89 :: u90 :: u91 :: u92 :: u93 :: u94 :: u95 :: u96 :: u97 :: u98 :: t99 :: t100 :: t101 :: t102 :: t103 :: t104 :: t105 :: t106 :: t107 :: t108 :: []), defers := [] } wx) :
    c.wpIn (Fence.wide.inRound r9) m9 Tryd.prog QX { tmps := List.toArray (t0 :: t1 :: t2 :: (ptr gh) :: t4 :: (ptr gw) :: t6 :: t7 :: t8 :: t9 :: t10 :: t11 :: t12 :: t13 :: t14 :: (.int .i64 (ci : Int)) :: (ptr q) :: t17 :: t18 :: t19 :: t20 :: t21 :: t22 :: t23 :: t24 :: t25 :: t26 :: t27 :: t28 :: t29 :: t30 :: t31 :: t32 :: t33 :: t34 :: t35 :: t36 :: t37 :: t38 :: t39 :: t40 :: t41 :: t42 :: t43 :: t44 :: t45 :: t46 :: t47 :: t48 :: t49 :: t50 :: t51 :: t52 :: t53 :: t54 :: t55 :: t56 :: t57 :: t58 :: t59 :: t60 :: t61 :: t62 :: t63 :: t64 :: t65 :: t66 :: t67 :: t68 :: t69 :: t70 :: t71 :: t72 :: t73 :: t74 :: t75 :: t76 :: t77 :: t78 :: t79 :: t80 :: t81 :: t82 :: t83 :: t84 :: t85 :: t86 :: t87 :: t88 :: t89 :: t90 :: t91 :: t92 :: t93 :: t94 :: t95 :: t96 :: t97 :: t98 :: t99 :: t100 :: t101 :: t102 :: t103 :: t104 :: t105 :: t106 :: t107 :: t108 :: []), defers := [] } wr := by
  change some _ = some c at hc
  cases hc
  have HQF := Lib.hid hQ
  clear hQ
  have HcS : Hid (∀ y : World, Ext wr y → (fun y : World => y.cell? ⟨gh, 0, none⟩ = some (.int .u64 h.k0) ∧ y.cell? ⟨gh, 1, none⟩ = some (.int .u64 h.k1) ∧ y.cell? ⟨gh, 2, none⟩ = some (.int .u64 h.mask) ∧ y.cell? ⟨gw, 0, none⟩ = some (.slice A n n)) y) := Lib.hid (fun y hy => ⟨(HH.ext hy).cells.1, (HH.ext hy).cells.2.1, (HH.ext hy).cells.2.2, ext_cellS hy Hw⟩)
  have HS := Lib.hid (And.intro hS hn)
  clear HH Hw hS hn 
  have HCC := Lib.hid hC
  clear hC
  refine wpIn_region_N (k := 12) (S := (fun y : World => y.cell? ⟨gh, 0, none⟩ = some (.int .u64 h.k0) ∧ y.cell? ⟨gh, 1, none⟩ = some (.int .u64 h.k1) ∧ y.cell? ⟨gh, 2, none⟩ = some (.int .u64 h.mask) ∧ y.cell? ⟨gw, 0, none⟩ = some (.slice A n n))) (by kernel_rfl) (by kernel_rfl) ?_
  change wpAnyT _ _ _ _ _ _ 12 _ _ wr.drew
  obtain ⟨x0, hx0⟩ : ∃ y, y = wr.drew := ⟨_, rfl⟩
  have E0 : Hid (Ext wr x0) := Lib.hid (by rw [hx0]; exact (Ext.refl wr).drew)
  rw [← hx0]
  clear hx0
  have hH : (fun y : World => y.cell? ⟨gh, 0, none⟩ = some (.int .u64 h.k0) ∧ y.cell? ⟨gh, 1, none⟩ = some (.int .u64 h.k1) ∧ y.cell? ⟨gh, 2, none⟩ = some (.int .u64 h.mask) ∧ y.cell? ⟨gw, 0, none⟩ = some (.slice A n n)) x0 := HcS.out _ E0.out
  refine wpAnyT_take (i := 0) (v := ?_) rfl (by kernel_rfl) (by kernel_rfl) (by kernel_rfl) (by kernel_rfl) (fun _ _ _ h => h) (Or.inl ⟨by rfl, ?_⟩) hH ?_
  rotate_left
  · (intro w hSw; (try dsimp only at hSw); go_simp; try with_reducible rfl)
  try simp only [Act.put, List.setIfInBounds_toArray, List.set_cons_zero, List.set_cons_succ]
  refine wpAnyT_take (i := 1) (v := ?_) rfl (by kernel_rfl) (by kernel_rfl) (by kernel_rfl) (by kernel_rfl) (fun _ _ _ h => h) (Or.inl ⟨by rfl, ?_⟩) hH ?_
  rotate_left
  · (intro w hSw; (try dsimp only at hSw); go_simp; try with_reducible rfl)
  try simp only [Act.put, List.setIfInBounds_toArray, List.set_cons_zero, List.set_cons_succ]
  refine wpAnyT_take (i := 2) (v := ?_) rfl (by kernel_rfl) (by kernel_rfl) (by kernel_rfl) (by kernel_rfl) (fun _ _ _ h => h) (Or.inl ⟨by rfl, ?_⟩) hH ?_
  rotate_left
  · (intro w hSw; (try dsimp only at hSw); go_simp; try with_reducible rfl)
  try simp only [Act.put, List.setIfInBounds_toArray, List.set_cons_zero, List.set_cons_succ]
  refine wpAnyT_take (i := 3) (v := ?_) rfl (by kernel_rfl) (by kernel_rfl) (by kernel_rfl) (by kernel_rfl) (fun _ _ _ h => h) (Or.inl ⟨by rfl, ?_⟩) hH ?_
  rotate_left
  · (intro w hSw; (try dsimp only at hSw); go_simp; try with_reducible rfl)
  try simp only [Act.put, List.setIfInBounds_toArray, List.set_cons_zero, List.set_cons_succ]
  clear hH
  refine wpAnyT_all (rs := [4]) (by kernel_rfl) (by simp) ?_
  intro i9 hi9
  obtain rfl := List.mem_singleton.1 hi9
  refine wpOp_goK rfl rfl (fun K9 hK9 => ?_)
  go_simp
  obtain ⟨x1, hx⟩ : ∃ y, y = x0.alloc (.cells #[.int .i64 (ci : Int)] 3) := ⟨_, rfl⟩
  have fA : Ext x0 x1 := by rw [hx]; exact (Ext.refl _).alloc (Nat.le_refl _) _
  obtain ⟨gA, hgA⟩ : ∃ g, g = x0.heap.size := ⟨_, rfl⟩
  have oA : Hid (Seg x1 (some ⟨gA, 0, none⟩) [.int .i64 (ci : Int)]) := Lib.hid (by rw [hx, hgA]; exact Seg.new _ [_] _ rfl)
  rw [← hx, ← hgA]
  have E1 : Hid (Ext wr x1) := Lib.hid (Ext.trans E0.out fA)
  clear fA hx hgA
  refine hK9.out _ _ ⟨.inr (HcS.out _ E1.out), ?_⟩
  clear hK9 K9
  try simp only [Act.put, List.setIfInBounds_toArray, List.set_cons_zero, List.set_cons_succ]
  refine wpAnyT_all (rs := [5]) (by kernel_rfl) (by simp) ?_
  intro i9 hi9
  obtain rfl := List.mem_singleton.1 hi9
  refine wpOp_goK rfl rfl (fun K9 hK9 => ?_)
  refine oper_appF (.tmp 92) (.tmp 94) _ rfl Tryd.underlying124 A n (wayV way) rfl (by rw [wayV_length]; exact HS.out.2.symm) (HS.out.1.below E1.out) _ _ (.int .i64 (ci : Int)) rfl (by exact oA.out) rfl (by omega) ?_
  intro vA x2 rA fA
  have E2 : Hid (Ext wr x2) := Lib.hid (Ext.trans E1.out fA)
  obtain ⟨A5, C5, rfl⟩ := own_slice rA
  have HA : Hid (Sl x2 1 (.slice A5 (n + 1) C5) (n + 1) (wayV (way ++ [ci]))) := Lib.hid (by rw [wayV_snoc]; exact Sl.of_own rA)
  clear fA rA oA
  refine hK9.out _ _ ⟨.inr (HcS.out _ E2.out), ?_⟩
  clear hK9 K9
  try simp only [Act.put, List.setIfInBounds_toArray, List.set_cons_zero, List.set_cons_succ]
  refine wpAnyT_all (rs := [6]) (by kernel_rfl) (by simp) ?_
  intro i9 hi9
  obtain rfl := List.mem_singleton.1 hi9
  refine wpOp_goK rfl rfl (fun K9 hK9 => ?_)
  go_simp
  refine (HCC.out x2 _ E2.out HA.out).mono ?_
  rintro e x3 ⟨hLL, f3⟩
  have E3 : Hid (Ext wr x3) := Lib.hid (Ext.trans E2.out f3)
  clear f3
  rcases hLL with ⟨hL, rfl⟩ | ⟨hL, rfl⟩
  · have HL := Lib.hid hL
    clear hL
    go_simp
    refine hK9.out _ _ ⟨.inr (HcS.out _ E3.out), ?_⟩
    clear hK9 K9
    try simp only [Act.put, List.setIfInBounds_toArray, List.set_cons_zero, List.set_cons_succ]
    have hH : (fun y : World => y.cell? ⟨gh, 0, none⟩ = some (.int .u64 h.k0) ∧ y.cell? ⟨gh, 1, none⟩ = some (.int .u64 h.k1) ∧ y.cell? ⟨gh, 2, none⟩ = some (.int .u64 h.mask) ∧ y.cell? ⟨gw, 0, none⟩ = some (.slice A n n)) x3 := HcS.out _ E3.out
    refine wpAnyT_take (i := 7) (v := ?_) rfl (by kernel_rfl) (by kernel_rfl) (by kernel_rfl) (by kernel_rfl) (fun _ _ _ h => h) (Or.inl ⟨by rfl, ?_⟩) hH ?_
    rotate_left
    · (intro w hSw; (try dsimp only at hSw); go_simp; try with_reducible rfl)
    try simp only [Act.put, List.setIfInBounds_toArray, List.set_cons_zero, List.set_cons_succ]
    refine wpAnyT_take (i := 8) (v := ?_) rfl (by kernel_rfl) (by kernel_rfl) (by kernel_rfl) (by kernel_rfl) (fun _ _ _ h => h) (Or.inl ⟨by rfl, ?_⟩) hH ?_
    rotate_left
    · (intro w hSw; (try dsimp only at hSw); go_simp; try with_reducible rfl)
    try simp only [Act.put, List.setIfInBounds_toArray, List.set_cons_zero, List.set_cons_succ]
    refine wpAnyT_take (i := 9) (v := ?_) rfl (by kernel_rfl) (by kernel_rfl) (by kernel_rfl) (by kernel_rfl) (fun _ _ _ h => h) (Or.inl ⟨by rfl, ?_⟩) hH ?_
    rotate_left
    · (intro w hSw; (try dsimp only at hSw); go_simp; try with_reducible rfl)
    try simp only [Act.put, List.setIfInBounds_toArray, List.set_cons_zero, List.set_cons_succ]
    refine wpAnyT_take (i := 10) (v := ?_) rfl (by kernel_rfl) (by kernel_rfl) (by kernel_rfl) (by kernel_rfl) (fun _ _ _ h => h) (Or.inl ⟨by rfl, ?_⟩) hH ?_
    rotate_left
    · (intro w hSw; (try dsimp only at hSw); go_simp; try with_reducible rfl)
    try simp only [Act.put, List.setIfInBounds_toArray, List.set_cons_zero, List.set_cons_succ]
    refine wpAnyT_take (i := 11) (v := ?_) rfl (by kernel_rfl) (by kernel_rfl) (by kernel_rfl) (by kernel_rfl) (fun _ _ _ h => h) (Or.inl ⟨by rfl, ?_⟩) hH ?_
    rotate_left
    · (intro w hSw; (try dsimp only at hSw); go_simp; try with_reducible rfl)
    try simp only [Act.put, List.setIfInBounds_toArray, List.set_cons_zero, List.set_cons_succ]
    clear hH
    refine ⟨by kernel_rfl, OnlyN.normal (HQF.out _ _ _ _ _ _ _ _ _ _ _ _ _ ⟨.inl ⟨HL.out, rfl, rfl⟩, E3.out⟩)⟩
  · have HL := Lib.hid hL
    clear hL
    go_simp
    refine hK9.out _ _ ⟨.inr (HcS.out _ E3.out), ?_⟩
    clear hK9 K9
    try simp only [Act.put, List.setIfInBounds_toArray, List.set_cons_zero, List.set_cons_succ]
    have hH : (fun y : World => y.cell? ⟨gh, 0, none⟩ = some (.int .u64 h.k0) ∧ y.cell? ⟨gh, 1, none⟩ = some (.int .u64 h.k1) ∧ y.cell? ⟨gh, 2, none⟩ = some (.int .u64 h.mask) ∧ y.cell? ⟨gw, 0, none⟩ = some (.slice A n n)) x3 := HcS.out _ E3.out
    refine wpAnyT_take (i := 7) (v := ?_) rfl (by kernel_rfl) (by kernel_rfl) (by kernel_rfl) (by kernel_rfl) (fun _ _ _ h => h) (Or.inl ⟨by rfl, ?_⟩) hH ?_
    rotate_left
    · (intro w hSw; (try dsimp only at hSw); go_simp; try with_reducible rfl)
    try simp only [Act.put, List.setIfInBounds_toArray, List.set_cons_zero, List.set_cons_succ]
    refine wpAnyT_take (i := 8) (v := ?_) rfl (by kernel_rfl) (by kernel_rfl) (by kernel_rfl) (by kernel_rfl) (fun _ _ _ h => h) (Or.inl ⟨by rfl, ?_⟩) hH ?_
    rotate_left
    · (intro w hSw; (try dsimp only at hSw); go_simp; try with_reducible rfl)
    try simp only [Act.put, List.setIfInBounds_toArray, List.set_cons_zero, List.set_cons_succ]
    refine wpAnyT_take (i := 9) (v := ?_) rfl (by kernel_rfl) (by kernel_rfl) (by kernel_rfl) (by kernel_rfl) (fun _ _ _ h => h) (Or.inl ⟨by rfl, ?_⟩) hH ?_
    rotate_left
    · (intro w hSw; (try dsimp only at hSw); go_simp; try with_reducible rfl)
    try simp only [Act.put, List.setIfInBounds_toArray, List.set_cons_zero, List.set_cons_succ]
    refine wpAnyT_take (i := 10) (v := ?_) rfl (by kernel_rfl) (by kernel_rfl) (by kernel_rfl) (by kernel_rfl) (fun _ _ _ h => h) (Or.inl ⟨by rfl, ?_⟩) hH ?_
    rotate_left
    · (intro w hSw; (try dsimp only at hSw); go_simp; try with_reducible rfl)
    try simp only [Act.put, List.setIfInBounds_toArray, List.set_cons_zero, List.set_cons_succ]
    refine wpAnyT_take (i := 11) (v := ?_) rfl (by kernel_rfl) (by kernel_rfl) (by kernel_rfl) (by kernel_rfl) (fun _ _ _ h => h) (Or.inl ⟨by rfl, ?_⟩) hH ?_
    rotate_left
    · (intro w hSw; (try dsimp only at hSw); go_simp; try with_reducible rfl)
    try simp only [Act.put, List.setIfInBounds_toArray, List.set_cons_zero, List.set_cons_succ]
    clear hH
    refine ⟨by kernel_rfl, OnlyN.normal (HQF.out _ _ _ _ _ _ _ _ _ _ _ _ _ ⟨.inr ⟨HL.out, rfl, rfl⟩, E3.out⟩)⟩

end Go.Proofs.YtclcgelbcbnekaaDoor
