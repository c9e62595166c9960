/- Texts joined. -/
import Derived.Test.YtclcgelbcbnekaaDoorM09
import Derived.Test.YtclcgelbcbnekaaDoorM29
import Derived.Test.YtclcgelbcbnekaaDoorM13
import Derived.Deep.LoopGhost
import Derived.Test.YtclcgelbcbnekaaDoorM32
import Derived.Test.YtclcgelbcbnekaaDoorM34
import Derived.Deep.RegionHeld3
set_option linter.unusedVariables false
set_option linter.unusedSimpArgs false
/- How long a trie's look is: plain. -/
namespace Go.Proofs.YtclcgelbcbnekaaDoor
open Go.RowKit Go.QS Go.QS.Nk
set_option linter.unusedVariables false
variable [Zero (Nat → Prop)]
set_option linter.unusedSectionVars false

theorem prsB_perm {a b : List Pr} (h : a.Perm b) : (prsB a).length = (prsB b).length := by
  unfold prsB
  exact (List.Perm.flatMap_right prB h).length_eq
theorem kids_len {g : List Pr → List UInt8} {f : Nat} : ∀ {xs : List (List Pr)}, (∀ x ∈ xs, (g x).length ≤ (prsB x).length + 9 * (f * x.length + 1) ∧ 2 ≤ x.length) → ((xs.map g).flatten).length ≤ (prsB xs.flatten).length + 9 * ((f + 1) * xs.flatten.length)
  | [], _ => by simp
  | x :: xs, h => by
    have ih := kids_len (fun y hy => h y (List.mem_cons_of_mem _ hy))
    obtain ⟨h1, h2⟩ := h x (List.mem_cons_self ..)
    rw [List.map_cons, List.flatten_cons, List.flatten_cons, List.length_append, prsB_append, List.length_append, List.length_append]
    have e : (f + 1) * (x.length + xs.flatten.length) = f * x.length + x.length + (f + 1) * xs.flatten.length := by rw [Nat.mul_add, Nat.succ_mul f x.length]
    rw [e]
    omega
theorem shp_len (H : List UInt8 → Nat) : ∀ (f : Nat) (l : List Pr), (shp H f l).length ≤ (prsB l).length + 9 * (f * l.length + 1)
  | 0, l => by
    show (buckB l).length ≤ _
    rw [buckB, List.length_append, List.length_cons, layB_len]; omega
  | f + 1, l => by
    have hk := kids_len (g := shp H f) (f := f) (xs := twos (parts H (12 - f) l)) (fun x hx => ⟨shp_len H f x, (twos_two hx).1⟩)
    have hp := ones_perm (parts H (12 - f) l)
    have h1 := prsB_perm (hp.trans (parts_perm H (12 - f) l))
    have h2 := (hp.trans (parts_perm H (12 - f) l)).length_eq
    rw [prsB_append, List.length_append] at h1
    rw [List.length_append] at h2
    have h3 : (f + 1) * (twos (parts H (12 - f) l)).flatten.length ≤ (f + 1) * l.length := Nat.mul_le_mul_left _ (by omega)
    show (headB _ _ _ ++ _).length ≤ _
    rw [List.length_append, headB, List.length_append, List.length_append, List.length_cons, layB_len, layB_len]
    omega
theorem prsB_few : ∀ {l : List Pr}, (∀ p ∈ l, p.1.length ≤ 40 ∧ p.2.length ≤ 40) → (prsB l).length ≤ 84 * l.length
  | [], _ => by simp [prsB]
  | p :: l, h => by
    have ih := prsB_few (fun q hq => h q (List.mem_cons_of_mem _ hq))
    obtain ⟨h1, h2⟩ := h p (List.mem_cons_self ..)
    have e : prsB (p :: l) = prB p ++ prsB l := by simp [prsB]
    rw [e, List.length_append, prB, List.length_append, textB_len, textB_len, List.length_cons]; omega
theorem shp_few (H : List UInt8 → Nat) {l : List Pr} (h9 : l.length ≤ 40) (h : ∀ p ∈ l, p.1.length ≤ 40 ∧ p.2.length ≤ 40) : (shp H 13 l).length ≤ 9000 := by
  have h1 := shp_len H 13 l
  have h2 := prsB_few h
  omega
theorem shOk_few {l : List Pr} (hr : Rise l) (h9 : l.length ≤ 40) (h : ∀ p ∈ l, p.1.length ≤ 40 ∧ p.2.length ≤ 40) : ShOk l := ⟨hr, fun p hp => by have := h p hp; omega, by omega⟩
end Go.Proofs.YtclcgelbcbnekaaDoor
/- Contract: the document's Of at a bucket. -/
namespace Go.Proofs.YtclcgelbcbnekaaDoor
open Go.RowKit Go.QS Go.QS.Nk
set_option linter.unusedVariables false
variable [Zero (Nat → Prop)]
set_option linter.unusedSectionVars false

theorem prsB_ge : ∀ l : List Pr, l.length ≤ (prsB l).length
  | [] => by simp
  | p :: l => by
    have ih := prsB_ge l
    have e : prsB (p :: l) = prB p ++ prsB l := by simp [prsB]
    have : 4 ≤ (prB p).length := by simp [prB, textB_len]; omega
    rw [e, List.length_append, List.length_cons]; omega
set_option maxRecDepth 100000 in
set_option maxHeartbeats 2000000 in
theorem of7_2 (wr : World) (q : Nat) (A : Array Value) (l : List Pr) (A1 : Option Addr) (n1 C1 : Nat) (hn1 : n1 = l.length) (hq : wr.heap[q]? = some (.cells A TTY (0, 0))) (a1 : A[1]? = some (.slice A1 n1 C1)) (hP : PS wr (.slice A1 n1 C1) l) (h9 : (buckB l).length ≤ 70000000) (c : Code) (QX : Exit → Act → World → Prop) (t1 t2 t3 t4 t5 t6 t7 t8 t9 t10 t11 t12 t13 t14 t15 t16 t17 t18 t19 t20 t21 t22 t23 t24 t25 t26 t27 t28 t29 t30 t31 t32 t33 t34 t35 t36 t37 t38 t39 t40 t41 t42 t43 t44 t45 t46 t47 t48 t49 t50 t51 t52 t53 t54 t55 t56 t57 t58 t59 t60 t61 t62 t63 t64 t65 t66 t67 t68 t69 t70 t71 t72 t73 t74 t75 t76 t77 t78 t79 t80 t81 t82 t83 t84 t85 t86 t87 t88 t89 t90 t91 t92 : Value)
    (hc : (Tryd.f10.body.bind (findR 2)) = some c)
    (hQ : ∀ (u4 u16 u17 u18 u19 u20 u21 u22 u23 u24 u25 u26 u27 u28 u29 : Value) (wx : World), (wx.ownsRow wr.heap.size 5 1 u4 (buckB l).length (encB (buckB l)) ∧ Ext wr wx) → QX .normal { tmps := List.toArray ((ptr q) :: t1 :: t2 :: t3 :: u4 :: t5 :: t6 :: t7 :: t8 :: t9 :: t10 :: t11 :: t12 :: t13 :: t14 :: t15 :: u16 :: u17 :: u18 :: u19 :: u20 :: u21 :: u22 :: u23 :: u24 :: u25 :: u26 :: u27 :: u28 :: u29 :: t30 :: t31 :: t32 :: t33 :: t34 :: t35 :: t36 :: t37 :: t38 :: t39 :: t40 :: t41 :: t42 :: t43 :: t44 :: t45 :: t46 :: t47 :: t48 :: t49 :: t50 :: t51 :: t52 :: t53 :: t54 :: t55 :: t56 :: t57 :: t58 :: t59 :: t60 :: t61 :: t62 :: t63 :: t64 :: t65 :: t66 :: t67 :: t68 :: t69 :: t70 :: t71 :: t72 :: t73 :: t74 :: t75 :: t76 :: t77 :: t78 :: t79 :: t80 :: t81 :: t82 :: t83 :: t84 :: t85 :: t86 :: t87 :: t88 :: t89 :: t90 :: t91 :: t92 :: []), defers := [] } wx) :
    c.wp Tryd.prog QX { tmps := List.toArray ((ptr q) :: t1 :: t2 :: t3 :: t4 :: t5 :: t6 :: t7 :: t8 :: t9 :: t10 :: t11 :: t12 :: t13 :: t14 :: t15 :: t16 :: t17 :: t18 :: t19 :: t20 :: t21 :: t22 :: t23 :: t24 :: t25 :: t26 :: t27 :: t28 :: t29 :: t30 :: t31 :: t32 :: t33 :: t34 :: t35 :: t36 :: t37 :: t38 :: t39 :: t40 :: t41 :: t42 :: t43 :: t44 :: t45 :: t46 :: t47 :: t48 :: t49 :: t50 :: t51 :: t52 :: t53 :: t54 :: t55 :: t56 :: t57 :: t58 :: t59 :: t60 :: t61 :: t62 :: t63 :: t64 :: t65 :: t66 :: t67 :: t68 :: t69 :: t70 :: t71 :: t72 :: t73 :: t74 :: t75 :: t76 :: t77 :: t78 :: t79 :: t80 :: t81 :: t82 :: t83 :: t84 :: t85 :: t86 :: t87 :: t88 :: t89 :: t90 :: t91 :: t92 :: []), defers := [] } wr := by
  change some _ = some c at hc
  cases hc
  have HQF := Lib.hid hQ
  clear hQ
  have HH := Lib.hid (And.intro hq (And.intro a1 (And.intro hP hn1)))
  have hlb : (prsB l).length ≤ 70000000 := by
    simp only [buckB, List.length_append, List.length_cons] at h9
    omega
  have hl9 : l.length ≤ 70000000 := Nat.le_trans (prsB_ge l) hlb
  have hn19 : n1 ≤ 70000000 := by omega
  have HcS : Hid (∀ y : World, Ext wr y → (fun y : World => y.cell? ⟨q, 1, none⟩ = some (.slice A1 n1 C1)) y) := Lib.hid (fun y hy => (cellG (box_extG HH.out.1 hy) 1).trans HH.out.2.1)
  obtain ⟨lp, hlp⟩ : ∃ lp, lp = (prsB l).length := ⟨_, rfl⟩
  have hlp9 : lp ≤ 70000000 := by omega
  have HLP := Lib.hid hlp
  obtain ⟨RB, hRB⟩ : ∃ RB, RB = buckB l := ⟨_, rfl⟩
  rw [← hRB] at HQF
  have HRB := Lib.hid hRB
  have HL9 := Lib.hid (And.intro hl9 hlb)
  clear hq a1 hP hn1 h9 hlb hl9 hlp hRB
  refine wp_region_noPanic ?_
  refine wp_region_T (n := 14) (S := (fun y : World => y.cell? ⟨q, 1, none⟩ = some (.slice A1 n1 C1))) (by kernel_rfl) ?_
  change wpAnyT _ _ _ _ _ _ 15 _ _ wr.drew
  obtain ⟨x0, hx0⟩ : ∃ y, y = wr.drew := ⟨_, rfl⟩
  have H0 : Hid (Ext wr x0) := Lib.hid (by rw [hx0]; exact (Ext.refl wr).drew)
  rw [← hx0]
  clear hx0
  have hH : (fun y : World => y.cell? ⟨q, 1, none⟩ = some (.slice A1 n1 C1)) x0 := HcS.out _ H0.out
  refine wpAnyT_take (i := 1) (v := ?_) rfl (by kernel_rfl) (by kernel_rfl) (by kernel_rfl) (by kernel_rfl) (fun _ _ _ h => h) (Or.inl ⟨by rfl, ?_⟩) hH ?_
  rotate_left
  · (intro w hSw; (try dsimp only at hSw); go_simp; try with_reducible rfl)
  try simp only [Act.put, List.setIfInBounds_toArray, List.set_cons_zero, List.set_cons_succ]
  refine wpAnyT_take (i := 2) (v := ?_) rfl (by kernel_rfl) (by kernel_rfl) (by kernel_rfl) (by kernel_rfl) (fun _ _ _ h => h) (Or.inl ⟨by rfl, ?_⟩) hH ?_
  rotate_left
  · (intro w hSw; (try dsimp only at hSw); go_simp; try with_reducible rfl)
  try simp only [Act.put, List.setIfInBounds_toArray, List.set_cons_zero, List.set_cons_succ]
  refine wpAnyT_take (i := 3) (v := ?_) rfl (by kernel_rfl) (by kernel_rfl) (by kernel_rfl) (by kernel_rfl) (fun _ _ _ h => h) (Or.inl ⟨by rfl, ?_⟩) hH ?_
  rotate_left
  · (intro w hSw; (try dsimp only at hSw); go_simp; try with_reducible rfl)
  try simp only [Act.put, List.setIfInBounds_toArray, List.set_cons_zero, List.set_cons_succ]
  refine wpAnyT_take (i := 4) (v := ?_) rfl (by kernel_rfl) (by kernel_rfl) (by kernel_rfl) (by kernel_rfl) (fun _ _ _ h => h) (Or.inl ⟨by rfl, ?_⟩) hH ?_
  rotate_left
  · (intro w hSw; (try dsimp only at hSw); go_simp; try with_reducible rfl)
  try simp only [Act.put, List.setIfInBounds_toArray, List.set_cons_zero, List.set_cons_succ]
  refine wpAnyT_take (i := 5) (v := ?_) rfl (by kernel_rfl) (by kernel_rfl) (by kernel_rfl) (by kernel_rfl) (fun _ _ _ h => h) (Or.inl ⟨by rfl, ?_⟩) hH ?_
  rotate_left
  · (intro w hSw; (try dsimp only at hSw); go_simp; try with_reducible rfl)
  try simp only [Act.put, List.setIfInBounds_toArray, List.set_cons_zero, List.set_cons_succ]
  refine wpAnyT_take (i := 8) (v := ?_) rfl (by kernel_rfl) (by kernel_rfl) (by kernel_rfl) (by kernel_rfl) (fun _ _ _ h => h) (Or.inl ⟨by rfl, ?_⟩) hH ?_
  rotate_left
  · (intro w hSw; (try dsimp only at hSw); go_simp; try with_reducible rfl)
  try simp only [Act.put, List.setIfInBounds_toArray, List.set_cons_zero, List.set_cons_succ]
  refine wpAnyT_take (i := 9) (v := ?_) rfl (by kernel_rfl) (by kernel_rfl) (by kernel_rfl) (by kernel_rfl) (fun _ _ _ h => h) (Or.inl ⟨by rfl, ?_⟩) hH ?_
  rotate_left
  · (intro w hSw; (try dsimp only at hSw); go_simp; try with_reducible rfl)
  try simp only [Act.put, List.setIfInBounds_toArray, List.set_cons_zero, List.set_cons_succ]
  refine wpAnyT_take (i := 10) (v := ?_) rfl (by kernel_rfl) (by kernel_rfl) (by kernel_rfl) (by kernel_rfl) (fun _ _ _ h => h) (Or.inl ⟨by rfl, ?_⟩) hH ?_
  rotate_left
  · (intro w hSw; (try dsimp only at hSw); go_simp; try with_reducible rfl)
  try simp only [Act.put, List.setIfInBounds_toArray, List.set_cons_zero, List.set_cons_succ]
  refine wpAnyT_take (i := 11) (v := ?_) rfl (by kernel_rfl) (by kernel_rfl) (by kernel_rfl) (by kernel_rfl) (fun _ _ _ h => h) (Or.inl ⟨by rfl, ?_⟩) hH ?_
  rotate_left
  · (intro w hSw; (try dsimp only at hSw); go_simp; try with_reducible rfl)
  try simp only [Act.put, List.setIfInBounds_toArray, List.set_cons_zero, List.set_cons_succ]
  clear hH
  refine wpAnyT_all (rs := [0, 6]) (by kernel_rfl) (by simp) ?_
  intro i9 hi9
  have hi9' : i9 = 0 ∨ i9 = 6 := by simpa using hi9
  clear hi9
  rcases hi9' with rfl | rfl
  · refine wpOp_goK rfl rfl (fun K9 hK9 => ?_)
    go_simp
    obtain ⟨x1, hx1⟩ : ∃ y, y = x0.alloc (.cells #[.int .u8 1] 5) := ⟨_, rfl⟩
    have fA : Ext x0 x1 := by rw [hx1]; exact (Ext.refl _).alloc (Nat.le_refl _) _
    have oA : x1.ownsRow wr.heap.size 5 1 (.slice (some ⟨x0.heap.size, 0, none⟩) 1 1) 1 [.int .u8 1] := by rw [hx1]; exact own_base (own_lit (size := 1) [.int .u8 1] 1 (by decide) rfl (Nat.le_refl _)) H0.out.size
    rw [← hx1]
    obtain ⟨gA, hgA⟩ : ∃ g, g = x0.heap.size := ⟨_, rfl⟩
    rw [← hgA] at oA ⊢
    have H1 : Hid (Ext wr x1 ∧ x1.ownsRow wr.heap.size 5 1 (.slice (some ⟨gA, 0, none⟩) 1 1) 1 [.int .u8 1]) := Lib.hid ⟨Ext.trans H0.out fA, oA⟩
    clear fA oA hx1 hgA 
    refine hK9.out _ _ ⟨.inr (HcS.out _ H1.out.1), ?_⟩
    clear hK9 K9
    try simp only [Act.put, List.setIfInBounds_toArray, List.set_cons_zero, List.set_cons_succ]
    refine wpAnyT_all (rs := [6]) (by kernel_rfl) (by simp) ?_
    intro i9 hi9
    obtain rfl := List.mem_singleton.1 hi9
    refine wpOp_goK rfl rfl (fun K9 hK9 => ?_)
    go_simp
    refine (two_c x1 n1 (by omega)).mono ?_
    rintro e x2 ⟨vB, rfl, rB, fB⟩
    obtain ⟨AB, CB, rfl⟩ := own_slice rB
    have H2 : Hid (Ext wr x2 ∧ x2.ownsRow wr.heap.size 5 1 (.slice (some ⟨gA, 0, none⟩) 1 1) 1 [.int .u8 1] ∧ Seg x2 AB (encB (twoB n1))) := Lib.hid ⟨Ext.trans H1.out.1 fB, row_ext H1.out.2 fB, (by obtain ⟨A, c, e, _, _, _, hs⟩ := Sl.of_own rB; cases e; exact hs)⟩
    clear rB fB
    go_simp
    refine hK9.out _ _ ⟨.inr (HcS.out _ H2.out.1), ?_⟩
    clear hK9 K9
    refine wpAnyT_all (rs := [7]) (by kernel_rfl) (by simp) ?_
    intro i9 hi9
    obtain rfl := List.mem_singleton.1 hi9
    refine wpOp_goK rfl rfl (fun K9 hK9 => ?_)
    refine oper_appY (.tmp 16) (.tmp 22) _ rfl wr.heap.size 5 1 1 Tryd.underlying34 infoU8y (by decide) (.slice (some ⟨gA, 0, none⟩) 1 1) 1 [.int .u8 1] rfl (by exact H2.out.2.1) _ 2 _ (encB (twoB n1)) rfl rfl (by exact H2.out.2.2) (encB_one _) (by decide) (by decide) H2.out.1.size ?_
    intro v3 x3 r3 g3 n3
    have H3 : Hid (Ext wr x3 ∧ x3.ownsRow wr.heap.size 5 1 v3 (1 + 2) ([.int .u8 1] ++ encB (twoB n1))) := Lib.hid ⟨H2.out.1.grown g3 H2.out.1.size (fun b hb => (World.ownsRow.lt H2.out.2.1 b hb).1), r3⟩
    clear r3 g3 n3 H2
    refine hK9.out _ _ ⟨.inr (HcS.out _ H3.out.1), ?_⟩
    clear hK9 K9
    try simp only [Act.put, List.setIfInBounds_toArray, List.set_cons_zero, List.set_cons_succ]
    refine wpAnyT_all (rs := [12]) (by kernel_rfl) (by simp) ?_
    intro i9 hi9
    obtain rfl := List.mem_singleton.1 hi9
    refine wpOp_goK rfl rfl (fun K9 hK9 => ?_)
    go_simp
    refine (rpairs7_c x3 (.slice A1 n1 C1) l (HH.out.2.2.1.below H3.out.1) (by have := HL9.out.2; omega) (by have := HL9.out.1; omega)).mono ?_
    rintro e x4 ⟨v4, rfl, r4, f4⟩
    obtain ⟨A4, C4, rfl⟩ := own_slice r4
    have H4 : Hid (Ext wr x4 ∧ x4.ownsRow wr.heap.size 5 1 v3 (1 + 2) ([.int .u8 1] ++ encB (twoB n1)) ∧ Seg x4 A4 (encB (prsB l))) := Lib.hid ⟨Ext.trans H3.out.1 f4, row_ext H3.out.2 f4, (by obtain ⟨A, c, e, _, _, _, hs⟩ := BS.of_own r4; cases e; exact hs)⟩
    clear r4 f4 H3
    rw [← HLP.out]
    go_simp
    refine hK9.out _ _ ⟨.inr (HcS.out _ H4.out.1), ?_⟩
    clear hK9 K9
    refine wpAnyT_all (rs := [13]) (by kernel_rfl) (by simp) ?_
    intro i9 hi9
    obtain rfl := List.mem_singleton.1 hi9
    refine wpOp_goK rfl rfl (fun K9 hK9 => ?_)
    refine oper_appY (.tmp 23) (.tmp 28) _ rfl wr.heap.size 5 1 1 Tryd.underlying34 infoU8y (by decide) v3 (1 + 2) _ rfl (by exact H4.out.2.1) _ lp _ (encB (prsB l)) rfl (by rw [encB_length, HLP.out, Nat.mul_one]) (by exact H4.out.2.2) (encB_one _) (by unfold maxLen; omega) (by omega) H4.out.1.size ?_
    intro v5 x5 r5 g5 n5
    have H5 : Hid (x5.ownsRow wr.heap.size 5 1 v5 RB.length (encB RB) ∧ Ext wr x5) := Lib.hid ⟨by
      have e1 : RB.length = 1 + 2 + lp := by rw [HRB.out, buckB, List.length_append, List.length_cons, layB_len, ← HLP.out]
      have e2 : encB RB = [.int .u8 1] ++ encB (twoB n1) ++ encB (prsB l) := by rw [HRB.out, buckB, ← HH.out.2.2.2, layB_two, encB_append]; rfl
      rw [e1, e2]; exact r5, H4.out.1.grown g5 H4.out.1.size (fun b hb => (World.ownsRow.lt H4.out.2.1 b hb).1)⟩
    clear r5 g5 n5 H4
    refine hK9.out _ _ ⟨.inr (HcS.out _ H5.out.2), ?_⟩
    clear hK9 K9
    try simp only [Act.put, List.setIfInBounds_toArray, List.set_cons_zero, List.set_cons_succ]
    refine wpAnyT_tail 14 (Nat.le_refl _) rfl (by kernel_rfl) ?_
    simp only [List.drop_succ_cons, List.drop_zero]
    repeat' go_step
    refine NoPanic.normal ?_
    refine HQF.out _ _ _ _ _ _ _ _ _ _ _ _ _ _ _ _ H5.out
  · refine wpOp_goK rfl rfl (fun K9 hK9 => ?_)
    go_simp
    refine (two_c x0 n1 (by omega)).mono ?_
    rintro e x1 ⟨vB, rfl, rB, fB⟩
    obtain ⟨AB, CB, rfl⟩ := own_slice rB
    have H1 : Hid (Ext wr x1 ∧ Seg x1 AB (encB (twoB n1))) := Lib.hid ⟨Ext.trans H0.out fB, (by obtain ⟨A, c, e, _, _, _, hs⟩ := Sl.of_own rB; cases e; exact hs)⟩
    clear rB fB
    go_simp
    refine hK9.out _ _ ⟨.inr (HcS.out _ H1.out.1), ?_⟩
    clear hK9 K9
    refine wpAnyT_all (rs := [0]) (by kernel_rfl) (by simp) ?_
    intro i9 hi9
    obtain rfl := List.mem_singleton.1 hi9
    refine wpOp_goK rfl rfl (fun K9 hK9 => ?_)
    go_simp
    obtain ⟨x2, hx2⟩ : ∃ y, y = x1.alloc (.cells #[.int .u8 1] 5) := ⟨_, rfl⟩
    have fA : Ext x1 x2 := by rw [hx2]; exact (Ext.refl _).alloc (Nat.le_refl _) _
    have oA : x2.ownsRow wr.heap.size 5 1 (.slice (some ⟨x1.heap.size, 0, none⟩) 1 1) 1 [.int .u8 1] := by rw [hx2]; exact own_base (own_lit (size := 1) [.int .u8 1] 1 (by decide) rfl (Nat.le_refl _)) H1.out.1.size
    rw [← hx2]
    obtain ⟨gA, hgA⟩ : ∃ g, g = x1.heap.size := ⟨_, rfl⟩
    rw [← hgA] at oA ⊢
    have H2 : Hid (Ext wr x2 ∧ x2.ownsRow wr.heap.size 5 1 (.slice (some ⟨gA, 0, none⟩) 1 1) 1 [.int .u8 1] ∧ Seg x2 AB (encB (twoB n1))) := Lib.hid ⟨Ext.trans H1.out.1 fA, oA, H1.out.2.below fA⟩
    clear fA oA hx2 hgA 
    refine hK9.out _ _ ⟨.inr (HcS.out _ H2.out.1), ?_⟩
    clear hK9 K9
    try simp only [Act.put, List.setIfInBounds_toArray, List.set_cons_zero, List.set_cons_succ]
    refine wpAnyT_all (rs := [7]) (by kernel_rfl) (by simp) ?_
    intro i9 hi9
    obtain rfl := List.mem_singleton.1 hi9
    refine wpOp_goK rfl rfl (fun K9 hK9 => ?_)
    refine oper_appY (.tmp 16) (.tmp 22) _ rfl wr.heap.size 5 1 1 Tryd.underlying34 infoU8y (by decide) (.slice (some ⟨gA, 0, none⟩) 1 1) 1 [.int .u8 1] rfl (by exact H2.out.2.1) _ 2 _ (encB (twoB n1)) rfl rfl (by exact H2.out.2.2) (encB_one _) (by decide) (by decide) H2.out.1.size ?_
    intro v3 x3 r3 g3 n3
    have H3 : Hid (Ext wr x3 ∧ x3.ownsRow wr.heap.size 5 1 v3 (1 + 2) ([.int .u8 1] ++ encB (twoB n1))) := Lib.hid ⟨H2.out.1.grown g3 H2.out.1.size (fun b hb => (World.ownsRow.lt H2.out.2.1 b hb).1), r3⟩
    clear r3 g3 n3 H2
    refine hK9.out _ _ ⟨.inr (HcS.out _ H3.out.1), ?_⟩
    clear hK9 K9
    try simp only [Act.put, List.setIfInBounds_toArray, List.set_cons_zero, List.set_cons_succ]
    refine wpAnyT_all (rs := [12]) (by kernel_rfl) (by simp) ?_
    intro i9 hi9
    obtain rfl := List.mem_singleton.1 hi9
    refine wpOp_goK rfl rfl (fun K9 hK9 => ?_)
    go_simp
    refine (rpairs7_c x3 (.slice A1 n1 C1) l (HH.out.2.2.1.below H3.out.1) (by have := HL9.out.2; omega) (by have := HL9.out.1; omega)).mono ?_
    rintro e x4 ⟨v4, rfl, r4, f4⟩
    obtain ⟨A4, C4, rfl⟩ := own_slice r4
    have H4 : Hid (Ext wr x4 ∧ x4.ownsRow wr.heap.size 5 1 v3 (1 + 2) ([.int .u8 1] ++ encB (twoB n1)) ∧ Seg x4 A4 (encB (prsB l))) := Lib.hid ⟨Ext.trans H3.out.1 f4, row_ext H3.out.2 f4, (by obtain ⟨A, c, e, _, _, _, hs⟩ := BS.of_own r4; cases e; exact hs)⟩
    clear r4 f4 H3
    rw [← HLP.out]
    go_simp
    refine hK9.out _ _ ⟨.inr (HcS.out _ H4.out.1), ?_⟩
    clear hK9 K9
    refine wpAnyT_all (rs := [13]) (by kernel_rfl) (by simp) ?_
    intro i9 hi9
    obtain rfl := List.mem_singleton.1 hi9
    refine wpOp_goK rfl rfl (fun K9 hK9 => ?_)
    refine oper_appY (.tmp 23) (.tmp 28) _ rfl wr.heap.size 5 1 1 Tryd.underlying34 infoU8y (by decide) v3 (1 + 2) _ rfl (by exact H4.out.2.1) _ lp _ (encB (prsB l)) rfl (by rw [encB_length, HLP.out, Nat.mul_one]) (by exact H4.out.2.2) (encB_one _) (by unfold maxLen; omega) (by omega) H4.out.1.size ?_
    intro v5 x5 r5 g5 n5
    have H5 : Hid (x5.ownsRow wr.heap.size 5 1 v5 RB.length (encB RB) ∧ Ext wr x5) := Lib.hid ⟨by
      have e1 : RB.length = 1 + 2 + lp := by rw [HRB.out, buckB, List.length_append, List.length_cons, layB_len, ← HLP.out]
      have e2 : encB RB = [.int .u8 1] ++ encB (twoB n1) ++ encB (prsB l) := by rw [HRB.out, buckB, ← HH.out.2.2.2, layB_two, encB_append]; rfl
      rw [e1, e2]; exact r5, H4.out.1.grown g5 H4.out.1.size (fun b hb => (World.ownsRow.lt H4.out.2.1 b hb).1)⟩
    clear r5 g5 n5 H4
    refine hK9.out _ _ ⟨.inr (HcS.out _ H5.out.2), ?_⟩
    clear hK9 K9
    try simp only [Act.put, List.setIfInBounds_toArray, List.set_cons_zero, List.set_cons_succ]
    refine wpAnyT_tail 14 (Nat.le_refl _) rfl (by kernel_rfl) ?_
    simp only [List.drop_succ_cons, List.drop_zero]
    repeat' go_step
    refine NoPanic.normal ?_
    refine HQF.out _ _ _ _ _ _ _ _ _ _ _ _ _ _ _ _ H5.out


set_option maxRecDepth 100000 in
set_option maxHeartbeats 2000000 in
theorem of7_bk (w : World) (q lv : Nat) (A : Array Value) (v : Value) (l : List Pr) (hq : w.heap[q]? = some (.cells A TTY (0, 0))) (a0 : A[0]? = some (.bool true)) (a1 : A[1]? = some v) (hP : PS w v l) (h9 : (buckB l).length ≤ 70000000) :
    Calls Tryd.prog 10 #[ptr q, .int .i64 (lv : Int)] w fun e w' => ∃ v', e = .returned v' ∧ w'.ownsRow w.heap.size 5 1 v' (buckB l).length (encB (buckB l)) ∧ Ext w w' := by
  obtain ⟨A1, C1, rfl, _, hn, hc, hs⟩ := hP
  obtain ⟨n1, hn1⟩ : ∃ n, n = l.length := ⟨_, rfl⟩
  rw [← hn1] at a1 hn
  have HH := Lib.hid (And.intro hq (And.intro a1 (And.intro (show PS w (.slice A1 n1 C1) l by rw [hn1]; exact ⟨A1, C1, rfl, flat_length l, by omega, hc, hs⟩) (And.intro hn1 h9))))
  have z00 : w.cell? ⟨q, 0, none⟩ = some (.bool true) := (cellG hq 0).trans a0
  clear hq a0 a1 hs hn1 h9
  go_enter Tryd.func10, Tryd.ntmps10
  repeat' (go_not_at_region 2; (first | go_skip | go_guarded | go_step))
  refine of7_2 w q A l A1 n1 C1 HH.out.2.2.2.1 HH.out.1 HH.out.2.1 HH.out.2.2.1 HH.out.2.2.2.2 _ _ _ _ _ _ _ _ _ _ _ _ _ _ _ _ _ _ _ _ _ _ _ _ _ _ _ _ _ _ _ _ _ _ _ _ _ _ _ _ _ _ _ _ _ _ _ _ _ _ _ _ _ _ _ _ _ _ _ _ _ _ _ _ _ _ _ _ _ _ _ _ _ _ _ _ _ _ _ _ _ _ _ _ _ _ _ _ _ _ _ _ _ _ (by kernel_rfl) ?_
  intro u4 u16 u17 u18 u19 u20 u21 u22 u23 u24 u25 u26 u27 u28 u29 wx HX
  have HX := Lib.hid HX
  repeat' (first | go_skip | go_guarded | go_step)
  go_ret
  exact ⟨_, rfl, HX.out.1, HX.out.2⟩

/-- The document's Of at any tree. -/
theorem of7_c : ∀ (t : NT) (lv : Nat) (w : World) (q : Nat), DN w t q → lv ≤ 13 → (lookN t (13 - lv)).length ≤ 70000000 → ∀ W, Ext w W →
    Calls Tryd.prog 10 #[ptr q, .int .i64 (lv : Int)] W fun e w' => ∃ v', e = .returned v' ∧ w'.ownsRow W.heap.size 5 1 v' (lookN t (13 - lv)).length (encB (lookN t (13 - lv))) ∧ Ext W w'
  | .bk l, lv, w, q, h, hlv, h9, W, f => by
    obtain ⟨A, v, h1, h2, h3, h4, h5⟩ := (show DN w (.bk l) q from h).ext f
    exact of7_bk W q lv A v l h1 h2 h3 h4 h9
  | .inn is p k, lv, w, q, ⟨A, h1, h2, h3, h4⟩, hlv, h9, W, f => by
    obtain ⟨g, hg⟩ : ∃ g : NT → List UInt8, g = fun t => lookN t (12 - lv) := ⟨_, rfl⟩
    obtain ⟨e1, e2, e3, e4⟩ := slG_all g (slsN is p k)
    obtain ⟨KB, hKB⟩ : ∃ KB, KB = if lv < 13 then (kdsOf ((slsN is p k).map (slG g))).flatten else [] := ⟨_, rfl⟩
    have hlook : lookN (.inn is p k) (13 - lv) = headB (dataOf ((slsN is p k).map (slG g))) (nodesOf ((slsN is p k).map (slG g))) (prsOf ((slsN is p k).map (slG g))) ++ KB := by
      rw [e1, e2, e3, hKB]
      rcases Nat.lt_or_ge lv 13 with hl | hl
      · have e : 13 - lv = (12 - lv) + 1 := by omega
        rw [if_pos hl, e, lookN_succ, e4, hg]
      · have e : 13 - lv = 0 := by omega
        rw [if_neg (by omega), e]; rfl
    rw [hlook] at h9 ⊢
    refine of7_in _ w q lv A ((slsN is p k).map (slG g)) KB h1 h2 (by rw [List.length_map, slsN_length]) (DN.ent h4 g) hlv hKB (by rw [← List.length_append]; exact h9) (fun hl q' b hC W' f' => ?_) W f
    obtain ⟨c, hc, i2, hD, rfl⟩ := hC
    have hle : (lookN (k c) (12 - lv)).length ≤ 70000000 := by
      have h5 : (lookN (k c) (12 - lv)).length ≤ KB.length := by
        rw [hKB, if_pos hl, e4, hg]
        have hm : k c ∈ kdsOf (slsN is p k) := by
          unfold kdsOf slsN
          exact List.mem_filterMap.2 ⟨.kid (k c), List.mem_map.2 ⟨c, List.mem_range.2 hc, slN_kid i2⟩, rfl⟩
        obtain ⟨s, t, he⟩ := List.append_of_mem hm
        rw [he]; simp; omega
      rw [List.length_append] at h9
      omega
    have ih := of7_c (k c) (lv + 1) w q' hD (by omega) (by rw [show 13 - (lv + 1) = 12 - lv by omega]; exact hle) W' f'
    rw [show 13 - (lv + 1) = 12 - lv by omega] at ih
    rw [hg]
    exact ih
end Go.Proofs.YtclcgelbcbnekaaDoor
/- Contracts: lists alike. -/
namespace Go.Proofs.YtclcgelbcbnekaaDoor.Pch
open Go.RowKit Go.QS
set_option linter.unusedVariables false

set_option maxRecDepth 100000 in
theorem neqR (w : World) (p q : Pr) : (binOp .neq 52 (.agg #[str p.1, str p.2]) (.agg #[str q.1, str q.2])).run Tryd.prog w = .ok (.bool (decide (p ≠ q))) w := by
  obtain ⟨a, b⟩ := p
  obtain ⟨c, d⟩ := q
  simp only [go_sem]
  by_cases h1 : a = c <;> by_cases h2 : b = d <;> simp [h1, h2, go_sem]

end Go.Proofs.YtclcgelbcbnekaaDoor.Pch/- Canon of a trie by any hasher; the document: its walk. -/
namespace Go.Proofs.YtclcgelbcbnekaaDoor
open Go Go.RowKit Go.QS Go.QS.Nk
set_option linter.unusedVariables false
variable [Zero (Nat → Prop)]
set_option linter.unusedSectionVars false

/-- What is said of the map of the first pairs. -/
theorem xOf_sh (l : List Pr) : ShOk (xOf l) ∧ (∀ H, (shp H 13 (xOf l)).length ≤ 9000) ∧ (xOf l).length ≤ 40 ∧ ∀ q ∈ xOf l, q.1.length ≤ 40 ∧ q.2.length ≤ 40 := by
  obtain ⟨h1, h2, h3⟩ := xOf_ok l
  exact ⟨shOk_few h1 h2 h3, fun H => shp_few H h2 h3, h2, h3⟩
/-- A trie's look. -/
theorem TR.lk {H : List UInt8 → Nat} {w : World} {g : Nat} {l : List Pr} (h : TR ND H w 13 g l) (h9 : l.length ≤ 40) : LkAt w (ptr g) (shp H 13 l) :=
  .inr ⟨g, trT H 13 l, rfl, TR.rn 13 h, NFew_trT H 13 (by omega), (lookN_trT H 13 l).symm⟩
/-- Canon of a trie by some hasher, by another one. -/
theorem canX_c (h : Hs) (hk : h.Ok) (H : List UInt8 → Nat) (l : List Pr) (hl : ShOk l) (hl9 : l.length ≤ 40) (w : World) (g : Nat) (hR : TR ND H w 13 g l) (hT : Tab32 w) :
    Calls Tryd.prog 11 #[hsV h, ptr g] w fun e w' => e = .returned (.bool (decide (shp H 13 l = shp h.hash 13 l))) ∧ Ext w w' := by
  refine (canonR_c w h hk g (trT H 13 l) (TR.rn 13 hR) (NSm_trT H 13 hl.2.1 hl.2.2) (by rw [(prsN_trT H 13 l).length_eq]; omega) hT).mono ?_
  rintro e w' ⟨hLL, f⟩
  refine ⟨?_, f⟩
  rcases hLL with ⟨h1, rfl⟩ | ⟨h1, rfl⟩
  · rw [decide_eq_true ((trT_ok H h.hash hl).1 h1)]
  · rw [decide_eq_false (fun e => h1 ((trT_ok H h.hash hl).2 e))]
/-- The document's trie of pairs, its look. -/
theorem of7X_c (H : List UInt8 → Nat) (l : List Pr) (h9 : (shp H 13 l).length ≤ 9000) (w : World) (q : Nat) (hR : DR H w 13 q l) :
    Calls Tryd.prog 10 #[ptr q, .int .i64 0] w fun e w' => ∃ v', e = .returned v' ∧ BS w' v' (shp H 13 l) ∧ Ext w w' := by
  have h0 := of7_c (trT H 13 l) 0 w q (DR.dn 13 hR) (by decide) (by rw [show 13 - 0 = 13 from rfl, lookN_trT]; omega) w (Ext.refl w)
  rw [show 13 - 0 = 13 from rfl, lookN_trT] at h0
  refine h0.mono ?_
  rintro e w' ⟨v', rfl, r, f⟩
  exact ⟨v', rfl, BS.of_own r, f⟩
end Go.Proofs.YtclcgelbcbnekaaDoor
