/- Texts joined. -/
import Derived.Test.YtclcgelbcbnekaaNn
import Derived.Test.YtclcgelbcbnekaaMa
import Derived.Test.YtclcgelbcbnekaaNo
import Derived.Test.YtclcgelbcbnekaaBd
import Derived.Test.YtclcgelbcbnekaaBe
import Derived.BigRegion
set_option linter.unusedVariables false
set_option linter.unusedSimpArgs false
/- Contract: a node of one's own, without a token: one like it. -/
namespace Go.Proofs.Ytclcgelbcbnekaa
open Go.RowKit Go.QS Go.QS.Nk
set_option linter.unusedVariables false
variable [Zero (Nat → Prop)]
set_option linter.unusedSectionVars false

theorem keep2n {w w' : World} {a1 a2 : Addr} {u1 u2 : Value} (f : Ext w w') (h : w.cell? a1 = some u1 ∧ w.cell? a2 = some u2) : w'.cell? a1 = some u1 ∧ w'.cell? a2 = some u2 :=
  ⟨(f.cell (World.block_lt_of_cell? w _ h.1)).trans h.1, (f.cell (World.block_lt_of_cell? w _ h.2)).trans h.2⟩

set_option maxRecDepth 100000 in
set_option maxHeartbeats 1000000 in
theorem nown_c (w : World) (g d n : Nat) (ps : List Pr) (ks : List Nat) (bk : Bool) (ow : Option Addr) (pv kv : Value) (h : Nd ND w g d n ps ks bk ow pv kv) (hp9 : ps.length ≤ 1000000000) (hk9 : ks.length ≤ 1000000000) :
    Calls Try.prog 64 #[ptr g, nil0] w fun e w' => ∃ c pv' kv', e = .returned (ptr c) ∧ NdO ND NP NK w.heap.size w' c d n ps ks bk none pv' kv' ∧ w.heap.size ≤ c ∧ Ext w w' := by
  obtain ⟨PA, pc, rfl, hpl, hpn, hpc, hps⟩ := h.pairs
  obtain ⟨KA, kc, rfl, hkl, hkn, hkc, hks⟩ := h.kids
  obtain ⟨c0, c1, c2, c3, c4, c5⟩ := h.node.cells
  obtain ⟨wa, hwa⟩ : ∃ x, x = w.alloc (.cells #[.int .u32 d, .int .u32 n, .slice PA ps.length pc, .slice KA ks.length kc, .bool bk, .pointer ow] ND) := ⟨_, rfl⟩
  obtain ⟨c, hc⟩ : ∃ c, c = w.heap.size := ⟨_, rfl⟩
  have hn : NdAt ND wa c d n (.slice PA ps.length pc) (.slice KA ks.length kc) bk ow := by rw [hwa]; exact NdAt.new ND w hc
  have hE : Ext w wa := by rw [hwa]; exact (Ext.refl _).alloc (Nat.le_refl _) _
  have HA := Lib.hid (And.intro hn (And.intro hE (show w.heap.size ≤ c by omega)))
  have HS := Lib.hid (And.intro (h.ext hE).pairs (h.ext hE).kids)
  have HK := Lib.hid (And.intro c2 c3)
  have HW := Lib.hid (And.intro hwa.symm hc.symm)
  have HB := Lib.hid hE.size
  have hgc : Hid (g ≠ c) := Lib.hid (by have := h.node.lt; omega)
  clear h hpl hps hkl hks hwa hn hE hc
  go_enter Try.func64, Try.ntmps64
  repeat' (first | (go_at_call 20; refine (owned_nil _ _ (.inr ⟨_, rfl⟩)).mono ?_; rintro e w1 ⟨rfl, rfl⟩; go_simp) | (go_not_at_region 4; (first | go_skip | go_guarded | go_step)))
  have hW := HW.out.1
  rw [hW, HW.out.2]
  clear hW
  obtain ⟨q2, q3⟩ := keep2n HA.out.2.1 HK.out
  have HQ : Hid (_ ∧ _) := Lib.hid (And.intro q2 q3)
  go_region_held3 (fun w' => w'.cell? ⟨g, 2, none⟩ = some (.slice PA ps.length pc) ∧ w'.cell? ⟨g, 3, none⟩ = some (.slice KA ks.length kc))
    (first | exact keep2n (((HA.out.2.1.trans (k1.out.1.trans k2.out.1)).setCell HA.out.2.2 _).setCell HA.out.2.2 _) HK.out | exact keep2n ((HA.out.2.1.trans (k1.out.1.trans k2.out.1)).setCell HA.out.2.2 _) HK.out | exact keep2n (HA.out.2.1.trans (k1.out.1.trans k2.out.1)) HK.out | exact keep2n (HA.out.2.1.trans k1.out.1) HK.out | exact keep2n (HA.out.2.1.trans (below_drewN (Ext.refl _) 1)) HK.out)
    (first
      | (go_at_call 87; refine (pclone_c _ _ ps (PS.below HS.out.1 (by repeat' (first | exact Ext.refl _ | apply ext_alloc | apply ext_drew | exact below_drewN (Ext.refl _) _))) hp9).mono ?_; rintro e x1 ⟨v1, rfl, o1, f1⟩; obtain ⟨A1, C1, rfl⟩ := own_slice o1; have k1 : Hid (Ext wa x1 ∧ x1.ownsRow w.heap.size NP 2 (.slice A1 ps.length C1) ps.length (flat ps)) := Lib.hid ⟨Ext.trans (by repeat' (first | exact Ext.refl _ | apply ext_alloc | apply ext_drew | exact below_drewN (Ext.refl _) _)) f1, own_base o1 HB.out⟩; clear o1 f1)
      | (go_at_call 88; refine (kclone_c _ _ ks (Sl.below HS.out.2 (k1.out.1.trans (by repeat' (first | exact Ext.refl _ | apply ext_alloc | apply ext_drew | exact below_drewN (Ext.refl _) _)))) hk9).mono ?_; rintro e x2 ⟨v2, rfl, o2, f2⟩; obtain ⟨A2, C2, rfl⟩ := own_slice o2; have k2 : Hid (Ext x1 x2 ∧ x2.ownsRow w.heap.size NK 1 (.slice A2 ks.length C2) ks.length (ptrs ks)) := Lib.hid ⟨Ext.trans (by repeat' (first | exact Ext.refl _ | apply ext_alloc | apply ext_drew | exact below_drewN (Ext.refl _) _)) f2, own_base o2 (Nat.le_trans HB.out k1.out.1.size)⟩; have H2 := Lib.hid (HA.out.1.ext (k1.out.1.trans k2.out.1)); obtain ⟨z0, z1, z2, z3, z4, z5⟩ := H2.out.cells; have zf := H2.out.free; clear o2 f2 z0 z1 z4))
  repeat' (first | (go_at_call 70; refine (live_nil _).mono ?_; rintro e w1 ⟨rfl, rfl⟩; go_simp) | go_skip | go_guarded | go_step)
  go_ret
  have hle := HA.out.2.2
  have r1 := k2.out.1
  have e3 := HA.out.2.1.trans (k1.out.1.trans k2.out.1)
  refine ⟨c, _, _, rfl, ⟨((H2.out.set2 _).set3 _).set5 none, ?_, ?_⟩, hle, ((e3.setCell hle _).setCell hle _).setCell hle _⟩
  · exact own_other (own_other (own_other (row_ext k1.out.2 k2.out.1) H2.out (by decide) 2 _) (H2.out.set2 _) (by decide) 3 _) ((H2.out.set2 _).set3 _) (by decide) 5 _
  · exact own_other (own_other (own_other k2.out.2 H2.out (by decide) 2 _) (H2.out.set2 _) (by decide) 3 _) ((H2.out.set2 _).set3 _) (by decide) 5 _
end Go.Proofs.Ytclcgelbcbnekaa
/- Pieces of a function's code. No program. -/
namespace Go.QS.Nk
open Go
def lead : Code → Option Nat
  | .region id _ _ => some id
  | .seq a _ => lead a
  | _ => none
def findS (n : Nat) : Code → Option Code
  | .region id ops d => if id = n then some (.region id ops d) else none
  | .seq a b => if lead a = some n then some (.seq a b) else match findS n a with | some c => some c | none => findS n b
  | .cond _ a b => match findS n a with | some c => some c | none => findS n b
  | .block _ b => findS n b
  | .loop b => findS n b
  | .scope b => findS n b
  | _ => none
def findT (n : Nat) : Code → Option Code
  | .seq a b => match a with
    | .region id _ _ => if id = n then some b else findT n b
    | _ => match findT n a with | some c => some c | none => findT n b
  | .cond _ a b => match findT n a with | some c => some c | none => findT n b
  | .block _ b => findT n b
  | .loop b => findT n b
  | .scope b => findT n b
  | _ => none
def findR (n : Nat) : Code → Option Code
  | .region id ops d => if id = n then some (.region id ops d) else none
  | .seq a b => match findR n a with | some c => some c | none => findR n b
  | .cond _ a b => match findR n a with | some c => some c | none => findR n b
  | .block _ b => findR n b
  | .loop b => findR n b
  | .scope b => findR n b
  | _ => none

end Go.QS.Nk
/- Contract: a chunk of a node of one's own is emptied (its slots' drop). -/
namespace Go.Proofs.Ytclcgelbcbnekaa
open Go.RowKit Go.QS Go.QS.Nk
set_option linter.unusedVariables false
variable [Zero (Nat → Prop)]
set_option linter.unusedSectionVars false

/-- An inner node, its rows its own. -/
def InO (base : Nat) (w : World) (g : Nat) (sl : List (Slot Nat)) (ow : Option Addr) (pv kv : Value) : Prop := sl.length = 32 ∧ NdO ND NP NK base w g (dataOf sl) (nodesOf sl) (prsOf sl) (kdsOf sl) false ow pv kv
theorem only_set2 (w : World) (g a b : Nat) (u v : Value) : Only (fun k => k = g) w ((w.setCell ⟨g, a, none⟩ u).setCell ⟨g, b, none⟩ v) := (Only.setCell (S := fun k => k = g) (Only.setCell (S := fun k => k = g) (Only.refl w) (p := ⟨g, a, none⟩) (.inl rfl) u) (p := ⟨g, b, none⟩) (.inl rfl) v)
theorem clr_eq {f : Slot Nat → Bool} {sl : List (Slot Nat)} {i : Nat} (h : sl.length = 32) (hi : i < 32) {s : Slot Nat} (hs : f s = false) : clr (bitsOf f sl) i = bitsOf f (sl.set i s) := by
  apply Nat.eq_of_testBit_eq
  intro j
  rw [clr_bit _ _ _ (bits32 f h), bits_off f (by omega) hs]

set_option maxRecDepth 100000 in
set_option maxHeartbeats 2000000 in
theorem drop_6 (wr : World) (g i d n : Nat) (pv kv : Value) (bk : Bool) (ow : Option Addr) (h : NdAt ND wr g d n pv kv bk ow) (hd9 : d < 4294967296) (hn9 : n < 4294967296) (hi : i < 32) (c : Code) (Q : Exit → Act → World → Prop) (t2 t3 t4 t5 t6 t7 t8 t9 t10 t11 t12 t13 t14 t15 t16 t17 t18 t19 t20 t21 t22 t23 t24 t25 t26 t27 t28 t29 t30 t31 t32 t33 t34 t35 t36 t37 t38 t39 t40 t41 t42 t43 t44 t45 t46 t47 t48 t49 t50 t51 t52 t53 t54 t55 t56 t57 t58 t59 t60 t61 t62 t63 t64 t65 t66 t67 t68 t69 : Value)
    (hc : (Try.f67.body.bind (findR 6)) = some c)
    (hQ : ∀ (u52 u53 u54 u55 u56 u57 u58 u59 u60 u61 u62 u63 u64 u65 u66 u67 u68 u69 : Value) (wx : World), NdAt ND wx g (clr d i) (clr n i) pv kv bk ow → Only (fun k => k = g) wr wx → Q .normal { tmps := List.toArray ((ptr g) :: (.int .i64 i) :: t2 :: t3 :: t4 :: t5 :: t6 :: t7 :: t8 :: t9 :: t10 :: t11 :: t12 :: t13 :: t14 :: t15 :: t16 :: t17 :: t18 :: t19 :: t20 :: t21 :: t22 :: t23 :: t24 :: t25 :: t26 :: t27 :: t28 :: t29 :: t30 :: t31 :: t32 :: t33 :: t34 :: t35 :: t36 :: t37 :: t38 :: t39 :: t40 :: t41 :: t42 :: t43 :: t44 :: t45 :: t46 :: t47 :: t48 :: t49 :: t50 :: t51 :: u52 :: u53 :: u54 :: u55 :: u56 :: u57 :: u58 :: u59 :: u60 :: u61 :: u62 :: u63 :: u64 :: u65 :: u66 :: u67 :: u68 :: u69 :: []), defers := [] } wx) :
    c.wp Try.prog Q { tmps := List.toArray ((ptr g) :: (.int .i64 i) :: t2 :: t3 :: t4 :: t5 :: t6 :: t7 :: t8 :: t9 :: t10 :: t11 :: t12 :: t13 :: t14 :: t15 :: t16 :: t17 :: t18 :: t19 :: t20 :: t21 :: t22 :: t23 :: t24 :: t25 :: t26 :: t27 :: t28 :: t29 :: t30 :: t31 :: t32 :: t33 :: t34 :: t35 :: t36 :: t37 :: t38 :: t39 :: t40 :: t41 :: t42 :: t43 :: t44 :: t45 :: t46 :: t47 :: t48 :: t49 :: t50 :: t51 :: t52 :: t53 :: t54 :: t55 :: t56 :: t57 :: t58 :: t59 :: t60 :: t61 :: t62 :: t63 :: t64 :: t65 :: t66 :: t67 :: t68 :: t69 :: []), defers := [] } wr := by
  change some _ = some c at hc
  cases hc
  have HQF := Lib.hid hQ
  clear hQ
  have hf := h.free
  obtain ⟨c0, c1, c2, c3, c4, c5⟩ := h.cells
  have HN := Lib.hid h
  clear h c2 c3 c4 c5
  refine wp_region_noPanic ?_
  go_region_with (first
    | (go_at_call 112; ((with_reducible refine (without_c _ d i hd9 hi).mono ?_); rintro e x1 ⟨rfl, rfl⟩))
    | (go_at_call 112; ((with_reducible refine (without_c _ n i hn9 hi).mono ?_); rintro e x1 ⟨rfl, rfl⟩)))
  all_goals
    refine NoPanic.normal ?_
    refine HQF.out _ _ _ _ _ _ _ _ _ _ _ _ _ _ _ _ _ _ _ ?_ ?_
    · first | exact (HN.out.set0 _).set1 _ | exact (HN.out.set1 _).set0 _
    · first | exact Only.drew (only_set2 wr g _ _ _ _) | exact only_set2 wr g _ _ _ _


end Go.Proofs.Ytclcgelbcbnekaa
