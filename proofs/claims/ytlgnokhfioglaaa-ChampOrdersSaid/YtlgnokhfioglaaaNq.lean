/- Contract: a chunk of a node of one's own is emptied (its slots' drop). -/
import Derived.Test.YtlgnokhfioglaaaNo
import Derived.Test.YtlgnokhfioglaaaNp
import Derived.Test.YtlgnokhfioglaaaBd
import Derived.Test.YtlgnokhfioglaaaBe
import Derived.BigRegion
import Derived.Test.YtlgnokhfioglaaaFr
namespace Go.Proofs.Ytlgnokhfioglaaa
open Go.RowKit Go.QS Go.QS.Nk
set_option linter.unusedVariables false

/-- An inner node, its rows its own. -/
def InO (base : Nat) (w : World) (g : Nat) (sl : List (Slot Nat)) (ow : Option Addr) (pv kv : Value) : Prop := sl.length = 32 ∧ NdO ND NP NK base w g (dataOf sl) (nodesOf sl) (prsOf sl) (kdsOf sl) false ow pv kv
theorem only_set2 (w : World) (g a b : Nat) (u v : Value) : Only (fun k => k = g) w ((w.setCell ⟨g, a, none⟩ u).setCell ⟨g, b, none⟩ v) := (Only.setCell (S := fun k => k = g) (Only.setCell (S := fun k => k = g) (Only.refl w) (p := ⟨g, a, none⟩) (.inl rfl) u) (p := ⟨g, b, none⟩) (.inl rfl) v)
theorem clr_eq {f : Slot Nat → Bool} {sl : List (Slot Nat)} {i : Nat} (h : sl.length = 32) (hi : i < 32) {s : Slot Nat} (hs : f s = false) : clr (bitsOf f sl) i = bitsOf f (sl.set i s) := by
  apply Nat.eq_of_testBit_eq
  intro j
  rw [clr_bit _ _ _ (bits32 f h), bits_off f (by omega) hs]

set_option maxRecDepth 100000 in
set_option maxHeartbeats 2000000 in
theorem drop_6 (wr : World) (g i d n : Nat) (pv kv : Value) (bk : Bool) (ow : Option Addr) (h : NdAt ND wr g d n pv kv bk ow) (hd9 : d < 4294967296) (hn9 : n < 4294967296) (hi : i < 32) (c : Code) (Q : Exit → Act → World → Prop) (t2 t3 t4 t5 t6 t7 t8 t9 t10 t11 t12 t13 t14 t15 t16 t17 t18 t19 t20 t21 t22 t23 t24 t25 t26 t27 t28 t29 t30 t31 t32 t33 t34 t35 t36 t37 t38 t39 t40 t41 t42 t43 t44 t45 t46 t47 t48 t49 t50 t51 t52 t53 t54 t55 t56 t57 t58 t59 t60 t61 t62 t63 t64 t65 t66 t67 t68 t69 : Value)
    (hc : (Try.f56.body.bind (findR 6)) = some c)
    (hQ : ∀ (u52 u53 u54 u55 u56 u57 u58 u59 u60 u61 u62 u63 u64 u65 u66 u67 u68 u69 : Value) (wx : World), NdAt ND wx g (clr d i) (clr n i) pv kv bk ow → Only (fun k => k = g) wr wx → Q .normal { tmps := List.toArray ((ptr g) :: (.int .i64 i) :: t2 :: t3 :: t4 :: t5 :: t6 :: t7 :: t8 :: t9 :: t10 :: t11 :: t12 :: t13 :: t14 :: t15 :: t16 :: t17 :: t18 :: t19 :: t20 :: t21 :: t22 :: t23 :: t24 :: t25 :: t26 :: t27 :: t28 :: t29 :: t30 :: t31 :: t32 :: t33 :: t34 :: t35 :: t36 :: t37 :: t38 :: t39 :: t40 :: t41 :: t42 :: t43 :: t44 :: t45 :: t46 :: t47 :: t48 :: t49 :: t50 :: t51 :: u52 :: u53 :: u54 :: u55 :: u56 :: u57 :: u58 :: u59 :: u60 :: u61 :: u62 :: u63 :: u64 :: u65 :: u66 :: u67 :: u68 :: u69 :: []), defers := [] } wx) :
    c.wp Try.prog Q { tmps := List.toArray ((ptr g) :: (.int .i64 i) :: t2 :: t3 :: t4 :: t5 :: t6 :: t7 :: t8 :: t9 :: t10 :: t11 :: t12 :: t13 :: t14 :: t15 :: t16 :: t17 :: t18 :: t19 :: t20 :: t21 :: t22 :: t23 :: t24 :: t25 :: t26 :: t27 :: t28 :: t29 :: t30 :: t31 :: t32 :: t33 :: t34 :: t35 :: t36 :: t37 :: t38 :: t39 :: t40 :: t41 :: t42 :: t43 :: t44 :: t45 :: t46 :: t47 :: t48 :: t49 :: t50 :: t51 :: t52 :: t53 :: t54 :: t55 :: t56 :: t57 :: t58 :: t59 :: t60 :: t61 :: t62 :: t63 :: t64 :: t65 :: t66 :: t67 :: t68 :: t69 :: []), defers := [] } wr := by
  change some _ = some c at hc
  cases hc
  have HQF := Lib.hid hQ
  clear hQ
  have hf := h.free
  obtain ⟨c0, c1, c2, c3, c4, c5⟩ := h.cells
  have HN := Lib.hid h
  clear h c2 c3 c4 c5
  refine wp_region_noPanic ?_
  go_region_with (first
    | (go_at_call 88; ((with_reducible refine (without_c _ d i hd9 hi).mono ?_); rintro e x1 ⟨rfl, rfl⟩))
    | (go_at_call 88; ((with_reducible refine (without_c _ n i hn9 hi).mono ?_); rintro e x1 ⟨rfl, rfl⟩)))
  all_goals
    refine NoPanic.normal ?_
    refine HQF.out _ _ _ _ _ _ _ _ _ _ _ _ _ _ _ _ _ _ _ ?_ ?_
    · first | exact (HN.out.set0 _).set1 _ | exact (HN.out.set1 _).set0 _
    · first | exact Only.drew (only_set2 wr g _ _ _ _) | exact only_set2 wr g _ _ _ _


end Go.Proofs.Ytlgnokhfioglaaa
