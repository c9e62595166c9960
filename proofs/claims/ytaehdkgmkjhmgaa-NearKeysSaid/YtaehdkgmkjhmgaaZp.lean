/- NearKeys: the end of its walk, as a law of its own. -/
import Derived.Test.YtaehdkgmkjhmgaaZf
import Derived.Test.YtaehdkgmkjhmgaaZm
import Derived.Test.YtaehdkgmkjhmgaaZo
import Derived.Test.YtaehdkgmkjhmgaaYr
import Derived.Test.YtaehdkgmkjhmgaaYs
namespace Go.Proofs.Ytaehdkgmkjhmgaa
open Go.RowKit Go.QS
set_option linter.unusedVariables false

def lead : Code → Option Nat
  | .region id _ _ => some id
  | .seq a _ => lead a
  | _ => none
def findS (n : Nat) : Code → Option Code
  | .region id ops d => if id = n then some (.region id ops d) else none
  | .seq a b => if lead a = some n then some (.seq a b) else match findS n a with | some c => some c | none => findS n b
  | .cond _ a b => match findS n a with | some c => some c | none => findS n b
  | .block _ b => findS n b
  | .loop b => findS n b
  | .scope b => findS n b
  | _ => none
def findR (n : Nat) : Code → Option Code
  | .region id ops d => if id = n then some (.region id ops d) else none
  | .seq a b => match findR n a with | some c => some c | none => findR n b
  | .cond _ a b => match findR n a with | some c => some c | none => findR n b
  | .block _ b => findR n b
  | .loop b => findR n b
  | .scope b => findR n b
  | _ => none

set_option maxRecDepth 100000 in
set_option maxHeartbeats 2000000 in
theorem keys_tail (w1 wr : World) (g n C : Nat) (A : Option Addr) (X : List Pr) (T : RT) (k : List UInt8) (hkl : k.length ≤ 40) (hXl : n ≤ 40) (Hn : Hid (n = X.length))
    (HT : Hid (Rise X ∧ (∀ p ∈ X, p.1.length ≤ 40) ∧ T.prs = X ∧ Kd 40 T.kids ∧ T.lab = [] ∧ T.prs.length ≤ 1000000 ∧ Rise T.prs))
    (H1 : Hid (True ∧ (∀ x, Ext w1 x → RepO x (ptr g) T) ∧ (∀ x, Ext w1 x → PS x (.slice A n C) X))) (HI : Hid (Ext w1 wr)) (c d : Code) (K : Act → World → Prop) (Q : Exit → Act → World → Prop) (t0 t2 t3 t4 t7 t8 t9 t10 t11 t12 t13 t14 t15 t16 t17 t18 t19 t20 t21 t22 t23 t24 t25 t26 t27 t28 t29 t30 t31 t32 t33 t34 t35 t36 t37 t38 t39 t40 t41 t42 t43 t44 t45 t46 t47 t48 t49 t50 t51 t52 t53 t54 t55 t56 t57 t58 t59 t60 t61 t62 t63 t64 t65 t66 t67 t68 t69 t70 t71 t72 t73 t74 t75 t76 : Value)
    (hc : (Try.f13.body.bind (findR 13)) = some c) (hd : (Try.f13.body.bind (findS 14)) = some d)
    (hK : ∀ a w, d.wp Try.prog Q a w → K a w)
    (hQ : ∀ (a : Act) (wx : World), a.defers = [] → a.tmps.getD 4 undef = .bool true → Ext w1 wx → Q .ret a wx) :
    c.wp Try.prog (Exit.then K Q) { tmps := #[t0, str k, t2, t3, t4, ptr g, .slice A n C, t7, t8, t9, t10, t11, t12, t13, t14, t15, t16, t17, t18, t19, t20, t21, t22, t23, t24, t25, t26, t27, t28, t29, t30, t31, t32, t33, t34, t35, t36, t37, t38, t39, t40, t41, t42, t43, t44, t45, t46, t47, t48, t49, t50, t51, t52, t53, t54, t55, t56, t57, t58, t59, t60, t61, t62, t63, t64, t65, t66, t67, t68, t69, t70, t71, t72, t73, t74, t75, t76], defers := [] } wr := by
  change some _ = some c at hc
  cases hc
  change some _ = some d at hd
  cases hd
  have HQF := Lib.hid hQ
  clear hQ
  repeat' (first | go_at_call 41 | go_skip | go_guarded | go_step)
  refine (longest_c wr (ptr g) T 40 k (H1.out.2.1 wr HI.out) HT.out.2.2.2.1 HT.out.2.2.2.2.1 (by decide) (by omega)).mono ?_
  rintro e x1 ⟨rfl, f1⟩
  rw [HT.out.2.2.1]
  obtain ⟨ra, rv, rc, hlit⟩ := optR_lit (longL k X)
  rw [hlit]
  have HQ := Lib.hid hlit
  have F1 := Lib.hid (Ext.trans HI.out f1)
  clear hlit f1
  go_simp
  repeat' (first | go_at_call 52 | go_skip | go_guarded | go_step)
  obtain ⟨y1, hy1⟩ : ∃ y1, y1 = x1.alloc (.cells #[str ra, str rv] 29) := ⟨_, rfl⟩
  obtain ⟨b1, hb1⟩ : ∃ b1, b1 = x1.heap.size := ⟨_, rfl⟩
  have hE1 : Ext x1 y1 := by rw [hy1]; exact (Ext.refl _).alloc (Nat.le_refl _) _
  have hbx1 := heap_new x1 (.cells #[str ra, str rv] 29)
  rw [← hy1, ← hb1] at hbx1
  have hy1' := hy1.symm
  rw [hy1', ← hb1]
  have HY1 : Hid (Ext w1 y1 ∧ y1.heap[b1]? = some (.cells #[str ra, str rv] 29 (0, 0))) := Lib.hid ⟨Ext.trans F1.out hE1, hbx1⟩
  clear hy1 hb1 hE1 hbx1 hy1'
  refine (longest12_c y1 _ X k (H1.out.2.2 y1 HY1.out.1) HT.out.1 (by have := Hn.out; omega) (fun p hp => by have := HT.out.2.1 p hp; omega) (by omega)).mono ?_
  rintro e x2 ⟨rfl, f2⟩
  rw [HQ.out]
  have hb2 := bx_ext HY1.out.2 f2
  obtain ⟨k0, k1⟩ := bx_cells hb2
  have hbl := heap_lt hb2
  have F2 := Lib.hid (Ext.trans HY1.out.1 f2)
  clear f2 hb2
  go_simp
  repeat' (first | go_at_call 44 | go_skip | go_guarded | go_step)
  refine (same_c _ ra rv rc).mono ?_
  rintro e x3 ⟨rfl, f3⟩
  have F3 := Lib.hid (Ext.trans (F2.out.alloc F2.out.size _) f3)
  clear f3 k0 k1
  go_simp
  repeat' (first | go_at_call 45 | go_skip | go_guarded | go_step)
  refine (rank_c x3 (ptr g) T 40 k (H1.out.2.1 x3 F3.out) HT.out.2.2.2.1 (by decide) (by omega) HT.out.2.2.2.2.2.1).mono ?_
  rintro e x4 ⟨rfl, f4⟩
  rw [HT.out.2.2.1]
  have F4 := Lib.hid (Ext.trans F3.out f4)
  clear f4
  go_simp
  repeat' (first | go_at_call 53 | go_skip | go_guarded | go_step)
  refine (rank12_c x4 _ X k (H1.out.2.2 x4 F4.out) (by have := Hn.out; omega) (fun p hp => by have := HT.out.2.1 p hp; omega)).mono ?_
  rintro e x5 ⟨rfl, f5⟩
  have F5 := Lib.hid (Ext.trans F4.out f5)
  have hee : ((rankL k X : Int) == (rankL k X : Int)) = true := by simp
  clear f5
  go_simp
  repeat' (first | go_skip | go_guarded | go_step)
  exact HQF.out _ _ rfl rfl F5.out

end Go.Proofs.Ytaehdkgmkjhmgaa
