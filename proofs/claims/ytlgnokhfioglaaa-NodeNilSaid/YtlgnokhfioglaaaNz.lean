/- SetKid's region that stores in place: a law of its own. -/
import Derived.Test.YtlgnokhfioglaaaNw
namespace Go.Proofs.Ytlgnokhfioglaaa
open Go.RowKit Go.QS Go.QS.Nk
set_option linter.unusedVariables false

theorem keep2s {w : World} {c b i : Nat} {v u1 u2 : Value} (h : w.cell? ⟨c, 1, none⟩ = some u1 ∧ w.cell? ⟨c, 3, none⟩ = some u2) (h1 : b ≠ c) :
    (w.setCell ⟨b, i, none⟩ v).cell? ⟨c, 1, none⟩ = some u1 ∧ (w.setCell ⟨b, i, none⟩ v).cell? ⟨c, 3, none⟩ = some u2 :=
  ⟨(World.cell?_setCell_other _ _ _ _ (by intro e; simp only [Addr.mk.injEq] at e; omega)).trans h.1, (World.cell?_setCell_other _ _ _ _ (by intro e; simp only [Addr.mk.injEq] at e; omega)).trans h.2⟩

set_option maxRecDepth 100000 in
set_option maxHeartbeats 2000000 in
theorem setk_7 (base : Nat) (wr : World) (cn g i q : Nat) (sl : List (Slot Nat)) (ow : Option Addr) (pv kv : Value) (H : Hid (InO base wr cn sl ow pv kv ∧ sl[i]? = some (.kid q))) (c : Code) (Q : Exit → Act → World → Prop) (t0 t1 t4 t5 t6 t7 t8 t10 t11 t12 t13 t14 t15 t16 t17 t18 t19 t20 t21 t22 t23 t24 t25 t26 t27 t28 t29 t30 t31 t32 t33 t34 t35 t36 t37 t38 t39 t40 t41 t42 t43 t44 t45 t46 t47 t48 t49 t50 t51 t52 t53 t54 t55 t56 t57 t58 t59 t60 t61 t62 t63 t64 t65 t66 t67 t68 t69 t70 t71 t72 t73 t74 t75 t76 t77 t78 t79 t80 t81 : Value)
    (hc : (Try.f25.body.bind (findR 7)) = some c)
    (hQ : ∀ (u31 u32 u33 u34 u35 u36 u37 u38 u39 u40 u41 u42 u43 u44 : Value) (wx : World), InO base wx cn (sl.set i (.kid g)) ow pv kv → Only (fun k => k = cn ∨ pv.ownBlock = some k ∨ kv.ownBlock = some k) wr wx → Q .normal { tmps := List.toArray (t0 :: t1 :: (.int .i64 i) :: (ptr g) :: t4 :: t5 :: t6 :: t7 :: t8 :: (ptr cn) :: t10 :: t11 :: t12 :: t13 :: t14 :: t15 :: t16 :: t17 :: t18 :: t19 :: t20 :: t21 :: t22 :: t23 :: t24 :: t25 :: t26 :: t27 :: t28 :: t29 :: t30 :: u31 :: u32 :: u33 :: u34 :: u35 :: u36 :: u37 :: u38 :: u39 :: u40 :: u41 :: u42 :: u43 :: u44 :: t45 :: t46 :: t47 :: t48 :: t49 :: t50 :: t51 :: t52 :: t53 :: t54 :: t55 :: t56 :: t57 :: t58 :: t59 :: t60 :: t61 :: t62 :: t63 :: t64 :: t65 :: t66 :: t67 :: t68 :: t69 :: t70 :: t71 :: t72 :: t73 :: t74 :: t75 :: t76 :: t77 :: t78 :: t79 :: t80 :: t81 :: []), defers := [] } wx) :
    c.wp Try.prog Q { tmps := List.toArray (t0 :: t1 :: (.int .i64 i) :: (ptr g) :: t4 :: t5 :: t6 :: t7 :: t8 :: (ptr cn) :: t10 :: t11 :: t12 :: t13 :: t14 :: t15 :: t16 :: t17 :: t18 :: t19 :: t20 :: t21 :: t22 :: t23 :: t24 :: t25 :: t26 :: t27 :: t28 :: t29 :: t30 :: t31 :: t32 :: t33 :: t34 :: t35 :: t36 :: t37 :: t38 :: t39 :: t40 :: t41 :: t42 :: t43 :: t44 :: t45 :: t46 :: t47 :: t48 :: t49 :: t50 :: t51 :: t52 :: t53 :: t54 :: t55 :: t56 :: t57 :: t58 :: t59 :: t60 :: t61 :: t62 :: t63 :: t64 :: t65 :: t66 :: t67 :: t68 :: t69 :: t70 :: t71 :: t72 :: t73 :: t74 :: t75 :: t76 :: t77 :: t78 :: t79 :: t80 :: t81 :: []), defers := [] } wr := by
  change some _ = some c at hc
  cases hc
  have HQF := Lib.hid hQ
  clear hQ
  have hO := H.out.1
  have hs := H.out.2
  have hi : i < 32 := by have := get_lt hs; rw [hO.1] at this; exact this
  obtain ⟨n, hd⟩ : ∃ n, n = nodesOf sl := ⟨_, rfl⟩
  have hd9 : n < 4294967296 := by rw [hd]; exact bits32 _ hO.1
  have h2 := hO.2
  rw [← hd] at h2
  obtain ⟨c0, c1, c2, c3, c4, c5⟩ := h2.node.cells
  obtain ⟨r, hr⟩ : ∃ r, r = rkK sl i := ⟨_, rfl⟩
  have HB : Hid (rnk n i = r) := Lib.hid (by rw [hd, hr]; exact rk_nodes (by rw [hO.1]; decide) i)
  have hp32 := kdsOf_len sl
  rw [hO.1] at hp32
  have hne : kv.ownBlock ≠ some cn := own_block_ne h2.kids h2.node (by decide)
  have hat := kds_at hs
  rw [← hr] at hat
  have hrl : r < (kdsOf sl).length := (List.getElem?_eq_some_iff.1 hat).1
  rcases h2.kids.2 with ⟨_, h0⟩ | ⟨b, cap, cur, rfl, hbb, hbh, hbn, hbc, hbs, hbt⟩
  · omega
  obtain ⟨m, hm⟩ : ∃ m, m = (kdsOf sl).length := ⟨_, rfl⟩
  have hbc' : b ≠ cn := fun e => hne (by rw [e]; rfl)
  have hrow0 : (wr.cell? ⟨b, r, none⟩).isSome = true := by rw [seg_of_heap hbh, Array.getElem?_eq_getElem (by omega)]; rfl
  obtain ⟨u0, hu0⟩ := Option.isSome_iff_exists.1 hrow0
  have HF : Hid (∀ x, Ext wr x → ∀ j, x.frozen? ⟨b, j, none⟩ = false) := Lib.hid (fun x f j => by simp [World.frozen?, (f.block b (heap_lt hbh)).trans hbh])
  have HU := Lib.hid hu0
  have HK := Lib.hid (And.intro c1 c3)
  have HR : Hid (∀ x, Ext wr x → InO base (x.setCell ⟨b, r, none⟩ (ptr g)) cn (sl.set i (.kid g)) ow pv (.slice (some ⟨b, 0, none⟩) (kdsOf sl).length cap)) := Lib.hid (fun x f => by
    refine ⟨by rw [List.length_set]; exact H.out.1.1, ?_⟩
    have hx := H.out.1.2.ext f
    have hxb : x.heap[b]? = some (.cells cur NK (0, 0)) := (f.block b (heap_lt hbh)).trans hbh
    have ed : dataOf (sl.set i (.kid g)) = dataOf sl := bits_set_same Slot.isP H.out.2 (s := .kid g) rfl
    have en : nodesOf (sl.set i (.kid g)) = nodesOf sl := bits_set_same Slot.isK H.out.2 (s := .kid g) rfl
    rw [ed, en, kds_set_kk H.out.2, prs_set_nn H.out.2 rfl (s := .kid g) rfl, ← hr]
    refine ⟨?_, ?_, ?_⟩
    · exact (Below.heap_setCell _ _ _ cn (fun e => hbc' e.symm)).trans hx.node
    · exact own_other hx.pairs hxb (by decide) _ _
    · rw [show ptrs ((kdsOf sl).set r g) = (ptrs (kdsOf sl)).set r (ptr g) by simp [ptrs, List.map_set], List.length_set]
      exact (World.ownsRow.stored hx.kids r (ptr g)).1)
  have hri : (r : Int) < (m : Int) := by omega
  have hr0 : (0 : Int) ≤ (r : Int) := by omega
  have HN := Lib.hid (And.intro hm hbc')
  rw [← hm] at HR HQF hp32 hbn HK
  clear hO hs hd h2 c0 c2 c4 c5 hr hat hrl hne hbh hbs hbt hrow0 hu0 c1 c3 hm
  obtain ⟨c1, c3⟩ := HK.out
  go_region_held3 (fun w' => w'.cell? ⟨cn, 1, none⟩ = some (.int .u32 n) ∧ w'.cell? ⟨cn, 3, none⟩ = some (.slice (some ⟨b, 0, none⟩) m cap))
    (first | exact keep2s (keep2n k1.out HK.out) HN.out.2 | exact keep2n k1.out HK.out | exact keep2n (by repeat' (first | exact Ext.refl _ | apply ext_alloc | apply ext_drew | exact below_drewN (Ext.refl _) _)) HK.out)
    ((go_at_call 55; refine (rank_c _ n i hd9 hi).mono ?_; rintro e x1 ⟨rfl, f1⟩; rw [HB.out]; have k1 : Hid (Ext wr x1) := Lib.hid (Ext.trans (by repeat' (first | exact Ext.refl _ | apply ext_alloc | apply ext_drew | exact below_drewN (Ext.refl _) _)) f1); have v0 := Ext.cell' k1.out HU.out; have vf := HF.out x1 k1.out; clear f1))
  refine HQF.out _ _ _ _ _ _ _ _ _ _ _ _ _ _ _ ?_ ?_
  · exact HR.out x1 k1.out
  · exact (Only.of_ext k1.out).setCell (p := ⟨b, r, none⟩) (.inl (.inr (.inr rfl))) _

end Go.Proofs.Ytlgnokhfioglaaa
