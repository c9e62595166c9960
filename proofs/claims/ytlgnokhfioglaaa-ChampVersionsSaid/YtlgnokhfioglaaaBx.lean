/- Texts joined. -/
import Derived.Test.YtlgnokhfioglaaaBw
import Derived.Deep.RegionHeld3
import Derived.Deep.LoopGhost
set_option linter.unusedVariables false
set_option linter.unusedSimpArgs false
/- ChampVersions: a version less a pair: a law of its own. -/
namespace Go.Proofs.Ytlgnokhfioglaaa
open Go.RowKit Go.QS Go.QS.Nk
set_option linter.unusedVariables false

set_option maxRecDepth 100000 in
set_option maxHeartbeats 2000000 in
theorem ver6_11 (W wr : World) (gh : Nat) (h : Hs) (hk : h.Ok) (gr gl n rc lc k g gp : Nat) (gs : List Nat) (us : List Value) (u : Value) (p : Pr) (H : Hid (Vers6 W wr gh h (.slice (some ⟨gr, 0, none⟩) n rc) (.slice (some ⟨gl, 0, none⟩) n lc) gs us ∧ gs[k]? = some g ∧ us[k]? = some u ∧ PrAt wr gp p)) (hn : n = gs.length) (hn9 : n ≤ 100) (hp : p.1.length ≤ 40 ∧ p.2.length ≤ 40) (c d : Code) (K : Act → World → Prop) (Q : Exit → Act → World → Prop) (t0 t1 t3 t4 t7 t8 t11 t12 t13 t14 t15 t16 t17 t18 t19 t20 t21 t22 t23 t24 t25 t26 t27 t28 t29 t30 t31 t32 t33 t34 t35 t36 t37 t38 t39 t40 t41 t42 t43 t44 t45 t46 t47 t48 t49 t50 t51 t52 t53 t54 t55 t56 t57 t58 t59 t60 t61 t62 t63 t64 t65 t66 t67 t68 t69 t70 t71 t72 t73 t74 t75 t76 t77 t78 t79 t80 t81 t82 t83 t84 t85 t86 t87 t88 t89 t90 t91 t92 t93 t94 t95 t96 t97 t98 t99 t100 t101 t102 t103 t104 t105 t106 t107 t108 : Value)
    (hc : (Try.f8.body.bind (findR 11)) = some c) (hd : (Try.f8.body.bind (findS 12)) = some d)
    (hK : ∀ a w, d.wp Try.prog Q a w → K a w)
    (hQ : ∀ (g1 : Nat) (u1 v3 v4 : Value) (u11 u12 u43 u44 u45 u46 u47 u48 u49 u50 u51 u52 u53 u54 u55 u56 u57 u58 u59 u60 u61 u62 u63 u64 u65 u66 u67 : Value) (wx : World), Vers6 W wx gh h v3 v4 (gs ++ [g1]) (us ++ [u1]) → Q .normal { tmps := List.toArray (t0 :: t1 :: (ptr gh) :: t3 :: t4 :: v3 :: v4 :: t7 :: t8 :: (.int .i64 k) :: (ptr gp) :: u11 :: u12 :: t13 :: t14 :: t15 :: t16 :: t17 :: t18 :: t19 :: t20 :: t21 :: t22 :: t23 :: t24 :: t25 :: t26 :: t27 :: t28 :: t29 :: t30 :: t31 :: t32 :: t33 :: t34 :: t35 :: t36 :: t37 :: t38 :: t39 :: t40 :: t41 :: t42 :: u43 :: u44 :: u45 :: u46 :: u47 :: u48 :: u49 :: u50 :: u51 :: u52 :: u53 :: u54 :: u55 :: u56 :: u57 :: u58 :: u59 :: u60 :: u61 :: u62 :: u63 :: u64 :: u65 :: u66 :: u67 :: t68 :: t69 :: t70 :: t71 :: t72 :: t73 :: t74 :: t75 :: t76 :: t77 :: t78 :: t79 :: t80 :: t81 :: t82 :: t83 :: t84 :: t85 :: t86 :: t87 :: t88 :: t89 :: t90 :: t91 :: t92 :: t93 :: t94 :: t95 :: t96 :: t97 :: t98 :: t99 :: t100 :: t101 :: t102 :: t103 :: t104 :: t105 :: t106 :: t107 :: t108 :: []), defers := [] } wx) :
    c.wp Try.prog (Exit.then K Q) { tmps := List.toArray (t0 :: t1 :: (ptr gh) :: t3 :: t4 :: (.slice (some ⟨gr, 0, none⟩) n rc) :: (.slice (some ⟨gl, 0, none⟩) n lc) :: t7 :: t8 :: (.int .i64 k) :: (ptr gp) :: t11 :: t12 :: t13 :: t14 :: t15 :: t16 :: t17 :: t18 :: t19 :: t20 :: t21 :: t22 :: t23 :: t24 :: t25 :: t26 :: t27 :: t28 :: t29 :: t30 :: t31 :: t32 :: t33 :: t34 :: t35 :: t36 :: t37 :: t38 :: t39 :: t40 :: t41 :: t42 :: t43 :: t44 :: t45 :: t46 :: t47 :: t48 :: t49 :: t50 :: t51 :: t52 :: t53 :: t54 :: t55 :: t56 :: t57 :: t58 :: t59 :: t60 :: t61 :: t62 :: t63 :: t64 :: t65 :: t66 :: t67 :: t68 :: t69 :: t70 :: t71 :: t72 :: t73 :: t74 :: t75 :: t76 :: t77 :: t78 :: t79 :: t80 :: t81 :: t82 :: t83 :: t84 :: t85 :: t86 :: t87 :: t88 :: t89 :: t90 :: t91 :: t92 :: t93 :: t94 :: t95 :: t96 :: t97 :: t98 :: t99 :: t100 :: t101 :: t102 :: t103 :: t104 :: t105 :: t106 :: t107 :: t108 :: []), defers := [] } wr := by
  change some _ = some c at hc
  cases hc
  change some _ = some d at hd
  cases hd
  have HQF := Lib.hid hQ
  clear hQ
  obtain ⟨c0, c1⟩ := H.out.2.2.2.cells
  obtain ⟨d0, d1, d2⟩ := H.out.1.hs.cells
  obtain ⟨X, rT, oT, pX, lX⟩ := H.out.1.has k g u H.out.2.1 H.out.2.2.1
  obtain ⟨hu1, hu2⟩ := sl_one pX
  have hgl := H.out.1.len
  have hkl : k < gs.length := (List.getElem?_eq_some_iff.1 H.out.2.1).1
  have hpl : (ptrs gs).length = n := by rw [ptrs_length, hn]
  have hun : us.length = n := by omega
  have hz3 := H.out.1.roots
  have hz4 := H.out.1.lists
  rw [← hpl] at hz3
  rw [← hun] at hz4
  have hB : Hid (wr.cell? ⟨gr, k, none⟩ = some (ptr g) ∧ wr.cell? ⟨gp, 0, none⟩ = some (str p.1) ∧ wr.cell? ⟨gp, 1, none⟩ = some (str p.2) ∧ wr.cell? ⟨gh, 0, none⟩ = some (.int .u64 h.k0) ∧ wr.cell? ⟨gh, 1, none⟩ = some (.int .u64 h.k1) ∧ wr.cell? ⟨gh, 2, none⟩ = some (.int .u64 h.mask)) := Lib.hid ⟨hz3.get (ptrs_get H.out.2.1), c0, c1, d0, d1, d2⟩
  have hL : Hid (wr.cell? ⟨gl, k, none⟩ = some u) := Lib.hid (hz4.get H.out.2.2.1)
  have hX9 : X.length ≤ 1000 := by omega
  have HC : Hid (∀ j, Calls Try.prog 41 #[hsV h, nil0, ptr g, str p.1] (wr.drewN j) fun e w' => ∃ g' b, e = .returned (.tuple #[ptr g', .bool b]) ∧ Ext (wr.drewN j) w' ∧ TR ND h.hash w' 13 g' (rdrop X p.1)) := Lib.hid (fun j => (cdrop6 hk (St6.mk (H.out.1.hs.ext (below_drewN (Ext.refl _) j)) (TR.ext (below_drewN (Ext.refl _) j) 13 rT) oT (pX.below (below_drewN (Ext.refl _) j))) p.1 hX9 hp.1).mono fun e w' hh => by obtain ⟨g', a, b, c, _⟩ := hh; exact ⟨g', _, a, b, c⟩)
  have HX : Hid (PS wr u X ∧ X.length + 1 ≤ gs.length ∧ OkL (rdrop X p.1)) := Lib.hid ⟨pX, lX, oT.drop p.1⟩
  have hki : (k : Int) < (n : Int) := by omega
  have hp9 : (ptrs gs).length ≤ 100 := by omega
  have hu9 : us.length ≤ 100 := by omega
  obtain ⟨q1, q2, q3, q4, q5, q6⟩ := hB.out
  clear hz3 hz4 rT oT pX lX c0 c1 d0 d1 d2 hn hgl hun hpl
  repeat' (go_not_at_region 11; (first | go_skip | go_guarded | go_step))
  go_region_held3 (fun w' => w'.cell? ⟨gr, k, none⟩ = some (ptr g) ∧ w'.cell? ⟨gp, 0, none⟩ = some (str p.1) ∧ w'.cell? ⟨gp, 1, none⟩ = some (str p.2) ∧ w'.cell? ⟨gh, 0, none⟩ = some (.int .u64 h.k0) ∧ w'.cell? ⟨gh, 1, none⟩ = some (.int .u64 h.k1) ∧ w'.cell? ⟨gh, 2, none⟩ = some (.int .u64 h.mask))
    (first | exact keep6c k2.out hB.out | exact keep6c (below_drewN (Ext.refl _) 1) hB.out)
    ((go_at_call 41; refine (HC.out 1).mono ?_; rintro e x2 ⟨g1, b1, rfl, f2, r2⟩; have k2 : Hid (Ext wr x2) := Lib.hid (Ext.trans (below_drewN (Ext.refl _) 1) f2); have R2 : Hid (TR ND h.hash x2 13 g1 (rdrop X p.1)) := Lib.hid r2; clear f2 r2))
  have hL2 : Hid (x2.cell? ⟨gl, k, none⟩ = some u ∧ x2.cell? ⟨gp, 0, none⟩ = some (str p.1) ∧ x2.cell? ⟨gp, 1, none⟩ = some (str p.2)) := Lib.hid ⟨keep1c k2.out hL.out, keep1c k2.out hB.out.2.1, keep1c k2.out hB.out.2.2.1⟩
  clear q1 q2 q3 q4 q5 q6
  obtain ⟨q1, q2, q3⟩ := hL2.out
  clear HC hB hL
  repeat' (go_not_at_region 12; (first | go_skip | go_guarded | go_step))
  go_region_held3 (fun w' => w'.cell? ⟨gl, k, none⟩ = some (u) ∧ w'.cell? ⟨gp, 0, none⟩ = some (str p.1) ∧ w'.cell? ⟨gp, 1, none⟩ = some (str p.2))
    (first | exact keep3c (by repeat' (first | exact Ext.refl _ | apply ext_alloc | apply ext_drew | exact below_drewN (Ext.refl _) _)) k5.out | exact keep3c (by repeat' (first | exact Ext.refl _ | apply ext_alloc | apply ext_drew | exact below_drewN (Ext.refl _) _)) k4.out | exact keep3c (by repeat' (first | exact Ext.refl _ | apply ext_alloc | apply ext_drew | exact below_drewN (Ext.refl _) _)) k3.out | exact keep3c (by repeat' (first | exact Ext.refl _ | apply ext_alloc | apply ext_drew | exact below_drewN (Ext.refl _) _)) hL2.out)
    (first
      | (refine step_appZ (W := W) (by rfl) (.tmp 54) (.tmp 56) _ (by rfl) FN NK 8 Try.underlying51 infoN _ (ptrs gs) (by rfl) (H.out.1.roots.ext (k2.out.trans (by repeat' (first | exact Ext.refl _ | apply ext_alloc | apply ext_drew | exact below_drewN (Ext.refl _) _)))) (H.out.1.ext.trans (k2.out.trans (by repeat' (first | exact Ext.refl _ | apply ext_alloc | apply ext_drew | exact below_drewN (Ext.refl _) _)))) _ 1 (ptr g1) (by rfl) (by first | exact one_new _ _ _ | exact one_newD _ _ _) (by rfl) (by unfold maxLen; omega) (by omega) ?_; intro v3 w3 z3 b3 t3 _; have k3 : Hid (w3.cell? ⟨gl, k, none⟩ = some u ∧ w3.cell? ⟨gp, 0, none⟩ = some (str p.1) ∧ w3.cell? ⟨gp, 1, none⟩ = some (str p.2)) := Lib.hid (keep3t t3 (keep3c (by repeat' (first | exact Ext.refl _ | apply ext_alloc | apply ext_drew | exact below_drewN (Ext.refl _) _)) hL2.out) hu2 (fn_str _) (fn_str _)); have Z3 : Hid (∃ x, Ext x2 x ∧ ZR FN W.heap.size NK w3 v3 (ptrs gs ++ [ptr g1]) ∧ Ext W w3 ∧ Turn FN NK x w3) := Lib.hid ⟨_, (by repeat' (first | exact Ext.refl _ | apply ext_alloc | apply ext_drew | exact below_drewN (Ext.refl _) _)), z3, b3, t3⟩; clear z3 b3 t3)
      | (go_at_call 42; have hps3 : PS w3 u X := (by obtain ⟨x, e1, _, _, t2⟩ := Z3.out; exact t2.ps (HX.out.1.below (k2.out.trans e1)) fn_str); refine (rdrop_c w3 u X p.1 hps3 (by omega)).mono ?_; rintro e w4 ⟨v5, rfl, o4, f4⟩; obtain ⟨A5, C5, rfl⟩ := own_slice' o4; have k4 := Lib.hid (keep3c f4 k3.out); have Z4 : Hid (PS w4 (.slice A5 (rdrop X p.1).length C5) (rdrop X p.1) ∧ Ext w3 w4) := Lib.hid ⟨PS.of_own o4, f4⟩; have hv1 := (sl_one (PS.of_own o4)).1; clear o4 f4 hps3)
      | (refine step_appZ (W := W) (by rfl) (.tmp 58) (.tmp 66) _ (by rfl) FL LP 24 Try.underlying90 infoL _ us (by rfl) (by obtain ⟨x, e1, _, _, t2⟩ := Z3.out; exact H.out.1.lists3 (k2.out.trans e1) t2 (Z4.out.2.trans (by repeat' (first | exact Ext.refl _ | apply ext_alloc | apply ext_drew | exact below_drewN (Ext.refl _) _)))) (by obtain ⟨x, _, _, b2, _⟩ := Z3.out; exact b2.trans (Z4.out.2.trans (by repeat' (first | exact Ext.refl _ | apply ext_alloc | apply ext_drew | exact below_drewN (Ext.refl _) _)))) _ 1 _ (by rfl) (by first | exact one_new _ _ _ | exact one_newD _ _ _) hv1 (by unfold maxLen; omega) (by omega) ?_; intro v6 w5 z5 b5 t5 h5; have k5 : Hid (w5.cell? ⟨gl, k, none⟩ = some u ∧ w5.cell? ⟨gp, 0, none⟩ = some (str p.1) ∧ w5.cell? ⟨gp, 1, none⟩ = some (str p.2)) := Lib.hid ⟨h5 _ _ _ rfl k u H.out.2.2.1, t5.cell (keep3c (by repeat' (first | exact Ext.refl _ | apply ext_alloc | apply ext_drew | exact below_drewN (Ext.refl _) _)) k4.out).2.1 (fl_str _), t5.cell (keep3c (by repeat' (first | exact Ext.refl _ | apply ext_alloc | apply ext_drew | exact below_drewN (Ext.refl _) _)) k4.out).2.2 (fl_str _)⟩; have Z5 : Hid (∃ x, Ext w4 x ∧ ZR FL W.heap.size LP w5 v6 (us ++ [.slice A5 (rdrop X p.1).length C5]) ∧ Ext W w5 ∧ Turn FL LP x w5) := Lib.hid ⟨_, (by repeat' (first | exact Ext.refl _ | apply ext_alloc | apply ext_drew | exact below_drewN (Ext.refl _) _)), z5, b5, t5⟩; clear z5 b5 t5 h5))
  have hfin : Vers6 W w5 gh h v3 v6 (gs ++ [g1]) (us ++ [.slice A5 (rdrop X p.1).length C5]) := by
    obtain ⟨x, e1, z2, b2, t2⟩ := Z3.out
    obtain ⟨y, e3, z4, b4, t4⟩ := Z5.out
    exact H.out.1.snoc (k2.out.trans e1) (TR.ext e1 13 R2.out) HX.out.2.2 z2 t2 (Z4.out.2.trans e3) (Z4.out.1.below e3) (Nat.le_trans (Nat.le_succ_of_le (rdrop_length _ _)) HX.out.2.1) z4 t4 b4
  have HV := Lib.hid hfin
  clear hfin
  repeat' (first | go_skip | go_guarded | go_step)
  exact HQF.out g1 _ v3 v6 _ _ _ _ _ _ _ _ _ _ _ _ _ _ _ _ _ _ _ _ _ _ _ _ _ _ _ _ HV.out

end Go.Proofs.Ytlgnokhfioglaaa
/- ChampVersions: a version with a pair: a law of its own. -/
namespace Go.Proofs.Ytlgnokhfioglaaa
open Go.RowKit Go.QS Go.QS.Nk
set_option linter.unusedVariables false

set_option maxRecDepth 100000 in
set_option maxHeartbeats 2000000 in
theorem ver6_13 (W wr : World) (gh : Nat) (h : Hs) (hk : h.Ok) (gr gl n rc lc k g gp : Nat) (gs : List Nat) (us : List Value) (u : Value) (p : Pr) (H : Hid (Vers6 W wr gh h (.slice (some ⟨gr, 0, none⟩) n rc) (.slice (some ⟨gl, 0, none⟩) n lc) gs us ∧ gs[k]? = some g ∧ us[k]? = some u ∧ PrAt wr gp p)) (hn : n = gs.length) (hn9 : n ≤ 100) (hp : p.1.length ≤ 40 ∧ p.2.length ≤ 40) (c d : Code) (K : Act → World → Prop) (Q : Exit → Act → World → Prop) (t0 t1 t3 t4 t7 t8 t11 t12 t13 t14 t15 t16 t17 t18 t19 t20 t21 t22 t23 t24 t25 t26 t27 t28 t29 t30 t31 t32 t33 t34 t35 t36 t37 t38 t39 t40 t41 t42 t43 t44 t45 t46 t47 t48 t49 t50 t51 t52 t53 t54 t55 t56 t57 t58 t59 t60 t61 t62 t63 t64 t65 t66 t67 t68 t69 t70 t71 t72 t73 t74 t75 t76 t77 t78 t79 t80 t81 t82 t83 t84 t85 t86 t87 t88 t89 t90 t91 t92 t93 t94 t95 t96 t97 t98 t99 t100 t101 t102 t103 t104 t105 t106 t107 t108 : Value)
    (hc : (Try.f8.body.bind (findR 13)) = some c) (hd : (Try.f8.body.bind (findS 14)) = some d)
    (hK : ∀ a w, d.wp Try.prog Q a w → K a w)
    (hQ : ∀ (g1 : Nat) (u1 v3 v4 : Value) (u13 u14 u68 u69 u70 u71 u72 u73 u74 u75 u76 u77 u78 u79 u80 u81 u82 u83 u84 u85 u86 u87 u88 u89 u90 : Value) (wx : World), Vers6 W wx gh h v3 v4 (gs ++ [g1]) (us ++ [u1]) → Q .normal { tmps := List.toArray (t0 :: t1 :: (ptr gh) :: t3 :: t4 :: v3 :: v4 :: t7 :: t8 :: (.int .i64 k) :: (ptr gp) :: t11 :: t12 :: u13 :: u14 :: t15 :: t16 :: t17 :: t18 :: t19 :: t20 :: t21 :: t22 :: t23 :: t24 :: t25 :: t26 :: t27 :: t28 :: t29 :: t30 :: t31 :: t32 :: t33 :: t34 :: t35 :: t36 :: t37 :: t38 :: t39 :: t40 :: t41 :: t42 :: t43 :: t44 :: t45 :: t46 :: t47 :: t48 :: t49 :: t50 :: t51 :: t52 :: t53 :: t54 :: t55 :: t56 :: t57 :: t58 :: t59 :: t60 :: t61 :: t62 :: t63 :: t64 :: t65 :: t66 :: t67 :: u68 :: u69 :: u70 :: u71 :: u72 :: u73 :: u74 :: u75 :: u76 :: u77 :: u78 :: u79 :: u80 :: u81 :: u82 :: u83 :: u84 :: u85 :: u86 :: u87 :: u88 :: u89 :: u90 :: t91 :: t92 :: t93 :: t94 :: t95 :: t96 :: t97 :: t98 :: t99 :: t100 :: t101 :: t102 :: t103 :: t104 :: t105 :: t106 :: t107 :: t108 :: []), defers := [] } wx) :
    c.wp Try.prog (Exit.then K Q) { tmps := List.toArray (t0 :: t1 :: (ptr gh) :: t3 :: t4 :: (.slice (some ⟨gr, 0, none⟩) n rc) :: (.slice (some ⟨gl, 0, none⟩) n lc) :: t7 :: t8 :: (.int .i64 k) :: (ptr gp) :: t11 :: t12 :: t13 :: t14 :: t15 :: t16 :: t17 :: t18 :: t19 :: t20 :: t21 :: t22 :: t23 :: t24 :: t25 :: t26 :: t27 :: t28 :: t29 :: t30 :: t31 :: t32 :: t33 :: t34 :: t35 :: t36 :: t37 :: t38 :: t39 :: t40 :: t41 :: t42 :: t43 :: t44 :: t45 :: t46 :: t47 :: t48 :: t49 :: t50 :: t51 :: t52 :: t53 :: t54 :: t55 :: t56 :: t57 :: t58 :: t59 :: t60 :: t61 :: t62 :: t63 :: t64 :: t65 :: t66 :: t67 :: t68 :: t69 :: t70 :: t71 :: t72 :: t73 :: t74 :: t75 :: t76 :: t77 :: t78 :: t79 :: t80 :: t81 :: t82 :: t83 :: t84 :: t85 :: t86 :: t87 :: t88 :: t89 :: t90 :: t91 :: t92 :: t93 :: t94 :: t95 :: t96 :: t97 :: t98 :: t99 :: t100 :: t101 :: t102 :: t103 :: t104 :: t105 :: t106 :: t107 :: t108 :: []), defers := [] } wr := by
  change some _ = some c at hc
  cases hc
  change some _ = some d at hd
  cases hd
  have HQF := Lib.hid hQ
  clear hQ
  obtain ⟨c0, c1⟩ := H.out.2.2.2.cells
  obtain ⟨d0, d1, d2⟩ := H.out.1.hs.cells
  obtain ⟨X, rT, oT, pX, lX⟩ := H.out.1.has k g u H.out.2.1 H.out.2.2.1
  obtain ⟨hu1, hu2⟩ := sl_one pX
  have hgl := H.out.1.len
  have hkl : k < gs.length := (List.getElem?_eq_some_iff.1 H.out.2.1).1
  have hpl : (ptrs gs).length = n := by rw [ptrs_length, hn]
  have hun : us.length = n := by omega
  have hz3 := H.out.1.roots
  have hz4 := H.out.1.lists
  rw [← hpl] at hz3
  rw [← hun] at hz4
  have hB : Hid (wr.cell? ⟨gr, k, none⟩ = some (ptr g) ∧ wr.cell? ⟨gp, 0, none⟩ = some (str p.1) ∧ wr.cell? ⟨gp, 1, none⟩ = some (str p.2) ∧ wr.cell? ⟨gh, 0, none⟩ = some (.int .u64 h.k0) ∧ wr.cell? ⟨gh, 1, none⟩ = some (.int .u64 h.k1) ∧ wr.cell? ⟨gh, 2, none⟩ = some (.int .u64 h.mask)) := Lib.hid ⟨hz3.get (ptrs_get H.out.2.1), c0, c1, d0, d1, d2⟩
  have hL : Hid (wr.cell? ⟨gl, k, none⟩ = some u) := Lib.hid (hz4.get H.out.2.2.1)
  have hX9 : X.length ≤ 1000 := by omega
  have HC : Hid (∀ j, Calls Try.prog 43 #[hsV h, nil0, ptr g, prV p] (wr.drewN j) fun e w' => ∃ g' b, e = .returned (.tuple #[ptr g', .bool b]) ∧ Ext (wr.drewN j) w' ∧ TR ND h.hash w' 13 g' (rput X p)) := Lib.hid (fun j => (cput6 hk (St6.mk (H.out.1.hs.ext (below_drewN (Ext.refl _) j)) (TR.ext (below_drewN (Ext.refl _) j) 13 rT) oT (pX.below (below_drewN (Ext.refl _) j))) p hX9 hp).mono fun e w' hh => by obtain ⟨g', a, b, c, _⟩ := hh; exact ⟨g', _, a, b, c⟩)
  have HX : Hid (PS wr u X ∧ X.length + 1 ≤ gs.length ∧ OkL (rput X p)) := Lib.hid ⟨pX, lX, oT.put hp⟩
  have hki : (k : Int) < (n : Int) := by omega
  have hp9 : (ptrs gs).length ≤ 100 := by omega
  have hu9 : us.length ≤ 100 := by omega
  obtain ⟨q1, q2, q3, q4, q5, q6⟩ := hB.out
  clear hz3 hz4 rT oT pX lX c0 c1 d0 d1 d2 hn hgl hun hpl
  repeat' (go_not_at_region 13; (first | go_skip | go_guarded | go_step))
  go_region_held3 (fun w' => w'.cell? ⟨gr, k, none⟩ = some (ptr g) ∧ w'.cell? ⟨gp, 0, none⟩ = some (str p.1) ∧ w'.cell? ⟨gp, 1, none⟩ = some (str p.2) ∧ w'.cell? ⟨gh, 0, none⟩ = some (.int .u64 h.k0) ∧ w'.cell? ⟨gh, 1, none⟩ = some (.int .u64 h.k1) ∧ w'.cell? ⟨gh, 2, none⟩ = some (.int .u64 h.mask))
    (first | exact keep6c k2.out hB.out | exact keep6c (below_drewN (Ext.refl _) 1) hB.out)
    ((go_at_call 43; refine (HC.out 1).mono ?_; rintro e x2 ⟨g1, b1, rfl, f2, r2⟩; have k2 : Hid (Ext wr x2) := Lib.hid (Ext.trans (below_drewN (Ext.refl _) 1) f2); have R2 : Hid (TR ND h.hash x2 13 g1 (rput X p)) := Lib.hid r2; clear f2 r2))
  have hL2 : Hid (x2.cell? ⟨gl, k, none⟩ = some u ∧ x2.cell? ⟨gp, 0, none⟩ = some (str p.1) ∧ x2.cell? ⟨gp, 1, none⟩ = some (str p.2)) := Lib.hid ⟨keep1c k2.out hL.out, keep1c k2.out hB.out.2.1, keep1c k2.out hB.out.2.2.1⟩
  clear q1 q2 q3 q4 q5 q6
  obtain ⟨q1, q2, q3⟩ := hL2.out
  clear HC hB hL
  repeat' (go_not_at_region 14; (first | go_skip | go_guarded | go_step))
  go_region_held3 (fun w' => w'.cell? ⟨gl, k, none⟩ = some (u) ∧ w'.cell? ⟨gp, 0, none⟩ = some (str p.1) ∧ w'.cell? ⟨gp, 1, none⟩ = some (str p.2))
    (first | exact keep3c (by repeat' (first | exact Ext.refl _ | apply ext_alloc | apply ext_drew | exact below_drewN (Ext.refl _) _)) k5.out | exact keep3c (by repeat' (first | exact Ext.refl _ | apply ext_alloc | apply ext_drew | exact below_drewN (Ext.refl _) _)) k4.out | exact keep3c (by repeat' (first | exact Ext.refl _ | apply ext_alloc | apply ext_drew | exact below_drewN (Ext.refl _) _)) k3.out | exact keep3c (by repeat' (first | exact Ext.refl _ | apply ext_alloc | apply ext_drew | exact below_drewN (Ext.refl _) _)) hL2.out)
    (first
      | (refine step_appZ (W := W) (by rfl) (.tmp 78) (.tmp 80) _ (by rfl) FN NK 8 Try.underlying51 infoN _ (ptrs gs) (by rfl) (H.out.1.roots.ext (k2.out.trans (by repeat' (first | exact Ext.refl _ | apply ext_alloc | apply ext_drew | exact below_drewN (Ext.refl _) _)))) (H.out.1.ext.trans (k2.out.trans (by repeat' (first | exact Ext.refl _ | apply ext_alloc | apply ext_drew | exact below_drewN (Ext.refl _) _)))) _ 1 (ptr g1) (by rfl) (by first | exact one_new _ _ _ | exact one_newD _ _ _) (by rfl) (by unfold maxLen; omega) (by omega) ?_; intro v3 w3 z3 b3 t3 _; have k3 : Hid (w3.cell? ⟨gl, k, none⟩ = some u ∧ w3.cell? ⟨gp, 0, none⟩ = some (str p.1) ∧ w3.cell? ⟨gp, 1, none⟩ = some (str p.2)) := Lib.hid (keep3t t3 (keep3c (by repeat' (first | exact Ext.refl _ | apply ext_alloc | apply ext_drew | exact below_drewN (Ext.refl _) _)) hL2.out) hu2 (fn_str _) (fn_str _)); have Z3 : Hid (∃ x, Ext x2 x ∧ ZR FN W.heap.size NK w3 v3 (ptrs gs ++ [ptr g1]) ∧ Ext W w3 ∧ Turn FN NK x w3) := Lib.hid ⟨_, (by repeat' (first | exact Ext.refl _ | apply ext_alloc | apply ext_drew | exact below_drewN (Ext.refl _) _)), z3, b3, t3⟩; clear z3 b3 t3)
      | (go_at_call 44; have hps3 : PS w3 u X := (by obtain ⟨x, e1, _, _, t2⟩ := Z3.out; exact t2.ps (HX.out.1.below (k2.out.trans e1)) fn_str); refine (rput_c w3 u X p hps3 (by omega) (by omega)).mono ?_; rintro e w4 ⟨v5, rfl, o4, f4⟩; obtain ⟨A5, C5, rfl⟩ := own_slice' o4; have k4 := Lib.hid (keep3c f4 k3.out); have Z4 : Hid (PS w4 (.slice A5 (rput X p).length C5) (rput X p) ∧ Ext w3 w4) := Lib.hid ⟨PS.of_own o4, f4⟩; have hv1 := (sl_one (PS.of_own o4)).1; clear o4 f4 hps3)
      | (refine step_appZ (W := W) (by rfl) (.tmp 82) (.tmp 89) _ (by rfl) FL LP 24 Try.underlying90 infoL _ us (by rfl) (by obtain ⟨x, e1, _, _, t2⟩ := Z3.out; exact H.out.1.lists3 (k2.out.trans e1) t2 (Z4.out.2.trans (by repeat' (first | exact Ext.refl _ | apply ext_alloc | apply ext_drew | exact below_drewN (Ext.refl _) _)))) (by obtain ⟨x, _, _, b2, _⟩ := Z3.out; exact b2.trans (Z4.out.2.trans (by repeat' (first | exact Ext.refl _ | apply ext_alloc | apply ext_drew | exact below_drewN (Ext.refl _) _)))) _ 1 _ (by rfl) (by first | exact one_new _ _ _ | exact one_newD _ _ _) hv1 (by unfold maxLen; omega) (by omega) ?_; intro v6 w5 z5 b5 t5 h5; have k5 : Hid (w5.cell? ⟨gl, k, none⟩ = some u ∧ w5.cell? ⟨gp, 0, none⟩ = some (str p.1) ∧ w5.cell? ⟨gp, 1, none⟩ = some (str p.2)) := Lib.hid ⟨h5 _ _ _ rfl k u H.out.2.2.1, t5.cell (keep3c (by repeat' (first | exact Ext.refl _ | apply ext_alloc | apply ext_drew | exact below_drewN (Ext.refl _) _)) k4.out).2.1 (fl_str _), t5.cell (keep3c (by repeat' (first | exact Ext.refl _ | apply ext_alloc | apply ext_drew | exact below_drewN (Ext.refl _) _)) k4.out).2.2 (fl_str _)⟩; have Z5 : Hid (∃ x, Ext w4 x ∧ ZR FL W.heap.size LP w5 v6 (us ++ [.slice A5 (rput X p).length C5]) ∧ Ext W w5 ∧ Turn FL LP x w5) := Lib.hid ⟨_, (by repeat' (first | exact Ext.refl _ | apply ext_alloc | apply ext_drew | exact below_drewN (Ext.refl _) _)), z5, b5, t5⟩; clear z5 b5 t5 h5))
  have hfin : Vers6 W w5 gh h v3 v6 (gs ++ [g1]) (us ++ [.slice A5 (rput X p).length C5]) := by
    obtain ⟨x, e1, z2, b2, t2⟩ := Z3.out
    obtain ⟨y, e3, z4, b4, t4⟩ := Z5.out
    exact H.out.1.snoc (k2.out.trans e1) (TR.ext e1 13 R2.out) HX.out.2.2 z2 t2 (Z4.out.2.trans e3) (Z4.out.1.below e3) (Nat.le_trans (rput_length _ _) HX.out.2.1) z4 t4 b4
  have HV := Lib.hid hfin
  clear hfin
  repeat' (first | go_skip | go_guarded | go_step)
  exact HQF.out g1 _ v3 v6 _ _ _ _ _ _ _ _ _ _ _ _ _ _ _ _ _ _ _ _ _ _ _ _ _ _ HV.out

end Go.Proofs.Ytlgnokhfioglaaa
/- ChampVersions: all versions are looked at: a law of its own. -/
namespace Go.Proofs.Ytlgnokhfioglaaa
open Go.RowKit Go.QS Go.QS.Nk
set_option linter.unusedVariables false

set_option maxRecDepth 100000 in
set_option maxHeartbeats 2000000 in
theorem ver6_16 (W wr : World) (gh : Nat) (h : Hs) (hk : h.Ok) (v3 v4 : Value) (gs : List Nat) (us : List Value) (H : Hid (Vers6 W wr gh h v3 v4 gs us)) (h0 : 0 < gs.length) (hn9 : gs.length ≤ 100) (c d : Code) (K : Act → World → Prop) (Q : Exit → Act → World → Prop) (t0 t1 t3 t4 t7 t8 t9 t10 t11 t12 t13 t14 t15 t16 t17 t18 t19 t20 t21 t22 t23 t24 t25 t26 t27 t28 t29 t30 t31 t32 t33 t34 t35 t36 t37 t38 t39 t40 t41 t42 t43 t44 t45 t46 t47 t48 t49 t50 t51 t52 t53 t54 t55 t56 t57 t58 t59 t60 t61 t62 t63 t64 t65 t66 t67 t68 t69 t70 t71 t72 t73 t74 t75 t76 t77 t78 t79 t80 t81 t82 t83 t84 t85 t86 t87 t88 t89 t90 t91 t92 t93 t94 t95 t96 t97 t98 t99 t100 t101 t102 t103 t104 t105 t106 t107 t108 : Value)
    (hc : (Try.f8.body.bind (findR 16)) = some c) (hd : (Try.f8.body.bind (findT 16)) = some d)
    (hK : ∀ a w, d.wp Try.prog Q a w → K a w)
    (hQ : ∀ (u4 u15 u92 u93 u94 u95 u96 u97 u98 u99 u100 u101 u102 u103 u104 u105 u106 u107 u108 : Value) (wx : World), Ext wr wx → Q .normal { tmps := List.toArray (t0 :: t1 :: (ptr gh) :: t3 :: u4 :: v3 :: v4 :: t7 :: t8 :: t9 :: t10 :: t11 :: t12 :: t13 :: t14 :: u15 :: t16 :: t17 :: t18 :: t19 :: t20 :: t21 :: t22 :: t23 :: t24 :: t25 :: t26 :: t27 :: t28 :: t29 :: t30 :: t31 :: t32 :: t33 :: t34 :: t35 :: t36 :: t37 :: t38 :: t39 :: t40 :: t41 :: t42 :: t43 :: t44 :: t45 :: t46 :: t47 :: t48 :: t49 :: t50 :: t51 :: t52 :: t53 :: t54 :: t55 :: t56 :: t57 :: t58 :: t59 :: t60 :: t61 :: t62 :: t63 :: t64 :: t65 :: t66 :: t67 :: t68 :: t69 :: t70 :: t71 :: t72 :: t73 :: t74 :: t75 :: t76 :: t77 :: t78 :: t79 :: t80 :: t81 :: t82 :: t83 :: t84 :: t85 :: t86 :: t87 :: t88 :: t89 :: t90 :: t91 :: u92 :: u93 :: u94 :: u95 :: u96 :: u97 :: u98 :: u99 :: u100 :: u101 :: u102 :: u103 :: u104 :: u105 :: u106 :: u107 :: u108 :: []), defers := [] } wx) :
    c.wp Try.prog (Exit.then K Q) { tmps := List.toArray (t0 :: t1 :: (ptr gh) :: t3 :: t4 :: v3 :: v4 :: t7 :: t8 :: t9 :: t10 :: t11 :: t12 :: t13 :: t14 :: t15 :: t16 :: t17 :: t18 :: t19 :: t20 :: t21 :: t22 :: t23 :: t24 :: t25 :: t26 :: t27 :: t28 :: t29 :: t30 :: t31 :: t32 :: t33 :: t34 :: t35 :: t36 :: t37 :: t38 :: t39 :: t40 :: t41 :: t42 :: t43 :: t44 :: t45 :: t46 :: t47 :: t48 :: t49 :: t50 :: t51 :: t52 :: t53 :: t54 :: t55 :: t56 :: t57 :: t58 :: t59 :: t60 :: t61 :: t62 :: t63 :: t64 :: t65 :: t66 :: t67 :: t68 :: t69 :: t70 :: t71 :: t72 :: t73 :: t74 :: t75 :: t76 :: t77 :: t78 :: t79 :: t80 :: t81 :: t82 :: t83 :: t84 :: t85 :: t86 :: t87 :: t88 :: t89 :: t90 :: t91 :: t92 :: t93 :: t94 :: t95 :: t96 :: t97 :: t98 :: t99 :: t100 :: t101 :: t102 :: t103 :: t104 :: t105 :: t106 :: t107 :: t108 :: []), defers := [] } wr := by
  change some _ = some c at hc
  cases hc
  change some _ = some d at hd
  cases hd
  have HQF := Lib.hid hQ
  clear hQ
  obtain ⟨gr, rc, gl, lc, rfl, rfl⟩ := H.out.open h0
  obtain ⟨n, hn⟩ : ∃ n, n = gs.length := ⟨_, rfl⟩
  have hul := H.out.len
  have hpl : (ptrs gs).length = n := by rw [ptrs_length, hn]
  have hun : us.length = n := by omega
  rw [← hn] at hn9 HQF ⊢
  have HV : Hid (n = gs.length ∧ us.length = n ∧ (ptrs gs).length = n ∧ Vers6 W wr gh h (.slice (some ⟨gr, 0, none⟩) n rc) (.slice (some ⟨gl, 0, none⟩) n lc) gs us) := Lib.hid ⟨hn, hun, hpl, by rw [hn]; exact H.out⟩
  clear hpl hun hul hn H h0
  repeat' (go_not_at_region 17; (first | go_skip | go_guarded | go_step))
  go_loopg [94] n (fun gk v94 wx => ∃ k : Nat, v94 = .int .i64 k ∧ k ≤ n ∧ n - k ≤ gk ∧ Hid (Ext wr wx))
  case atStart => exact ⟨0, rfl, Nat.zero_le _, by omega, Lib.hid (Ext.refl _)⟩
  case round =>
    obtain ⟨k, rfl, hin, hgk, HI⟩ := hrel
    rcases Nat.lt_or_ge k n with hlt | hge
    · have d1 : decide (k < n) = true := by simp [hlt]
      have hi1 : (k : Int) < (n : Int) := by omega
      obtain ⟨g, hg⟩ := get_of_lt gs (show k < gs.length by have := HV.out.1; omega)
      obtain ⟨u, hu⟩ := get_of_lt us (show k < us.length by have := HV.out.2.1; omega)
      have V := HV.out.2.2.2.ext' HI.out
      obtain ⟨X, rT, oT, pX, lX⟩ := V.has k g u hg hu
      have hz3 := V.roots
      have hz4 := V.lists
      rw [← HV.out.2.2.1] at hz3
      obtain ⟨d0, d01, d02⟩ := V.hs.cells
      have hX9 : X.length ≤ 100000 := by have := HV.out.1; omega
      have hB : Hid (wr.cell? ⟨gr, k, none⟩ = some (ptr g) ∧ wr.cell? ⟨gl, k, none⟩ = some u ∧ wr.cell? ⟨gh, 0, none⟩ = some (.int .u64 h.k0) ∧ wr.cell? ⟨gh, 1, none⟩ = some (.int .u64 h.k1) ∧ wr.cell? ⟨gh, 2, none⟩ = some (.int .u64 h.mask)) := Lib.hid ⟨hz3.get (ptrs_get hg), (show ZR FL W.heap.size LP wr (.slice (some ⟨gl, 0, none⟩) us.length lc) us by rw [HV.out.2.1]; exact hz4).get hu, d0, d01, d02⟩
      have HC : Hid (∀ j, Calls Try.prog 46 #[hsV h, ptr g, u] (wr.drewN j) fun e w' => e = .returned (.bool true) ∧ Ext (wr.drewN j) w') := Lib.hid (fun j => trie6_c h hk (wr.drewN j) g u X (TR.ext (below_drewN (Ext.refl _) j) 13 rT) (pX.below (below_drewN (Ext.refl _) j)) hX9 oT.keys)
      obtain ⟨q1, q2, q3, q4, q5⟩ := hB.out
      clear hz3 hz4 V rT oT pX lX hg hu hX9 d0 d01 d02
      repeat' (go_not_at_region 19; (first | go_skip | go_guarded | go_step))
      go_region_held3 (fun w' => w'.cell? ⟨gr, k, none⟩ = some (ptr g) ∧ w'.cell? ⟨gl, k, none⟩ = some u ∧ w'.cell? ⟨gh, 0, none⟩ = some (.int .u64 h.k0) ∧ w'.cell? ⟨gh, 1, none⟩ = some (.int .u64 h.k1) ∧ w'.cell? ⟨gh, 2, none⟩ = some (.int .u64 h.mask))
        (first | exact keep5c k2.out hB.out | exact keep5c (below_drewN (Ext.refl _) 1) hB.out)
        ((go_at_call 46; refine (HC.out 1).mono ?_; rintro e x2 ⟨rfl, f2⟩; have k2 : Hid (Ext wr x2) := Lib.hid (Ext.trans (below_drewN (Ext.refl _) 1) f2); clear f2))
      repeat' (first | go_skip | go_guarded | go_step)
      go_roundg (n - (k + 1))
      case measure => omega
      case rel => exact ⟨k + 1, by go_num, by omega, Nat.le_refl _, Lib.hid (HI.out.trans k2.out)⟩
    · obtain rfl : k = n := by omega
      have d1 : decide (k < k) = false := by simp
      repeat' (first | go_skip | go_guarded | go_step)
      exact HQF.out _ _ _ _ _ _ _ _ _ _ _ _ _ _ _ _ _ _ _ _ HI.out

end Go.Proofs.Ytlgnokhfioglaaa
