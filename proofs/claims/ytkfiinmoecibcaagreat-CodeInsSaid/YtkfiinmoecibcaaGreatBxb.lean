/- CodeIns: an act: two more of its kinds. -/
import Derived.Test.YtkfiinmoecibcaaGreatBxa
set_option linter.unusedVariables false
set_option linter.unusedSimpArgs false
namespace Go.Proofs.YtkfiinmoecibcaaGreat
open Go.RowKit Go.QS Go.QS.Nk
set_option linter.unusedVariables false

set_option maxRecDepth 100000 in
set_option maxHeartbeats 2000000 in
theorem ins_2 (w0 w1 : World) (g x m na CA C2 ba b o : Nat) (A2 : Option Addr) (P l : List UInt8) (e : Nat) (a : Ac9) (hg0 : w0.heap.size ≤ g) (hglt : g < x) (hxb : x < ba) (hmP : Hid (P.length ≤ 1000000000))
    (H1 : Hid (ActAt w1 ba a ∧ Two9 g x w1 P l e ∧ Ext w0 w1 ∧ x < ba)) (hab : -9223372036854775808 ≤ a.2 ∧ a.2 ≤ 9223372036854775807) (c : Code) (Q : Exit → Act → World → Prop) (t2 t3 t4 t7 t10 t11 t12 t13 t14 t15 t16 t17 t18 t19 t20 t21 t22 t23 t24 t25 t26 t27 t28 t29 t30 t31 t33 t34 t35 t36 t37 t38 t39 t40 t41 t42 t43 t44 t45 t46 t47 t48 t49 t50 t51 t52 t53 t54 t55 t56 t57 t58 t59 t60 t61 t62 t63 t64 t65 t66 t67 t68 t69 t70 t71 t72 t73 t74 t75 t76 t77 t78 t79 t80 t81 t82 t83 t84 t85 t86 t87 t88 t89 t90 t91 t92 t93 t94 t95 t96 t97 t98 t99 t100 t101 t102 t103 t104 t105 t106 t107 : Value)
    (hc : (Tryz.f3.body.bind (findB 2)) = some c)
    (hQ : ∀ (l' : List UInt8) (e' : Nat) (u10 u33 u34 u35 u36 u37 u38 u39 u40 u41 u42 u43 u44 u45 u46 u47 u48 u49 u50 u51 u52 u53 u54 u55 u56 u57 u58 u59 u60 u61 u62 u63 u64 u65 u66 u67 u68 u69 u70 u71 u72 u73 u74 u75 u76 u77 u78 u79 u80 u81 u82 u83 : Value) (wx : World), Two9 g x wx P l' e' ∧ Ext w0 wx → Q .normal { tmps := List.toArray ((.slice A2 m C2) :: (.slice (some ⟨b, o, none⟩) na CA) :: t2 :: t3 :: t4 :: (ptr g) :: (ptr x) :: t7 :: (ptr ba) :: (.bool true) :: u10 :: t11 :: t12 :: t13 :: t14 :: t15 :: t16 :: t17 :: t18 :: t19 :: t20 :: t21 :: t22 :: t23 :: t24 :: t25 :: t26 :: t27 :: t28 :: t29 :: t30 :: t31 :: (.int .u8 2) :: u33 :: u34 :: u35 :: u36 :: u37 :: u38 :: u39 :: u40 :: u41 :: u42 :: u43 :: u44 :: u45 :: u46 :: u47 :: u48 :: u49 :: u50 :: u51 :: u52 :: u53 :: u54 :: u55 :: u56 :: u57 :: u58 :: u59 :: u60 :: u61 :: u62 :: u63 :: u64 :: u65 :: u66 :: u67 :: u68 :: u69 :: u70 :: u71 :: u72 :: u73 :: u74 :: u75 :: u76 :: u77 :: u78 :: u79 :: u80 :: u81 :: u82 :: u83 :: t84 :: t85 :: t86 :: t87 :: t88 :: t89 :: t90 :: t91 :: t92 :: t93 :: t94 :: t95 :: t96 :: t97 :: t98 :: t99 :: t100 :: t101 :: t102 :: t103 :: t104 :: t105 :: t106 :: t107 :: []), defers := [] } wx) :
    c.wp Tryz.prog Q { tmps := List.toArray ((.slice A2 m C2) :: (.slice (some ⟨b, o, none⟩) na CA) :: t2 :: t3 :: t4 :: (ptr g) :: (ptr x) :: t7 :: (ptr ba) :: (.bool true) :: t10 :: t11 :: t12 :: t13 :: t14 :: t15 :: t16 :: t17 :: t18 :: t19 :: t20 :: t21 :: t22 :: t23 :: t24 :: t25 :: t26 :: t27 :: t28 :: t29 :: t30 :: t31 :: (.int .u8 2) :: t33 :: t34 :: t35 :: t36 :: t37 :: t38 :: t39 :: t40 :: t41 :: t42 :: t43 :: t44 :: t45 :: t46 :: t47 :: t48 :: t49 :: t50 :: t51 :: t52 :: t53 :: t54 :: t55 :: t56 :: t57 :: t58 :: t59 :: t60 :: t61 :: t62 :: t63 :: t64 :: t65 :: t66 :: t67 :: t68 :: t69 :: t70 :: t71 :: t72 :: t73 :: t74 :: t75 :: t76 :: t77 :: t78 :: t79 :: t80 :: t81 :: t82 :: t83 :: t84 :: t85 :: t86 :: t87 :: t88 :: t89 :: t90 :: t91 :: t92 :: t93 :: t94 :: t95 :: t96 :: t97 :: t98 :: t99 :: t100 :: t101 :: t102 :: t103 :: t104 :: t105 :: t106 :: t107 :: []), defers := [] } w1 := by
  change some _ = some c at hc
  cases hc
  have HQF := Lib.hid hQ
  clear hQ
  obtain ⟨c0, c1⟩ := H1.out.1.cells
  clear c0
  obtain ⟨s, l', e', hB⟩ := two9_text g x P l e hmP.out a.2 hab.2
  have HB := Lib.hid hB
  have HTd : Hid (Two9 g x w1.drew P l e) := Lib.hid ⟨H1.out.2.1.inn.ext (ext_drew (Ext.refl _)), H1.out.2.1.ref.ext (ext_drew (Ext.refl _)), hglt⟩
  clear hB
  repeat' (go_not_at_region 17; (first | go_skip | go_guarded | go_step))
  go_region_held3 (fun y => y.cell? ⟨ba, 1, none⟩ = some (.int .i64 a.2))
    (first | exact k2.out.1.cells.2 | exact k1.out.1.cells.2 | exact (ActAt.one H1.out.1 (One.of_ext (ext_drew (Ext.refl w1)) (g := g)) (by omega)).cells.2 | exact H1.out.1.cells.2)
    (first
      | (go_at_call 14; refine (HB.out w1.drew HTd.out).mono ?_; rintro y w2 ⟨rfl, o2, c2⟩; have k1 : Hid (ActAt w2 ba a ∧ One g w1 w2) := Lib.hid ⟨H1.out.1.one ((One.of_ext (ext_drew (Ext.refl w1))).trans o2) (by omega), (One.of_ext (ext_drew (Ext.refl w1))).trans o2⟩; have H2 := Lib.hid c2; clear c2 o2)
      | (go_at_call 15; refine H2.out.mono ?_; rintro y w3 ⟨rfl, o3, t3⟩; have k2 : Hid (ActAt w3 ba a ∧ Two9 g x w3 P l' e' ∧ Ext w0 w3) := Lib.hid ⟨k1.out.1.one o3 (by omega), t3, o3.ext (k1.out.2.ext H1.out.2.2.1 hg0) (by omega)⟩; clear o3 t3))
  repeat' (first | go_skip | go_guarded | go_step)
  exact HQF.out l' e' _ _ _ _ _ _ _ _ _ _ _ _ _ _ _ _ _ _ _ _ _ _ _ _ _ _ _ _ _ _ _ _ _ _ _ _ _ _ _ _ _ _ _ _ _ _ _ _ _ _ _ _ _ k2.out.2

set_option maxRecDepth 100000 in
set_option maxHeartbeats 2000000 in
theorem ins_3 (w0 w1 : World) (g x m na CA C2 ba b o : Nat) (A2 : Option Addr) (P l : List UInt8) (e : Nat) (a : Ac9) (hg0 : w0.heap.size ≤ g) (hglt : g < x) (hxb : x < ba) (hmP : Hid (P.length ≤ 1000000000))
    (H1 : Hid (ActAt w1 ba a ∧ Two9 g x w1 P l e ∧ Ext w0 w1 ∧ x < ba)) (hab : -9223372036854775808 ≤ a.2 ∧ a.2 ≤ 9223372036854775807) (c : Code) (Q : Exit → Act → World → Prop) (t2 t3 t4 t7 t10 t11 t12 t13 t14 t15 t16 t17 t18 t19 t20 t21 t22 t23 t24 t25 t26 t27 t28 t29 t30 t31 t33 t34 t35 t36 t37 t38 t39 t40 t41 t42 t43 t44 t45 t46 t47 t48 t49 t50 t51 t52 t53 t54 t55 t56 t57 t58 t59 t60 t61 t62 t63 t64 t65 t66 t67 t68 t69 t70 t71 t72 t73 t74 t75 t76 t77 t78 t79 t80 t81 t82 t83 t84 t85 t86 t87 t88 t89 t90 t91 t92 t93 t94 t95 t96 t97 t98 t99 t100 t101 t102 t103 t104 t105 t106 t107 : Value)
    (hc : (Tryz.f3.body.bind (findB 2)) = some c)
    (hQ : ∀ (l' : List UInt8) (e' : Nat) (u10 u33 u34 u35 u36 u37 u38 u39 u40 u41 u42 u43 u44 u45 u46 u47 u48 u49 u50 u51 u52 u53 u54 u55 u56 u57 u58 u59 u60 u61 u62 u63 u64 u65 u66 u67 u68 u69 u70 u71 u72 u73 u74 u75 u76 u77 u78 u79 u80 u81 u82 u83 : Value) (wx : World), Two9 g x wx P l' e' ∧ Ext w0 wx → Q .normal { tmps := List.toArray ((.slice A2 m C2) :: (.slice (some ⟨b, o, none⟩) na CA) :: t2 :: t3 :: t4 :: (ptr g) :: (ptr x) :: t7 :: (ptr ba) :: (.bool true) :: u10 :: t11 :: t12 :: t13 :: t14 :: t15 :: t16 :: t17 :: t18 :: t19 :: t20 :: t21 :: t22 :: t23 :: t24 :: t25 :: t26 :: t27 :: t28 :: t29 :: t30 :: t31 :: (.int .u8 3) :: u33 :: u34 :: u35 :: u36 :: u37 :: u38 :: u39 :: u40 :: u41 :: u42 :: u43 :: u44 :: u45 :: u46 :: u47 :: u48 :: u49 :: u50 :: u51 :: u52 :: u53 :: u54 :: u55 :: u56 :: u57 :: u58 :: u59 :: u60 :: u61 :: u62 :: u63 :: u64 :: u65 :: u66 :: u67 :: u68 :: u69 :: u70 :: u71 :: u72 :: u73 :: u74 :: u75 :: u76 :: u77 :: u78 :: u79 :: u80 :: u81 :: u82 :: u83 :: t84 :: t85 :: t86 :: t87 :: t88 :: t89 :: t90 :: t91 :: t92 :: t93 :: t94 :: t95 :: t96 :: t97 :: t98 :: t99 :: t100 :: t101 :: t102 :: t103 :: t104 :: t105 :: t106 :: t107 :: []), defers := [] } wx) :
    c.wp Tryz.prog Q { tmps := List.toArray ((.slice A2 m C2) :: (.slice (some ⟨b, o, none⟩) na CA) :: t2 :: t3 :: t4 :: (ptr g) :: (ptr x) :: t7 :: (ptr ba) :: (.bool true) :: t10 :: t11 :: t12 :: t13 :: t14 :: t15 :: t16 :: t17 :: t18 :: t19 :: t20 :: t21 :: t22 :: t23 :: t24 :: t25 :: t26 :: t27 :: t28 :: t29 :: t30 :: t31 :: (.int .u8 3) :: t33 :: t34 :: t35 :: t36 :: t37 :: t38 :: t39 :: t40 :: t41 :: t42 :: t43 :: t44 :: t45 :: t46 :: t47 :: t48 :: t49 :: t50 :: t51 :: t52 :: t53 :: t54 :: t55 :: t56 :: t57 :: t58 :: t59 :: t60 :: t61 :: t62 :: t63 :: t64 :: t65 :: t66 :: t67 :: t68 :: t69 :: t70 :: t71 :: t72 :: t73 :: t74 :: t75 :: t76 :: t77 :: t78 :: t79 :: t80 :: t81 :: t82 :: t83 :: t84 :: t85 :: t86 :: t87 :: t88 :: t89 :: t90 :: t91 :: t92 :: t93 :: t94 :: t95 :: t96 :: t97 :: t98 :: t99 :: t100 :: t101 :: t102 :: t103 :: t104 :: t105 :: t106 :: t107 :: []), defers := [] } w1 := by
  change some _ = some c at hc
  cases hc
  have HQF := Lib.hid hQ
  clear hQ
  obtain ⟨c0, c1⟩ := H1.out.1.cells
  clear c0
  obtain ⟨n, l', e', hB⟩ := H1.out.2.1.fixed hmP.out
  have HB := Lib.hid hB
  clear hB
  repeat' (first | go_at_call 16 | go_skip | go_guarded | go_step)
  refine HB.out.mono ?_
  rintro y w2 ⟨rfl, o2, c2⟩
  have H2 := Lib.hid (And.intro o2 c2)
  clear o2 c2 HB
  go_simp
  repeat' (first | go_at_call 17 | go_skip | go_guarded | go_step)
  refine H2.out.2.mono ?_
  rintro y w3 ⟨rfl, o3, t3⟩
  have H3 : Hid (Two9 g x w3 P l' e' ∧ Ext w0 w3) := Lib.hid ⟨t3, o3.ext (H2.out.1.ext H1.out.2.2.1 hg0) (by omega)⟩
  clear o3 t3 H2
  go_simp
  repeat' (first | go_skip | go_guarded | go_step)
  exact HQF.out l' e' _ _ _ _ _ _ _ _ _ _ _ _ _ _ _ _ _ _ _ _ _ _ _ _ _ _ _ _ _ _ _ _ _ _ _ _ _ _ _ _ _ _ _ _ _ _ _ _ _ _ _ _ _ H3.out

end Go.Proofs.YtkfiinmoecibcaaGreat
