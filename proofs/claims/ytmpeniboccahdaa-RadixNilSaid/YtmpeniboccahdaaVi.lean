/- RadixNil: its great region, as a law of its own. -/
import Derived.Test.YtmpeniboccahdaaMh
namespace Go.Proofs.Ytmpeniboccahdaa
open Go.RowKit Go.QS
set_option linter.unusedVariables false

theorem cutP_short (p : Pr) : (cutP p).1.length ≤ 40 ∧ (cutP p).2.length ≤ 40 := by simp [cutP]; omega

/-- A pair's box, and that all that stood still stands. -/
def Box (w : World) (g : Nat) (p : Pr) : Prop := w.heap[g]? = some (.cells #[str p.1, str p.2] 24 (0, 0))
theorem Box.ext {w w' : World} {g : Nat} {p : Pr} (h : Box w g p) (f : Ext w w') : Box w' g p := box_ext h f
theorem Box.cells {w : World} {g : Nat} {p : Pr} (h : Box w g p) : w.cell? ⟨g, 0, none⟩ = some (str p.1) ∧ w.cell? ⟨g, 1, none⟩ = some (str p.2) := box_cells h

def lead : Code → Option Nat
  | .region id _ _ => some id
  | .seq a _ => lead a
  | _ => none
def findS (n : Nat) : Code → Option Code
  | .region id ops d => if id = n then some (.region id ops d) else none
  | .seq a b => if lead a = some n then some (.seq a b) else match findS n a with | some c => some c | none => findS n b
  | .cond _ a b => match findS n a with | some c => some c | none => findS n b
  | .block _ b => findS n b
  | .loop b => findS n b
  | .scope b => findS n b
  | _ => none
def findR (n : Nat) : Code → Option Code
  | .region id ops d => if id = n then some (.region id ops d) else none
  | .seq a b => match findR n a with | some c => some c | none => findR n b
  | .cond _ a b => match findR n a with | some c => some c | none => findR n b
  | .block _ b => findR n b
  | .loop b => findR n b
  | .scope b => findR n b
  | _ => none

set_option maxRecDepth 100000 in
set_option maxHeartbeats 2000000 in
theorem nil_r10 (wr : World) (g g4 g5 : Nat) (T4 T5 : RT) (q : Pr) (H6 : Hid (Box wr g q ∧ Rep NT wr g4 T4 ∧ Rep NT wr g5 T5)) (O4 : Hid (Ok T4 [q])) (O5 : Hid (Ok T5 [])) (c : Code) (Q : Exit → Act → World → Prop) (t0 t2 t4 t10 t12 t14 t15 t16 t17 t18 t19 t20 t21 t22 t23 t24 t25 t26 t27 t28 t29 t30 t31 t32 t33 t34 t35 t36 t37 t38 t39 t40 t41 t42 t43 t44 t45 t46 t47 t48 t49 t50 t51 t52 t53 t54 t55 t56 t57 t58 t59 t60 t61 t62 t63 t64 t65 t66 t67 t68 t69 t70 t71 t72 t73 t74 t75 t76 t77 t78 t79 t80 t81 t82 t83 t84 t85 t86 t87 t88 t89 t90 t91 t92 t93 t94 t95 t96 t97 t98 t99 t100 t101 t102 t103 t104 t105 t106 t107 t108 t109 t110 t111 t112 t113 : Value)
    (hc : (Try.f8.body.bind (findR 10)) = some c)
    (hQ : ∀ (u47 u48 u49 u50 u51 u52 u53 u54 u55 u56 u57 u58 u59 u60 u61 u62 u63 u64 u65 u66 u67 u68 u69 u70 u71 u72 u73 u74 u75 u76 u77 u78 u79 u80 u81 u82 u83 u84 u85 u86 u87 u88 u89 u90 u91 u92 u93 u94 u95 u96 u97 u98 u99 u100 u101 u102 u103 u104 u105 u106 u107 u108 u109 u110 u111 u112 u113 : Value) (wx : World), Ext wr wx → Q .normal { tmps := List.toArray (t0 :: (ptr g) :: (.bool true) :: (.pointer none) :: t4 :: (.bool false) :: (ptr g4) :: (.bool true) :: (ptr g5) :: (.bool true) :: t10 :: (.bool false) :: t12 :: (.bool false) :: t14 :: t15 :: t16 :: t17 :: t18 :: t19 :: t20 :: t21 :: t22 :: t23 :: t24 :: t25 :: t26 :: t27 :: t28 :: t29 :: t30 :: t31 :: t32 :: t33 :: t34 :: t35 :: t36 :: t37 :: t38 :: t39 :: t40 :: t41 :: t42 :: t43 :: t44 :: t45 :: t46 :: u47 :: u48 :: u49 :: u50 :: u51 :: u52 :: u53 :: u54 :: u55 :: u56 :: u57 :: u58 :: u59 :: u60 :: u61 :: u62 :: u63 :: u64 :: u65 :: u66 :: u67 :: u68 :: u69 :: u70 :: u71 :: u72 :: u73 :: u74 :: u75 :: u76 :: u77 :: u78 :: u79 :: u80 :: u81 :: u82 :: u83 :: u84 :: u85 :: u86 :: u87 :: u88 :: u89 :: u90 :: u91 :: u92 :: u93 :: u94 :: u95 :: u96 :: u97 :: u98 :: u99 :: u100 :: u101 :: u102 :: u103 :: u104 :: u105 :: u106 :: u107 :: u108 :: u109 :: u110 :: u111 :: u112 :: u113 :: []), defers := [] } wx) :
    c.wp Try.prog Q { tmps := List.toArray (t0 :: (ptr g) :: t2 :: (.pointer none) :: t4 :: (.bool false) :: (ptr g4) :: (.bool true) :: (ptr g5) :: (.bool true) :: t10 :: (.bool false) :: t12 :: (.bool false) :: t14 :: t15 :: t16 :: t17 :: t18 :: t19 :: t20 :: t21 :: t22 :: t23 :: t24 :: t25 :: t26 :: t27 :: t28 :: t29 :: t30 :: t31 :: t32 :: t33 :: t34 :: t35 :: t36 :: t37 :: t38 :: t39 :: t40 :: t41 :: t42 :: t43 :: t44 :: t45 :: t46 :: t47 :: t48 :: t49 :: t50 :: t51 :: t52 :: t53 :: t54 :: t55 :: t56 :: t57 :: t58 :: t59 :: t60 :: t61 :: t62 :: t63 :: t64 :: t65 :: t66 :: t67 :: t68 :: t69 :: t70 :: t71 :: t72 :: t73 :: t74 :: t75 :: t76 :: t77 :: t78 :: t79 :: t80 :: t81 :: t82 :: t83 :: t84 :: t85 :: t86 :: t87 :: t88 :: t89 :: t90 :: t91 :: t92 :: t93 :: t94 :: t95 :: t96 :: t97 :: t98 :: t99 :: t100 :: t101 :: t102 :: t103 :: t104 :: t105 :: t106 :: t107 :: t108 :: t109 :: t110 :: t111 :: t112 :: t113 :: []), defers := [] } wr := by
  change some _ = some c at hc
  cases hc
  have HQF := Lib.hid hQ
  clear hQ
  obtain ⟨c0, c1⟩ := H6.out.1.cells
  repeat' (first | (go_at_call 31; refine (lenZ_c _).mono ?_; rintro e w0 ⟨rfl, rfl⟩; go_simp) | go_at_call 28 | go_skip | go_guarded | go_step)
  refine (tree11_c _ g4 _ T4 [q] (H6.out.2.1.ext ((Ext.refl _).alloc (Nat.le_refl _) _)) O4.out (PS.of_own (base := 0) (e := 33) (n := 1) (own_lit (flat [q]) 1 (by decide) rfl (Nat.zero_le _))) (by simp)).mono ?_
  rintro e w7 ⟨rfl, f7⟩
  have f7' : Ext wr w7 := Ext.trans ((Ext.refl wr).alloc (Nat.le_refl _) _) f7
  have H7 : Hid (Ext wr w7 ∧ Rep NT w7 g4 T4 ∧ Rep NT w7 g5 T5) := Lib.hid ⟨f7', H6.out.2.1.ext f7', H6.out.2.2.ext f7'⟩
  clear f7 f7' H6 c0 c1
  go_simp
  repeat' (first | go_at_call 28 | go_skip | go_guarded | go_step)
  refine (tree11_c w7 g5 _ T5 [] H7.out.2.2 O5.out (Sl.nil _ _) (by decide)).mono ?_
  rintro e w8 ⟨rfl, f8⟩
  have H8 : Hid (Ext wr w8 ∧ Rep NT w8 g4 T4) := Lib.hid ⟨H7.out.1.trans f8, H7.out.2.1.ext f8⟩
  clear f8 H7
  go_simp
  repeat' (first | (go_at_call 12; refine (empty_c _).mono ?_; rintro e w0 ⟨rfl, rfl⟩; go_simp) | go_at_call 28 | go_skip | go_guarded | go_step)
  have hE9 : Ext w8 (w8.alloc (.cells #[str [], .bool false, str [], .slice none 0 0, .pointer none] NT)) := (Ext.refl _).alloc (Nat.le_refl _) _
  refine (tree11_c _ _ _ _ [] (empty_rep w8) Ok.nil (Sl.nil _ _) (by decide)).mono ?_
  rintro e w9 ⟨rfl, f9⟩
  have H9 : Hid (Ext wr w9 ∧ Rep NT w9 g4 T4) := Lib.hid ⟨H8.out.1.trans (Ext.trans hE9 f9), (H8.out.2.ext hE9).ext f9⟩
  clear f9 hE9 H8
  go_simp
  repeat' (first | (go_at_call 32; refine (labelZ_c _).mono ?_; rintro e w0 ⟨rfl, rfl⟩; go_simp) | (go_at_call 33; refine (kidsZ_c _).mono ?_; rintro e w0 ⟨rfl, rfl⟩; go_simp) | (go_at_call 34; refine (ownedZ_c _).mono ?_; rintro e w0 ⟨rfl, rfl⟩; go_simp) | (go_at_call 23; refine (shape_nil _).mono ?_; rintro e w0 ⟨rfl, rfl⟩; go_simp) | (go_at_call 25; refine (canonZ_c _).mono ?_; rintro e w0 ⟨rfl, rfl⟩; go_simp) | go_at_call 35 | go_skip | go_guarded | go_step)
  refine (same_c w9 _ _ [] [] .nil .nil).mono ?_
  rintro e w10 ⟨rfl, f10⟩
  rw [show decide (([] : List UInt8) = []) = true from rfl]
  have H10 : Hid (Ext wr w10 ∧ Rep NT w10 g4 T4) := Lib.hid ⟨H9.out.1.trans f10, H9.out.2.ext f10⟩
  clear f10 H9
  go_simp
  repeat' (first | go_at_call 35 | go_skip | go_guarded | go_step)
  refine (same_c w10 _ _ T4.shp [] (.of H10.out.2 (by have := O4.out.shp; simp at this; omega)) .nil).mono ?_
  rintro e w11 ⟨rfl, f11⟩
  have hne : decide (T4.shp = []) = false := by
    rw [decide_eq_false_iff_not]
    intro e
    have := congrArg List.length e
    rw [shp_eq, List.length_append, headB_len, List.length_nil] at this
    omega
  rw [hne]
  have H11 := Lib.hid (H10.out.1.trans f11)
  clear f11 H10 hne
  go_simp
  repeat' (first | go_skip | go_guarded | go_step)
  refine HQF.out _ _ _ _ _ _ _ _ _ _ _ _ _ _ _ _ _ _ _ _ _ _ _ _ _ _ _ _ _ _ _ _ _ _ _ _ _ _ _ _ _ _ _ _ _ _ _ _ _ _ _ _ _ _ _ _ _ _ _ _ _ _ _ _ _ _ _ _ ?_
  exact H11.out

end Go.Proofs.Ytmpeniboccahdaa
