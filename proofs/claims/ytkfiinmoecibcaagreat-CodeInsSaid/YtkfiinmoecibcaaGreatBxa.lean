/- CodeIns: its loop, act by act: a law of its own. -/
import Derived.Test.YtkfiinmoecibcaaGreatM25
import Derived.Deep.LoopGhost
import Derived.Deep.RegionHeld3
import Derived.Deep.DeepCutAuto
import Derived.BigQuiet
import Derived.Deep.CutBlock
import Derived.Deep.QuietTactic
set_option linter.unusedVariables false
set_option linter.unusedSimpArgs false
namespace Go.Proofs.YtkfiinmoecibcaaGreat
open Go.RowKit Go.QS Go.QS.Nk
set_option linter.unusedVariables false

def encAs (l : List Ac9) : List Value := l.flatMap encAc
theorem encAs_cons (a : Ac9) (l : List Ac9) : encAs (a :: l) = .int .u8 (a.1.toNat : Int) :: .int .i64 a.2 :: encAs l := rfl
theorem encAs_length (l : List Ac9) : (encAs l).length = l.length * 2 := by
  induction l with
  | nil => rfl
  | cons a l ih => rw [encAs_cons]; simp only [List.length_cons, ih]; omega
theorem encAs_get : ∀ {l : List Ac9} {i : Nat} {a : Ac9}, l[i]? = some a → (encAs l)[i * 2]? = some (.int .u8 (a.1.toNat : Int)) ∧ (encAs l)[i * 2 + 1]? = some (.int .i64 a.2)
  | [], i, a, h => by simp at h
  | b :: l, 0, a, h => by
    simp at h; subst h
    exact ⟨rfl, rfl⟩
  | b :: l, i + 1, a, h => by
    have := encAs_get (l := l) (i := i) (a := a) (by simpa using h)
    rw [encAs_cons, show (i + 1) * 2 = i * 2 + 1 + 1 by omega]
    simpa using this
theorem seg_act {w : World} {A : Option Addr} {l : List Ac9} {i : Nat} {a : Ac9} (h : Seg w A (encAs l)) (hi : l[i]? = some a) :
    ∃ b o, A = some ⟨b, o, none⟩ ∧ w.cell? ⟨b, o + i * 2, none⟩ = some (.int .u8 (a.1.toNat : Int)) ∧ w.cell? ⟨b, o + i * 2 + 1, none⟩ = some (.int .i64 a.2) := by
  obtain ⟨g0, g1⟩ := encAs_get hi
  obtain ⟨b, o, hA, hc⟩ := h (by intro e; rw [e] at g0; simp at g0)
  exact ⟨b, o, hA, hc _ _ g0, by have := hc _ _ g1; rwa [show o + i * 2 + 1 = o + (i * 2 + 1) by omega]⟩
abbrev AT9 : TypeId := 32
/-- An act's box. -/
def ActAt (w : World) (b : Nat) (a : Ac9) : Prop := w.heap[b]? = some (.cells #[.int .u8 (a.1.toNat : Int), .int .i64 a.2] AT9 (0, 0))
theorem ActAt.cells {w : World} {b : Nat} {a : Ac9} (h : ActAt w b a) : w.cell? ⟨b, 0, none⟩ = some (.int .u8 (a.1.toNat : Int)) ∧ w.cell? ⟨b, 1, none⟩ = some (.int .i64 a.2) := by
  unfold ActAt at h
  simp [World.cell?, h]
theorem ActAt.one {g : Nat} {w w' : World} {b : Nat} {a : Ac9} (h : ActAt w b a) (k : One g w w') (hb : b ≠ g) : ActAt w' b a := k.heap h hb
theorem wp_name9 {P : Program} {c : Code} {Q : Exit → Act → World → Prop} {a : Act} {W : World} (R : World → Prop) (hR : R W) (h : ∀ w', Hid (R w') → c.wp P Q a w') : c.wp P Q a W := h W (Lib.hid hR)

/-- Two calls, one behind the other, that hand back the same; both readers are at one state then. -/
def Both9 (F G : FuncId) (xs ys : Array Value) (r : Value) (g x : Nat) (w : World) (P l : List UInt8) (e : Nat) : Prop :=
  Calls Tryz.prog F xs w fun y w1 => y = .returned r ∧ One g w w1 ∧ Calls Tryz.prog G ys w1 fun y2 w2 => y2 = .returned r ∧ One x w1 w2 ∧ Two9 g x w2 P l e
theorem Both9.of {F G : FuncId} {xs ys : Array Value} {r : Value} {g x : Nat} {w : World} {P l l' : List UInt8} {e e' : Nat} (h : Two9 g x w P l e)
    (h1 : Calls Tryz.prog F xs w fun y w1 => y = .returned r ∧ InAt (fun b => b < g) g w1 l' e' ∧ One g w w1)
    (h2 : ∀ w1, RefAt (fun b => b < g) x w1 P l e → Calls Tryz.prog G ys w1 fun y w2 => y = .returned r ∧ RefAt (fun b => b < g) x w2 P l' e' ∧ One x w1 w2) :
    Both9 F G xs ys r g x w P l' e' :=
  h1.mono fun y w1 ⟨e1, hI, hO⟩ => ⟨e1, hO, (h2 w1 (h.in_turn hI hO).2).mono fun y2 w2 ⟨e2, hR, hO2⟩ => ⟨e2, hO2, .ref_turn (l := l) (e := e) h.lt hI hR hO2 rfl rfl⟩⟩
theorem Two9.byte {g x : Nat} {w : World} {P l : List UInt8} {e : Nat} (h : Two9 g x w P l e) : ∃ (n : Nat) (l' : List UInt8) (e' : Nat), Both9 10 11 #[ptr g] #[ptr x] (.int .u8 (n : Int)) g x w P l' e' :=
  ⟨_, _, _, .of h (byte_c h.inn) fun _ hR => rbyte_c hR⟩
theorem Two9.num {g x : Nat} {w : World} {P l : List UInt8} {e : Nat} (h : Two9 g x w P l e) (hP : P.length ≤ 1000000000) : ∃ (n : Nat) (l' : List UInt8) (e' : Nat), Both9 12 13 #[ptr g] #[ptr x] (.int .u64 (n : Int)) g x w P l' e' :=
  ⟨_, _, _, .of h (num_c h.inn) fun _ hR => rnum_c hR hP⟩
theorem Two9.fixed {g x : Nat} {w : World} {P l : List UInt8} {e : Nat} (h : Two9 g x w P l e) (hP : P.length ≤ 1000000000) : ∃ (n : Nat) (l' : List UInt8) (e' : Nat), Both9 16 17 #[ptr g] #[ptr x] (.int .u64 (n : Int)) g x w P l' e' :=
  ⟨_, _, _, .of h (fixed_c h.inn) fun _ hR => rfixed_c hR hP⟩
theorem two9_text (g x : Nat) (P l : List UInt8) (e : Nat) (hP : P.length ≤ 1000000000) (most : Int) (hm : most ≤ 9223372036854775807) : ∃ (s : List UInt8) (l' : List UInt8) (e' : Nat), ∀ w, Two9 g x w P l e → Both9 14 15 #[ptr g, .int .i64 most, .int .i64 2] #[ptr x, .int .i64 most, .int .i64 2] (str s) g x w P l' e' :=
  ⟨_, _, _, fun w h => .of h (text_c h.inn most 2 (by decide) hm) fun _ hR => rtext_c hR hP most 2 hm⟩
theorem Two9.fail {g x : Nat} {w : World} {P l : List UInt8} {e : Nat} (h : Two9 g x w P l e) (k : Nat) : ∃ (l' : List UInt8) (e' : Nat), Both9 18 19 #[ptr g, .int .i64 (k : Int)] #[ptr x, .int .i64 (k : Int)] (.tuple #[]) g x w P l' e' :=
  ⟨_, _, .of h (fail_c h.inn k) fun _ hR => rfail_c hR k⟩
theorem Two9.end_ {g x : Nat} {w : World} {P l : List UInt8} {e : Nat} (h : Two9 g x w P l e) : ∃ (n : Nat) (l' : List UInt8) (e' : Nat), Both9 20 21 #[ptr g] #[ptr x] (.int .i64 (n : Int)) g x w P l' e' := by
  have h1 := end_c h.inn
  rw [end_eq] at h1
  exact ⟨_, _, _, .of h h1 fun _ hR => rend_c hR⟩

/-- A block of a function's code. -/
def findB (n : Nat) : Code → Option Code
  | .block m b => if m = n then some (.block m b) else findB n b
  | .seq a b => match findB n a with | some c => some c | none => findB n b
  | .cond _ a b => match findB n a with | some c => some c | none => findB n b
  | .loop b => findB n b
  | .scope b => findB n b
  | _ => none

set_option maxRecDepth 100000 in
set_option maxHeartbeats 2000000 in
theorem ins_0 (w0 w1 : World) (g x m na CA C2 ba b o : Nat) (A2 : Option Addr) (P l : List UInt8) (e : Nat) (a : Ac9) (hg0 : w0.heap.size ≤ g) (hglt : g < x) (hxb : x < ba) (hmP : Hid (P.length ≤ 1000000000))
    (H1 : Hid (ActAt w1 ba a ∧ Two9 g x w1 P l e ∧ Ext w0 w1 ∧ x < ba)) (hab : -9223372036854775808 ≤ a.2 ∧ a.2 ≤ 9223372036854775807) (c : Code) (Q : Exit → Act → World → Prop) (t2 t3 t4 t7 t10 t11 t12 t13 t14 t15 t16 t17 t18 t19 t20 t21 t22 t23 t24 t25 t26 t27 t28 t29 t30 t31 t33 t34 t35 t36 t37 t38 t39 t40 t41 t42 t43 t44 t45 t46 t47 t48 t49 t50 t51 t52 t53 t54 t55 t56 t57 t58 t59 t60 t61 t62 t63 t64 t65 t66 t67 t68 t69 t70 t71 t72 t73 t74 t75 t76 t77 t78 t79 t80 t81 t82 t83 t84 t85 t86 t87 t88 t89 t90 t91 t92 t93 t94 t95 t96 t97 t98 t99 t100 t101 t102 t103 t104 t105 t106 t107 : Value)
    (hc : (Tryz.f3.body.bind (findB 2)) = some c)
    (hQ : ∀ (l' : List UInt8) (e' : Nat) (u10 u33 u34 u35 u36 u37 u38 u39 u40 u41 u42 u43 u44 u45 u46 u47 u48 u49 u50 u51 u52 u53 u54 u55 u56 u57 u58 u59 u60 u61 u62 u63 u64 u65 u66 u67 u68 u69 u70 u71 u72 u73 u74 u75 u76 u77 u78 u79 u80 u81 u82 u83 : Value) (wx : World), Two9 g x wx P l' e' ∧ Ext w0 wx → Q .normal { tmps := List.toArray ((.slice A2 m C2) :: (.slice (some ⟨b, o, none⟩) na CA) :: t2 :: t3 :: t4 :: (ptr g) :: (ptr x) :: t7 :: (ptr ba) :: (.bool true) :: u10 :: t11 :: t12 :: t13 :: t14 :: t15 :: t16 :: t17 :: t18 :: t19 :: t20 :: t21 :: t22 :: t23 :: t24 :: t25 :: t26 :: t27 :: t28 :: t29 :: t30 :: t31 :: (.int .u8 0) :: u33 :: u34 :: u35 :: u36 :: u37 :: u38 :: u39 :: u40 :: u41 :: u42 :: u43 :: u44 :: u45 :: u46 :: u47 :: u48 :: u49 :: u50 :: u51 :: u52 :: u53 :: u54 :: u55 :: u56 :: u57 :: u58 :: u59 :: u60 :: u61 :: u62 :: u63 :: u64 :: u65 :: u66 :: u67 :: u68 :: u69 :: u70 :: u71 :: u72 :: u73 :: u74 :: u75 :: u76 :: u77 :: u78 :: u79 :: u80 :: u81 :: u82 :: u83 :: t84 :: t85 :: t86 :: t87 :: t88 :: t89 :: t90 :: t91 :: t92 :: t93 :: t94 :: t95 :: t96 :: t97 :: t98 :: t99 :: t100 :: t101 :: t102 :: t103 :: t104 :: t105 :: t106 :: t107 :: []), defers := [] } wx) :
    c.wp Tryz.prog Q { tmps := List.toArray ((.slice A2 m C2) :: (.slice (some ⟨b, o, none⟩) na CA) :: t2 :: t3 :: t4 :: (ptr g) :: (ptr x) :: t7 :: (ptr ba) :: (.bool true) :: t10 :: t11 :: t12 :: t13 :: t14 :: t15 :: t16 :: t17 :: t18 :: t19 :: t20 :: t21 :: t22 :: t23 :: t24 :: t25 :: t26 :: t27 :: t28 :: t29 :: t30 :: t31 :: (.int .u8 0) :: t33 :: t34 :: t35 :: t36 :: t37 :: t38 :: t39 :: t40 :: t41 :: t42 :: t43 :: t44 :: t45 :: t46 :: t47 :: t48 :: t49 :: t50 :: t51 :: t52 :: t53 :: t54 :: t55 :: t56 :: t57 :: t58 :: t59 :: t60 :: t61 :: t62 :: t63 :: t64 :: t65 :: t66 :: t67 :: t68 :: t69 :: t70 :: t71 :: t72 :: t73 :: t74 :: t75 :: t76 :: t77 :: t78 :: t79 :: t80 :: t81 :: t82 :: t83 :: t84 :: t85 :: t86 :: t87 :: t88 :: t89 :: t90 :: t91 :: t92 :: t93 :: t94 :: t95 :: t96 :: t97 :: t98 :: t99 :: t100 :: t101 :: t102 :: t103 :: t104 :: t105 :: t106 :: t107 :: []), defers := [] } w1 := by
  change some _ = some c at hc
  cases hc
  have HQF := Lib.hid hQ
  clear hQ
  obtain ⟨c0, c1⟩ := H1.out.1.cells
  clear c0
  obtain ⟨n, l', e', hB⟩ := H1.out.2.1.byte
  have HB := Lib.hid hB
  clear hB
  repeat' (first | go_at_call 10 | go_skip | go_guarded | go_step)
  refine HB.out.mono ?_
  rintro y w2 ⟨rfl, o2, c2⟩
  have H2 := Lib.hid (And.intro o2 c2)
  clear o2 c2 HB
  go_simp
  repeat' (first | go_at_call 11 | go_skip | go_guarded | go_step)
  refine H2.out.2.mono ?_
  rintro y w3 ⟨rfl, o3, t3⟩
  have H3 : Hid (Two9 g x w3 P l' e' ∧ Ext w0 w3) := Lib.hid ⟨t3, o3.ext (H2.out.1.ext H1.out.2.2.1 hg0) (by omega)⟩
  clear o3 t3 H2
  go_simp
  repeat' (first | go_skip | go_guarded | go_step)
  exact HQF.out l' e' _ _ _ _ _ _ _ _ _ _ _ _ _ _ _ _ _ _ _ _ _ _ _ _ _ _ _ _ _ _ _ _ _ _ _ _ _ _ _ _ _ _ _ _ _ _ _ _ _ _ _ _ _ H3.out

set_option maxRecDepth 100000 in
set_option maxHeartbeats 2000000 in
theorem ins_1 (w0 w1 : World) (g x m na CA C2 ba b o : Nat) (A2 : Option Addr) (P l : List UInt8) (e : Nat) (a : Ac9) (hg0 : w0.heap.size ≤ g) (hglt : g < x) (hxb : x < ba) (hmP : Hid (P.length ≤ 1000000000))
    (H1 : Hid (ActAt w1 ba a ∧ Two9 g x w1 P l e ∧ Ext w0 w1 ∧ x < ba)) (hab : -9223372036854775808 ≤ a.2 ∧ a.2 ≤ 9223372036854775807) (c : Code) (Q : Exit → Act → World → Prop) (t2 t3 t4 t7 t10 t11 t12 t13 t14 t15 t16 t17 t18 t19 t20 t21 t22 t23 t24 t25 t26 t27 t28 t29 t30 t31 t33 t34 t35 t36 t37 t38 t39 t40 t41 t42 t43 t44 t45 t46 t47 t48 t49 t50 t51 t52 t53 t54 t55 t56 t57 t58 t59 t60 t61 t62 t63 t64 t65 t66 t67 t68 t69 t70 t71 t72 t73 t74 t75 t76 t77 t78 t79 t80 t81 t82 t83 t84 t85 t86 t87 t88 t89 t90 t91 t92 t93 t94 t95 t96 t97 t98 t99 t100 t101 t102 t103 t104 t105 t106 t107 : Value)
    (hc : (Tryz.f3.body.bind (findB 2)) = some c)
    (hQ : ∀ (l' : List UInt8) (e' : Nat) (u10 u33 u34 u35 u36 u37 u38 u39 u40 u41 u42 u43 u44 u45 u46 u47 u48 u49 u50 u51 u52 u53 u54 u55 u56 u57 u58 u59 u60 u61 u62 u63 u64 u65 u66 u67 u68 u69 u70 u71 u72 u73 u74 u75 u76 u77 u78 u79 u80 u81 u82 u83 : Value) (wx : World), Two9 g x wx P l' e' ∧ Ext w0 wx → Q .normal { tmps := List.toArray ((.slice A2 m C2) :: (.slice (some ⟨b, o, none⟩) na CA) :: t2 :: t3 :: t4 :: (ptr g) :: (ptr x) :: t7 :: (ptr ba) :: (.bool true) :: u10 :: t11 :: t12 :: t13 :: t14 :: t15 :: t16 :: t17 :: t18 :: t19 :: t20 :: t21 :: t22 :: t23 :: t24 :: t25 :: t26 :: t27 :: t28 :: t29 :: t30 :: t31 :: (.int .u8 1) :: u33 :: u34 :: u35 :: u36 :: u37 :: u38 :: u39 :: u40 :: u41 :: u42 :: u43 :: u44 :: u45 :: u46 :: u47 :: u48 :: u49 :: u50 :: u51 :: u52 :: u53 :: u54 :: u55 :: u56 :: u57 :: u58 :: u59 :: u60 :: u61 :: u62 :: u63 :: u64 :: u65 :: u66 :: u67 :: u68 :: u69 :: u70 :: u71 :: u72 :: u73 :: u74 :: u75 :: u76 :: u77 :: u78 :: u79 :: u80 :: u81 :: u82 :: u83 :: t84 :: t85 :: t86 :: t87 :: t88 :: t89 :: t90 :: t91 :: t92 :: t93 :: t94 :: t95 :: t96 :: t97 :: t98 :: t99 :: t100 :: t101 :: t102 :: t103 :: t104 :: t105 :: t106 :: t107 :: []), defers := [] } wx) :
    c.wp Tryz.prog Q { tmps := List.toArray ((.slice A2 m C2) :: (.slice (some ⟨b, o, none⟩) na CA) :: t2 :: t3 :: t4 :: (ptr g) :: (ptr x) :: t7 :: (ptr ba) :: (.bool true) :: t10 :: t11 :: t12 :: t13 :: t14 :: t15 :: t16 :: t17 :: t18 :: t19 :: t20 :: t21 :: t22 :: t23 :: t24 :: t25 :: t26 :: t27 :: t28 :: t29 :: t30 :: t31 :: (.int .u8 1) :: t33 :: t34 :: t35 :: t36 :: t37 :: t38 :: t39 :: t40 :: t41 :: t42 :: t43 :: t44 :: t45 :: t46 :: t47 :: t48 :: t49 :: t50 :: t51 :: t52 :: t53 :: t54 :: t55 :: t56 :: t57 :: t58 :: t59 :: t60 :: t61 :: t62 :: t63 :: t64 :: t65 :: t66 :: t67 :: t68 :: t69 :: t70 :: t71 :: t72 :: t73 :: t74 :: t75 :: t76 :: t77 :: t78 :: t79 :: t80 :: t81 :: t82 :: t83 :: t84 :: t85 :: t86 :: t87 :: t88 :: t89 :: t90 :: t91 :: t92 :: t93 :: t94 :: t95 :: t96 :: t97 :: t98 :: t99 :: t100 :: t101 :: t102 :: t103 :: t104 :: t105 :: t106 :: t107 :: []), defers := [] } w1 := by
  change some _ = some c at hc
  cases hc
  have HQF := Lib.hid hQ
  clear hQ
  obtain ⟨c0, c1⟩ := H1.out.1.cells
  clear c0
  obtain ⟨n, l', e', hB⟩ := H1.out.2.1.num hmP.out
  have HB := Lib.hid hB
  clear hB
  repeat' (first | go_at_call 12 | go_skip | go_guarded | go_step)
  refine HB.out.mono ?_
  rintro y w2 ⟨rfl, o2, c2⟩
  have H2 := Lib.hid (And.intro o2 c2)
  clear o2 c2 HB
  go_simp
  repeat' (first | go_at_call 13 | go_skip | go_guarded | go_step)
  refine H2.out.2.mono ?_
  rintro y w3 ⟨rfl, o3, t3⟩
  have H3 : Hid (Two9 g x w3 P l' e' ∧ Ext w0 w3) := Lib.hid ⟨t3, o3.ext (H2.out.1.ext H1.out.2.2.1 hg0) (by omega)⟩
  clear o3 t3 H2
  go_simp
  repeat' (first | go_skip | go_guarded | go_step)
  exact HQF.out l' e' _ _ _ _ _ _ _ _ _ _ _ _ _ _ _ _ _ _ _ _ _ _ _ _ _ _ _ _ _ _ _ _ _ _ _ _ _ _ _ _ _ _ _ _ _ _ _ _ _ _ _ _ _ H3.out

end Go.Proofs.YtkfiinmoecibcaaGreat
