/- Texts joined. -/
import Derived.Test.YtclcgelbcbnekaaDoorM40
import Derived.Deep.RegionHeld3
import Derived.Deep.LoopGhost
set_option linter.unusedVariables false
set_option linter.unusedSimpArgs false
/- ShapeRaw: an act, its ways: laws of their own. -/
namespace Go.Proofs.YtclcgelbcbnekaaDoor
open Go Go.RowKit Go.QS Go.QS.Nk
set_option linter.unusedVariables false
variable [Zero (Nat → Prop)]
set_option linter.unusedSectionVars false

/-- Some tree, no larger than so. -/
def RwE (w0 wx : World) (g q n m : Nat) : Prop := ∃ (F : Nat → Prop) (is : Nat → Nat) (p : Nat → Pr) (k : Nat → NT) (A : Array Value), Rw w0 wx g q F is p k A n m
theorem not_sf {F : Nat → Prop} {b : Nat} (h : F b) : ¬ @S9 (SF F) b := fun e => e h
set_option maxRecDepth 100000 in
set_option maxHeartbeats 2000000 in
theorem raw_a (w0 wr : World) (g q k n m : Nat) (F : Nat → Prop) (is : Nat → Nat) (pX : Nat → Pr) (kX : Nat → NT) (A : Array Value) (hk : k < 32) (g9 : Nat) (p : Pr) (hp : p.1.length ≤ 40 ∧ p.2.length ≤ 40) (H : Hid (Rw w0 wr g q F is pX kX A n m ∧ PrAt wr g9 p ∧ g9 ≠ q)) (c d : Code) (K : Act → World → Prop) (Q : Exit → Act → World → Prop) (t0 t1 t2 t3 t6 t7 t10 t11 t12 t13 t14 t15 t16 t17 t18 t19 t20 t21 t22 t23 t24 t25 t26 t27 t28 t29 t30 t31 t32 t33 t34 t35 t36 t37 t38 t39 t40 t41 t42 t43 t44 t45 t46 t47 t48 t49 t50 t51 t52 t53 t54 t55 t56 t57 t58 t59 t60 t61 t62 t63 t64 t65 t66 t67 t68 t69 t70 t71 t72 t73 t74 t75 t76 t77 t78 t79 t80 t81 t82 t83 t84 t85 t86 t87 t88 t89 t90 t91 t92 t93 t94 t95 t96 t97 t98 t99 t100 t101 t102 t103 t104 t105 t106 t107 t108 t109 t110 t111 t112 t113 t114 t115 t116 t117 t118 t119 t120 t121 t122 t123 t124 t125 t126 t127 t128 t129 t130 t131 t132 t133 t134 t135 t136 t137 t138 t139 t140 t141 t142 t143 t144 t145 t146 t147 t148 t149 t150 t151 t152 t153 : Value)
    (hc : (Tryd.f7.body.bind (findR 9)) = some c) (hd : (Tryd.f7.body.bind (findS 10)) = some d)
    (hK : ∀ a w, d.wp Tryd.prog Q a w → K a w)
    (hQ : ∀ (g1 : Nat) (u38 u39 u40 u41 u42 u43 u44 u45 u46 u47 u48 u49 u50 u51 u52 : Value) (wx : World), RwE w0 wx g1 q (n + 400) (m + 4) → Q .normal { tmps := List.toArray (t0 :: t1 :: t2 :: t3 :: (ptr g1) :: (ptr q) :: t6 :: t7 :: (.int .i64 k) :: (ptr g9) :: t10 :: t11 :: t12 :: t13 :: t14 :: t15 :: t16 :: t17 :: t18 :: t19 :: t20 :: t21 :: t22 :: t23 :: t24 :: t25 :: t26 :: t27 :: t28 :: t29 :: t30 :: t31 :: t32 :: t33 :: t34 :: t35 :: t36 :: t37 :: u38 :: u39 :: u40 :: u41 :: u42 :: u43 :: u44 :: u45 :: u46 :: u47 :: u48 :: u49 :: u50 :: u51 :: u52 :: t53 :: t54 :: t55 :: t56 :: t57 :: t58 :: t59 :: t60 :: t61 :: t62 :: t63 :: t64 :: t65 :: t66 :: t67 :: t68 :: t69 :: t70 :: t71 :: t72 :: t73 :: t74 :: t75 :: t76 :: t77 :: t78 :: t79 :: t80 :: t81 :: t82 :: t83 :: t84 :: t85 :: t86 :: t87 :: t88 :: t89 :: t90 :: t91 :: t92 :: t93 :: t94 :: t95 :: t96 :: t97 :: t98 :: t99 :: t100 :: t101 :: t102 :: t103 :: t104 :: t105 :: t106 :: t107 :: t108 :: t109 :: t110 :: t111 :: t112 :: t113 :: t114 :: t115 :: t116 :: t117 :: t118 :: t119 :: t120 :: t121 :: t122 :: t123 :: t124 :: t125 :: t126 :: t127 :: t128 :: t129 :: t130 :: t131 :: t132 :: t133 :: t134 :: t135 :: t136 :: t137 :: t138 :: t139 :: t140 :: t141 :: t142 :: t143 :: t144 :: t145 :: t146 :: t147 :: t148 :: t149 :: t150 :: t151 :: t152 :: t153 :: []), defers := [] } wx) :
    c.wp Tryd.prog (Exit.then K Q) { tmps := List.toArray (t0 :: t1 :: t2 :: t3 :: (ptr g) :: (ptr q) :: t6 :: t7 :: (.int .i64 k) :: (ptr g9) :: t10 :: t11 :: t12 :: t13 :: t14 :: t15 :: t16 :: t17 :: t18 :: t19 :: t20 :: t21 :: t22 :: t23 :: t24 :: t25 :: t26 :: t27 :: t28 :: t29 :: t30 :: t31 :: t32 :: t33 :: t34 :: t35 :: t36 :: t37 :: t38 :: t39 :: t40 :: t41 :: t42 :: t43 :: t44 :: t45 :: t46 :: t47 :: t48 :: t49 :: t50 :: t51 :: t52 :: t53 :: t54 :: t55 :: t56 :: t57 :: t58 :: t59 :: t60 :: t61 :: t62 :: t63 :: t64 :: t65 :: t66 :: t67 :: t68 :: t69 :: t70 :: t71 :: t72 :: t73 :: t74 :: t75 :: t76 :: t77 :: t78 :: t79 :: t80 :: t81 :: t82 :: t83 :: t84 :: t85 :: t86 :: t87 :: t88 :: t89 :: t90 :: t91 :: t92 :: t93 :: t94 :: t95 :: t96 :: t97 :: t98 :: t99 :: t100 :: t101 :: t102 :: t103 :: t104 :: t105 :: t106 :: t107 :: t108 :: t109 :: t110 :: t111 :: t112 :: t113 :: t114 :: t115 :: t116 :: t117 :: t118 :: t119 :: t120 :: t121 :: t122 :: t123 :: t124 :: t125 :: t126 :: t127 :: t128 :: t129 :: t130 :: t131 :: t132 :: t133 :: t134 :: t135 :: t136 :: t137 :: t138 :: t139 :: t140 :: t141 :: t142 :: t143 :: t144 :: t145 :: t146 :: t147 :: t148 :: t149 :: t150 :: t151 :: t152 :: t153 :: []), defers := [] } wr := by
  change some _ = some c at hc
  cases hc
  change some _ = some d at hd
  cases hd
  have HQF := Lib.hid hQ
  clear hQ
  obtain ⟨sl, hIn, hsl0⟩ := H.out.1.rn
  have HSL := Lib.hid hsl0
  have HZ := H.out.1.sz
  clear hsl0
  obtain ⟨b0, b1⟩ := H.out.2.1.cells
  have hc1 : (k : Int) < 32 := by omega
  have hc0 : (0 : Int) ≤ (k : Int) := by omega
  repeat' (first | go_at_call 17 | go_skip | go_guarded | go_step)
  refine (@setPair_c (SF (FQ F q)) wr g k sl p hIn hk).mono ?_
  rintro e w2 ⟨g1, rfl, hN2, f2, _⟩
  have H2 : Hid (@In (SF (FQ F q)) ND w2 g1 (sl.set k (.pr p)) ∧ Ext wr w2) := Lib.hid ⟨hN2, f2⟩
  obtain ⟨z0, hz0⟩ := get130 HZ (show 2 + k < 130 by omega)
  obtain ⟨z1, hz1⟩ := get130 HZ (show 34 + k * 2 < 130 by omega)
  obtain ⟨z2, hz2⟩ := get130 HZ (show 34 + k * 2 + 1 < 130 by omega)
  have HB : Hid (w2.heap[q]? = some (.cells A TT (0, 0)) ∧ A[2 + k]? = some z0 ∧ A[34 + k * 2]? = some z1 ∧ A[34 + k * 2 + 1]? = some z2 ∧ w2.cell? ⟨g9, 0, none⟩ = some (str p.1) ∧ w2.cell? ⟨g9, 1, none⟩ = some (str p.2) ∧ g9 ≠ q) := Lib.hid ⟨(f2.block q (heap_lt H.out.1.hq)).trans H.out.1.hq, hz0, hz1, hz2, (H.out.2.1.ext f2).cells.1, (H.out.2.1.ext f2).cells.2, H.out.2.2⟩
  clear hN2 f2 hz0 hz1 hz2 hIn b0 b1
  go_simp
  repeat' (go_not_at_region 10; (first | go_skip | go_guarded | go_step))
  refine raw_10 w2 q k g9 A p z0 z1 z2 hk HB _ _ _ _ _ _ _ _ _ _ _ _ _ _ _ _ _ _ _ _ _ _ _ _ _ _ _ _ _ _ _ _ _ _ _ _ _ _ _ _ _ _ _ _ _ _ _ _ _ _ _ _ _ _ _ _ _ _ _ _ _ _ _ _ _ _ _ _ _ _ _ _ _ _ _ _ _ _ _ _ _ _ _ _ _ _ _ _ _ _ _ _ _ _ _ _ _ _ _ _ _ _ _ _ _ _ _ _ _ _ _ _ _ _ _ _ _ _ _ _ _ _ _ _ _ _ _ _ _ _ _ _ _ _ _ _ _ _ _ _ _ _ _ _ _ _ _ _ _ _ _ _ _ (by kernel_rfl) ?_
  intro u42 u43 u44 u45 u46 u47 u48 u49 u50 u51 u52 wx hpo
  have HF : Hid (RwE w0 wx g1 q (n + 400) (m + 4)) := Lib.hid (by
    have o : Only (fun b => b = q) wr wx := (Only.of_ext H2.out.2).trans' (T := fun b => b = q) (S := fun b => b = q) hpo.2 (fun _ _ e => e)
    have hR := @RN.only (SF (FQ F q)) w2 wx _ hpo.2 (fun b hb => not_sf (.inr hb)) _ _ (@RN.bend (SF (FQ F q)) wr w2 g1 k 1 p (.bk []) is pX kX sl (.pr p) H2.out.2 H2.out.1 HSL.out ⟨upN_same _ _ _, upN_same _ _ _⟩)
    exact ⟨F, _, _, _, _, Rw.bend H.out.1 hk o (fun _ h => h) (fun b hb => ⟨fun e => by subst e; exact H.out.1.nf hb, Nat.lt_of_lt_of_le (H.out.1.fl b hb).1 o.size, (H.out.1.fl b hb).2⟩) hR hpo.1 (by simp [setP, HZ]) (setP_ne p (by omega) (by omega) (by omega)) (setP_ne p (by omega) (by omega) (by omega))
      (fun j hj hjk => ⟨setP_ne p (by omega) (by omega) (by omega), setP_ne p (by omega) (by omega) (by omega), setP_ne p (by omega) (by omega) (by omega), setP_ne p (by omega) (by omega) (by omega)⟩) (de_setP HZ hk) (fun _ => ⟨hp, by omega, by omega⟩) (fun e => by cases e)⟩)
  clear hpo
  repeat' (first | go_skip | go_guarded | go_step)
  exact HQF.out g1 _ _ _ _ _ _ _ _ _ _ _ _ _ _ _ _ HF.out

theorem inS_ext {F : Nat → Prop} {w w' : World} {g : Nat} {sl : List (Slot Nat)} (h : @In (SF F) ND w g sl) (f : Ext w w') : @In (SF F) ND w' g sl := @In.only (SF F) ND w w' _ (Only.none f) (fun _ e => e.elim) g sl h
theorem nt1_eq (k : Nat) (p : Pr) : NT.inn (upN (fun _ => 0) k 1) (upN (fun _ => ([], [])) k p) (upN (fun _ => NT.bk []) k (.bk [])) = nt1 k p := by
  have e : upN (fun _ => NT.bk []) k (.bk []) = fun _ => .bk [] := by funext j; unfold upN; split <;> rfl
  rw [e]
theorem nok1 {k : Nat} {p : Pr} (hk : k < 32) (hp : p.1.length ≤ 40 ∧ p.2.length ≤ 40) : NOk (nt1 k p) 400 4 := by
  have h := NOk.bend (p' := p) (i' := 1) (k' := .bk []) (n1 := 90) (m1 := 1) hk NOk.zero (fun _ => ⟨hp, by omega, by omega⟩) (fun e => by cases e)
  rw [nt1_eq] at h
  exact h.mono (by omega) (by omega)
theorem dns_one {W : World} {F : Nat → Prop} {q c : Nat} {p : Pr} (hc : c < 32) (hF : F q) (h : W.heap[q]? = some (.cells (setP Tryd.zeroCells57 c p) TTY (0, 0))) : DNs W F (nt1 c p) q := by
  obtain ⟨A, h1, h2, h3, h4⟩ := dn_one hc h
  refine ⟨hF, A, h1, h2, h3, fun j hj => ⟨(h4 j hj).1, (h4 j hj).2.1, fun e => ?_⟩⟩
  exfalso
  by_cases ej : j = c
  · subst ej; rw [upN_same] at e; cases e
  · rw [upN_ne _ _ ej] at e; cases e
theorem sl0_slt {W : World} {k' : Nat → NT} (j : Nat) (s : Slot Nat) (hs : (sl0 Nat)[j]? = some s) {i : Zero (Nat → Prop)} : SlT (fun _ => 0) (fun _ => ([], [])) (fun j q => @RN i W (k' j) q) j s := by
  have hn := RN.nt0_sl hs
  subst hn
  exact ⟨(by show (0 : Nat) ≠ 1; decide), (by show (0 : Nat) ≠ 2; decide)⟩
theorem size_setP {A : Array Value} {k : Nat} {p : Pr} : (setP A k p).size = A.size := by simp [setP]
theorem size_setK {A : Array Value} {k q : Nat} : (setK A k q).size = A.size := by simp [setK]
set_option maxRecDepth 100000 in
set_option maxHeartbeats 2000000 in
theorem raw_c (w0 wr : World) (g q k n m : Nat) (F : Nat → Prop) (is : Nat → Nat) (pX : Nat → Pr) (kX : Nat → NT) (A : Array Value) (hk : k < 32) (g9 : Nat) (p : Pr) (hp : p.1.length ≤ 40 ∧ p.2.length ≤ 40) (H : Hid (Rw w0 wr g q F is pX kX A n m ∧ PrAt wr g9 p ∧ g9 ≠ q)) (c d : Code) (K : Act → World → Prop) (Q : Exit → Act → World → Prop) (t0 t1 t2 t3 t6 t7 t10 t11 t12 t13 t14 t15 t16 t17 t18 t19 t20 t21 t22 t23 t24 t25 t26 t27 t28 t29 t30 t31 t32 t33 t34 t35 t36 t37 t38 t39 t40 t41 t42 t43 t44 t45 t46 t47 t48 t49 t50 t51 t52 t53 t54 t55 t56 t57 t58 t59 t60 t61 t62 t63 t64 t65 t66 t67 t68 t69 t70 t71 t72 t73 t74 t75 t76 t77 t78 t79 t80 t81 t82 t83 t84 t85 t86 t87 t88 t89 t90 t91 t92 t93 t94 t95 t96 t97 t98 t99 t100 t101 t102 t103 t104 t105 t106 t107 t108 t109 t110 t111 t112 t113 t114 t115 t116 t117 t118 t119 t120 t121 t122 t123 t124 t125 t126 t127 t128 t129 t130 t131 t132 t133 t134 t135 t136 t137 t138 t139 t140 t141 t142 t143 t144 t145 t146 t147 t148 t149 t150 t151 t152 t153 : Value)
    (hc : (Tryd.f7.body.bind (findR 28)) = some c) (hd : (Tryd.f7.body.bind (findS 29)) = some d)
    (hK : ∀ a w, d.wp Tryd.prog Q a w → K a w)
    (hQ : ∀ (g1 : Nat) (u15 u120 u121 u122 u123 u124 u125 u126 u127 u128 u129 u130 u131 u132 u133 u134 u135 u136 u137 u138 u139 u140 u141 u142 u143 u144 u145 u146 u147 u148 u149 u150 : Value) (wx : World), RwE w0 wx g1 q (n + 400) (m + 4) → Q .normal { tmps := List.toArray (t0 :: t1 :: t2 :: t3 :: (ptr g1) :: (ptr q) :: t6 :: t7 :: (.int .i64 k) :: (ptr g9) :: t10 :: t11 :: t12 :: t13 :: t14 :: u15 :: t16 :: t17 :: t18 :: t19 :: t20 :: t21 :: t22 :: t23 :: t24 :: t25 :: t26 :: t27 :: t28 :: t29 :: t30 :: t31 :: t32 :: t33 :: t34 :: t35 :: t36 :: t37 :: t38 :: t39 :: t40 :: t41 :: t42 :: t43 :: t44 :: t45 :: t46 :: t47 :: t48 :: t49 :: t50 :: t51 :: t52 :: t53 :: t54 :: t55 :: t56 :: t57 :: t58 :: t59 :: t60 :: t61 :: t62 :: t63 :: t64 :: t65 :: t66 :: t67 :: t68 :: t69 :: t70 :: t71 :: t72 :: t73 :: t74 :: t75 :: t76 :: t77 :: t78 :: t79 :: t80 :: t81 :: t82 :: t83 :: t84 :: t85 :: t86 :: t87 :: t88 :: t89 :: t90 :: t91 :: t92 :: t93 :: t94 :: t95 :: t96 :: t97 :: t98 :: t99 :: t100 :: t101 :: t102 :: t103 :: t104 :: t105 :: t106 :: t107 :: t108 :: t109 :: t110 :: t111 :: t112 :: t113 :: t114 :: t115 :: t116 :: t117 :: t118 :: t119 :: u120 :: u121 :: u122 :: u123 :: u124 :: u125 :: u126 :: u127 :: u128 :: u129 :: u130 :: u131 :: u132 :: u133 :: u134 :: u135 :: u136 :: u137 :: u138 :: u139 :: u140 :: u141 :: u142 :: u143 :: u144 :: u145 :: u146 :: u147 :: u148 :: u149 :: u150 :: t151 :: t152 :: t153 :: []), defers := [] } wx) :
    c.wp Tryd.prog (Exit.then K Q) { tmps := List.toArray (t0 :: t1 :: t2 :: t3 :: (ptr g) :: (ptr q) :: t6 :: t7 :: (.int .i64 k) :: (ptr g9) :: t10 :: t11 :: t12 :: t13 :: t14 :: t15 :: t16 :: t17 :: t18 :: t19 :: t20 :: t21 :: t22 :: t23 :: t24 :: t25 :: t26 :: t27 :: t28 :: t29 :: t30 :: t31 :: t32 :: t33 :: t34 :: t35 :: t36 :: t37 :: t38 :: t39 :: t40 :: t41 :: t42 :: t43 :: t44 :: t45 :: t46 :: t47 :: t48 :: t49 :: t50 :: t51 :: t52 :: t53 :: t54 :: t55 :: t56 :: t57 :: t58 :: t59 :: t60 :: t61 :: t62 :: t63 :: t64 :: t65 :: t66 :: t67 :: t68 :: t69 :: t70 :: t71 :: t72 :: t73 :: t74 :: t75 :: t76 :: t77 :: t78 :: t79 :: t80 :: t81 :: t82 :: t83 :: t84 :: t85 :: t86 :: t87 :: t88 :: t89 :: t90 :: t91 :: t92 :: t93 :: t94 :: t95 :: t96 :: t97 :: t98 :: t99 :: t100 :: t101 :: t102 :: t103 :: t104 :: t105 :: t106 :: t107 :: t108 :: t109 :: t110 :: t111 :: t112 :: t113 :: t114 :: t115 :: t116 :: t117 :: t118 :: t119 :: t120 :: t121 :: t122 :: t123 :: t124 :: t125 :: t126 :: t127 :: t128 :: t129 :: t130 :: t131 :: t132 :: t133 :: t134 :: t135 :: t136 :: t137 :: t138 :: t139 :: t140 :: t141 :: t142 :: t143 :: t144 :: t145 :: t146 :: t147 :: t148 :: t149 :: t150 :: t151 :: t152 :: t153 :: []), defers := [] } wr := by
  change some _ = some c at hc
  cases hc
  change some _ = some d at hd
  cases hd
  have HQF := Lib.hid hQ
  clear hQ
  have HRN := Lib.hid H.out.1.rn
  have HZ := H.out.1.sz
  have HNW : Hid (∀ W, Ext wr W → ∀ b, W.heap.size ≤ b → @S9 (SF (FQ F q)) b) := Lib.hid (fun W f b hb e => by
    have hs := f.size
    rcases e with e | e
    · have := (H.out.1.fl b e).1; omega
    · have := heap_lt H.out.1.hq; omega)
  have HcS : Hid (∀ W, Ext wr W → (fun w' : World => w'.cell? ⟨g9, 0, none⟩ = some (str p.1) ∧ w'.cell? ⟨g9, 1, none⟩ = some (str p.2)) W) := Lib.hid (fun W f => (H.out.2.1.ext f).cells)
  obtain ⟨b0, b1⟩ := H.out.2.1.cells
  obtain ⟨sl, hIn, hsl0⟩ := HRN.out
  have HIn := Lib.hid hIn
  have HSL := Lib.hid hsl0
  have hc1 : (k : Int) < 32 := by omega
  have hc0 : (0 : Int) ≤ (k : Int) := by omega
  clear hIn hsl0
  repeat' (go_not_at_region 28; (first | go_skip | go_guarded | go_step))
  go_region_held3 (fun w' : World => w'.cell? ⟨g9, 0, none⟩ = some (str p.1) ∧ w'.cell? ⟨g9, 1, none⟩ = some (str p.2))
    (first | exact HcS.out _ k3.out | exact HcS.out _ k2.out | exact HcS.out _ k1.out | exact HcS.out _ (ext_drew (Ext.refl _)))
    (first
      | (go_at_call 19; have mz := k2; clear mz; refine (@setKid_c (SF (FQ F q)) _ g k g1 sl (inS_ext HIn.out k2.out) hk).mono ?_; rintro e x3 ⟨g2, rfl, n3, f3, _⟩; have K3 : Hid (@In (SF (FQ F q)) ND x3 g2 (sl.set k (.kid g1)) ∧ @In (SF (FQ F q)) ND x3 g1 ((sl0 Nat).set k (.pr p))) := Lib.hid ⟨n3, inS_ext K2.out f3⟩; have k3 : Hid (Ext wr x3) := Lib.hid (Ext.trans k2.out f3); clear f3 n3)
      | (go_at_call 17; have mz := k1; clear mz; refine (@setPair_c (SF (FQ F q)) _ gk k (sl0 Nat) p K1.out hk).mono ?_; rintro e x2 ⟨g1, rfl, n2, f2, _⟩; have K2 := Lib.hid n2; have k2 : Hid (Ext wr x2) := Lib.hid (Ext.trans k1.out f2); clear f2 n2)
      | (go_at_call 20; refine (@inner0_c (SF (FQ F q)) _ (HNW.out _ (ext_drew (Ext.refl _)))).mono ?_; rintro e x1 ⟨gk, rfl, n1, f1, _⟩; have K1 := Lib.hid n1; have k1 : Hid (Ext wr x1) := Lib.hid (Ext.trans (ext_drew (Ext.refl _)) f1); clear f1 n1))
  clear HcS HNW b0 b1
  repeat' (go_not_at_region 30; (first | go_skip | go_guarded | go_step))
  obtain ⟨q2, hq2⟩ : ∃ q2, q2 = x3.heap.size := ⟨_, rfl⟩
  rw [← hq2]
  refine wp_nameS (fun w' => w'.heap[q2]? = some (.cells Tryd.zeroCells57 TT (0, 0)) ∧ Ext x3 w' ∧ q2 = x3.heap.size) ⟨by rw [hq2]; exact heap_new x3 _, (Ext.refl x3).alloc (Nat.le_refl _) _, hq2⟩ ?_
  clear hq2
  intro w3 H3
  have hqx : q < x3.heap.size := Nat.lt_of_lt_of_le (heap_lt H.out.1.hq) k3.out.size
  have h9x : g9 < x3.heap.size := Nat.lt_of_lt_of_le (heap_lt H.out.2.1) k3.out.size
  have hne : q2 ≠ q := by have := H3.out.2.2; omega
  have HFl : Hid (∀ b, (F b ∨ b = q2) → b ≠ q ∧ b < w3.heap.size ∧ w0.heap.size ≤ b) := Lib.hid (fun b hb => by
    have h1 := H3.out.2.1.size
    have h2 := k3.out.size
    have h3 := heap_lt H3.out.1
    have h4 := H.out.1.ext.size
    have h5 := H3.out.2.2
    rcases hb with hb | hb
    · exact ⟨fun e => by subst e; exact H.out.1.nf hb, by have := (H.out.1.fl b hb).1; omega, (H.out.1.fl b hb).2⟩
    · subst hb; exact ⟨hne, h3, by omega⟩)
  have HR3 : Hid (@RN (SF (FQ (fun b => F b ∨ b = q2) q)) w3 (.inn (upN is k 2) (upN pX k p) (upN kX k (nt1 k p))) g2) := Lib.hid (by
    have h1 : @RN (SF (FQ F q)) x3 (nt1 k p) g1 := by
      have h0 := @RN.bend (SF (FQ F q)) x3 x3 g1 k 1 p (.bk []) (fun _ => 0) (fun _ => ([], [])) (fun _ => .bk []) (sl0 Nat) (.pr p) (Ext.refl _) K3.out.2 (fun j s hs => sl0_slt j s hs) ⟨upN_same _ _ _, upN_same _ _ _⟩
      rw [nt1_eq] at h0
      exact h0
    have h2 := @RN.bend (SF (FQ F q)) wr x3 g2 k 2 p (nt1 k p) is pX kX sl (.kid g1) k3.out K3.out.1 HSL.out ⟨upN_same _ _ _, by show @RN (SF (FQ F q)) x3 (upN kX k (nt1 k p) k) g1; rw [upN_same]; exact h1⟩
    refine RN.turn9 (i1 := (SF (FQ F q))) (i2 := SF (FQ (fun b => F b ∨ b = q2) q)) (Only.none H3.out.2.1) (fun _ e => e.elim) (fun b hb e e2 => ?_) (fun b hb e2 => ?_) h2
    · rcases e2 with (e2 | e2) | e2
      · exact e (.inl e2)
      · have := H3.out.2.2; omega
      · exact e (.inr e2)
    · rcases e2 with e2 | e2
      · have := (HFl.out b e2).2.1; omega
      · have := H3.out.2.1.size; omega)
  obtain ⟨z0, hz0⟩ := get130 zs0.size (show 2 + k < 130 by omega)
  obtain ⟨z1, hz1⟩ := get130 zs0.size (show 34 + k * 2 < 130 by omega)
  obtain ⟨z2, hz2⟩ := get130 zs0.size (show 34 + k * 2 + 1 < 130 by omega)
  have E3 : Ext wr w3 := Ext.trans k3.out H3.out.2.1
  have HB : Hid (w3.heap[q2]? = some (.cells Tryd.zeroCells57 TT (0, 0)) ∧ Tryd.zeroCells57[2 + k]? = some z0 ∧ Tryd.zeroCells57[34 + k * 2]? = some z1 ∧ Tryd.zeroCells57[34 + k * 2 + 1]? = some z2 ∧ w3.cell? ⟨g9, 0, none⟩ = some (str p.1) ∧ w3.cell? ⟨g9, 1, none⟩ = some (str p.2) ∧ g9 ≠ q2) := Lib.hid ⟨H3.out.1, hz0, hz1, hz2, (H.out.2.1.ext E3).cells.1, (H.out.2.1.ext E3).cells.2, by have := H3.out.2.2; omega⟩
  clear hz0 hz1 hz2 E3
  refine raw_30 w3 q2 k g9 _ p z0 z1 z2 hk HB _ _ _ _ _ _ _ _ _ _ _ _ _ _ _ _ _ _ _ _ _ _ _ _ _ _ _ _ _ _ _ _ _ _ _ _ _ _ _ _ _ _ _ _ _ _ _ _ _ _ _ _ _ _ _ _ _ _ _ _ _ _ _ _ _ _ _ _ _ _ _ _ _ _ _ _ _ _ _ _ _ _ _ _ _ _ _ _ _ _ _ _ _ _ _ _ _ _ _ _ _ _ _ _ _ _ _ _ _ _ _ _ _ _ _ _ _ _ _ _ _ _ _ _ _ _ _ _ _ _ _ _ _ _ _ _ _ _ _ _ _ _ _ _ _ _ _ _ _ _ _ _ _ (by kernel_rfl) ?_
  intro u129 u130 u131 u132 u133 u134 u135 u136 u137 u138 u139 w4 hpo
  have E4 : Ext x3 w4 := ((Only.of_ext H3.out.2.1).trans' (T := fun b => b = q2) (S := fun b => b = q2) hpo.2 (fun _ _ e => e)).ext (fun i hi e => by have := H3.out.2.2; omega)
  have H4 : Hid (Ext wr w4 ∧ w4.heap[q2]? = some (.cells (setP Tryd.zeroCells57 k p) TT (0, 0)) ∧ @RN (SF (FQ (fun b => F b ∨ b = q2) q)) w4 (.inn (upN is k 2) (upN pX k p) (upN kX k (nt1 k p))) g2 ∧ w3.heap.size ≤ w4.heap.size) := Lib.hid ⟨Ext.trans k3.out E4, hpo.1, @RN.only (SF (FQ (fun b => F b ∨ b = q2) q)) w3 w4 _ hpo.2 (fun b hb => not_sf (.inl (.inr hb))) _ _ HR3.out, hpo.2.size⟩
  clear E4 hpo
  obtain ⟨z3, hz3⟩ := get130 HZ (show 2 + k < 130 by omega)
  obtain ⟨z4, hz4⟩ := get130 HZ (show 98 + k < 130 by omega)
  have HC : Hid (w4.heap[q]? = some (.cells A TT (0, 0)) ∧ A[2 + k]? = some z3 ∧ A[98 + k]? = some z4) := Lib.hid ⟨(H4.out.1.block q (heap_lt H.out.1.hq)).trans H.out.1.hq, hz3, hz4⟩
  clear hz3 hz4
  repeat' (go_not_at_region 31; (first | go_skip | go_guarded | go_step))
  refine raw_31 w4 q k q2 A z3 z4 hk HC _ _ _ _ _ _ _ _ _ _ _ _ _ _ _ _ _ _ _ _ _ _ _ _ _ _ _ _ _ _ _ _ _ _ _ _ _ _ _ _ _ _ _ _ _ _ _ _ _ _ _ _ _ _ _ _ _ _ _ _ _ _ _ _ _ _ _ _ _ _ _ _ _ _ _ _ _ _ _ _ _ _ _ _ _ _ _ _ _ _ _ _ _ _ _ _ _ _ _ _ _ _ _ _ _ _ _ _ _ _ _ _ _ _ _ _ _ _ _ _ _ _ _ _ _ _ _ _ _ _ _ _ _ _ _ _ _ _ _ _ _ _ _ _ _ _ _ _ _ _ _ _ _ (by kernel_rfl) ?_
  intro u140 u141 u142 u143 u144 u145 u146 u147 u148 u149 u150 wx hpo
  have HF : Hid (RwE w0 wx g2 q (n + 400) (m + 4)) := Lib.hid (by
    have o : Only (fun b => b = q) wr wx := (Only.of_ext H4.out.1).trans' (T := fun b => b = q) (S := fun b => b = q) hpo.2 (fun _ _ e => e)
    have hd : DNs wx (fun b => F b ∨ b = q2) (nt1 k p) q2 := dns_one hk (.inr rfl) (hpo.2.heap H4.out.2.1 hne)
    have hs4 := hpo.2.size
    have hs3 := H4.out.2.2.2
    exact ⟨_, _, _, _, _, Rw.bend H.out.1 hk o (fun _ h => .inl h) (fun b hb => ⟨(HFl.out b hb).1, by have := (HFl.out b hb).2.1; omega, (HFl.out b hb).2.2⟩) (@RN.only (SF (FQ (fun b => F b ∨ b = q2) q)) w4 wx _ hpo.2 (fun b hb => not_sf (.inr hb)) _ _ H4.out.2.2.1) hpo.1 (by rw [size_setK]; exact HZ) (setK_ne q2 (by omega) (by omega)) (setK_ne q2 (by omega) (by omega))
      (fun j hj hjk => ⟨setK_ne q2 (by omega) (by omega), setK_ne q2 (by omega) (by omega), setK_ne q2 (by omega) (by omega), setK_ne q2 (by omega) (by omega)⟩) (de_setK HZ hk hd) (fun e => by cases e) (fun _ => nok1 hk hp)⟩)
  clear hpo
  repeat' (first | go_skip | go_guarded | go_step)
  exact HQF.out g2 _ _ _ _ _ _ _ _ _ _ _ _ _ _ _ _ _ _ _ _ _ _ _ _ _ _ _ _ _ _ _ _ _ HF.out

set_option maxRecDepth 100000 in
set_option maxHeartbeats 2000000 in
theorem raw_b (w0 wr : World) (g q k n m : Nat) (F : Nat → Prop) (is : Nat → Nat) (pX : Nat → Pr) (kX : Nat → NT) (A : Array Value) (hk : k < 32) (H : Hid (Rw w0 wr g q F is pX kX A n m)) (c d : Code) (K : Act → World → Prop) (Q : Exit → Act → World → Prop) (t0 t1 t2 t3 t6 t7 t9 t10 t11 t12 t13 t14 t15 t16 t17 t18 t19 t20 t21 t22 t23 t24 t25 t26 t27 t28 t29 t30 t31 t32 t33 t34 t35 t36 t37 t38 t39 t40 t41 t42 t43 t44 t45 t46 t47 t48 t49 t50 t51 t52 t53 t54 t55 t56 t57 t58 t59 t60 t61 t62 t63 t64 t65 t66 t67 t68 t69 t70 t71 t72 t73 t74 t75 t76 t77 t78 t79 t80 t81 t82 t83 t84 t85 t86 t87 t88 t89 t90 t91 t92 t93 t94 t95 t96 t97 t98 t99 t100 t101 t102 t103 t104 t105 t106 t107 t108 t109 t110 t111 t112 t113 t114 t115 t116 t117 t118 t119 t120 t121 t122 t123 t124 t125 t126 t127 t128 t129 t130 t131 t132 t133 t134 t135 t136 t137 t138 t139 t140 t141 t142 t143 t144 t145 t146 t147 t148 t149 t150 t151 t152 t153 : Value)
    (hc : (Tryd.f7.body.bind (findR 12)) = some c) (hd : (Tryd.f7.body.bind (findS 13)) = some d)
    (hK : ∀ a w, d.wp Tryd.prog Q a w → K a w)
    (hQ : ∀ (g1 q1 : Nat) (u10 u55 u56 u57 u58 u59 u60 u61 u62 u63 u64 u65 u66 u67 u68 u69 u70 u71 u72 : Value) (wx : World), RwE w0 wx g1 q1 (n + 400) (m + 4) → Q .normal { tmps := List.toArray (t0 :: t1 :: t2 :: t3 :: (ptr g1) :: (ptr q1) :: t6 :: t7 :: (.int .i64 k) :: t9 :: u10 :: t11 :: t12 :: t13 :: t14 :: t15 :: t16 :: t17 :: t18 :: t19 :: t20 :: t21 :: t22 :: t23 :: t24 :: t25 :: t26 :: t27 :: t28 :: t29 :: t30 :: t31 :: t32 :: t33 :: t34 :: t35 :: t36 :: t37 :: t38 :: t39 :: t40 :: t41 :: t42 :: t43 :: t44 :: t45 :: t46 :: t47 :: t48 :: t49 :: t50 :: t51 :: t52 :: t53 :: t54 :: u55 :: u56 :: u57 :: u58 :: u59 :: u60 :: u61 :: u62 :: u63 :: u64 :: u65 :: u66 :: u67 :: u68 :: u69 :: u70 :: u71 :: u72 :: t73 :: t74 :: t75 :: t76 :: t77 :: t78 :: t79 :: t80 :: t81 :: t82 :: t83 :: t84 :: t85 :: t86 :: t87 :: t88 :: t89 :: t90 :: t91 :: t92 :: t93 :: t94 :: t95 :: t96 :: t97 :: t98 :: t99 :: t100 :: t101 :: t102 :: t103 :: t104 :: t105 :: t106 :: t107 :: t108 :: t109 :: t110 :: t111 :: t112 :: t113 :: t114 :: t115 :: t116 :: t117 :: t118 :: t119 :: t120 :: t121 :: t122 :: t123 :: t124 :: t125 :: t126 :: t127 :: t128 :: t129 :: t130 :: t131 :: t132 :: t133 :: t134 :: t135 :: t136 :: t137 :: t138 :: t139 :: t140 :: t141 :: t142 :: t143 :: t144 :: t145 :: t146 :: t147 :: t148 :: t149 :: t150 :: t151 :: t152 :: t153 :: []), defers := [] } wx) :
    c.wp Tryd.prog (Exit.then K Q) { tmps := List.toArray (t0 :: t1 :: t2 :: t3 :: (ptr g) :: (ptr q) :: t6 :: t7 :: (.int .i64 k) :: t9 :: t10 :: t11 :: t12 :: t13 :: t14 :: t15 :: t16 :: t17 :: t18 :: t19 :: t20 :: t21 :: t22 :: t23 :: t24 :: t25 :: t26 :: t27 :: t28 :: t29 :: t30 :: t31 :: t32 :: t33 :: t34 :: t35 :: t36 :: t37 :: t38 :: t39 :: t40 :: t41 :: t42 :: t43 :: t44 :: t45 :: t46 :: t47 :: t48 :: t49 :: t50 :: t51 :: t52 :: t53 :: t54 :: t55 :: t56 :: t57 :: t58 :: t59 :: t60 :: t61 :: t62 :: t63 :: t64 :: t65 :: t66 :: t67 :: t68 :: t69 :: t70 :: t71 :: t72 :: t73 :: t74 :: t75 :: t76 :: t77 :: t78 :: t79 :: t80 :: t81 :: t82 :: t83 :: t84 :: t85 :: t86 :: t87 :: t88 :: t89 :: t90 :: t91 :: t92 :: t93 :: t94 :: t95 :: t96 :: t97 :: t98 :: t99 :: t100 :: t101 :: t102 :: t103 :: t104 :: t105 :: t106 :: t107 :: t108 :: t109 :: t110 :: t111 :: t112 :: t113 :: t114 :: t115 :: t116 :: t117 :: t118 :: t119 :: t120 :: t121 :: t122 :: t123 :: t124 :: t125 :: t126 :: t127 :: t128 :: t129 :: t130 :: t131 :: t132 :: t133 :: t134 :: t135 :: t136 :: t137 :: t138 :: t139 :: t140 :: t141 :: t142 :: t143 :: t144 :: t145 :: t146 :: t147 :: t148 :: t149 :: t150 :: t151 :: t152 :: t153 :: []), defers := [] } wr := by
  change some _ = some c at hc
  cases hc
  change some _ = some d at hd
  cases hd
  have HQF := Lib.hid hQ
  clear hQ
  have HRN := Lib.hid H.out.rn
  have hc1 : (k : Int) < 32 := by omega
  have hc0 : (0 : Int) ≤ (k : Int) := by omega
  repeat' (first | go_at_call 20 | go_skip | go_guarded | go_step)
  refine (@inner0_c (SF (FQ F q)) wr (fun b hb e => by
    rcases e with e | e
    · have := (H.out.fl b e).1; omega
    · have := heap_lt H.out.hq; omega)).mono ?_
  rintro e w1 ⟨gi, rfl, n1, f1, _⟩
  have K1 : Hid (@In (SF (FQ F q)) ND w1 gi (sl0 Nat) ∧ Ext wr w1) := Lib.hid ⟨n1, f1⟩
  clear n1 f1
  go_simp
  repeat' (first | go_at_call 19 | go_skip | go_guarded | go_step)
  refine (@setKid_c (SF (FQ F q)) w1 gi k g (sl0 Nat) K1.out.1 hk).mono ?_
  rintro e w2 ⟨g1, rfl, n2, f2, _⟩
  have K2 : Hid (@In (SF (FQ F q)) ND w2 g1 ((sl0 Nat).set k (.kid g)) ∧ Ext wr w2) := Lib.hid ⟨n2, Ext.trans K1.out.2 f2⟩
  clear n2 f2
  go_simp
  repeat' (go_not_at_region 14; (first | go_skip | go_guarded | go_step))
  obtain ⟨q2, hq2⟩ : ∃ q2, q2 = w2.heap.size := ⟨_, rfl⟩
  rw [← hq2]
  refine wp_nameS (fun w' => w'.heap[q2]? = some (.cells Tryd.zeroCells57 TT (0, 0)) ∧ Ext w2 w' ∧ q2 = w2.heap.size) ⟨by rw [hq2]; exact heap_new w2 _, (Ext.refl w2).alloc (Nat.le_refl _) _, hq2⟩ ?_
  clear hq2
  intro w3 H3
  have hne : q2 ≠ q := by have := H3.out.2.2; have := heap_lt H.out.hq; have := K2.out.2.size; omega
  have HFl : Hid (∀ b, FQ F q b → b ≠ q2 ∧ b < w3.heap.size ∧ w0.heap.size ≤ b) := Lib.hid (fun b hb => by
    have h1 := H3.out.2.1.size
    have h2 := K2.out.2.size
    have h5 := H3.out.2.2
    rcases hb with hb | hb
    · have h6 := H.out.fl b hb; exact ⟨by omega, by omega, h6.2⟩
    · subst hb; have h6 := heap_lt H.out.hq; exact ⟨fun e => hne e.symm, by omega, H.out.ql⟩)
  have HR3 : Hid (@RN (SF (FQ (FQ F q) q2)) w3 (.inn (upN (fun _ => 0) k 2) (upN (fun _ => ([], [])) k ([], [])) (upN (fun _ => NT.bk []) k (.inn is pX kX))) g1) := Lib.hid (by
    have h2 := @RN.bend (SF (FQ F q)) w2 w2 g1 k 2 ([], []) (.inn is pX kX) (fun _ => 0) (fun _ => ([], [])) (fun _ => .bk []) (sl0 Nat) (.kid g) (Ext.refl _) K2.out.1 (fun j s hs => sl0_slt j s hs) ⟨upN_same _ _ _, by show @RN (SF (FQ F q)) w2 (upN (fun _ => NT.bk []) k (.inn is pX kX) k) g; rw [upN_same]; exact @RN.ext (SF (FQ F q)) _ _ K2.out.2 _ _ HRN.out⟩
    refine RN.turn9 (i1 := (SF (FQ F q))) (i2 := SF (FQ (FQ F q) q2)) (Only.none H3.out.2.1) (fun _ e => e.elim) (fun b hb e e2 => ?_) (fun b hb e2 => ?_) h2
    · rcases e2 with e2 | e2
      · exact e e2
      · have := H3.out.2.2; omega
    · rcases e2 with e2 | e2
      · have := (HFl.out b e2).2.1; omega
      · have := heap_lt H3.out.1; omega)
  obtain ⟨z3, hz3⟩ := get130 zs0.size (show 2 + k < 130 by omega)
  obtain ⟨z4, hz4⟩ := get130 zs0.size (show 98 + k < 130 by omega)
  have HC : Hid (w3.heap[q2]? = some (.cells Tryd.zeroCells57 TT (0, 0)) ∧ Tryd.zeroCells57[2 + k]? = some z3 ∧ Tryd.zeroCells57[98 + k]? = some z4) := Lib.hid ⟨H3.out.1, hz3, hz4⟩
  clear hz3 hz4
  refine raw_14 w3 q2 k q Tryd.zeroCells57 z3 z4 hk HC _ _ _ _ _ _ _ _ _ _ _ _ _ _ _ _ _ _ _ _ _ _ _ _ _ _ _ _ _ _ _ _ _ _ _ _ _ _ _ _ _ _ _ _ _ _ _ _ _ _ _ _ _ _ _ _ _ _ _ _ _ _ _ _ _ _ _ _ _ _ _ _ _ _ _ _ _ _ _ _ _ _ _ _ _ _ _ _ _ _ _ _ _ _ _ _ _ _ _ _ _ _ _ _ _ _ _ _ _ _ _ _ _ _ _ _ _ _ _ _ _ _ _ _ _ _ _ _ _ _ _ _ _ _ _ _ _ _ _ _ _ _ _ _ _ _ _ _ _ _ _ _ _ (by kernel_rfl) ?_
  intro u61 u62 u63 u64 u65 u66 u67 u68 u69 u70 u71 wx hpo
  have HF : Hid (RwE w0 wx g1 q2 (n + 400) (m + 4)) := Lib.hid (by
    have E3 : Ext wr w3 := Ext.trans K2.out.2 H3.out.2.1
    have o : Only (fun b => b = q2) wr wx := (Only.of_ext E3).trans' (T := fun b => b = q2) (S := fun b => b = q2) hpo.2 (fun _ _ e => e)
    have hn2 : ∀ i, i < wr.heap.size → i ≠ q2 := fun i hi e => by have := H3.out.2.2; have := K2.out.2.size; omega
    have EX : Ext wr wx := o.ext hn2
    have hs4 := hpo.2.size
    have hds := H.out.dns
    have hdx : DNs wx (FQ F q) (.inn is pX kX) q := DNs.only o (fun b hb e => (HFl.out b e).1 hb) hds
    refine ⟨FQ F q, _, _, _, _, ⟨Ext.trans H.out.ext EX, hpo.1, by rw [size_setK]; exact zs0.size, by rw [setK_ne q (by omega) (by omega)]; exact zs0.bk, by rw [setK_ne q (by omega) (by omega)]; exact zs0.sl, fun j hj => ?_, fun e => (HFl.out q2 e).1 rfl, fun b hb => ⟨by have := (HFl.out b hb).2.1; omega, (HFl.out b hb).2.2⟩, by have := H3.out.2.2; have := K2.out.2.size; have := H.out.ext.size; omega, @RN.only (SF (FQ (FQ F q) q2)) w3 wx _ hpo.2 (fun b hb => not_sf (.inr hb)) _ _ HR3.out, ?_⟩⟩
    · by_cases e : j = k
      · subst e
        rw [upN_same, upN_same, upN_same]
        exact de_setK zs0.size hk hdx
      · rw [upN_ne _ _ e, upN_ne _ _ e, upN_ne _ _ e]
        exact ⟨by rw [setK_ne q (by omega) (by omega)]; exact zs0.is j (Nat.zero_le _) hj, fun e => (by cases e), fun e => (by cases e)⟩
    · exact (NOk.bend hk NOk.zero (n1 := n) (m1 := m) (fun e => by cases e) (fun _ => H.out.ok)).mono (by omega) (by omega))
  clear hpo
  repeat' (first | go_skip | go_guarded | go_step)
  exact HQF.out g1 q2 _ _ _ _ _ _ _ _ _ _ _ _ _ _ _ _ _ _ _ _ HF.out

end Go.Proofs.YtclcgelbcbnekaaDoor
/- ShapeRaw: an act that hangs a bucket: a law of its own. -/
namespace Go.Proofs.YtclcgelbcbnekaaDoor
open Go Go.RowKit Go.QS Go.QS.Nk
set_option linter.unusedVariables false
variable [Zero (Nat → Prop)]
set_option linter.unusedSectionVars false

/-- A bucket's blocks. -/
abbrev FB (F : Nat → Prop) (x : Nat) (v : Value) (b : Nat) : Prop := F b ∨ b = x ∨ v.ownBlock = some b
/-- While a bucket is filled. -/
structure Bk7 (w0 wr wx : World) (g gb q x : Nat) (F : Nat → Prop) (t : NT) (A : Array Value) (v : Value) (l : List Pr) : Prop where
  ext : Ext wr wx
  rn : @RN (SF (FQ (FB F x v) q)) wx t g
  bk : @Bk (SF (FQ (FB F x v) q)) ND wx gb l
  hx : wx.heap[x]? = some (.cells A TT (0, 0))
  a0 : A[0]? = some (.bool true)
  a1 : A[1]? = some v
  is : ∀ c, c < 32 → A[2 + c]? = some (.int .i64 0)
  ps : PS wx v l
  vb : ∀ b, v.ownBlock = some b → b < wx.heap.size ∧ wr.heap.size ≤ b
  xb : wr.heap.size ≤ x
  rise : Rise l
  short : ∀ p ∈ l, p.1.length ≤ 40 ∧ p.2.length ≤ 40
  few : l.length ≤ 4
theorem Bk7.up {w0 wr wx wy : World} {g gb q x : Nat} {F : Nat → Prop} {t : NT} {A : Array Value} {v : Value} {l : List Pr} (h : Bk7 w0 wr wx g gb q x F t A v l) (f : Ext wx wy) : Bk7 w0 wr wy g gb q x F t A v l :=
  ⟨Ext.trans h.ext f, @RN.ext (SF (FQ (FB F x v) q)) _ _ f _ _ h.rn, @Bk.only (SF (FQ (FB F x v) q)) ND _ _ _ (Only.none f) (fun _ e => e.elim) _ _ h.bk, (f.block x (heap_lt h.hx)).trans h.hx, h.a0, h.a1, h.is, h.ps.below f, fun b hb => ⟨Nat.lt_of_lt_of_le (h.vb b hb).1 f.size, (h.vb b hb).2⟩, h.xb, h.rise, h.short, h.few⟩
theorem nok_bk {l : List Pr} (hs : ∀ p ∈ l, p.1.length ≤ 40 ∧ p.2.length ≤ 40) (h4 : l.length ≤ 4) : NOk (.bk l) 400 4 := by
  refine ⟨⟨fun p hp => by have := hs p hp; omega, by omega⟩, (by show l.length ≤ 100000; omega), ?_, h4⟩
  have := prsB_few hs
  show 9 + (prsB l).length ≤ 400
  omega
set_option maxRecDepth 100000 in
set_option maxHeartbeats 2000000 in
theorem raw_d (w0 wr : World) (g q k n m : Nat) (F : Nat → Prop) (is : Nat → Nat) (pX : Nat → Pr) (kX : Nat → NT) (A : Array Value) (hk : k < 32) (ga : Nat) (vL : Value) (lq : List Pr) (H : Hid (Rw w0 wr g q F is pX kX A n m ∧ wr.cell? ⟨ga, 4, none⟩ = some vL ∧ PS wr vL lq)) (c d : Code) (K : Act → World → Prop) (Q : Exit → Act → World → Prop) (t0 t1 t2 t3 t6 t9 t10 t11 t12 t13 t14 t15 t16 t17 t18 t19 t20 t21 t22 t23 t24 t25 t26 t27 t28 t29 t30 t31 t32 t33 t34 t35 t36 t37 t38 t39 t40 t41 t42 t43 t44 t45 t46 t47 t48 t49 t50 t51 t52 t53 t54 t55 t56 t57 t58 t59 t60 t61 t62 t63 t64 t65 t66 t67 t68 t69 t70 t71 t72 t73 t74 t75 t76 t77 t78 t79 t80 t81 t82 t83 t84 t85 t86 t87 t88 t89 t90 t91 t92 t93 t94 t95 t96 t97 t98 t99 t100 t101 t102 t103 t104 t105 t106 t107 t108 t109 t110 t111 t112 t113 t114 t115 t116 t117 t118 t119 t120 t121 t122 t123 t124 t125 t126 t127 t128 t129 t130 t131 t132 t133 t134 t135 t136 t137 t138 t139 t140 t141 t142 t143 t144 t145 t146 t147 t148 t149 t150 t151 t152 t153 : Value)
    (hc : (Tryd.f7.body.bind (findR 17)) = some c) (hd : (Tryd.f7.body.bind (findS 18)) = some d)
    (hK : ∀ a w, d.wp Tryd.prog Q a w → K a w)
    (hQ : ∀ (g1 : Nat) (u11 u12 u13 u14 u75 u76 u77 u78 u79 u80 u81 u82 u83 u84 u85 u86 u87 u88 u89 u90 u91 u92 u93 u94 u95 u96 u97 u98 u99 u100 u101 u102 u103 u104 u105 u106 u107 u108 u109 u110 u111 u112 u113 u114 u115 u116 u117 : Value) (wx : World), RwE w0 wx g1 q (n + 400) (m + 4) → Q .normal { tmps := List.toArray (t0 :: t1 :: t2 :: t3 :: (ptr g1) :: (ptr q) :: t6 :: (ptr ga) :: (.int .i64 k) :: t9 :: t10 :: u11 :: u12 :: u13 :: u14 :: t15 :: t16 :: t17 :: t18 :: t19 :: t20 :: t21 :: t22 :: t23 :: t24 :: t25 :: t26 :: t27 :: t28 :: t29 :: t30 :: t31 :: t32 :: t33 :: t34 :: t35 :: t36 :: t37 :: t38 :: t39 :: t40 :: t41 :: t42 :: t43 :: t44 :: t45 :: t46 :: t47 :: t48 :: t49 :: t50 :: t51 :: t52 :: t53 :: t54 :: t55 :: t56 :: t57 :: t58 :: t59 :: t60 :: t61 :: t62 :: t63 :: t64 :: t65 :: t66 :: t67 :: t68 :: t69 :: t70 :: t71 :: t72 :: t73 :: t74 :: u75 :: u76 :: u77 :: u78 :: u79 :: u80 :: u81 :: u82 :: u83 :: u84 :: u85 :: u86 :: u87 :: u88 :: u89 :: u90 :: u91 :: u92 :: u93 :: u94 :: u95 :: u96 :: u97 :: u98 :: u99 :: u100 :: u101 :: u102 :: u103 :: u104 :: u105 :: u106 :: u107 :: u108 :: u109 :: u110 :: u111 :: u112 :: u113 :: u114 :: u115 :: u116 :: u117 :: t118 :: t119 :: t120 :: t121 :: t122 :: t123 :: t124 :: t125 :: t126 :: t127 :: t128 :: t129 :: t130 :: t131 :: t132 :: t133 :: t134 :: t135 :: t136 :: t137 :: t138 :: t139 :: t140 :: t141 :: t142 :: t143 :: t144 :: t145 :: t146 :: t147 :: t148 :: t149 :: t150 :: t151 :: t152 :: t153 :: []), defers := [] } wx) :
    c.wp Tryd.prog (Exit.then K Q) { tmps := List.toArray (t0 :: t1 :: t2 :: t3 :: (ptr g) :: (ptr q) :: t6 :: (ptr ga) :: (.int .i64 k) :: t9 :: t10 :: t11 :: t12 :: t13 :: t14 :: t15 :: t16 :: t17 :: t18 :: t19 :: t20 :: t21 :: t22 :: t23 :: t24 :: t25 :: t26 :: t27 :: t28 :: t29 :: t30 :: t31 :: t32 :: t33 :: t34 :: t35 :: t36 :: t37 :: t38 :: t39 :: t40 :: t41 :: t42 :: t43 :: t44 :: t45 :: t46 :: t47 :: t48 :: t49 :: t50 :: t51 :: t52 :: t53 :: t54 :: t55 :: t56 :: t57 :: t58 :: t59 :: t60 :: t61 :: t62 :: t63 :: t64 :: t65 :: t66 :: t67 :: t68 :: t69 :: t70 :: t71 :: t72 :: t73 :: t74 :: t75 :: t76 :: t77 :: t78 :: t79 :: t80 :: t81 :: t82 :: t83 :: t84 :: t85 :: t86 :: t87 :: t88 :: t89 :: t90 :: t91 :: t92 :: t93 :: t94 :: t95 :: t96 :: t97 :: t98 :: t99 :: t100 :: t101 :: t102 :: t103 :: t104 :: t105 :: t106 :: t107 :: t108 :: t109 :: t110 :: t111 :: t112 :: t113 :: t114 :: t115 :: t116 :: t117 :: t118 :: t119 :: t120 :: t121 :: t122 :: t123 :: t124 :: t125 :: t126 :: t127 :: t128 :: t129 :: t130 :: t131 :: t132 :: t133 :: t134 :: t135 :: t136 :: t137 :: t138 :: t139 :: t140 :: t141 :: t142 :: t143 :: t144 :: t145 :: t146 :: t147 :: t148 :: t149 :: t150 :: t151 :: t152 :: t153 :: []), defers := [] } wr := by
  change some _ = some c at hc
  cases hc
  change some _ = some d at hd
  cases hd
  have HQF := Lib.hid hQ
  clear hQ
  obtain ⟨wr0, rfl⟩ : ∃ x, x = wr := ⟨_, rfl⟩
  have HRN := Lib.hid H.out.1.rn
  have HZ := H.out.1.sz
  obtain ⟨LA, LC, rfl, _, hn0, hnC, hnS⟩ := H.out.2.2
  obtain ⟨nl, hnl⟩ : ∃ n, n = lq.length := ⟨_, rfl⟩
  rw [← hnl] at hn0
  have hn9 : nl ≤ 9223372036854775807 := by unfold maxLen at hnC; omega
  have cL := H.out.2.1
  rw [← hnl] at cL
  have HL : Hid (nl = lq.length ∧ Seg wr0 LA (flat lq)) := Lib.hid ⟨hnl, hnS⟩
  have hc1 : (k : Int) < 32 := by omega
  have hc0 : (0 : Int) ≤ (k : Int) := by omega
  clear hnl hnS
  repeat' (first | go_at_call 27 | go_skip | go_guarded | go_step)
  refine (@bucket0_c (SF (FQ F q)) wr0 (fun b hb e => by
    rcases e with e | e
    · have := (H.out.1.fl b e).1; omega
    · have := heap_lt H.out.1.hq; omega)).mono ?_
  rintro e w1 ⟨gb, rfl, n1, f1, _⟩
  have K1 : Hid (@Bk (SF (FQ F q)) ND w1 gb [] ∧ Ext wr0 w1) := Lib.hid ⟨n1, f1⟩
  have cL1 := Ext.cell' f1 cL
  have HCL := Lib.hid cL1
  clear n1 f1 cL cL1
  go_simp
  repeat' (go_not_at_region 18; (first | go_skip | go_guarded | go_step))
  obtain ⟨x, hx⟩ : ∃ x, x = w1.heap.size := ⟨_, rfl⟩
  rw [← hx]
  refine wp_nameS (fun w' => w'.heap[x]? = some (.cells (Tryd.zeroCells57.setIfInBounds 0 (.bool true)) TT (0, 0)) ∧ Ext w1 w' ∧ x = w1.heap.size) ⟨by rw [hx]; exact heap_new w1 _, (Ext.refl w1).alloc (Nat.le_refl _) _, hx⟩ ?_
  clear hx
  intro w2 H2
  have cL2 := Ext.cell' H2.out.2.1 HCL.out
  have hxr : wr0.heap.size ≤ x := by have := K1.out.2.size; have := H2.out.2.2; omega
  have B0 : Hid (Bk7 w0 wr0 w2 g gb q x F (.inn is pX kX) (Tryd.zeroCells57.setIfInBounds 0 (.bool true)) (.slice none 0 0) []) := Lib.hid (by
    have t1 : ∀ b, b < w1.heap.size → ¬ FQ F q b → ¬ FQ (FB F x (.slice none 0 0)) q b := fun b hb e e2 => by
      rcases e2 with (e2 | e2 | e2) | e2
      · exact e (.inl e2)
      · have := H2.out.2.2; omega
      · cases e2
      · exact e (.inr e2)
    have t2 : ∀ b, w2.heap.size ≤ b → ¬ FQ (FB F x (.slice none 0 0)) q b := fun b hb e2 => by
      have hs := H2.out.2.1.size
      have hs1 := K1.out.2.size
      rcases e2 with (e2 | e2 | e2) | e2
      · have := (H.out.1.fl b e2).1; omega
      · have := heap_lt H2.out.1; omega
      · cases e2
      · have := heap_lt H.out.1.hq; omega
    refine ⟨Ext.trans K1.out.2 H2.out.2.1, ?_, ?_, H2.out.1, ?_, ?_, fun c hc => ?_, Sl.nil _ _, fun b hb => (by cases hb), hxr, rise_nil, fun p hp => (by cases hp), by simp⟩
    · exact RN.turn9 (i1 := (SF (FQ F q))) (i2 := SF (FQ (FB F x (.slice none 0 0)) q)) (Only.none H2.out.2.1) (fun _ e => e.elim) t1 t2 (@RN.ext (SF (FQ F q)) _ _ K1.out.2 _ _ HRN.out)
    · exact Bk.turn9 (i1 := (SF (FQ F q))) (i2 := SF (FQ (FB F x (.slice none 0 0)) q)) (Only.none H2.out.2.1) (fun _ e => e.elim) t1 t2 K1.out.1
    · exact Array.getElem?_setIfInBounds_self_of_lt (by rw [zs0.size]; omega)
    · rw [Array.getElem?_setIfInBounds_ne (by omega)]; exact zs0.sl
    · rw [Array.getElem?_setIfInBounds_ne (by omega)]; exact zs0.is c (Nat.zero_le _) hc)
  repeat' (go_not_at_region 19; (first | go_skip | go_guarded | go_step))
  go_loopg [11, 81] nl (fun gk v11 v81 wx => ∃ (j gb : Nat) (A12 : Array Value) (v : Value) (l : List Pr), v11 = ptr gb ∧ v81 = .int .i64 j ∧ j ≤ nl ∧ nl - j ≤ gk ∧ (l.length ≤ j ∧ l.length ≤ 4) ∧ Hid (Bk7 w0 wr0 wx g gb q x F (.inn is pX kX) A12 v l))
  case atStart => exact ⟨0, gb, _, _, [], rfl, rfl, Nat.zero_le _, by omega, by simp, B0⟩
  case round =>
    obtain ⟨j, gc, A12, v, l, rfl, rfl, hin, hgk, hl4, HI⟩ := hrel
    rcases Nat.lt_or_ge j nl with hlt | hge
    · have d1 : decide (j < nl) = true := by simp [hlt]
      have hi1 : (j : Int) < (nl : Int) := by omega
      obtain ⟨p, hp⟩ := get_of_lt lq (show j < lq.length by have := HL.out.1; omega)
      obtain ⟨b, o, rfl, q0, q1⟩ := seg_pair (HL.out.2.below HI.out.ext) hp
      clear hp
      repeat' (go_not_at_region 21; (first | go_skip | go_guarded | go_step))
      obtain ⟨gp, hgp⟩ : ∃ g, g = wr.heap.size := ⟨_, rfl⟩
      rw [← hgp]
      refine wp_nameS (fun w' => PrAt w' gp p ∧ Ext wr w' ∧ gp = wr.heap.size) ⟨by rw [hgp]; exact heap_new wr _, (Ext.refl _).alloc (Nat.le_refl _) _, hgp⟩ ?_
      clear hgp q0 q1
      intro w4 H4
      by_cases h4 : j < 4
      · have d2 : decide (j < 4) = true := by simp [h4]
        have d2' : decide ((j : Int) < 4) = true := by simp; omega
        have HI4 := Lib.hid (HI.out.up H4.out.2.1)
        obtain ⟨c0, c1⟩ := H4.out.1.cells
        repeat' (first | go_at_call 16 | go_skip | go_guarded | go_step)
        refine (few07_c w4 p).mono ?_
        rintro e w5 ⟨rfl, f5⟩
        have F5 := Lib.hid f5
        clear f5 c0 c1
        go_simp
        repeat' (first | go_at_call 28 | go_skip | go_guarded | go_step)
        refine (@bput_c (SF (FQ (FB F x v) q)) w5 gc l (cutP p) (HI4.out.up F5.out).bk HI.out.rise (by omega)).mono ?_
        rintro e w6 ⟨gd, rfl, b6, f6, _⟩
        have F6 : Hid (Ext w4 w6 ∧ @Bk (SF (FQ (FB F x v) q)) ND w6 gd (rput l (cutP p)) ∧ Bk7 w0 wr0 w6 g gc q x F (.inn is pX kX) A12 v l ∧ PrAt w6 gp p) := Lib.hid ⟨Ext.trans F5.out f6, b6, (HI4.out.up F5.out).up f6, H4.out.1.ext (Ext.trans F5.out f6)⟩
        have hxp : gp ≠ x := by have := H4.out.2.2; have := heap_lt HI.out.hx; omega
        clear b6 f6
        go_simp
        repeat' (go_not_at_region 23; (first | go_skip | go_guarded | go_step))
        refine raw_23 w6 x gp A12 v l p (by omega) (Lib.hid ⟨F6.out.2.2.1.hx, F6.out.2.2.1.a1, F6.out.2.2.1.ps, F6.out.2.2.2, hxp⟩) _ _ _ _ _ _ _ _ _ _ _ _ _ _ _ _ _ _ _ _ _ _ _ _ _ _ _ _ _ _ _ _ _ _ _ _ _ _ _ _ _ _ _ _ _ _ _ _ _ _ _ _ _ _ _ _ _ _ _ _ _ _ _ _ _ _ _ _ _ _ _ _ _ _ _ _ _ _ _ _ _ _ _ _ _ _ _ _ _ _ _ _ _ _ _ _ _ _ _ _ _ _ _ _ _ _ _ _ _ _ _ _ _ _ _ _ _ _ _ _ _ _ _ _ _ _ _ _ _ _ _ _ _ _ _ _ _ _ _ _ _ _ _ _ _ _ _ _ _ _ _ _ _ _ (by kernel_rfl) ?_
        intro u92 u93 u94 u95 u96 u97 u98 u99 u100 u101 w7 hpo
        have H7 : Hid (∃ A2 v2, Bk7 w0 wr0 w7 g gd q x F (.inn is pX kX) A2 v2 (rput l (cutP p))) := Lib.hid (by
          obtain ⟨v2, x2, r2, o2⟩ := hpo
          have h6 := F6.out.2.2.1
          have hs6 := h6.ext.size
          have t1 : ∀ b, b < w6.heap.size → ¬ FQ (FB F x v) q b → ¬ FQ (FB F x v2) q b := fun b hb e e2 => by
            rcases e2 with (e2 | e2 | e2) | e2
            · exact e (.inl (.inl e2))
            · exact e (.inl (.inr (.inl e2)))
            · have := (r2.lt b e2).1; omega
            · exact e (.inr e2)
          have t2 : ∀ b, w7.heap.size ≤ b → ¬ FQ (FB F x v2) q b := fun b hb e2 => by
            have hs := o2.size
            rcases e2 with (e2 | e2 | e2) | e2
            · have := (H.out.1.fl b e2).1; omega
            · have := heap_lt x2; omega
            · have := (r2.lt b e2).2; omega
            · have := heap_lt H.out.1.hq; omega
          have hT : ∀ b, b = x → ¬ @S9 (SF (FQ (FB F x v) q)) b := fun b hb => not_sf (.inl (.inr (.inl hb)))
          have hl := rput_length l (cutP p)
          exact ⟨_, v2, ⟨((Only.of_ext h6.ext).trans' (T := fun b => b = x) (S := fun b => b = x) o2 (fun _ _ e => e)).ext (fun i hi e => by have := h6.xb; omega), RN.turn9 (i1 := SF (FQ (FB F x v) q)) (i2 := SF (FQ (FB F x v2) q)) o2 hT t1 t2 h6.rn, Bk.turn9 (i1 := SF (FQ (FB F x v) q)) (i2 := SF (FQ (FB F x v2) q)) o2 hT t1 t2 F6.out.2.1, x2, by rw [Array.getElem?_setIfInBounds_ne (by omega)]; exact h6.a0, Array.getElem?_setIfInBounds_self_of_lt (by have := (Array.getElem?_eq_some_iff.1 h6.a1).1; exact this), fun c hc => by rw [Array.getElem?_setIfInBounds_ne (by omega)]; exact h6.is c hc, PS.of_own r2, fun b hb => ⟨(r2.lt b hb).2, by have := (r2.lt b hb).1; omega⟩, h6.xb, rput_rise h6.rise _, fun y hy => by
            rcases mem_rput.1 hy with rfl | ⟨hy, _⟩
            · exact cutP_short p
            · exact h6.short y hy, by omega⟩⟩)
        clear hpo
        obtain ⟨A2, v2, h7⟩ := H7.out
        have hlr := rput_length l (cutP p)
        have H8 := Lib.hid h7
        clear h7
        repeat' (first | go_skip | go_guarded | go_step)
        go_roundg (nl - (j + 1))
        case measure => omega
        case rel => exact ⟨j + 1, gd, A2, v2, _, rfl, by go_num, by omega, Nat.le_refl _, ⟨by omega, H8.out.few⟩, H8⟩
      · have d2 : decide (j < 4) = false := by simp; omega
        have d2' : decide ((j : Int) < 4) = false := by simp; omega
        repeat' (first | go_skip | go_guarded | go_step)
        go_roundg (nl - (j + 1))
        case measure => omega
        case rel => exact ⟨j + 1, gc, A12, v, l, rfl, by go_num, by omega, Nat.le_refl _, ⟨by omega, hl4.2⟩, Lib.hid (HI.out.up H4.out.2.1)⟩
    · obtain rfl : j = nl := by omega
      have d1 : decide (j < j) = false := by simp
      obtain ⟨sl, hIn, hsl0⟩ := HI.out.rn
      have HSL := Lib.hid hsl0
      clear hsl0
      repeat' (first | go_at_call 19 | go_skip | go_guarded | go_step)
      refine (@setKid_c (SF (FQ (FB F x v) q)) wr g k gc sl hIn hk).mono ?_
      rintro e w8 ⟨g8, rfl, n8, f8, _⟩
      have H8 : Hid (@In (SF (FQ (FB F x v) q)) ND w8 g8 (sl.set k (.kid gc)) ∧ Ext wr w8 ∧ Ext wr0 w8) := Lib.hid ⟨n8, f8, Ext.trans HI.out.ext f8⟩
      clear n8 f8 hIn
      go_simp
      repeat' (go_not_at_region 26; (first | go_skip | go_guarded | go_step))
      obtain ⟨z3, hz3⟩ := get130 HZ (show 2 + k < 130 by omega)
      obtain ⟨z4, hz4⟩ := get130 HZ (show 98 + k < 130 by omega)
      have HC : Hid (w8.heap[q]? = some (.cells A TT (0, 0)) ∧ A[2 + k]? = some z3 ∧ A[98 + k]? = some z4) := Lib.hid ⟨(H8.out.2.2.block q (heap_lt H.out.1.hq)).trans H.out.1.hq, hz3, hz4⟩
      clear hz3 hz4
      refine raw_26 w8 q k x A z3 z4 hk HC _ _ _ _ _ _ _ _ _ _ _ _ _ _ _ _ _ _ _ _ _ _ _ _ _ _ _ _ _ _ _ _ _ _ _ _ _ _ _ _ _ _ _ _ _ _ _ _ _ _ _ _ _ _ _ _ _ _ _ _ _ _ _ _ _ _ _ _ _ _ _ _ _ _ _ _ _ _ _ _ _ _ _ _ _ _ _ _ _ _ _ _ _ _ _ _ _ _ _ _ _ _ _ _ _ _ _ _ _ _ _ _ _ _ _ _ _ _ _ _ _ _ _ _ _ _ _ _ _ _ _ _ _ _ _ _ _ _ _ _ _ _ _ _ _ _ _ _ _ _ _ _ _ (by kernel_rfl) ?_
      intro u107 u108 u109 u110 u111 u112 u113 u114 u115 u116 u117 wx hpo
      have HF : Hid (RwE w0 wx g8 q (n + 400) (m + 4)) := Lib.hid (by
        have hql := heap_lt H.out.1.hq
        have o : Only (fun b => b = q) wr0 wx := (Only.of_ext H8.out.2.2).trans' (T := fun b => b = q) (S := fun b => b = q) hpo.2 (fun _ _ e => e)
        have h8 := HI.out.up H8.out.2.1
        have hs8 := hpo.2.size
        have hFl : ∀ b, FB F x v b → b ≠ q ∧ b < wx.heap.size ∧ w0.heap.size ≤ b := fun b hb => by
          have h0 := H.out.1.ext.size
          have h1 := H8.out.2.2.size
          rcases hb with hb | hb | hb
          · have h2 := H.out.1.fl b hb; exact ⟨fun e => by subst e; exact H.out.1.nf hb, by omega, h2.2⟩
          · have h2 := heap_lt h8.hx; have h3 := h8.xb; subst hb; exact ⟨by omega, by omega, by omega⟩
          · have h2 := h8.vb b hb; exact ⟨by omega, by omega, by omega⟩
        have hd0 : DNs w8 (FB F x v) (.bk l) x := ⟨.inr (.inl rfl), A12, v, h8.hx, h8.a0, h8.a1, h8.ps, fun b hb => .inr (.inr hb), h8.is⟩
        have hd : DNs wx (FB F x v) (.bk l) x := DNs.only hpo.2 (fun b hb e => (hFl b e).1 hb) hd0
        have hR := @RN.only (SF (FQ (FB F x v) q)) w8 wx _ hpo.2 (fun b hb => not_sf (.inr hb)) _ _ (@RN.bend (SF (FQ (FB F x v) q)) wr w8 g8 k 2 ([], []) (.bk l) is pX kX sl (.kid gc) H8.out.2.1 H8.out.1 HSL.out ⟨upN_same _ _ _, by show @RN (SF (FQ (FB F x v) q)) w8 (upN kX k (.bk l) k) gc; rw [upN_same]; exact h8.bk⟩)
        exact ⟨_, _, _, _, _, Rw.bend H.out.1 hk o (fun _ h => .inl h) hFl hR hpo.1 (by rw [size_setK]; exact HZ) (setK_ne x (by omega) (by omega)) (setK_ne x (by omega) (by omega))
          (fun j hj hjk => ⟨setK_ne x (by omega) (by omega), setK_ne x (by omega) (by omega), setK_ne x (by omega) (by omega), setK_ne x (by omega) (by omega)⟩) (de_setK HZ hk hd) (fun e => by cases e) (fun _ => nok_bk HI.out.short HI.out.few)⟩)
      clear hpo
      repeat' (first | go_skip | go_guarded | go_step)
      exact HQF.out g8 _ _ _ _ _ _ _ _ _ _ _ _ _ _ _ _ _ _ _ _ _ _ _ _ _ _ _ _ _ _ _ _ _ _ _ _ _ _ _ _ _ _ _ _ _ _ _ _ HF.out

end Go.Proofs.YtclcgelbcbnekaaDoor
