/- ShapeBends: what is changed, four ways: laws of their own. -/
import Derived.Test.YtclcgelbcbnekaaDoorM37
import Derived.Test.YtclcgelbcbnekaaDoorM38
import Derived.Test.YtclcgelbcbnekaaDoorM35
import Derived.Deep.RegionHeld3
set_option linter.unusedVariables false
set_option linter.unusedSimpArgs false
namespace Go.Proofs.YtclcgelbcbnekaaDoor
open Go Go.RowKit Go.QS Go.QS.Nk
set_option linter.unusedVariables false
variable [Zero (Nat → Prop)]
set_option linter.unusedSectionVars false

theorem all_trT (H : List UInt8 → Nat) : ∀ (f : Nat) (l : List Pr), allN (trT H f l) f = prsN (trT H f l)
  | 0, l => rfl
  | f + 1, l => by
    show (List.range 32).flatMap _ = (List.range 32).flatMap _
    congr 1
    funext c
    dsimp only
    rw [all_trT H f]
/-- The chunks of a trie's root. -/
abbrev isX (H : List UInt8 → Nat) (X : List Pr) (j : Nat) : Nat := min 2 (Go.QS.part H 0 j X).length
abbrev pX (H : List UInt8 → Nat) (X : List Pr) (j : Nat) : Pr := (Go.QS.part H 0 j X).headD ([], [])
abbrev kX (H : List UInt8 → Nat) (X : List Pr) (j : Nat) : NT := trT H 12 (Go.QS.part H 0 j X)
theorem trT13 (H : List UInt8 → Nat) (X : List Pr) : trT H 13 X = .inn (isX H X) (pX H X) (kX H X) := rfl
/-- What stands ahead of the change. -/
structure BdH (w wr : World) (gh g8 g q : Nat) (h : Hs) (A : Array Value) (p : Pr) (X : List Pr) : Prop where
  ext : Ext w wr
  lq : w.heap.size ≤ q
  hs : HsAt wr gh h
  pr : PrAt wr g8 p
  hq : wr.heap[q]? = some (.cells A TTY (0, 0))
  zs : Zs A 32
  ent : ∀ W, KeepT (q + 1) wr W → ∀ c, c < 32 → EntOk (DR h.hash W 12) A c (Go.QS.part h.hash 0 c X)
  tr : TR ND h.hash wr 13 g X
  nq : ¬ S9 q
  n8 : g8 ≠ q
  nh : gh ≠ q
  ok : X.length ≤ 40 ∧ (∀ p ∈ X, p.1.length ≤ 40 ∧ p.2.length ≤ 40) ∧ p.1.length ≤ 40 ∧ p.2.length ≤ 40
/-- What stands behind it. -/
def BdE (w wx : World) (gh g1 q : Nat) (h : Hs) : Prop := Ext w wx ∧ HsAt wx gh h ∧ ∃ t, RN wx t g1 ∧ DN wx t q ∧ NSm t ∧ NFew t ∧ (lookN t 13).length ≤ 60000000 ∧ (allN t 13).length ≤ 500 ∧ (prsN t).length ≤ 1000000
structure Kd9 (i : Nat) (p : Pr) (t : NT) : Prop where
  pr : i = 1 → p.1.length ≤ 40 ∧ p.2.length ≤ 40
  kd : i = 2 → (lookN t 12).length ≤ 1000 ∧ (allN t 12).length ≤ 100 ∧ (prsN t).length ≤ 100 ∧ NSm t ∧ NFew t
theorem bd_fin {w wr w2 wx : World} {gh g8 g g1 q k i' : Nat} {h : Hs} {A A' : Array Value} {p p' : Pr} {k' : NT} {X : List Pr} {sl : List (Slot Nat)} {s' : Slot Nat} (H : BdH w wr gh g8 g q h A p X) (hk : k < 32) (f2 : Ext wr w2) (o : Only (fun b => b = q) w2 wx)
    (hN2 : In ND w2 g1 (sl.set k s')) (hsl : ∀ j s, sl[j]? = some s → SlT (isX h.hash X) (pX h.hash X) (fun j q => RN wr (kX h.hash X j) q) j s)
    (hs' : SlT (upN (isX h.hash X) k i') (upN (pX h.hash X) k p') (fun j q => RN w2 (upN (kX h.hash X) k k' j) q) k s')
    (hq : wx.heap[q]? = some (.cells A' TTY (0, 0))) (h0 : A'[0]? = A[0]?) (h1 : A'[1]? = A[1]?)
    (hne : ∀ j, j < 32 → j ≠ k → A'[2 + j]? = A[2 + j]? ∧ A'[34 + j * 2]? = A[34 + j * 2]? ∧ A'[34 + j * 2 + 1]? = A[34 + j * 2 + 1]? ∧ A'[98 + j]? = A[98 + j]?)
    (hc : DE (fun q' => DN wx k' q') A' k i' p') (hB : Kd9 i' p' k') : BdE w wx gh g1 q h := by
  have hX := H.ok
  have of : Only (fun b => b = q) wr wx := (Only.of_ext f2).trans' (T := fun b => b = q) (S := fun b => b = q) o (fun _ _ e => e)
  have hqs : q < wr.heap.size := heap_lt H.hq
  have hkt : KeepT (q + 1) wr wx := of.mono (fun i hi e => by subst e; exact ⟨by omega, A, TTY, H.hq, by decide⟩)
  have hR := RN.only o (fun b hb => by subst hb; exact H.nq) (RN.bend f2 hN2 hsl hs')
  have hD := DN.bend (X := X) hq (h0.trans H.zs.bk) (h1.trans H.zs.sl) (H.ent wx hkt) hne hc
  have hsm : NSm (.inn (isX h.hash X) (pX h.hash X) (kX h.hash X)) := by
    rw [← trT13]
    exact NSm_trT h.hash 13 (fun p hp => by have := hX.2.1 p hp; omega) (by omega)
  have hfw : NFew (.inn (isX h.hash X) (pX h.hash X) (kX h.hash X)) := by
    rw [← trT13]
    exact NFew_trT h.hash 13 (by omega)
  have hBn : Bnt (upN (isX h.hash X) k i') (upN (pX h.hash X) k p') (upN (kX h.hash X) k k') k := by
    have e : ∀ (one : Pr → Nat) (gg : NT → Nat), shr one gg (upN (isX h.hash X) k i') (upN (pX h.hash X) k p') (upN (kX h.hash X) k k') k = if i' = 1 then one p' else if i' = 2 then gg k' else 0 := fun one gg => by
      unfold shr; rw [upN_same, upN_same, upN_same]
    refine ⟨?_, ?_, ?_, ?_, ?_⟩
    · rw [e]
      by_cases i1 : i' = 1
      · have := hB.pr i1
        rw [if_pos i1, prB, List.length_append, textB_len, textB_len]; omega
      · rw [if_neg i1]
        by_cases i2 : i' = 2
        · rw [if_pos i2]; exact (hB.kd i2).1
        · rw [if_neg i2]; omega
    · rw [e]
      by_cases i1 : i' = 1
      · rw [if_pos i1]; omega
      · rw [if_neg i1]
        by_cases i2 : i' = 2
        · rw [if_pos i2]; exact (hB.kd i2).2.1
        · rw [if_neg i2]; omega
    · rw [e]
      by_cases i1 : i' = 1
      · rw [if_pos i1]; omega
      · rw [if_neg i1]
        by_cases i2 : i' = 2
        · rw [if_pos i2]; exact (hB.kd i2).2.2.1
        · rw [if_neg i2]; omega
    · rw [upN_same, upN_same, upN_same]
      exact ⟨fun i1 => by have := hB.pr i1; omega, fun i2 => (hB.kd i2).2.2.2.1⟩
    · rw [upN_same, upN_same]
      exact fun i2 => (hB.kd i2).2.2.2.2
  obtain ⟨b1, b2, b3, b4, b5⟩ := bend_ok hk hsm hfw hBn
  have l1 : (lookN (.inn (isX h.hash X) (pX h.hash X) (kX h.hash X)) 13).length ≤ 9000 := by
    rw [← trT13, lookN_trT]; exact shp_few h.hash hX.1 hX.2.1
  have l3 : (prsN (.inn (isX h.hash X) (pX h.hash X) (kX h.hash X))).length ≤ 40 := by
    rw [← trT13, (prsN_trT h.hash 13 X).length_eq]; exact hX.1
  have l2 : (allN (.inn (isX h.hash X) (pX h.hash X) (kX h.hash X)) 13).length ≤ 40 := by
    rw [← trT13, all_trT, trT13]; exact l3
  exact ⟨((Only.of_ext H.ext).trans' (T := fun b => b = q) (S := fun b => b = q) of (fun _ _ e => e)).ext (fun i hi e => by subst e; have := H.lq; omega), of.heap H.hs H.nh, _, hR, hD, b1, b2, by omega, by omega, by omega⟩
/-- The kids that are hung. -/
theorem kd9_0 (p : Pr) : Kd9 2 p nt0 := ⟨fun e => (by cases e), fun _ => ⟨by decide, by decide, by decide, fun c _ => ⟨fun e => (by cases e), fun e => (by cases e)⟩, fun c _ e => (by cases e)⟩⟩
abbrev nt1 (k : Nat) (p : Pr) : NT := .inn (upN (fun _ => 0) k 1) (upN (fun _ => ([], [])) k p) (fun _ => .bk [])
theorem kd9_1 (p q : Pr) {k : Nat} (hk : k < 32) (h : q.1.length ≤ 40 ∧ q.2.length ≤ 40) : Kd9 2 p (nt1 k q) := by
  have hz : ∀ (one : Pr → Nat) (gg : NT → Nat), ((List.range 32).map (shr one gg (fun _ => 0) (fun _ => ([], [])) (fun _ => .bk []))).sum = 0 := fun one gg => by
    have e : shr one gg (fun _ => 0) (fun _ => ([], [])) (fun _ => .bk []) = fun _ => 0 := rfl
    rw [e]; decide
  have hb : ∀ (one : Pr → Nat) (gg : NT → Nat), ((List.range 32).map (shr one gg (upN (fun _ => 0) k 1) (upN (fun _ => ([], [])) k q) (fun _ => .bk []))).sum ≤ one q := fun one gg => by
    have h1 := shr_bend one gg (fun _ => 0) (fun _ => ([], [])) (fun _ => .bk []) k 1 q (.bk [])
    have e : upN (fun _ => NT.bk []) k (.bk []) = fun _ => .bk [] := by funext j; unfold upN; split <;> rfl
    rw [e, hz] at h1
    have e2 : shr one gg (upN (fun _ => 0) k 1) (upN (fun _ => ([], [])) k q) (fun _ => .bk []) k = one q := by unfold shr; rw [upN_same, upN_same]; rfl
    rw [e2] at h1
    omega
  refine ⟨fun e => (by cases e), fun _ => ⟨?_, ?_, ?_, fun c hc => ⟨fun e => ?_, fun e => ?_⟩, fun c hc e => ?_⟩⟩
  · have := hb (fun q => (prB q).length) (fun t => (lookN t 11).length)
    rw [look_sum 11]
    rw [prB, List.length_append, textB_len, textB_len] at this
    omega
  · have := hb (fun _ => 1) (fun t => (allN t 11).length)
    rw [all_sum 11]; omega
  · have := hb (fun _ => 1) (fun t => (prsN t).length)
    rw [prs_sum]; omega
  · by_cases e1 : c = k
    · subst e1; rw [upN_same]; omega
    · rw [upN_ne _ _ e1] at e; cases e
  · by_cases e1 : c = k
    · subst e1; rw [upN_same] at e; cases e
    · rw [upN_ne _ _ e1] at e; cases e
  · by_cases e1 : c = k
    · subst e1; rw [upN_same] at e; cases e
    · rw [upN_ne _ _ e1] at e; cases e
theorem get130 {A : Array Value} (h : A.size = 130) {j : Nat} (hj : j < 130) : ∃ z, A[j]? = some z := ⟨A[j], Array.getElem?_eq_getElem (by omega)⟩
theorem setI_ne {A : Array Value} {k j : Nat} (z : Value) (h : j ≠ 2 + k) : (A.setIfInBounds (2 + k) z)[j]? = A[j]? := Array.getElem?_setIfInBounds_ne (by omega)
theorem de_setP {R : Nat → Prop} {A : Array Value} {k : Nat} {p : Pr} (h : A.size = 130) (hk : k < 32) : DE R (setP A k p) k 1 p := by
  refine ⟨?_, fun _ => ⟨?_, ?_⟩, fun e => (by cases e)⟩
  · rw [setP, Array.getElem?_setIfInBounds_ne (by omega), Array.getElem?_setIfInBounds_ne (by omega), Array.getElem?_setIfInBounds_self_of_lt (by omega)]; rfl
  · rw [setP, Array.getElem?_setIfInBounds_ne (by omega), Array.getElem?_setIfInBounds_self_of_lt (by simp; omega)]
  · rw [setP, Array.getElem?_setIfInBounds_self_of_lt (by simp; omega)]
theorem de_setK {R : Nat → Prop} {A : Array Value} {k q : Nat} {p : Pr} (h : A.size = 130) (hk : k < 32) (hR : R q) : DE R (setK A k q) k 2 p := by
  refine ⟨?_, fun e => (by cases e), fun _ => ⟨q, ?_, hR⟩⟩
  · rw [setK, Array.getElem?_setIfInBounds_ne (by omega), Array.getElem?_setIfInBounds_self_of_lt (by omega)]; rfl
  · rw [setK, Array.getElem?_setIfInBounds_self_of_lt (by simp; omega)]

set_option maxRecDepth 100000 in
set_option maxHeartbeats 2000000 in
theorem bd_a (w wr : World) (gh g8 g q k : Nat) (h : Hs) (A : Array Value) (p : Pr) (X : List Pr) (hk : k < 32) (H : Hid (BdH w wr gh g8 g q h A p X)) (c d : Code) (K : Act → World → Prop) (Q : Exit → Act → World → Prop) (t0 t1 t2 t3 t4 t6 t7 t9 t10 t12 t15 t16 t17 t18 t19 t20 t21 t22 t23 t24 t25 t26 t27 t28 t29 t30 t31 t32 t33 t34 t35 t36 t37 t38 t39 t40 t41 t42 t43 t44 t45 t46 t47 t48 t49 t50 t51 t52 t53 t54 t55 t56 t57 t58 t59 t60 t61 t62 t63 t64 t65 t66 t67 t68 t69 t70 t71 t72 t73 t74 t75 t76 t77 t78 t79 t80 t81 t82 t83 t84 t85 t86 t87 t88 t89 t90 t91 t92 t93 t94 t95 t96 t97 t98 t99 t100 t101 t102 t103 t104 t105 t106 t107 t108 t109 t110 t111 t112 t113 t114 t115 t116 t117 t118 t119 t120 t121 t122 t123 t124 t125 : Value)
    (hc : (Tryd.f4.body.bind (findR 13)) = some c) (hd : (Tryd.f4.body.bind (findS 14)) = some d)
    (hK : ∀ a w, d.wp Tryd.prog Q a w → K a w)
    (hQ : ∀ (g1 : Nat) (u68 u69 u70 u71 u72 u73 u74 u75 u76 u77 u78 u79 u80 u81 u82 : Value) (wx : World), BdE w wx gh g1 q h → Q .normal { tmps := List.toArray (t0 :: t1 :: t2 :: t3 :: t4 :: (ptr gh) :: t6 :: t7 :: (ptr g8) :: t9 :: t10 :: (ptr g1) :: t12 :: (ptr q) :: (.int .i64 k) :: t15 :: t16 :: t17 :: t18 :: t19 :: t20 :: t21 :: t22 :: t23 :: t24 :: t25 :: t26 :: t27 :: t28 :: t29 :: t30 :: t31 :: t32 :: t33 :: t34 :: t35 :: t36 :: t37 :: t38 :: t39 :: t40 :: t41 :: t42 :: t43 :: t44 :: t45 :: t46 :: t47 :: t48 :: t49 :: t50 :: t51 :: t52 :: t53 :: t54 :: t55 :: t56 :: t57 :: t58 :: t59 :: t60 :: t61 :: t62 :: t63 :: t64 :: t65 :: t66 :: t67 :: u68 :: u69 :: u70 :: u71 :: u72 :: u73 :: u74 :: u75 :: u76 :: u77 :: u78 :: u79 :: u80 :: u81 :: u82 :: t83 :: t84 :: t85 :: t86 :: t87 :: t88 :: t89 :: t90 :: t91 :: t92 :: t93 :: t94 :: t95 :: t96 :: t97 :: t98 :: t99 :: t100 :: t101 :: t102 :: t103 :: t104 :: t105 :: t106 :: t107 :: t108 :: t109 :: t110 :: t111 :: t112 :: t113 :: t114 :: t115 :: t116 :: t117 :: t118 :: t119 :: t120 :: t121 :: t122 :: t123 :: t124 :: t125 :: []), defers := [] } wx) :
    c.wp Tryd.prog (Exit.then K Q) { tmps := List.toArray (t0 :: t1 :: t2 :: t3 :: t4 :: (ptr gh) :: t6 :: t7 :: (ptr g8) :: t9 :: t10 :: (ptr g) :: t12 :: (ptr q) :: (.int .i64 k) :: t15 :: t16 :: t17 :: t18 :: t19 :: t20 :: t21 :: t22 :: t23 :: t24 :: t25 :: t26 :: t27 :: t28 :: t29 :: t30 :: t31 :: t32 :: t33 :: t34 :: t35 :: t36 :: t37 :: t38 :: t39 :: t40 :: t41 :: t42 :: t43 :: t44 :: t45 :: t46 :: t47 :: t48 :: t49 :: t50 :: t51 :: t52 :: t53 :: t54 :: t55 :: t56 :: t57 :: t58 :: t59 :: t60 :: t61 :: t62 :: t63 :: t64 :: t65 :: t66 :: t67 :: t68 :: t69 :: t70 :: t71 :: t72 :: t73 :: t74 :: t75 :: t76 :: t77 :: t78 :: t79 :: t80 :: t81 :: t82 :: t83 :: t84 :: t85 :: t86 :: t87 :: t88 :: t89 :: t90 :: t91 :: t92 :: t93 :: t94 :: t95 :: t96 :: t97 :: t98 :: t99 :: t100 :: t101 :: t102 :: t103 :: t104 :: t105 :: t106 :: t107 :: t108 :: t109 :: t110 :: t111 :: t112 :: t113 :: t114 :: t115 :: t116 :: t117 :: t118 :: t119 :: t120 :: t121 :: t122 :: t123 :: t124 :: t125 :: []), defers := [] } wr := by
  change some _ = some c at hc
  cases hc
  change some _ = some d at hd
  cases hd
  have HQF := Lib.hid hQ
  clear hQ
  obtain ⟨sl, hIn, hsl0⟩ : ∃ sl : List (Slot Nat), In ND wr g sl ∧ ∀ j s, sl[j]? = some s → SlT (isX h.hash X) (pX h.hash X) (fun j q => RN wr (kX h.hash X j) q) j s := TR.rn 13 H.out.tr
  have HSL := Lib.hid hsl0
  clear hsl0
  obtain ⟨b0, b1⟩ := H.out.pr.cells
  have HZ := H.out.zs.size
  have hc1 : (k : Int) < 32 := by omega
  have hc0 : (0 : Int) ≤ (k : Int) := by omega
  repeat' (first | go_at_call 17 | go_skip | go_guarded | go_step)
  refine (setPair_c wr g k sl p hIn hk).mono ?_
  rintro e w2 ⟨g1, rfl, hN2, f2, _⟩
  have H2 : Hid (In ND w2 g1 (sl.set k (.pr p)) ∧ Ext wr w2) := Lib.hid ⟨hN2, f2⟩
  obtain ⟨z0, hz0⟩ := get130 HZ (show 2 + k < 130 by omega)
  obtain ⟨z1, hz1⟩ := get130 HZ (show 34 + k * 2 < 130 by omega)
  obtain ⟨z2, hz2⟩ := get130 HZ (show 34 + k * 2 + 1 < 130 by omega)
  have HB : Hid (w2.heap[q]? = some (.cells A TT (0, 0)) ∧ A[2 + k]? = some z0 ∧ A[34 + k * 2]? = some z1 ∧ A[34 + k * 2 + 1]? = some z2 ∧ w2.cell? ⟨g8, 0, none⟩ = some (str p.1) ∧ w2.cell? ⟨g8, 1, none⟩ = some (str p.2) ∧ g8 ≠ q) := Lib.hid ⟨(f2.block q (heap_lt H.out.hq)).trans H.out.hq, hz0, hz1, hz2, (H.out.pr.ext f2).cells.1, (H.out.pr.ext f2).cells.2, H.out.n8⟩
  clear hN2 f2 hz0 hz1 hz2 hIn b0 b1 HZ
  go_simp
  repeat' (go_not_at_region 14; (first | go_skip | go_guarded | go_step))
  refine bd_14 w2 q k g8 A p z0 z1 z2 hk HB _ _ _ _ _ _ _ _ _ _ _ _ _ _ _ _ _ _ _ _ _ _ _ _ _ _ _ _ _ _ _ _ _ _ _ _ _ _ _ _ _ _ _ _ _ _ _ _ _ _ _ _ _ _ _ _ _ _ _ _ _ _ _ _ _ _ _ _ _ _ _ _ _ _ _ _ _ _ _ _ _ _ _ _ _ _ _ _ _ _ _ _ _ _ _ _ _ _ _ _ _ _ _ _ _ _ _ _ _ _ _ _ _ _ _ _ _ _ _ _ _ _ _ _ _ (by kernel_rfl) ?_
  intro u72 u73 u74 u75 u76 u77 u78 u79 u80 u81 u82 wx hpo
  have HF : Hid (BdE w wx gh g1 q h) := Lib.hid (bd_fin (i' := 1) (p' := p) (k' := .bk []) H.out hk H2.out.2 hpo.2 H2.out.1 HSL.out ⟨upN_same _ _ _, upN_same _ _ _⟩ hpo.1 (setP_ne p (by omega) (by omega) (by omega)) (setP_ne p (by omega) (by omega) (by omega))
    (fun j hj hjk => ⟨setP_ne p (by omega) (by omega) (by omega), setP_ne p (by omega) (by omega) (by omega), setP_ne p (by omega) (by omega) (by omega), setP_ne p (by omega) (by omega) (by omega)⟩) (de_setP H.out.zs.size hk) ⟨fun _ => H.out.ok.2.2, fun e => (by cases e)⟩)
  clear hpo
  repeat' (first | go_skip | go_guarded | go_step)
  exact HQF.out g1 _ _ _ _ _ _ _ _ _ _ _ _ _ _ _ _ HF.out


set_option maxRecDepth 100000 in
set_option maxHeartbeats 2000000 in
theorem bd_b (w wr : World) (gh g8 g q k : Nat) (h : Hs) (A : Array Value) (p : Pr) (X : List Pr) (hk : k < 32) (H : Hid (BdH w wr gh g8 g q h A p X)) (c d : Code) (K : Act → World → Prop) (Q : Exit → Act → World → Prop) (t0 t1 t2 t3 t4 t6 t7 t9 t10 t12 t15 t16 t17 t18 t19 t20 t21 t22 t23 t24 t25 t26 t27 t28 t29 t30 t31 t32 t33 t34 t35 t36 t37 t38 t39 t40 t41 t42 t43 t44 t45 t46 t47 t48 t49 t50 t51 t52 t53 t54 t55 t56 t57 t58 t59 t60 t61 t62 t63 t64 t65 t66 t67 t68 t69 t70 t71 t72 t73 t74 t75 t76 t77 t78 t79 t80 t81 t82 t83 t84 t85 t86 t87 t88 t89 t90 t91 t92 t93 t94 t95 t96 t97 t98 t99 t100 t101 t102 t103 t104 t105 t106 t107 t108 t109 t110 t111 t112 t113 t114 t115 t116 t117 t118 t119 t120 t121 t122 t123 t124 t125 : Value)
    (hc : (Tryd.f4.body.bind (findR 16)) = some c) (hd : (Tryd.f4.body.bind (findS 17)) = some d)
    (hK : ∀ a w, d.wp Tryd.prog Q a w → K a w)
    (hQ : ∀ (g1 : Nat) (u85 u86 u87 u88 u89 u90 u91 u92 : Value) (wx : World), BdE w wx gh g1 q h → Q .normal { tmps := List.toArray (t0 :: t1 :: t2 :: t3 :: t4 :: (ptr gh) :: t6 :: t7 :: (ptr g8) :: t9 :: t10 :: (ptr g1) :: t12 :: (ptr q) :: (.int .i64 k) :: t15 :: t16 :: t17 :: t18 :: t19 :: t20 :: t21 :: t22 :: t23 :: t24 :: t25 :: t26 :: t27 :: t28 :: t29 :: t30 :: t31 :: t32 :: t33 :: t34 :: t35 :: t36 :: t37 :: t38 :: t39 :: t40 :: t41 :: t42 :: t43 :: t44 :: t45 :: t46 :: t47 :: t48 :: t49 :: t50 :: t51 :: t52 :: t53 :: t54 :: t55 :: t56 :: t57 :: t58 :: t59 :: t60 :: t61 :: t62 :: t63 :: t64 :: t65 :: t66 :: t67 :: t68 :: t69 :: t70 :: t71 :: t72 :: t73 :: t74 :: t75 :: t76 :: t77 :: t78 :: t79 :: t80 :: t81 :: t82 :: t83 :: t84 :: u85 :: u86 :: u87 :: u88 :: u89 :: u90 :: u91 :: u92 :: t93 :: t94 :: t95 :: t96 :: t97 :: t98 :: t99 :: t100 :: t101 :: t102 :: t103 :: t104 :: t105 :: t106 :: t107 :: t108 :: t109 :: t110 :: t111 :: t112 :: t113 :: t114 :: t115 :: t116 :: t117 :: t118 :: t119 :: t120 :: t121 :: t122 :: t123 :: t124 :: t125 :: []), defers := [] } wx) :
    c.wp Tryd.prog (Exit.then K Q) { tmps := List.toArray (t0 :: t1 :: t2 :: t3 :: t4 :: (ptr gh) :: t6 :: t7 :: (ptr g8) :: t9 :: t10 :: (ptr g) :: t12 :: (ptr q) :: (.int .i64 k) :: t15 :: t16 :: t17 :: t18 :: t19 :: t20 :: t21 :: t22 :: t23 :: t24 :: t25 :: t26 :: t27 :: t28 :: t29 :: t30 :: t31 :: t32 :: t33 :: t34 :: t35 :: t36 :: t37 :: t38 :: t39 :: t40 :: t41 :: t42 :: t43 :: t44 :: t45 :: t46 :: t47 :: t48 :: t49 :: t50 :: t51 :: t52 :: t53 :: t54 :: t55 :: t56 :: t57 :: t58 :: t59 :: t60 :: t61 :: t62 :: t63 :: t64 :: t65 :: t66 :: t67 :: t68 :: t69 :: t70 :: t71 :: t72 :: t73 :: t74 :: t75 :: t76 :: t77 :: t78 :: t79 :: t80 :: t81 :: t82 :: t83 :: t84 :: t85 :: t86 :: t87 :: t88 :: t89 :: t90 :: t91 :: t92 :: t93 :: t94 :: t95 :: t96 :: t97 :: t98 :: t99 :: t100 :: t101 :: t102 :: t103 :: t104 :: t105 :: t106 :: t107 :: t108 :: t109 :: t110 :: t111 :: t112 :: t113 :: t114 :: t115 :: t116 :: t117 :: t118 :: t119 :: t120 :: t121 :: t122 :: t123 :: t124 :: t125 :: []), defers := [] } wr := by
  change some _ = some c at hc
  cases hc
  change some _ = some d at hd
  cases hd
  have HQF := Lib.hid hQ
  clear hQ
  obtain ⟨sl, hIn, hsl0⟩ : ∃ sl : List (Slot Nat), In ND wr g sl ∧ ∀ j s, sl[j]? = some s → SlT (isX h.hash X) (pX h.hash X) (fun j q => RN wr (kX h.hash X j) q) j s := TR.rn 13 H.out.tr
  have HSL := Lib.hid hsl0
  clear hsl0
  obtain ⟨b0, b1⟩ := H.out.pr.cells
  have HZ := H.out.zs.size
  have hc1 : (k : Int) < 32 := by omega
  have hc0 : (0 : Int) ≤ (k : Int) := by omega
  repeat' (first | go_at_call 18 | go_skip | go_guarded | go_step)
  refine (clear_c wr g k sl hIn hk).mono ?_
  rintro e w2 ⟨g1, rfl, hN2, f2, _⟩
  have H2 : Hid (In ND w2 g1 (sl.set k .no) ∧ Ext wr w2) := Lib.hid ⟨hN2, f2⟩
  obtain ⟨z0, hz0⟩ := get130 HZ (show 2 + k < 130 by omega)
  have hq2 : w2.heap[q]? = some (.cells A TT (0, 0)) := (f2.block q (heap_lt H.out.hq)).trans H.out.hq
  have c0 := cell_at hq2 hz0
  have cf : ∀ j, w2.frozen? ⟨q, j, none⟩ = false := fun j => by simp [World.frozen?, hq2]
  have HP : Hid (BdE w (w2.setCell ⟨q, 2 + k, none⟩ (.int .i64 0)) gh g1 q h) := Lib.hid (bd_fin (i' := 0) (p' := p) (k' := .bk []) H.out hk H2.out.2 ((Only.refl w2).setCell (p := ⟨q, 2 + k, none⟩) (S := fun b => b = q) (.inl rfl) _) H2.out.1 HSL.out ⟨by rw [upN_same]; decide, by rw [upN_same]; decide⟩ (heap_set hq2 (2 + k) (.int .i64 0)) (setI_ne _ (by omega)) (setI_ne _ (by omega))
    (fun j hj hjk => ⟨setI_ne _ (by omega), setI_ne _ (by omega), setI_ne _ (by omega), setI_ne _ (by omega)⟩) ⟨Array.getElem?_setIfInBounds_self_of_lt (by have := H.out.zs.size; omega), fun e => (by cases e), fun e => (by cases e)⟩ ⟨fun e => (by cases e), fun e => (by cases e)⟩)
  clear hN2 f2 hz0 hIn b0 b1 HZ hq2
  go_simp
  repeat' (first | go_skip | go_guarded | go_step)
  exact HQF.out g1 _ _ _ _ _ _ _ _ _ HP.out


set_option maxRecDepth 100000 in
set_option maxHeartbeats 2000000 in
theorem bd_c (w wr : World) (gh g8 g q k : Nat) (h : Hs) (A : Array Value) (p : Pr) (X : List Pr) (hk : k < 32) (H : Hid (BdH w wr gh g8 g q h A p X)) (c d : Code) (K : Act → World → Prop) (Q : Exit → Act → World → Prop) (t0 t1 t2 t3 t4 t6 t7 t9 t10 t12 t15 t16 t17 t18 t19 t20 t21 t22 t23 t24 t25 t26 t27 t28 t29 t30 t31 t32 t33 t34 t35 t36 t37 t38 t39 t40 t41 t42 t43 t44 t45 t46 t47 t48 t49 t50 t51 t52 t53 t54 t55 t56 t57 t58 t59 t60 t61 t62 t63 t64 t65 t66 t67 t68 t69 t70 t71 t72 t73 t74 t75 t76 t77 t78 t79 t80 t81 t82 t83 t84 t85 t86 t87 t88 t89 t90 t91 t92 t93 t94 t95 t96 t97 t98 t99 t100 t101 t102 t103 t104 t105 t106 t107 t108 t109 t110 t111 t112 t113 t114 t115 t116 t117 t118 t119 t120 t121 t122 t123 t124 t125 : Value)
    (hc : (Tryd.f4.body.bind (findR 19)) = some c) (hd : (Tryd.f4.body.bind (findS 20)) = some d)
    (hK : ∀ a w, d.wp Tryd.prog Q a w → K a w)
    (hQ : ∀ (g1 : Nat) (u95 u96 u97 u98 u99 u100 u101 u102 u103 u104 u105 u106 u107 u108 u109 u110 : Value) (wx : World), BdE w wx gh g1 q h → Q .normal { tmps := List.toArray (t0 :: t1 :: t2 :: t3 :: t4 :: (ptr gh) :: t6 :: t7 :: (ptr g8) :: t9 :: t10 :: (ptr g1) :: t12 :: (ptr q) :: (.int .i64 k) :: t15 :: t16 :: t17 :: t18 :: t19 :: t20 :: t21 :: t22 :: t23 :: t24 :: t25 :: t26 :: t27 :: t28 :: t29 :: t30 :: t31 :: t32 :: t33 :: t34 :: t35 :: t36 :: t37 :: t38 :: t39 :: t40 :: t41 :: t42 :: t43 :: t44 :: t45 :: t46 :: t47 :: t48 :: t49 :: t50 :: t51 :: t52 :: t53 :: t54 :: t55 :: t56 :: t57 :: t58 :: t59 :: t60 :: t61 :: t62 :: t63 :: t64 :: t65 :: t66 :: t67 :: t68 :: t69 :: t70 :: t71 :: t72 :: t73 :: t74 :: t75 :: t76 :: t77 :: t78 :: t79 :: t80 :: t81 :: t82 :: t83 :: t84 :: t85 :: t86 :: t87 :: t88 :: t89 :: t90 :: t91 :: t92 :: t93 :: t94 :: u95 :: u96 :: u97 :: u98 :: u99 :: u100 :: u101 :: u102 :: u103 :: u104 :: u105 :: u106 :: u107 :: u108 :: u109 :: u110 :: t111 :: t112 :: t113 :: t114 :: t115 :: t116 :: t117 :: t118 :: t119 :: t120 :: t121 :: t122 :: t123 :: t124 :: t125 :: []), defers := [] } wx) :
    c.wp Tryd.prog (Exit.then K Q) { tmps := List.toArray (t0 :: t1 :: t2 :: t3 :: t4 :: (ptr gh) :: t6 :: t7 :: (ptr g8) :: t9 :: t10 :: (ptr g) :: t12 :: (ptr q) :: (.int .i64 k) :: t15 :: t16 :: t17 :: t18 :: t19 :: t20 :: t21 :: t22 :: t23 :: t24 :: t25 :: t26 :: t27 :: t28 :: t29 :: t30 :: t31 :: t32 :: t33 :: t34 :: t35 :: t36 :: t37 :: t38 :: t39 :: t40 :: t41 :: t42 :: t43 :: t44 :: t45 :: t46 :: t47 :: t48 :: t49 :: t50 :: t51 :: t52 :: t53 :: t54 :: t55 :: t56 :: t57 :: t58 :: t59 :: t60 :: t61 :: t62 :: t63 :: t64 :: t65 :: t66 :: t67 :: t68 :: t69 :: t70 :: t71 :: t72 :: t73 :: t74 :: t75 :: t76 :: t77 :: t78 :: t79 :: t80 :: t81 :: t82 :: t83 :: t84 :: t85 :: t86 :: t87 :: t88 :: t89 :: t90 :: t91 :: t92 :: t93 :: t94 :: t95 :: t96 :: t97 :: t98 :: t99 :: t100 :: t101 :: t102 :: t103 :: t104 :: t105 :: t106 :: t107 :: t108 :: t109 :: t110 :: t111 :: t112 :: t113 :: t114 :: t115 :: t116 :: t117 :: t118 :: t119 :: t120 :: t121 :: t122 :: t123 :: t124 :: t125 :: []), defers := [] } wr := by
  change some _ = some c at hc
  cases hc
  change some _ = some d at hd
  cases hd
  have HQF := Lib.hid hQ
  clear hQ
  obtain ⟨sl, hIn, hsl0⟩ : ∃ sl : List (Slot Nat), In ND wr g sl ∧ ∀ j s, sl[j]? = some s → SlT (isX h.hash X) (pX h.hash X) (fun j q => RN wr (kX h.hash X j) q) j s := TR.rn 13 H.out.tr
  have HSL := Lib.hid hsl0
  clear hsl0
  obtain ⟨b0, b1⟩ := H.out.pr.cells
  have HZ := H.out.zs.size
  have hc1 : (k : Int) < 32 := by omega
  have hc0 : (0 : Int) ≤ (k : Int) := by omega
  have HNW : Hid (∀ W, Ext wr W → ∀ b, W.heap.size ≤ b → S9 b) := Lib.hid (fun W f b hb => by obtain ⟨_, _, _, _, nd⟩ := hIn; exact nd.nw b (Nat.le_trans f.size hb))
  repeat' (first | go_at_call 20 | go_skip | go_guarded | go_step)
  refine (inner0_c wr (HNW.out wr (Ext.refl _))).mono ?_
  rintro e w1 ⟨gk, rfl, hNk, f1, _⟩
  have H1 : Hid (In ND w1 gk (sl0 Nat) ∧ Ext wr w1) := Lib.hid ⟨hNk, f1⟩
  have hIn1 := hIn.ext f1
  clear hNk f1
  go_simp
  repeat' (first | go_at_call 19 | go_skip | go_guarded | go_step)
  refine (setKid_c w1 g k gk sl hIn1 hk).mono ?_
  rintro e w2 ⟨g1, rfl, hN2, f2, _⟩
  have H2 : Hid (In ND w2 g1 (sl.set k (.kid gk)) ∧ Ext wr w2 ∧ RN w2 nt0 gk) := Lib.hid ⟨hN2, H1.out.2.trans f2, RN.nt0 (H1.out.1.ext f2)⟩
  obtain ⟨z0, hz0⟩ := get130 HZ (show 2 + k < 130 by omega)
  obtain ⟨z1, hz1⟩ := get130 HZ (show 98 + k < 130 by omega)
  have HB : Hid (w2.heap[q]? = some (.cells A TT (0, 0)) ∧ A[2 + k]? = some z0 ∧ A[98 + k]? = some z1) := Lib.hid ⟨(H2.out.2.1.block q (heap_lt H.out.hq)).trans H.out.hq, hz0, hz1⟩
  clear hN2 f2 hz0 hz1 hIn hIn1 b0 b1 HZ
  go_simp
  repeat' (go_not_at_region 20; (first | go_skip | go_guarded | go_step))
  refine bd_20 w2 q k A z0 z1 hk HB _ _ _ _ _ _ _ _ _ _ _ _ _ _ _ _ _ _ _ _ _ _ _ _ _ _ _ _ _ _ _ _ _ _ _ _ _ _ _ _ _ _ _ _ _ _ _ _ _ _ _ _ _ _ _ _ _ _ _ _ _ _ _ _ _ _ _ _ _ _ _ _ _ _ _ _ _ _ _ _ _ _ _ _ _ _ _ _ _ _ _ _ _ _ _ _ _ _ _ _ _ _ _ _ _ _ _ _ _ _ _ _ _ _ _ _ _ _ _ _ _ _ _ _ _ _ (by kernel_rfl) ?_
  intro u99 u100 u101 u102 u103 u104 u105 u106 u107 u108 u109 u110 wx hpo
  have HF : Hid (BdE w wx gh g1 q h) := Lib.hid (by
    obtain ⟨q2, p1, p2, p3, p4, p5⟩ := hpo
    exact bd_fin (i' := 2) (p' := p) (k' := nt0) H.out hk H2.out.2.1 p5 H2.out.1 HSL.out ⟨upN_same _ _ _, by show RN w2 (upN (kX h.hash X) k nt0 k) gk; rw [upN_same]; exact H2.out.2.2⟩ p1 (setK_ne q2 (by omega) (by omega)) (setK_ne q2 (by omega) (by omega))
      (fun j hj hjk => ⟨setK_ne q2 (by omega) (by omega), setK_ne q2 (by omega) (by omega), setK_ne q2 (by omega) (by omega), setK_ne q2 (by omega) (by omega)⟩) (de_setK H.out.zs.size hk (dn_zero p2)) (kd9_0 p))
  clear hpo
  repeat' (first | go_skip | go_guarded | go_step)
  exact HQF.out g1 _ _ _ _ _ _ _ _ _ _ _ _ _ _ _ _ _ HF.out


theorem RN.nt0_sl {c : Nat} {s : Slot Nat} (hs : (sl0 Nat)[c]? = some s) : s = .no := by
  unfold sl0 at hs
  rw [List.getElem?_replicate] at hs
  by_cases hc : c < 32
  · rw [if_pos hc] at hs; cases hs; rfl
  · rw [if_neg hc] at hs; cases hs
set_option maxRecDepth 100000 in
set_option maxHeartbeats 2000000 in
theorem bd_d (w wr : World) (gh g8 g q k : Nat) (h : Hs) (A : Array Value) (p : Pr) (X : List Pr) (hk : k < 32) (H : Hid (BdH w wr gh g8 g q h A p X)) (c d : Code) (K : Act → World → Prop) (Q : Exit → Act → World → Prop) (t0 t1 t2 t3 t4 t6 t7 t9 t10 t12 t15 t16 t17 t18 t19 t20 t21 t22 t23 t24 t25 t26 t27 t28 t29 t30 t31 t32 t33 t34 t35 t36 t37 t38 t39 t40 t41 t42 t43 t44 t45 t46 t47 t48 t49 t50 t51 t52 t53 t54 t55 t56 t57 t58 t59 t60 t61 t62 t63 t64 t65 t66 t67 t68 t69 t70 t71 t72 t73 t74 t75 t76 t77 t78 t79 t80 t81 t82 t83 t84 t85 t86 t87 t88 t89 t90 t91 t92 t93 t94 t95 t96 t97 t98 t99 t100 t101 t102 t103 t104 t105 t106 t107 t108 t109 t110 t111 t112 t113 t114 t115 t116 t117 t118 t119 t120 t121 t122 t123 t124 t125 : Value)
    (hc : (Tryd.f4.body.bind (findR 8)) = some c) (hd : (Tryd.f4.body.bind (findS 9)) = some d)
    (hK : ∀ a w, d.wp Tryd.prog Q a w → K a w)
    (hQ : ∀ (g1 : Nat) (u15 u35 u36 u37 u38 u39 u40 u41 u42 u43 u44 u45 u46 u47 u48 u49 u50 u51 u52 u53 u54 u55 u56 u57 u58 u59 u60 u61 u62 u63 u64 u65 : Value) (wx : World), BdE w wx gh g1 q h → Q .normal { tmps := List.toArray (t0 :: t1 :: t2 :: t3 :: t4 :: (ptr gh) :: t6 :: t7 :: (ptr g8) :: t9 :: t10 :: (ptr g1) :: t12 :: (ptr q) :: (.int .i64 k) :: u15 :: t16 :: t17 :: t18 :: t19 :: t20 :: t21 :: t22 :: t23 :: t24 :: t25 :: t26 :: t27 :: t28 :: t29 :: t30 :: t31 :: t32 :: t33 :: t34 :: u35 :: u36 :: u37 :: u38 :: u39 :: u40 :: u41 :: u42 :: u43 :: u44 :: u45 :: u46 :: u47 :: u48 :: u49 :: u50 :: u51 :: u52 :: u53 :: u54 :: u55 :: u56 :: u57 :: u58 :: u59 :: u60 :: u61 :: u62 :: u63 :: u64 :: u65 :: t66 :: t67 :: t68 :: t69 :: t70 :: t71 :: t72 :: t73 :: t74 :: t75 :: t76 :: t77 :: t78 :: t79 :: t80 :: t81 :: t82 :: t83 :: t84 :: t85 :: t86 :: t87 :: t88 :: t89 :: t90 :: t91 :: t92 :: t93 :: t94 :: t95 :: t96 :: t97 :: t98 :: t99 :: t100 :: t101 :: t102 :: t103 :: t104 :: t105 :: t106 :: t107 :: t108 :: t109 :: t110 :: t111 :: t112 :: t113 :: t114 :: t115 :: t116 :: t117 :: t118 :: t119 :: t120 :: t121 :: t122 :: t123 :: t124 :: t125 :: []), defers := [] } wx) :
    c.wp Tryd.prog (Exit.then K Q) { tmps := List.toArray (t0 :: t1 :: t2 :: t3 :: t4 :: (ptr gh) :: t6 :: t7 :: (ptr g8) :: t9 :: t10 :: (ptr g) :: t12 :: (ptr q) :: (.int .i64 k) :: t15 :: t16 :: t17 :: t18 :: t19 :: t20 :: t21 :: t22 :: t23 :: t24 :: t25 :: t26 :: t27 :: t28 :: t29 :: t30 :: t31 :: t32 :: t33 :: t34 :: t35 :: t36 :: t37 :: t38 :: t39 :: t40 :: t41 :: t42 :: t43 :: t44 :: t45 :: t46 :: t47 :: t48 :: t49 :: t50 :: t51 :: t52 :: t53 :: t54 :: t55 :: t56 :: t57 :: t58 :: t59 :: t60 :: t61 :: t62 :: t63 :: t64 :: t65 :: t66 :: t67 :: t68 :: t69 :: t70 :: t71 :: t72 :: t73 :: t74 :: t75 :: t76 :: t77 :: t78 :: t79 :: t80 :: t81 :: t82 :: t83 :: t84 :: t85 :: t86 :: t87 :: t88 :: t89 :: t90 :: t91 :: t92 :: t93 :: t94 :: t95 :: t96 :: t97 :: t98 :: t99 :: t100 :: t101 :: t102 :: t103 :: t104 :: t105 :: t106 :: t107 :: t108 :: t109 :: t110 :: t111 :: t112 :: t113 :: t114 :: t115 :: t116 :: t117 :: t118 :: t119 :: t120 :: t121 :: t122 :: t123 :: t124 :: t125 :: []), defers := [] } wr := by
  change some _ = some c at hc
  cases hc
  change some _ = some d at hd
  cases hd
  have HQF := Lib.hid hQ
  clear hQ
  obtain ⟨sl, hIn, hsl0⟩ : ∃ sl : List (Slot Nat), In ND wr g sl ∧ ∀ j s, sl[j]? = some s → SlT (isX h.hash X) (pX h.hash X) (fun j q => RN wr (kX h.hash X j) q) j s := TR.rn 13 H.out.tr
  have HSL := Lib.hid hsl0
  clear hsl0
  obtain ⟨b0, b1⟩ := H.out.pr.cells
  have HZ := H.out.zs.size
  have hc1 : (k : Int) < 32 := by omega
  have hc0 : (0 : Int) ≤ (k : Int) := by omega
  have HNW : Hid (∀ W, Ext wr W → ∀ b, W.heap.size ≤ b → S9 b) := Lib.hid (fun W f b hb => by obtain ⟨_, _, _, _, nd⟩ := hIn; exact nd.nw b (Nat.le_trans f.size hb))
  have HIn := Lib.hid hIn
  have HcS : Hid (∀ W, Ext wr W → (fun w' : World => w'.cell? ⟨g8, 0, none⟩ = some (str p.1) ∧ w'.cell? ⟨g8, 1, none⟩ = some (str p.2)) W) := Lib.hid (fun W f => (H.out.pr.ext f).cells)
  clear hIn
  repeat' (go_not_at_region 8; (first | go_skip | go_guarded | go_step))
  go_region_held3 (fun w' : World => w'.cell? ⟨g8, 0, none⟩ = some (str p.1) ∧ w'.cell? ⟨g8, 1, none⟩ = some (str p.2))
    (first | exact HcS.out _ k3.out | exact HcS.out _ k2.out | exact HcS.out _ k1.out | exact HcS.out _ (ext_drew (Ext.refl _)))
    (first
      | (go_at_call 19; have mz := k2; clear mz; refine (setKid_c _ g k g1 sl (HIn.out.ext k2.out) hk).mono ?_; rintro e x3 ⟨g2, rfl, n3, f3, _⟩; have K3 : Hid (In ND x3 g2 (sl.set k (.kid g1)) ∧ In ND x3 g1 ((sl0 Nat).set k (.pr p))) := Lib.hid ⟨n3, K2.out.ext f3⟩; have k3 : Hid (Ext wr x3) := Lib.hid (Ext.trans k2.out f3); clear f3 n3)
      | (go_at_call 17; have mz := k1; clear mz; refine (setPair_c _ gk k (sl0 Nat) p K1.out hk).mono ?_; rintro e x2 ⟨g1, rfl, n2, f2, _⟩; have K2 := Lib.hid n2; have k2 : Hid (Ext wr x2) := Lib.hid (Ext.trans k1.out f2); clear f2 n2)
      | (go_at_call 20; refine (inner0_c _ (HNW.out _ (ext_drew (Ext.refl _)))).mono ?_; rintro e x1 ⟨gk, rfl, n1, f1, _⟩; have K1 := Lib.hid n1; have k1 : Hid (Ext wr x1) := Lib.hid (Ext.trans (ext_drew (Ext.refl _)) f1); clear f1 n1))
  clear HcS HNW HIn b0 b1
  repeat' (go_not_at_region 10; (first | go_skip | go_guarded | go_step))
  obtain ⟨q2, hq2⟩ : ∃ q2, q2 = x3.heap.size := ⟨_, rfl⟩
  rw [← hq2]
  refine wp_nameS (fun w' => w'.heap[q2]? = some (.cells Tryd.zeroCells57 TT (0, 0)) ∧ Ext x3 w' ∧ x3.heap.size ≤ q2) ⟨by rw [hq2]; exact heap_new x3 _, (Ext.refl x3).alloc (Nat.le_refl _) _, by omega⟩ ?_
  clear hq2
  intro w3 H3
  obtain ⟨z0, hz0⟩ := get130 zs0.size (show 2 + k < 130 by omega)
  obtain ⟨z1, hz1⟩ := get130 zs0.size (show 34 + k * 2 < 130 by omega)
  obtain ⟨z2, hz2⟩ := get130 zs0.size (show 34 + k * 2 + 1 < 130 by omega)
  have hqx : q < x3.heap.size := Nat.lt_of_lt_of_le (heap_lt H.out.hq) k3.out.size
  have h8x : g8 < x3.heap.size := Nat.lt_of_lt_of_le (heap_lt H.out.pr) k3.out.size
  have hne : q2 ≠ q := by have := H3.out.2.2; omega
  have E3 : Ext wr w3 := Ext.trans k3.out H3.out.2.1
  have HB : Hid (w3.heap[q2]? = some (.cells Tryd.zeroCells57 TT (0, 0)) ∧ Tryd.zeroCells57[2 + k]? = some z0 ∧ Tryd.zeroCells57[34 + k * 2]? = some z1 ∧ Tryd.zeroCells57[34 + k * 2 + 1]? = some z2 ∧ w3.cell? ⟨g8, 0, none⟩ = some (str p.1) ∧ w3.cell? ⟨g8, 1, none⟩ = some (str p.2) ∧ g8 ≠ q2) := Lib.hid ⟨H3.out.1, hz0, hz1, hz2, (H.out.pr.ext E3).cells.1, (H.out.pr.ext E3).cells.2, by have := H3.out.2.2; omega⟩
  have HE3 := Lib.hid E3
  clear hz0 hz1 hz2 E3
  refine bd_10 w3 q2 k g8 _ p z0 z1 z2 hk HB _ _ _ _ _ _ _ _ _ _ _ _ _ _ _ _ _ _ _ _ _ _ _ _ _ _ _ _ _ _ _ _ _ _ _ _ _ _ _ _ _ _ _ _ _ _ _ _ _ _ _ _ _ _ _ _ _ _ _ _ _ _ _ _ _ _ _ _ _ _ _ _ _ _ _ _ _ _ _ _ _ _ _ _ _ _ _ _ _ _ _ _ _ _ _ _ _ _ _ _ _ _ _ _ _ _ _ _ _ _ _ _ _ _ _ _ _ _ _ _ _ _ _ _ _ (by kernel_rfl) ?_
  intro u44 u45 u46 u47 u48 u49 u50 u51 u52 u53 u54 w4 hpo
  have E4 : Ext x3 w4 := ((Only.of_ext H3.out.2.1).trans' (T := fun b => b = q2) (S := fun b => b = q2) hpo.2 (fun _ _ e => e)).ext (fun i hi e => by have := H3.out.2.2; omega)
  have H4 : Hid (Ext x3 w4 ∧ w4.heap[q2]? = some (.cells (setP Tryd.zeroCells57 k p) TT (0, 0))) := Lib.hid ⟨E4, hpo.1⟩
  clear E4 hpo
  have E5 : Ext wr w4 := Ext.trans k3.out H4.out.1
  obtain ⟨z3, hz3⟩ := get130 HZ (show 2 + k < 130 by omega)
  obtain ⟨z4, hz4⟩ := get130 HZ (show 98 + k < 130 by omega)
  have HC : Hid (w4.heap[q]? = some (.cells A TT (0, 0)) ∧ A[2 + k]? = some z3 ∧ A[98 + k]? = some z4) := Lib.hid ⟨(E5.block q (heap_lt H.out.hq)).trans H.out.hq, hz3, hz4⟩
  have HE5 := Lib.hid E5
  clear hz3 hz4 E5 HZ
  repeat' (go_not_at_region 11; (first | go_skip | go_guarded | go_step))
  refine bd_11 w4 q k q2 A z3 z4 hk HC _ _ _ _ _ _ _ _ _ _ _ _ _ _ _ _ _ _ _ _ _ _ _ _ _ _ _ _ _ _ _ _ _ _ _ _ _ _ _ _ _ _ _ _ _ _ _ _ _ _ _ _ _ _ _ _ _ _ _ _ _ _ _ _ _ _ _ _ _ _ _ _ _ _ _ _ _ _ _ _ _ _ _ _ _ _ _ _ _ _ _ _ _ _ _ _ _ _ _ _ _ _ _ _ _ _ _ _ _ _ _ _ _ _ _ _ _ _ _ _ _ _ _ _ _ (by kernel_rfl) ?_
  intro u55 u56 u57 u58 u59 u60 u61 u62 u63 u64 u65 wx hpo
  have HF : Hid (BdE w wx gh g2 q h) := Lib.hid (by
    have hd : DN wx (nt1 k p) q2 := dn_one hk (hpo.2.heap H4.out.2 hne)
    have hN1 : RN w4 (nt1 k p) g1 := RN.bend (is := fun _ => 0) (p := fun _ => ([], [])) (k := fun _ => .bk []) (w := x3) (c := k) (i' := 1) (p' := p) (k' := .bk []) (s' := .pr p) (sl := sl0 Nat) H4.out.1 (K3.out.2.ext H4.out.1) (fun j s hs => by
      have hn := RN.nt0_sl hs
      subst hn
      exact ⟨(by show (0 : Nat) ≠ 1; decide), (by show (0 : Nat) ≠ 2; decide)⟩) ⟨upN_same _ _ _, upN_same _ _ _⟩ |> fun h => by
        have e : upN (fun _ => NT.bk []) k (.bk []) = fun _ => .bk [] := by funext j; unfold upN; split <;> rfl
        rw [e] at h; exact h
    exact bd_fin (i' := 2) (p' := p) (k' := nt1 k p) H.out hk HE5.out hpo.2 (K3.out.1.ext H4.out.1) HSL.out ⟨upN_same _ _ _, by show RN w4 (upN (kX h.hash X) k (nt1 k p) k) g1; rw [upN_same]; exact hN1⟩ hpo.1 (setK_ne q2 (by omega) (by omega)) (setK_ne q2 (by omega) (by omega))
      (fun j hj hjk => ⟨setK_ne q2 (by omega) (by omega), setK_ne q2 (by omega) (by omega), setK_ne q2 (by omega) (by omega), setK_ne q2 (by omega) (by omega)⟩) (de_setK H.out.zs.size hk hd) (kd9_1 p p hk H.out.ok.2.2))
  clear hpo
  repeat' (first | go_skip | go_guarded | go_step)
  exact HQF.out g2 _ _ _ _ _ _ _ _ _ _ _ _ _ _ _ _ _ _ _ _ _ _ _ _ _ _ _ _ _ _ _ _ _ HF.out

end Go.Proofs.YtclcgelbcbnekaaDoor
