/- GaugeFolds: the end of its walk: a law of its own. -/
import Derived.Test.YtbmakajadelckaaWpg
import Derived.Test.YtbmakajadelckaaM42
set_option linter.unusedVariables false
set_option linter.unusedSimpArgs false
namespace Go.Proofs.Ytbmakajadelckaa
open Go.RowKit Go.QS Go.QS.Nk
set_option linter.unusedVariables false

theorem wt_root9 (H : List UInt8 → Nat) (X : List Pr) (hX : X.length ≤ 40) : wtB [((trieOf H 13 X).ps, (trieOf H 13 X).ks)] ≤ 1000000 := by
  have h1 := cnt_trie H 13 X
  have h2 := cntT_eq (trieOf H 13 X)
  simp only [wtB]
  omega
theorem foldR_perm (op : Int) {L X : List Pr} (h : L.Perm X) : foldR op L = foldR op X := by
  unfold foldR foldN
  rw [foldP_perm op.toNat h]
/-- Fold over any trie of few pairs. -/
theorem foldX_c (H : List UInt8 → Nat) (X : List Pr) (hX : X.length ≤ 40) (hk : ∀ p ∈ X, p.1.length ≤ 40 ∧ p.2.length ≤ 40) (w : World) (g : Nat) (h : RepN ND w g (trieOf H 13 X)) (op : Int) :
    Calls Try.prog 25 #[.int .i64 op, ptr g] w fun e w' => e = .returned (foldR op X) ∧ Ext w w' := by
  have hp := walk_perm H 13 X 1
  refine (fold_c w op (some ⟨g, 0, none⟩) _ (.inr ⟨g, rfl, h⟩) (wt_root9 H X hX) _ rfl (fun p hp' => ?_)).mono ?_
  · have := hk p (hp.mem_iff.1 hp'); omega
  · rintro e w' ⟨rfl, f⟩
    exact ⟨by rw [foldR_perm op hp], f⟩
theorem nmI_out {i : Int} (h : ¬(0 ≤ i ∧ i ≤ 5)) : nmI i = [] := if_neg h
theorem nmI_in {n : Nat} (h : n ≤ 5) : nmI (n : Int) = nmO n := by unfold nmI; rw [if_pos (by omega)]; rfl

set_option maxRecDepth 100000 in
set_option maxHeartbeats 2000000 in
theorem folds_tail (w2 w3 wr : World) (g : Nat) (op : Int) (X : List Pr) (hop : -9223372036854775808 ≤ op ∧ op ≤ 9223372036854775807)
    (HF : Hid (∀ W i, Ext w2 W → Calls Try.prog 25 #[.int .i64 i, ptr g] W fun e w' => e = .returned (foldR i X) ∧ Ext W w')) (H3 : Hid (Ext w2 w3)) (HI : Hid (Ext w3 wr)) (c d : Code) (K : Act → World → Prop) (Q : Exit → Act → World → Prop) (t0 t1 t3 t4 t5 t6 t8 t9 t10 t11 t12 t13 t14 t15 t16 t17 t18 t19 t20 t21 t22 t23 t24 t25 t26 t27 t28 t29 t30 t31 t32 t33 t34 t35 t36 t37 t38 t39 t40 t41 t42 t43 t44 t45 t46 t47 t48 t49 t50 t51 t52 t53 t54 t55 t56 t57 t58 t59 t60 t61 t62 t63 t64 t65 t66 t67 t68 t69 t70 t71 t72 t73 t74 t75 t76 t77 t78 t79 t80 t81 t82 t83 t84 t85 t86 t87 t88 t89 : Value)
    (hc : (Try.f6.body.bind (findR 15)) = some c) (hd : (Try.f6.body.bind (findT 15)) = some d)
    (hK : ∀ a w, d.wp Try.prog Q a w → K a w)
    (hQ : ∀ (a : Act) (wx : World), a.defers = [] → a.tmps.getD 6 undef = .bool true → Ext w3 wx → Q .ret a wx) :
    c.wp Try.prog (Exit.then K Q) { tmps := List.toArray (t0 :: t1 :: (.int .i64 op) :: t3 :: t4 :: t5 :: t6 :: (ptr g) :: t8 :: t9 :: t10 :: t11 :: t12 :: t13 :: t14 :: t15 :: t16 :: t17 :: t18 :: t19 :: t20 :: t21 :: t22 :: t23 :: t24 :: t25 :: t26 :: t27 :: t28 :: t29 :: t30 :: t31 :: t32 :: t33 :: t34 :: t35 :: t36 :: t37 :: t38 :: t39 :: t40 :: t41 :: t42 :: t43 :: t44 :: t45 :: t46 :: t47 :: t48 :: t49 :: t50 :: t51 :: t52 :: t53 :: t54 :: t55 :: t56 :: t57 :: t58 :: t59 :: t60 :: t61 :: t62 :: t63 :: t64 :: t65 :: t66 :: t67 :: t68 :: t69 :: t70 :: t71 :: t72 :: t73 :: t74 :: t75 :: t76 :: t77 :: t78 :: t79 :: t80 :: t81 :: t82 :: t83 :: t84 :: t85 :: t86 :: t87 :: t88 :: t89 :: []), defers := [] } wr := by
  change some _ = some c at hc
  cases hc
  change some _ = some d at hd
  cases hd
  have HQF := Lib.hid hQ
  clear hQ
  repeat' (first | go_at_call 25 | go_skip | go_guarded | go_step)
  refine (HF.out wr op (Ext.trans H3.out HI.out)).mono ?_
  rintro e w4 ⟨rfl, f4⟩
  have F4 : Hid (Ext w3 w4) := Lib.hid (Ext.trans HI.out f4)
  clear f4 HI
  unfold foldR
  obtain ⟨fv, hfv⟩ : ∃ fv, fv = foldN op X := ⟨_, rfl⟩
  rw [← hfv]
  have HNM := Lib.hid (name_c w4 op)
  by_cases hin : 0 ≤ op ∧ op ≤ 5
  · as_aux_lemma =>
      rw [decide_eq_true hin]
      obtain ⟨h0, h5⟩ := hin
      have hne : nmI op ≠ [] := by
        unfold nmI; rw [if_pos ⟨h0, h5⟩]
        obtain ⟨n, rfl⟩ : ∃ n : Nat, op = n := ⟨op.toNat, by omega⟩
        match n, h5 with
        | 0, _ => decide
        | 1, _ => decide
        | 2, _ => decide
        | 3, _ => decide
        | 4, _ => decide
        | 5, _ => decide
        | n + 6, h => omega
      obtain ⟨nm, hnm⟩ : ∃ nm, nm = nmI op := ⟨_, rfl⟩
      rw [← hnm] at HNM hne
      have hneq : nm.isEmpty = false := by cases nm with | nil => exact absurd rfl hne | cons _ _ => rfl
      clear hnm hne hfv
      go_simp
      repeat' (first | go_at_call 27 | go_skip | go_guarded | go_step)
      refine HNM.out.mono ?_
      rintro e w6 ⟨rfl, f6⟩
      have F6 : Hid (Ext w3 w6) := Lib.hid (Ext.trans F4.out f6)
      clear f6
      go_simp
      repeat' (first | go_skip | go_guarded | go_step)
      exact HQF.out _ _ rfl rfl F6.out
  · as_aux_lemma =>
      rw [decide_eq_false hin]
      rw [nmI_out hin] at HNM
      have hnd : ∀ b : Bool, b = decide (0 ≤ op) → (b && decide (op ≤ 5)) = false := fun b hb => by subst hb; simp; omega
      by_cases h0 : 0 ≤ op
      · have h5 : ¬ (op ≤ 5) := by omega
        clear hin hnd hfv
        go_simp
        repeat' (first | go_at_call 27 | go_skip | go_guarded | go_step)
        refine HNM.out.mono ?_
        rintro e w6 ⟨rfl, f6⟩
        have F6 : Hid (Ext w3 w6) := Lib.hid (Ext.trans F4.out f6)
        clear f6
        go_simp
        repeat' (first | go_skip | go_guarded | go_step)
        exact HQF.out _ _ rfl rfl F6.out
      · clear hin hnd hfv
        go_simp
        repeat' (first | go_at_call 27 | go_skip | go_guarded | go_step)
        refine HNM.out.mono ?_
        rintro e w6 ⟨rfl, f6⟩
        have F6 : Hid (Ext w3 w6) := Lib.hid (Ext.trans F4.out f6)
        clear f6
        go_simp
        repeat' (first | go_skip | go_guarded | go_step)
        exact HQF.out _ _ rfl rfl F6.out
end Go.Proofs.Ytbmakajadelckaa
