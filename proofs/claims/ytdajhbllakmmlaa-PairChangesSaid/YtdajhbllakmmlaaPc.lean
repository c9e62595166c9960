/- Contracts: comparing. -/
import Derived.Test.YtdajhbllakmmlaaPa
import Derived.Test.YtdajhbllakmmlaaOrd
namespace Go.Proofs.Ytdajhbllakmmlaa
open Go.RowKit Go.QS
set_option linter.unusedVariables false

set_option maxRecDepth 100000 in
theorem isnan_c (w : World) (a : List UInt8) : Calls Try.prog 38 #[str a] w fun e w' => e = .returned (.bool false) ∧ w = w' := by
  go_enter Try.func38, Try.ntmps38
  repeat' go_step
  go_ret
  exact ⟨by simp, rfl⟩

set_option maxRecDepth 100000 in
theorem compare_c (w : World) (a b : List UInt8) : Calls Try.prog 34 #[str a, str b] w fun e w' => e = .returned (.int .i64 (cmpB a b)) ∧ w = w' := by
  have hl := bless a b
  have hl' := bless b a
  rcases k_tri a b with h | h | h
  · have e1 : decide (a < b) = true := by simp [h]
    rw [e1] at hl
    have H := Lib.hid h; clear h e1 hl'
    go_enter Try.func34, Try.ntmps34
    repeat' (first | (go_at_call 38; refine (isnan_c _ _).mono ?_; rintro e w' ⟨rfl, rfl⟩; go_simp) | go_step)
    go_ret
    exact ⟨by simp [cmpB, H.out], rfl⟩
  · subst h
    have e1 : decide (a < a) = false := by simp [k_irrefl]
    rw [e1] at hl
    clear e1 hl'
    go_enter Try.func34, Try.ntmps34
    repeat' (first | (go_at_call 38; refine (isnan_c _ _).mono ?_; rintro e w' ⟨rfl, rfl⟩; go_simp) | go_step)
    go_ret
    exact ⟨by simp [cmpB, k_irrefl], rfl⟩
  · have e1 : decide (a < b) = false := by simp [k_asymm h]
    rw [e1] at hl
    have e2 : (a == b) = false := by simp [(k_ne h).symm]
    have H := Lib.hid h; have H' := Lib.hid (k_asymm h); clear h e1 hl'
    go_enter Try.func34, Try.ntmps34
    repeat' (first | (go_at_call 38; refine (isnan_c _ _).mono ?_; rintro e w' ⟨rfl, rfl⟩; go_simp) | go_step)
    go_ret
    exact ⟨by simp [cmpB, H.out, H'.out], rfl⟩

set_option maxRecDepth 100000 in
theorem order_c (w : World) (p : Pr) (b : List UInt8) : Calls Try.prog 29 #[.agg #[str p.1, str p.2], str b] w fun e w' => e = .returned (.int .i64 (cmpB p.1 b)) ∧ Ext w w' := by
  go_enter Try.func29, Try.ntmps29
  repeat' (first | (go_at_call 34; refine (compare_c _ _ _).mono ?_; rintro e w' ⟨rfl, rfl⟩; go_simp) | go_step)
  go_ret
  exact ⟨rfl, (Ext.refl _).alloc (Nat.le_refl _) _⟩

set_option maxRecDepth 100000 in
theorem less_c (w : World) (p q : Pr) : Calls Try.prog 28 #[.agg #[str p.1, str p.2], .agg #[str q.1, str q.2]] w fun e w' => e = .returned (.int .i64 (cmpB p.1 q.1)) ∧ Ext w w' := by
  go_enter Try.func28, Try.ntmps28
  repeat' (first | (go_at_call 29; refine (order_c _ p q.1).mono ?_; rintro e w' ⟨rfl, hb⟩; go_simp) | go_step)
  go_ret
  exact ⟨rfl, (((Ext.refl _).alloc (Nat.le_refl _) _).alloc (by simp) _).trans (hb.mono (by simp; omega))⟩
end Go.Proofs.Ytdajhbllakmmlaa
