/- What two spans that meet at a key have: plain. -/
import Derived.Test.YtbplddiopajocaaDf
import Derived.Test.YtbplddiopajocaaSk
set_option linter.unusedVariables false
set_option linter.unusedSimpArgs false
namespace Go.Proofs.Ytbplddiopajocaa
open Go.RowKit Go.QS
set_option linter.unusedVariables false

theorem filter_split {X : List Pr} (h : Rise X) (a : List UInt8) (f : Pr → Bool) : X.filter (fun p => f p && decide (p.1 < a)) ++ X.filter (fun p => f p && !decide (p.1 < a)) = X.filter f := by
  induction X with
  | nil => rfl
  | cons x r ih =>
    obtain ⟨h1, h2⟩ := rise_cons.1 h
    have ih := ih h2
    by_cases hx : x.1 < a
    · cases hf : f x
      · simp [List.filter_cons, hf, ih]
      · simp [List.filter_cons, hf, hx, ih]
    · have h0 : r.filter (fun p => f p && decide (p.1 < a)) = [] := by
        rw [List.filter_eq_nil_iff]
        intro q hq
        have : ¬ q.1 < a := fun e => hx (k_trans (h1 q hq) e)
        simp [this]
      rw [h0, List.nil_append] at ih
      cases hf : f x
      · simp [List.filter_cons, hf, h0, ih]
      · simp [List.filter_cons, hf, hx, h0, ih]

theorem parts_meet {X : List Pr} (h : Rise X) (f t a : List UInt8) (o : Bool) (hat : (Sp.mk f t o).has a = true) :
    X.filter (fun p => (Sp.mk f a false).has p.1) ++ X.filter (fun p => (Sp.mk a t o).has p.1) = X.filter fun p => (Sp.mk f t o).has p.1 := by
  rw [← filter_split h a (fun p => (Sp.mk f t o).has p.1)]
  simp only [Sp.has, Bool.and_eq_true, Bool.or_eq_true, Bool.not_eq_true', decide_eq_true_eq, decide_eq_false_iff_not] at hat
  obtain ⟨h1, h2⟩ := hat
  congr 1
  · refine List.filter_congr fun p _ => ?_
    by_cases hp : p.1 < a
    · rcases h2 with h2 | h2
      · simp [Sp.has, hp, h2]
      · have : p.1 < t := k_trans hp h2
        simp [Sp.has, hp, this]
    · simp [Sp.has, hp]
  · refine List.filter_congr fun p _ => ?_
    by_cases hp : p.1 < a
    · simp [Sp.has, hp]
    · have : ¬ p.1 < f := fun e => by
        rcases k_tri a p.1 with h3 | h3 | h3
        · exact h1 (k_trans h3 e)
        · exact h1 (h3 ▸ e)
        · exact hp h3
      simp [Sp.has, hp, this]
end Go.Proofs.Ytbplddiopajocaa
