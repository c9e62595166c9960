/- Contracts: beginnings that are alike; begins with. -/
import Derived.Test.YtbmakajadelckaaDoorRe
import Derived.Test.YtbmakajadelckaaDoorOrd
set_option linter.unusedVariables false
set_option linter.unusedSimpArgs false
namespace Go.Proofs.YtbmakajadelckaaDoor
open Go.RowKit Go.QS
set_option linter.unusedVariables false

theorem common_le : ∀ (a b : List UInt8), common a b ≤ a.length ∧ common a b ≤ b.length
  | [], b => by simp [common]
  | a :: x, [] => by simp [common]
  | a :: x, b :: y => by
    have := common_le x y
    unfold common
    split <;> simp <;> omega
theorem common_at : ∀ {a b : List UInt8} {k : Nat}, k ≤ a.length → k ≤ b.length → a.take k = b.take k → (k = a.length ∨ k = b.length ∨ a[k]? ≠ b[k]?) → common a b = k
  | [], b, k, h, _, _, _ => by simp at h; subst h; simp [common]
  | a :: x, [], k, _, h, _, _ => by simp at h; subst h; simp [common]
  | a :: x, b :: y, 0, _, _, _, h => by
    have : a ≠ b := by
      intro e
      rcases h with h | h | h
      · simp at h
      · simp at h
      · simp [e] at h
    simp [common, this]
  | a :: x, b :: y, k + 1, h1, h2, h3, h4 => by
    simp only [List.take_succ_cons, List.cons.injEq] at h3
    obtain ⟨rfl, h3⟩ := h3
    have := common_at (a := x) (b := y) (k := k) (by simpa using h1) (by simpa using h2) h3 (by simpa using h4)
    simp [common, this]

def begins (s p : List UInt8) : Bool := s.take p.length == p
theorem begins_short {s p : List UInt8} (h : ¬ p.length ≤ s.length) : begins s p = false := by
  unfold begins
  rw [beq_eq_false_iff_ne]
  intro e
  have := congrArg List.length e
  simp at this
  omega

end Go.Proofs.YtbmakajadelckaaDoor
