/- The order of strings, byte by byte: laws. No program. -/
import Derived.Test.YtbmakajadelckaaDoorVoc
set_option linter.unusedVariables false
set_option linter.unusedSimpArgs false
namespace Go.QS

theorem bless : ∀ (x y : List UInt8), Op.bytesLess x y = decide (x < y)
  | [], [] => by simp [Op.bytesLess]
  | _ :: _, [] => by simp [Op.bytesLess]
  | [], _ :: _ => by simp [Op.bytesLess]
  | a :: x, b :: y => by
    rw [Op.bytesLess, bless x y, Bool.eq_iff_iff]
    simp [List.cons_lt_cons_iff]

theorem k_irrefl (a : List UInt8) : ¬ a < a := List.lt_irrefl a
theorem k_trans {a b c : List UInt8} (h : a < b) (k : b < c) : a < c := List.lt_trans h k
theorem k_asymm {a b : List UInt8} (h : a < b) : ¬ b < a := fun k => k_irrefl a (k_trans h k)
theorem k_tri (a b : List UInt8) : a < b ∨ a = b ∨ b < a := by
  rcases Classical.em (a < b) with h | h
  · exact .inl h
  · rcases Classical.em (b < a) with k | k
    · exact .inr (.inr k)
    · exact .inr (.inl (List.le_antisymm (List.not_lt.1 k) (List.not_lt.1 h)))
theorem k_ne {a b : List UInt8} (h : a < b) : a ≠ b := fun e => k_irrefl a (by rw [e] at h ⊢; exact h)

/-- What cmp.Compare answers. -/
def cmpB (a b : List UInt8) : Int := if a < b then -1 else if b < a then 1 else 0
theorem cmpB_neg (a b : List UInt8) : cmpB a b < 0 ↔ a < b := by
  unfold cmpB
  by_cases h : a < b
  · simp [h]
  · by_cases k : b < a <;> simp [h, k]
theorem cmpB_zero (a b : List UInt8) : cmpB a b = 0 ↔ a = b := by
  unfold cmpB
  rcases k_tri a b with h | h | h
  · simp [h, k_ne h]
  · subst h; simp [k_irrefl]
  · simp [h, k_asymm h, (k_ne h).symm]
end Go.QS
