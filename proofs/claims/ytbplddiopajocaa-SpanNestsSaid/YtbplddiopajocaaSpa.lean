/- What the span of a beginning has: plain. -/
import Derived.Test.YtbplddiopajocaaSo
set_option linter.unusedVariables false
set_option linter.unusedSimpArgs false
namespace Go.Proofs.Ytbplddiopajocaa
open Go.RowKit Go.QS
set_option linter.unusedVariables false

theorem trim_cons (c : UInt8) (p : List UInt8) : trim (c :: p) = if trim p = 0 then (if c = 255 then 0 else 1) else trim p + 1 := by
  unfold trim
  rw [List.reverse_cons, List.dropWhile_append]
  by_cases h : (p.reverse.dropWhile fun b => b == 255) = []
  · rw [h]
    simp only [List.isEmpty_nil, if_true, List.length_nil]
    by_cases hc : c = 255
    · simp [hc]
    · simp [hc]
  · have h2 : (p.reverse.dropWhile fun b => b == 255).isEmpty = false := by
      cases hh : (p.reverse.dropWhile fun b => b == 255) with
      | nil => exact absurd hh h
      | cons a b => rfl
    rw [h2]
    have h3 : (p.reverse.dropWhile fun b => b == 255).length ≠ 0 := fun e => h (List.eq_nil_of_length_eq_zero e)
    rw [if_neg h3]
    simp
theorem abv_zero {p : List UInt8} (h : trim p = 0) : abv p = ([], false) := by
  unfold abv
  split <;> simp [h]
theorem abv_pos {p : List UInt8} (h : trim p ≠ 0) : ∃ x, p[trim p - 1]? = some x ∧ abv p = (p.take (trim p - 1) ++ [x + 1], true) := by
  have hl := trim_le p
  obtain ⟨x, hx⟩ := get_of_lt p (show trim p - 1 < p.length by omega)
  refine ⟨x, hx, ?_⟩
  unfold abv
  rw [hx]
  simp [h]
theorem abv_cons (c : UInt8) (p : List UInt8) : abv (c :: p) = if (abv p).2 then (c :: (abv p).1, true) else if c = 255 then ([], false) else ([c + 1], true) := by
  by_cases h : trim p = 0
  · rw [abv_zero h]
    simp only [Bool.false_eq_true, if_false]
    have ht := trim_cons c p
    rw [if_pos h] at ht
    by_cases hc : c = 255
    · rw [if_pos hc] at ht ⊢
      exact abv_zero ht
    · rw [if_neg hc] at ht ⊢
      obtain ⟨x, hx, he⟩ := abv_pos (p := c :: p) (by omega)
      rw [he, ht]
      rw [ht] at hx
      simp at hx
      subst hx
      rfl
  · obtain ⟨x, hx, he⟩ := abv_pos h
    have ht := trim_cons c p
    rw [if_neg h] at ht
    obtain ⟨y, hy, he'⟩ := abv_pos (p := c :: p) (by omega)
    rw [he', he, ht]
    simp only [if_true]
    rw [ht] at hy
    obtain ⟨m, hm⟩ : ∃ m, trim p = m + 1 := ⟨trim p - 1, by omega⟩
    rw [hm] at hx hy ⊢
    simp only [Nat.add_sub_cancel, List.getElem?_cons_succ] at hx hy ⊢
    rw [hx] at hy
    cases hy
    simp

theorem pfx_iff : ∀ (p k : List UInt8), (¬ k < p ∧ ((abv p).2 = false ∨ k < (abv p).1)) ↔ k.take p.length = p
  | [], k => by
    rw [abv_zero (p := []) rfl]
    simp
  | c :: p, [] => by simp
  | c :: p, d :: k => by
    have ih := pfx_iff p k
    have hlt : ∀ (x y : UInt8) (a b : List UInt8), x :: a < y :: b ↔ x.toNat < y.toNat ∨ (x = y ∧ a < b) := by
      intro x y a b
      rw [List.cons_lt_cons_iff, UInt8.lt_iff_toNat_lt]
    have htk : (d :: k).take (c :: p).length = c :: p ↔ d = c ∧ k.take p.length = p := by simp
    rw [htk, abv_cons, hlt]
    cases hb : (abv p).2 with
    | true =>
      rw [hb] at ih
      simp only [if_true, Bool.true_eq_false, false_or] at ih ⊢
      rw [hlt, ← ih]
      constructor
      · rintro ⟨h1, h2⟩
        rcases h2 with h2 | ⟨rfl, h2⟩
        · exact absurd (.inl h2) h1
        · exact ⟨rfl, fun h => h1 (.inr ⟨rfl, h⟩), h2⟩
      · rintro ⟨rfl, h1, h2⟩
        refine ⟨?_, .inr ⟨rfl, h2⟩⟩
        rintro (h | ⟨_, h⟩)
        · omega
        · exact h1 h
    | false =>
      rw [hb] at ih
      simp only [Bool.false_eq_true, if_false, true_or, and_true] at ih ⊢
      have hcd := UInt8.toNat_lt c
      have hdd := UInt8.toNat_lt d
      by_cases hc : c = 255
      · rw [if_pos hc]
        simp only [true_or, and_true]
        rw [← ih]
        have hc2 : c.toNat = 255 := by rw [hc]; rfl
        constructor
        · intro h1
          have : ¬ d.toNat < c.toNat := fun h => h1 (.inl h)
          have hd : d = c := UInt8.toNat_inj.1 (by omega)
          exact ⟨hd, fun h => h1 (.inr ⟨hd, h⟩)⟩
        · rintro ⟨rfl, h1⟩
          rintro (h | ⟨_, h⟩)
          · omega
          · exact h1 h
      · rw [if_neg hc]
        simp only [Bool.true_eq_false, false_or]
        have hc2 : c.toNat < 255 := by
          have : c.toNat ≠ 255 := fun e => hc (UInt8.toNat_inj.1 e)
          omega
        have hc1 : (c + 1).toNat = c.toNat + 1 := by rw [UInt8.toNat_add]; show (c.toNat + 1) % 256 = _; omega
        rw [hlt, hc1, ← ih]
        constructor
        · rintro ⟨h1, h2⟩
          have h3 : ¬ d.toNat < c.toNat := fun h => h1 (.inl h)
          rcases h2 with h2 | ⟨_, h2⟩
          · have hd : d = c := UInt8.toNat_inj.1 (by omega)
            exact ⟨hd, fun h => h1 (.inr ⟨hd, h⟩)⟩
          · exact absurd h2 (List.not_lt_nil _)
        · rintro ⟨rfl, h1⟩
          refine ⟨?_, .inl (by omega)⟩
          rintro (h | ⟨_, h⟩)
          · omega
          · exact h1 h

theorem pfx_has (p k : List UInt8) : (Sp.pfx p).has k = begins k p := by
  rw [Bool.eq_iff_iff]
  have := pfx_iff p k
  unfold Sp.has Sp.pfx begins
  simp only [Bool.and_eq_true, Bool.not_eq_true', decide_eq_false_iff_not, Bool.or_eq_true, decide_eq_true_eq, beq_iff_eq, Bool.not_eq_eq_eq_not, Bool.not_true] at this ⊢
  exact this
theorem all_has (k : List UInt8) : Sp.has ⟨[], [], true⟩ k = true := by
  have := List.not_lt_nil k
  simp [Sp.has, this]
end Go.Proofs.Ytbplddiopajocaa
