/- NearSides: plain laws of its four neighbours. -/
import Derived.Test.YtaehdkgmkjhmgaaZs
namespace Go.Proofs.Ytaehdkgmkjhmgaa
open Go.RowKit Go.QS
set_option linter.unusedVariables false

theorem lit_inj {a b a' b' : List UInt8} {c c' : Bool} (h : (Value.tuple #[.agg #[str a, str b], .bool c]) = .tuple #[.agg #[str a', str b'], .bool c']) : a = a' ∧ b = b' ∧ c = c' := by
  simp only [Value.tuple.injEq, Array.mk.injEq, List.cons.injEq, Value.agg.injEq, Value.bool.injEq, and_true] at h
  obtain ⟨⟨h1, h2⟩, h3⟩ := h
  have e : ∀ x y : List UInt8, str x = str y → x = y := fun x y h => by
    have := congrArg (fun v => match v with | .string s => s.data.toList | _ => []) h
    simpa [str, bs] using this
  exact ⟨e _ _ h1, e _ _ h2, h3⟩
theorem lit_some {p : Pr} {a b : List UInt8} {c : Bool} (h : optR (some p) = .tuple #[.agg #[str a, str b], .bool c]) : a = p.1 ∧ b = p.2 ∧ c = true := by
  obtain ⟨h1, h2, h3⟩ := lit_inj h
  exact ⟨h1.symm, h2.symm, h3.symm⟩
theorem lit_none {a b : List UInt8} {c : Bool} (h : optR none = .tuple #[.agg #[str a, str b], .bool c]) : a = [] ∧ b = [] ∧ c = false := by
  obtain ⟨h1, h2, h3⟩ := lit_inj h
  exact ⟨h1.symm, h2.symm, h3.symm⟩
theorem lit_true {o : Option Pr} {a b : List UInt8} (h : optR o = .tuple #[.agg #[str a, str b], .bool true]) : o = some (a, b) := by
  cases o with
  | none => cases (lit_none h).2.2
  | some p => obtain ⟨h1, h2, _⟩ := lit_some h; rw [h1, h2]
theorem nearL_mem {d i : Bool} {k : List UInt8} {x : List Pr} {p : Pr} (h : nearL d i k x = some p) : p ∈ x := by
  unfold nearL pick at h
  cases d
  · exact (List.mem_filter.1 (List.mem_of_head? h)).1
  · exact (List.mem_filter.1 (List.mem_of_getLast? h)).1

/-- What the four say of one another. -/
theorem sides_facts {X : List Pr} (h : Rise X) (k : List UInt8) : (hasK X k = true → ∃ v, nearL true true k X = some (k, v) ∧ nearL false true k X = some (k, v)) ∧
    (hasK X k = false → nearL true true k X = nearL true false k X ∧ nearL false true k X = nearL false false k X) ∧
    nearL true false k X = atI X ((rankL k X : Int) - 1) ∧ nearL false false k X = atI X ((rankL k X : Int) + ((if hasK X k = true then 1 else 0 : Nat) : Int)) := by
  have n0 := near_doc h k 0 (by decide)
  have n1 := near_doc h k 1 (by decide)
  have n2 := near_doc h k 2 (by decide)
  have n3 := near_doc h k 3 (by decide)
  rw [show decide ((0 : Nat) = 0 ∨ (0 : Nat) = 2) = true by decide, show decide ((0 : Nat) = 0 ∨ (0 : Nat) = 1) = true by decide] at n0
  rw [show decide ((1 : Nat) = 0 ∨ (1 : Nat) = 2) = false by decide, show decide ((1 : Nat) = 0 ∨ (1 : Nat) = 1) = true by decide] at n1
  rw [show decide ((2 : Nat) = 0 ∨ (2 : Nat) = 2) = true by decide, show decide ((2 : Nat) = 0 ∨ (2 : Nat) = 1) = false by decide] at n2
  rw [show decide ((3 : Nat) = 0 ∨ (3 : Nat) = 2) = false by decide, show decide ((3 : Nat) = 0 ∨ (3 : Nat) = 1) = false by decide] at n3
  rw [hasK_here h k]
  unfold nearI at n0 n1 n2 n3
  rw [if_pos rfl] at n0
  rw [if_neg (by decide), if_neg (by decide), if_neg (by decide)] at n1
  rw [if_neg (by decide), if_pos rfl] at n2
  rw [if_neg (by decide), if_neg (by decide), if_pos rfl] at n3
  refine ⟨fun hh => ?_, fun hh => ?_, n2, ?_⟩
  · obtain ⟨v, hv⟩ := here_at hh
    rw [hh, if_pos rfl, atI_nat, hv] at n0
    rw [atI_nat, hv] at n1
    exact ⟨v, n0, n1⟩
  · rw [hh, if_neg (by simp)] at n0 n3
    exact ⟨by rw [n0, n2], by rw [n1, n3]⟩
  · rw [n3]
    cases hereB X k <;> simp

end Go.Proofs.Ytaehdkgmkjhmgaa
