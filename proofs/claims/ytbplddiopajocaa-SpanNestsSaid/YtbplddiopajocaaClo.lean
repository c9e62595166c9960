/- A struct of two strings and a bool by value, opened. No function of the program is named here. -/
import Derived.Test.YtbplddiopajocaaClose
set_option linter.unusedVariables false
set_option linter.unusedSimpArgs false
namespace Go.QS
open Go.RowKit Go.ChangeShapes Go.WideShapes Go.ChangeAt Go.Deep
variable {H : Type} {enc : TypeId × Value → H} {P : Program}

theorem open_sp {t : TypeId} {f0 f1 f2 : Field} {W : World} {base : Nat} {spare : Nat → Bool} {held : Bool} {v : Value} {d : DataW H} {p : List MemPlace} (he : P.underlying t = some (.struct #[f0, f1, f2])) (hC : P.cellsOf t = 3) (hone : oneCellFields P #[f0, f1, f2] = true)
    (u0 : P.underlying f0.type = some .string) (u1 : P.underlying f1.type = some .string) (u2 : P.underlying f2.type = some .bool) {r : Reach} {b0 : Nat} (hv : Value.okWide P W r b0 t v) (h : DataW.Trod enc P W base spare held t v d p) : ∃ (a b : List UInt8) (c : Bool), v = .agg #[str a, str b, .bool c] ∧ a.length ≤ 9223372036854775807 ∧ b.length ≤ 9223372036854775807 := by
  obtain ⟨v0, v1, v2, y0, y1, y2, n, rfl, _, _, h0, h1, h2⟩ := Joins.open_agg3 he hone hC hv h
  obtain ⟨s0, e0, _, z0⟩ := DataW.trod_string u0 h0
  obtain ⟨s1, e1, _, z1⟩ := DataW.trod_string u1 h1
  obtain ⟨c, e2⟩ : ∃ c, v2 = .bool c := by
    have := DataW.trod_bool u2 h2
    obtain ⟨c, e, _⟩ := this
    simp at e
    exact ⟨c, e⟩
  have l0 := Lib.size_eq s0
  have l1 := Lib.size_eq s1
  unfold maxLen at z0 z1
  simp at e0 e1
  subst e0 e1 e2
  exact ⟨s0.data.toList, s1.data.toList, c, by simp only [str, bs_data], by show s0.data.toList.length ≤ _; omega, by show s1.data.toList.length ≤ _; omega⟩
end Go.QS
