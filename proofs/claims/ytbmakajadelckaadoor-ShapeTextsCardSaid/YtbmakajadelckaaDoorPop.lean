/- The ones of a number, byte by byte. No program. -/
import Derived.Lib.BitFns
set_option linter.unusedVariables false
set_option linter.unusedSimpArgs false
namespace Go.QS
open Go
theorem pa (f x : Nat) : Lib.popAux (f + 1) x = x % 2 + Lib.popAux f (x / 2) := rfl
def dig (x : Nat) : Nat := x % 2 + x / 2 % 2 + x / 4 % 2 + x / 8 % 2 + x / 16 % 2 + x / 32 % 2 + x / 64 % 2 + x / 128 % 2
theorem pop_dig (f x : Nat) : Lib.popAux (f + 8) x = dig x + Lib.popAux f (x / 256) := by
  rw [pa, pa, pa, pa, pa, pa, pa, pa]
  simp only [dig, Nat.div_div_eq_div_mul, Nat.add_assoc]
theorem pop_zero : ∀ f, Lib.popAux f 0 = 0
  | 0 => rfl
  | f + 1 => by rw [pa]; simpa using pop_zero f
theorem dig_mod (x : Nat) : dig (x % 256) = dig x := by
  unfold dig
  rw [show x % 256 % 2 = x % 2 by omega, show x % 256 / 2 % 2 = x / 2 % 2 by omega, show x % 256 / 4 % 2 = x / 4 % 2 by omega, show x % 256 / 8 % 2 = x / 8 % 2 by omega, show x % 256 / 16 % 2 = x / 16 % 2 by omega, show x % 256 / 32 % 2 = x / 32 % 2 by omega, show x % 256 / 64 % 2 = x / 64 % 2 by omega, show x % 256 / 128 % 2 = x / 128 % 2 by omega]
theorem oc_dig (x : Nat) (hx : x < 256) : Lib.onesCount x = dig x := by
  show Lib.popAux (56 + 8) x = _
  rw [pop_dig, Nat.div_eq_of_lt hx, pop_zero, Nat.add_zero]
theorem oc_split (n : Nat) (hn : n < 4294967296) : Lib.onesCount n = Lib.onesCount (n % 256) + Lib.onesCount (n / 256 % 256) + Lib.onesCount (n / 65536 % 256) + Lib.onesCount (n / 16777216) := by
  have h4 : n / 16777216 < 256 := by omega
  rw [oc_dig _ (Nat.mod_lt _ (by decide)), oc_dig _ (Nat.mod_lt _ (by decide)), oc_dig _ (Nat.mod_lt _ (by decide)), oc_dig _ h4, dig_mod, dig_mod, dig_mod]
  show Lib.popAux (32 + 8 + 8 + 8 + 8) n = _
  rw [pop_dig, pop_dig, pop_dig, pop_dig]
  simp only [Nat.div_div_eq_div_mul]
  rw [show n / (256 * 256 * 256 * 256) = 0 from Nat.div_eq_of_lt (by omega), pop_zero]
  simp only [Nat.add_zero, Nat.add_assoc]
theorem pop_int (x : Nat) (hx : x < 256) : Lib.pop8 (x : Int) = (Lib.onesCount x : Int) ∧ Lib.onesCount x ≤ 8 := ⟨Lib.pop8_eq ⟨x, hx⟩, Lib.onesCount_le8 ⟨x, hx⟩⟩
theorem pop_law (n : Nat) (hn : n < 4294967296) : (Lib.pop8 ((n : Int) / 16777216) + Lib.pop8 ((n : Int) / 65536 % 256) + Lib.pop8 ((n : Int) / 256 % 256) + Lib.pop8 ((n : Int) % 256)) % 256 = (Lib.onesCount n : Int) := by
  rw [show (n : Int) / 16777216 = ((n / 16777216 : Nat) : Int) by omega, show (n : Int) / 65536 % 256 = ((n / 65536 % 256 : Nat) : Int) by omega, show (n : Int) / 256 % 256 = ((n / 256 % 256 : Nat) : Int) by omega, show (n : Int) % 256 = ((n % 256 : Nat) : Int) by omega]
  obtain ⟨e1, l1⟩ := pop_int (n / 16777216) (by omega)
  obtain ⟨e2, l2⟩ := pop_int (n / 65536 % 256) (by omega)
  obtain ⟨e3, l3⟩ := pop_int (n / 256 % 256) (by omega)
  obtain ⟨e4, l4⟩ := pop_int (n % 256) (by omega)
  rw [e1, e2, e3, e4, oc_split n hn]
  generalize Lib.onesCount (n / 16777216) = a1 at *
  generalize Lib.onesCount (n / 65536 % 256) = a2 at *
  generalize Lib.onesCount (n / 256 % 256) = a3 at *
  generalize Lib.onesCount (n % 256) = a4 at *
  omega
end Go.QS
