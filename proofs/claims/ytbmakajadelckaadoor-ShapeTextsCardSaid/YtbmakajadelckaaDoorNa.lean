/- Contracts of chunk.Bits. -/
import Derived.Test.YtbmakajadelckaaDoorRows
import Derived.Test.YtbmakajadelckaaDoorApp
import Derived.Shelf.Spec.TrailingZeros
set_option linter.unusedVariables false
set_option linter.unusedSimpArgs false
namespace Go.Proofs.YtbmakajadelckaaDoor
open Go.RowKit Go.QS
set_option linter.unusedVariables false

theorem has_law (n i : Nat) (hn : n < 4294967296) : (bits BinOp.and IntKind.u32 ((n : Int) / 2 ^ i) 1 == 1) = n.testBit i := by
  have h1 : (n : Int) / 2 ^ i = ((n / 2 ^ i : Nat) : Int) := by simp
  have h2 : n / 2 ^ i ≤ n := Nat.div_le_self _ _
  have h3 := bits_and_u32_nat (n / 2 ^ i) 1 (by omega) (by decide)
  rw [h1, show (1 : Int) = ((1 : Nat) : Int) from rfl, h3, Nat.and_one_is_mod, Nat.testBit_eq_decide_div_mod_eq]
  rw [Bool.eq_iff_iff]
  simp
  omega
theorem pow_law (i : Nat) (hi : i < 32) : (2 : Int) ^ i % 4294967296 = ((2 ^ i : Nat) : Int) ∧ 2 ^ i < 4294967296 := by
  have h : 2 ^ i < 2 ^ 32 := Nat.pow_lt_pow_right (by decide) hi
  have h' : 2 ^ i < 4294967296 := h
  refine ⟨?_, h'⟩
  have e : (2 : Int) ^ i = ((2 ^ i : Nat) : Int) := by simp
  rw [e]
  generalize 2 ^ i = m at h' ⊢
  omega
/-- The set n without the number i. -/
def clr (n i : Nat) : Nat := (BitVec.ofNat 32 n &&& ~~~BitVec.ofNat 32 (2 ^ i)).toNat
theorem clr_lt (n i : Nat) : clr n i < 4294967296 := BitVec.isLt _
theorem clr_bit (n i j : Nat) (hn : n < 4294967296) : (clr n i).testBit j = (n.testBit j && decide (j ≠ i)) := by
  unfold clr
  rw [BitVec.testBit_toNat]
  simp only [BitVec.getLsbD_and, BitVec.getLsbD_not, BitVec.getLsbD_ofNat, Nat.testBit_two_pow]
  by_cases hj : j < 32
  · by_cases e : i = j
    · simp [hj, e]
    · have e' : ¬ j = i := fun h => e h.symm
      simp [hj, e, e']
  · have : n.testBit j = false := Nat.testBit_lt_two_pow (Nat.lt_of_lt_of_le hn (by
      have : 2 ^ 32 ≤ 2 ^ j := Nat.pow_le_pow_right (by decide) (by omega)
      exact this))
    simp [hj, this]
theorem without_law (n i : Nat) (hi : i < 32) : bits BinOp.andNot IntKind.u32 (n : Int) ((2 : Int) ^ i % 4294967296) = ((clr n i : Nat) : Int) := by
  rw [(pow_law i hi).1]
  show IntKind.u32.wrap ((BitVec.ofInt 32 (n : Int) &&& ~~~BitVec.ofInt 32 ((2 ^ i : Nat) : Int)).toNat : Int) = _
  rw [BitVec.ofInt_natCast, BitVec.ofInt_natCast, IntKind.wrap_u32]
  have := clr_lt n i
  unfold clr at this ⊢
  omega
theorem with_law (n i : Nat) (hn : n < 4294967296) (hi : i < 32) : bits BinOp.or IntKind.u32 (n : Int) ((2 : Int) ^ i % 4294967296) = ((n ||| 2 ^ i : Nat) : Int) := by
  rw [(pow_law i hi).1]
  exact (bits_nat .u32 32 (by decide) (fun m h0 h1 => by rw [IntKind.wrap_u32]; have h1' : m < 4294967296 := h1; omega) n (2 ^ i) hn (pow_law i hi).2).2
theorem right_c (w : World) (i : Nat) (hi : i < 32) : Calls Tryd.prog 78 #[.int .i64 (i : Int)] w fun e w' => e = .returned (.bool true) ∧ w = w' := by
  go_enter Tryd.func78, Tryd.ntmps78
  have h1 : (0 : Int) ≤ (i : Int) := by omega
  have h2 : (i : Int) < 32 := by omega
  have h3 : decide ((0 : Int) ≤ (i : Int)) = true := by simp
  have h4 : decide ((i : Int) < 32) = true := by simp; omega
  repeat' (first | go_skip | go_guarded | go_step)
  go_ret
  exact ⟨rfl, rfl⟩

theorem has_c (w : World) (n i : Nat) (hn : n < 4294967296) (hi : i < 32) : Calls Tryd.prog 62 #[.int .u32 (n : Int), .int .i64 (i : Int)] w fun e w' => e = .returned (.bool (n.testBit i)) ∧ w = w' := by
  go_enter Tryd.func62, Tryd.ntmps62
  repeat' go_step
  refine (right_c _ i hi).mono ?_
  rintro e w1 ⟨rfl, rfl⟩
  go_simp
  repeat' (first | go_skip | go_guarded | go_step)
  go_ret
  exact ⟨by rw [has_law n i hn]; rfl, rfl⟩

theorem with_c (w : World) (n i : Nat) (hn : n < 4294967296) (hi : i < 32) : Calls Tryd.prog 73 #[.int .u32 (n : Int), .int .i64 (i : Int)] w fun e w' => e = .returned (.int .u32 ((n ||| 2 ^ i : Nat) : Int)) ∧ w = w' := by
  go_enter Tryd.func73, Tryd.ntmps73
  repeat' go_step
  refine (right_c _ i hi).mono ?_
  rintro e w1 ⟨rfl, rfl⟩
  go_simp
  repeat' (first | go_skip | go_guarded | go_step)
  go_ret
  exact ⟨by rw [with_law n i hn hi]; rfl, rfl⟩
theorem without_c (w : World) (n i : Nat) (hn : n < 4294967296) (hi : i < 32) : Calls Tryd.prog 88 #[.int .u32 (n : Int), .int .i64 (i : Int)] w fun e w' => e = .returned (.int .u32 ((clr n i : Nat) : Int)) ∧ w = w' := by
  go_enter Tryd.func88, Tryd.ntmps88
  repeat' go_step
  refine (right_c _ i hi).mono ?_
  rintro e w1 ⟨rfl, rfl⟩
  go_simp
  repeat' (first | go_skip | go_guarded | go_step)
  go_ret
  exact ⟨by rw [without_law n i hi]; rfl, rfl⟩
end Go.Proofs.YtbmakajadelckaaDoor
