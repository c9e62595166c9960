/- Contract of math/bits.OnesCount32, chunk.Bits.Count, Rank. -/
import Derived.Test.YtbmakajadelckaaDoorNa
import Derived.Test.YtbmakajadelckaaDoorPop
import Derived.BigQuiet
set_option linter.unusedVariables false
set_option linter.unusedSimpArgs false
namespace Go.Proofs.YtbmakajadelckaaDoor
open Go.RowKit Go.QS
set_option linter.unusedVariables false

theorem byte_law (x : Nat) (hx : x < 4294967296) : bits BinOp.and IntKind.u32 (x : Int) 255 = ((x % 256 : Nat) : Int) := by
  have := bits_and_u32_nat x 255 hx (by decide)
  rw [show (255 : Int) = ((255 : Nat) : Int) from rfl, this]
  congr 1
  exact Nat.and_two_pow_sub_one_eq_mod x 8

set_option maxRecDepth 100000 in
theorem fold_table : (⟨(([0, 1, 1, 2, 1, 2, 2, 3, 1, 2, 2, 3, 2, 3, 3, 4, 1, 2, 2, 3, 2, 3, 3, 4, 2, 3, 3, 4, 3, 4, 4, 5, 1, 2, 2, 3, 2, 3, 3, 4, 2, 3, 3, 4, 3, 4, 4, 5, 2, 3, 3, 4, 3, 4, 4, 5, 3, 4, 4, 5, 4, 5, 5, 6].append [1, 2, 2, 3, 2, 3, 3, 4, 2, 3, 3, 4, 3, 4, 4, 5, 2, 3, 3, 4, 3, 4, 4, 5, 3, 4, 4, 5, 4, 5, 5, 6, 2, 3, 3, 4, 3, 4, 4, 5, 3, 4, 4, 5, 4, 5, 5, 6, 3, 4, 4, 5, 4, 5, 5, 6, 4, 5, 5, 6, 5, 6, 6, 7]).append ([1, 2, 2, 3, 2, 3, 3, 4, 2, 3, 3, 4, 3, 4, 4, 5, 2, 3, 3, 4, 3, 4, 4, 5, 3, 4, 4, 5, 4, 5, 5, 6, 2, 3, 3, 4, 3, 4, 4, 5, 3, 4, 4, 5, 4, 5, 5, 6, 3, 4, 4, 5, 4, 5, 5, 6, 4, 5, 5, 6, 5, 6, 6, 7].append [2, 3, 3, 4, 3, 4, 4, 5, 3, 4, 4, 5, 4, 5, 5, 6, 3, 4, 4, 5, 4, 5, 5, 6, 4, 5, 5, 6, 5, 6, 6, 7, 3, 4, 4, 5, 4, 5, 5, 6, 4, 5, 5, 6, 5, 6, 6, 7, 4, 5, 5, 6, 5, 6, 6, 7, 5, 6, 6, 7, 6, 7, 7, 8])).toArray⟩ : ByteArray) = Lib.pop8tab := by kernel_rfl

set_option maxRecDepth 100000 in
set_option maxHeartbeats 400000 in
theorem ones_c (w : World) (n : Nat) (hn : n < 4294967296) : Calls Tryd.prog 93 #[.int .u32 (n : Int)] w fun e w' => e = .returned (.int .i64 (Lib.onesCount n)) ∧ Ext w w' := by
  go_enter Tryd.func93, Tryd.ntmps93
  have b1 : bits BinOp.and IntKind.u32 ((n : Int) / 65536) 255 = ((n / 65536 % 256 : Nat) : Int) := by rw [← byte_law _ (by omega)]; simp
  have b2 : bits BinOp.and IntKind.u32 ((n : Int) / 256) 255 = ((n / 256 % 256 : Nat) : Int) := by rw [← byte_law _ (by omega)]; simp
  have b3 : bits BinOp.and IntKind.u32 (n : Int) 255 = ((n % 256 : Nat) : Int) := byte_law n hn
  have hT := fold_table
  have hI : ∀ (t : TypeId) (k : IntKind) (i : Int) w, Tryd.prog.underlying t = some .string → 0 ≤ i → i ≤ 255 → (Instr.index t (.string Lib.pop8tab) (.int k i)).run Tryd.prog w = .ok (.int .u8 (Lib.pop8 i)) w := fun t k i w h h0 h1 => Lib.run_index_pop8tab w t k i h h0 h1
  have c0 : (0 : Int) ≤ (n : Int) / 16777216 := by omega
  have d0 : (n : Int) / 16777216 ≤ 255 := by omega
  have c1 : (0 : Int) ≤ ((n / 65536 % 256 : Nat) : Int) := by omega
  have d1 : ((n / 65536 % 256 : Nat) : Int) ≤ 255 := by omega
  have c2 : (0 : Int) ≤ ((n / 256 % 256 : Nat) : Int) := by omega
  have d2 : ((n / 256 % 256 : Nat) : Int) ≤ 255 := by omega
  have c3 : (0 : Int) ≤ ((n % 256 : Nat) : Int) := by omega
  have d3 : ((n % 256 : Nat) : Int) ≤ 255 := by omega
  repeat' go_step
  go_quiet (fail)
  repeat' go_step
  go_ret
  exact ⟨by rw [pop_law n hn]; rfl, below_drewN (Ext.refl _) _⟩

theorem count_c (w : World) (n : Nat) (hn : n < 4294967296) : Calls Tryd.prog 79 #[.int .u32 (n : Int)] w fun e w' => e = .returned (.int .i64 (Lib.onesCount n)) ∧ Ext w w' := by
  go_enter Tryd.func79, Tryd.ntmps79
  repeat' go_step
  refine (ones_c _ n hn).mono ?_
  rintro e w1 ⟨rfl, b1⟩
  go_simp
  repeat' go_step
  go_ret
  exact ⟨rfl, b1⟩
theorem mask_law (n i : Nat) (hn : n < 4294967296) (hi : i < 32) : bits BinOp.and IntKind.u32 (n : Int) (((2 : Int) ^ i - 1) % 4294967296) = ((n % 2 ^ i : Nat) : Int) := by
  have h := (pow_law i hi).2
  have hp : 0 < 2 ^ i := Nat.two_pow_pos i
  have e : (2 : Int) ^ i = ((2 ^ i : Nat) : Int) := by simp
  have e2 : ((2 : Int) ^ i - 1) % 4294967296 = ((2 ^ i - 1 : Nat) : Int) := by
    rw [e]
    generalize 2 ^ i = m at h hp ⊢
    omega
  rw [e2, bits_and_u32_nat n (2 ^ i - 1) hn (by omega), Nat.and_two_pow_sub_one_eq_mod]
/-- How many of the set n are less than i. -/
def rnk (n i : Nat) : Nat := Lib.onesCount (n % 2 ^ i)
theorem rank_c (w : World) (n i : Nat) (hn : n < 4294967296) (hi : i < 32) : Calls Tryd.prog 63 #[.int .u32 (n : Int), .int .i64 (i : Int)] w fun e w' => e = .returned (.int .i64 (rnk n i)) ∧ Ext w w' := by
  rcases Nat.eq_zero_or_pos i with rfl | hp
  · go_enter Tryd.func63, Tryd.ntmps63
    repeat' go_step
    go_ret
    exact ⟨by simp [rnk, Nat.mod_one]; rfl, Ext.refl _⟩
  · have d1 : decide ((i : Int) ≤ 0) = false := by simp; omega
    have d2 : decide ((32 : Int) ≤ (i : Int)) = false := by simp; omega
    go_enter Tryd.func63, Tryd.ntmps63
    have d3 : decide (i = 0) = false := by simp; omega
    repeat' go_step
    rw [mask_law n i hn hi]
    refine (count_c _ (n % 2 ^ i) (Nat.lt_of_le_of_lt (Nat.mod_le _ _) hn)).mono ?_
    rintro e w1 ⟨rfl, b1⟩
    go_simp
    repeat' go_step
    go_ret
    exact ⟨rfl, b1⟩
end Go.Proofs.YtbmakajadelckaaDoor
