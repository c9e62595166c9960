/- Texts joined. -/
import Derived.Test.YtclcgelbcbnekaaRows
import Derived.Test.YtclcgelbcbnekaaMb
import Derived.Shelf.Spec.TrailingZeros
import Derived.Test.YtclcgelbcbnekaaBb
import Derived.BigQuiet
import Derived.Laws.Rows
import Derived.Deep.DeepCutAuto
import Derived.Deep.RegionHeld3
set_option linter.unusedVariables false
set_option linter.unusedSimpArgs false
/- Contracts of chunk.Bits. -/
namespace Go.Proofs.Ytclcgelbcbnekaa
open Go.RowKit Go.QS
set_option linter.unusedVariables false

theorem has_law (n i : Nat) (hn : n < 4294967296) : (bits BinOp.and IntKind.u32 ((n : Int) / 2 ^ i) 1 == 1) = n.testBit i := by
  have h1 : (n : Int) / 2 ^ i = ((n / 2 ^ i : Nat) : Int) := by simp
  have h2 : n / 2 ^ i ≤ n := Nat.div_le_self _ _
  have h3 := bits_and_u32_nat (n / 2 ^ i) 1 (by omega) (by decide)
  rw [h1, show (1 : Int) = ((1 : Nat) : Int) from rfl, h3, Nat.and_one_is_mod, Nat.testBit_eq_decide_div_mod_eq]
  rw [Bool.eq_iff_iff]
  simp
  omega
theorem pow_law (i : Nat) (hi : i < 32) : (2 : Int) ^ i % 4294967296 = ((2 ^ i : Nat) : Int) ∧ 2 ^ i < 4294967296 := by
  have h : 2 ^ i < 2 ^ 32 := Nat.pow_lt_pow_right (by decide) hi
  have h' : 2 ^ i < 4294967296 := h
  refine ⟨?_, h'⟩
  have e : (2 : Int) ^ i = ((2 ^ i : Nat) : Int) := by simp
  rw [e]
  generalize 2 ^ i = m at h' ⊢
  omega
/-- The set n without the number i. -/
def clr (n i : Nat) : Nat := (BitVec.ofNat 32 n &&& ~~~BitVec.ofNat 32 (2 ^ i)).toNat
theorem clr_lt (n i : Nat) : clr n i < 4294967296 := BitVec.isLt _
theorem clr_bit (n i j : Nat) (hn : n < 4294967296) : (clr n i).testBit j = (n.testBit j && decide (j ≠ i)) := by
  unfold clr
  rw [BitVec.testBit_toNat]
  simp only [BitVec.getLsbD_and, BitVec.getLsbD_not, BitVec.getLsbD_ofNat, Nat.testBit_two_pow]
  by_cases hj : j < 32
  · by_cases e : i = j
    · simp [hj, e]
    · have e' : ¬ j = i := fun h => e h.symm
      simp [hj, e, e']
  · have : n.testBit j = false := Nat.testBit_lt_two_pow (Nat.lt_of_lt_of_le hn (by
      have : 2 ^ 32 ≤ 2 ^ j := Nat.pow_le_pow_right (by decide) (by omega)
      exact this))
    simp [hj, this]
theorem without_law (n i : Nat) (hi : i < 32) : bits BinOp.andNot IntKind.u32 (n : Int) ((2 : Int) ^ i % 4294967296) = ((clr n i : Nat) : Int) := by
  rw [(pow_law i hi).1]
  show IntKind.u32.wrap ((BitVec.ofInt 32 (n : Int) &&& ~~~BitVec.ofInt 32 ((2 ^ i : Nat) : Int)).toNat : Int) = _
  rw [BitVec.ofInt_natCast, BitVec.ofInt_natCast, IntKind.wrap_u32]
  have := clr_lt n i
  unfold clr at this ⊢
  omega
theorem with_law (n i : Nat) (hn : n < 4294967296) (hi : i < 32) : bits BinOp.or IntKind.u32 (n : Int) ((2 : Int) ^ i % 4294967296) = ((n ||| 2 ^ i : Nat) : Int) := by
  rw [(pow_law i hi).1]
  exact (bits_nat .u32 32 (by decide) (fun m h0 h1 => by rw [IntKind.wrap_u32]; have h1' : m < 4294967296 := h1; omega) n (2 ^ i) hn (pow_law i hi).2).2
theorem right_c (w : World) (i : Nat) (hi : i < 32) : Calls Try.prog 108 #[.int .i64 (i : Int)] w fun e w' => e = .returned (.bool true) ∧ w = w' := by
  go_enter Try.func108, Try.ntmps108
  have h1 : (0 : Int) ≤ (i : Int) := by omega
  have h2 : (i : Int) < 32 := by omega
  have h3 : decide ((0 : Int) ≤ (i : Int)) = true := by simp
  have h4 : decide ((i : Int) < 32) = true := by simp; omega
  repeat' (first | go_skip | go_guarded | go_step)
  go_ret
  exact ⟨rfl, rfl⟩

theorem has_c (w : World) (n i : Nat) (hn : n < 4294967296) (hi : i < 32) : Calls Try.prog 65 #[.int .u32 (n : Int), .int .i64 (i : Int)] w fun e w' => e = .returned (.bool (n.testBit i)) ∧ w = w' := by
  go_enter Try.func65, Try.ntmps65
  repeat' go_step
  refine (right_c _ i hi).mono ?_
  rintro e w1 ⟨rfl, rfl⟩
  go_simp
  repeat' (first | go_skip | go_guarded | go_step)
  go_ret
  exact ⟨by rw [has_law n i hn]; rfl, rfl⟩

theorem with_c (w : World) (n i : Nat) (hn : n < 4294967296) (hi : i < 32) : Calls Try.prog 69 #[.int .u32 (n : Int), .int .i64 (i : Int)] w fun e w' => e = .returned (.int .u32 ((n ||| 2 ^ i : Nat) : Int)) ∧ w = w' := by
  go_enter Try.func69, Try.ntmps69
  repeat' go_step
  refine (right_c _ i hi).mono ?_
  rintro e w1 ⟨rfl, rfl⟩
  go_simp
  repeat' (first | go_skip | go_guarded | go_step)
  go_ret
  exact ⟨by rw [with_law n i hn hi]; rfl, rfl⟩
theorem without_c (w : World) (n i : Nat) (hn : n < 4294967296) (hi : i < 32) : Calls Try.prog 112 #[.int .u32 (n : Int), .int .i64 (i : Int)] w fun e w' => e = .returned (.int .u32 ((clr n i : Nat) : Int)) ∧ w = w' := by
  go_enter Try.func112, Try.ntmps112
  repeat' go_step
  refine (right_c _ i hi).mono ?_
  rintro e w1 ⟨rfl, rfl⟩
  go_simp
  repeat' (first | go_skip | go_guarded | go_step)
  go_ret
  exact ⟨by rw [without_law n i hi]; rfl, rfl⟩
end Go.Proofs.Ytclcgelbcbnekaa
/- Contract of math/bits.OnesCount32, chunk.Bits.Count, Rank. -/
namespace Go.Proofs.Ytclcgelbcbnekaa
open Go.RowKit Go.QS
set_option linter.unusedVariables false

theorem byte_law (x : Nat) (hx : x < 4294967296) : bits BinOp.and IntKind.u32 (x : Int) 255 = ((x % 256 : Nat) : Int) := by
  have := bits_and_u32_nat x 255 hx (by decide)
  rw [show (255 : Int) = ((255 : Nat) : Int) from rfl, this]
  congr 1
  exact Nat.and_two_pow_sub_one_eq_mod x 8

set_option maxRecDepth 100000 in
theorem fold_table : (⟨(([0, 1, 1, 2, 1, 2, 2, 3, 1, 2, 2, 3, 2, 3, 3, 4, 1, 2, 2, 3, 2, 3, 3, 4, 2, 3, 3, 4, 3, 4, 4, 5, 1, 2, 2, 3, 2, 3, 3, 4, 2, 3, 3, 4, 3, 4, 4, 5, 2, 3, 3, 4, 3, 4, 4, 5, 3, 4, 4, 5, 4, 5, 5, 6].append [1, 2, 2, 3, 2, 3, 3, 4, 2, 3, 3, 4, 3, 4, 4, 5, 2, 3, 3, 4, 3, 4, 4, 5, 3, 4, 4, 5, 4, 5, 5, 6, 2, 3, 3, 4, 3, 4, 4, 5, 3, 4, 4, 5, 4, 5, 5, 6, 3, 4, 4, 5, 4, 5, 5, 6, 4, 5, 5, 6, 5, 6, 6, 7]).append ([1, 2, 2, 3, 2, 3, 3, 4, 2, 3, 3, 4, 3, 4, 4, 5, 2, 3, 3, 4, 3, 4, 4, 5, 3, 4, 4, 5, 4, 5, 5, 6, 2, 3, 3, 4, 3, 4, 4, 5, 3, 4, 4, 5, 4, 5, 5, 6, 3, 4, 4, 5, 4, 5, 5, 6, 4, 5, 5, 6, 5, 6, 6, 7].append [2, 3, 3, 4, 3, 4, 4, 5, 3, 4, 4, 5, 4, 5, 5, 6, 3, 4, 4, 5, 4, 5, 5, 6, 4, 5, 5, 6, 5, 6, 6, 7, 3, 4, 4, 5, 4, 5, 5, 6, 4, 5, 5, 6, 5, 6, 6, 7, 4, 5, 5, 6, 5, 6, 6, 7, 5, 6, 6, 7, 6, 7, 7, 8])).toArray⟩ : ByteArray) = Lib.pop8tab := by kernel_rfl

set_option maxRecDepth 100000 in
set_option maxHeartbeats 400000 in
theorem ones_c (w : World) (n : Nat) (hn : n < 4294967296) : Calls Try.prog 149 #[.int .u32 (n : Int)] w fun e w' => e = .returned (.int .i64 (Lib.onesCount n)) ∧ Ext w w' := by
  go_enter Try.func149, Try.ntmps149
  have b1 : bits BinOp.and IntKind.u32 ((n : Int) / 65536) 255 = ((n / 65536 % 256 : Nat) : Int) := by rw [← byte_law _ (by omega)]; simp
  have b2 : bits BinOp.and IntKind.u32 ((n : Int) / 256) 255 = ((n / 256 % 256 : Nat) : Int) := by rw [← byte_law _ (by omega)]; simp
  have b3 : bits BinOp.and IntKind.u32 (n : Int) 255 = ((n % 256 : Nat) : Int) := byte_law n hn
  have hT := fold_table
  have hI : ∀ (t : TypeId) (k : IntKind) (i : Int) w, Try.prog.underlying t = some .string → 0 ≤ i → i ≤ 255 → (Instr.index t (.string Lib.pop8tab) (.int k i)).run Try.prog w = .ok (.int .u8 (Lib.pop8 i)) w := fun t k i w h h0 h1 => Lib.run_index_pop8tab w t k i h h0 h1
  have c0 : (0 : Int) ≤ (n : Int) / 16777216 := by omega
  have d0 : (n : Int) / 16777216 ≤ 255 := by omega
  have c1 : (0 : Int) ≤ ((n / 65536 % 256 : Nat) : Int) := by omega
  have d1 : ((n / 65536 % 256 : Nat) : Int) ≤ 255 := by omega
  have c2 : (0 : Int) ≤ ((n / 256 % 256 : Nat) : Int) := by omega
  have d2 : ((n / 256 % 256 : Nat) : Int) ≤ 255 := by omega
  have c3 : (0 : Int) ≤ ((n % 256 : Nat) : Int) := by omega
  have d3 : ((n % 256 : Nat) : Int) ≤ 255 := by omega
  repeat' go_step
  go_quiet (fail)
  repeat' go_step
  go_ret
  exact ⟨by rw [pop_law n hn]; rfl, below_drewN (Ext.refl _) _⟩

theorem count_c (w : World) (n : Nat) (hn : n < 4294967296) : Calls Try.prog 109 #[.int .u32 (n : Int)] w fun e w' => e = .returned (.int .i64 (Lib.onesCount n)) ∧ Ext w w' := by
  go_enter Try.func109, Try.ntmps109
  repeat' go_step
  refine (ones_c _ n hn).mono ?_
  rintro e w1 ⟨rfl, b1⟩
  go_simp
  repeat' go_step
  go_ret
  exact ⟨rfl, b1⟩
theorem mask_law (n i : Nat) (hn : n < 4294967296) (hi : i < 32) : bits BinOp.and IntKind.u32 (n : Int) (((2 : Int) ^ i - 1) % 4294967296) = ((n % 2 ^ i : Nat) : Int) := by
  have h := (pow_law i hi).2
  have hp : 0 < 2 ^ i := Nat.two_pow_pos i
  have e : (2 : Int) ^ i = ((2 ^ i : Nat) : Int) := by simp
  have e2 : ((2 : Int) ^ i - 1) % 4294967296 = ((2 ^ i - 1 : Nat) : Int) := by
    rw [e]
    generalize 2 ^ i = m at h hp ⊢
    omega
  rw [e2, bits_and_u32_nat n (2 ^ i - 1) hn (by omega), Nat.and_two_pow_sub_one_eq_mod]
/-- How many of the set n are less than i. -/
def rnk (n i : Nat) : Nat := Lib.onesCount (n % 2 ^ i)
theorem rank_c (w : World) (n i : Nat) (hn : n < 4294967296) (hi : i < 32) : Calls Try.prog 66 #[.int .u32 (n : Int), .int .i64 (i : Int)] w fun e w' => e = .returned (.int .i64 (rnk n i)) ∧ Ext w w' := by
  rcases Nat.eq_zero_or_pos i with rfl | hp
  · go_enter Try.func66, Try.ntmps66
    repeat' go_step
    go_ret
    exact ⟨by simp [rnk, Nat.mod_one]; rfl, Ext.refl _⟩
  · have d1 : decide ((i : Int) ≤ 0) = false := by simp; omega
    have d2 : decide ((32 : Int) ≤ (i : Int)) = false := by simp; omega
    go_enter Try.func66, Try.ntmps66
    have d3 : decide (i = 0) = false := by simp; omega
    repeat' go_step
    rw [mask_law n i hn hi]
    refine (count_c _ (n % 2 ^ i) (Nat.lt_of_le_of_lt (Nat.mod_le _ _) hn)).mono ?_
    rintro e w1 ⟨rfl, b1⟩
    go_simp
    repeat' go_step
    go_ret
    exact ⟨rfl, b1⟩
end Go.Proofs.Ytclcgelbcbnekaa
/- Contracts: node.Inner, token Live. -/
namespace Go.Proofs.Ytclcgelbcbnekaa
open Go.RowKit Go.QS
set_option linter.unusedVariables false

theorem live_nil (w : World) : Calls Try.prog 70 #[.pointer none] w fun e w' => e = .returned (.bool false) ∧ w = w' := by
  go_enter Try.func70, Try.ntmps70
  repeat' (first | go_skip | go_guarded | go_step)
  go_ret
  exact ⟨rfl, rfl⟩
theorem live_c (w : World) (g : Nat) (b : Bool) (h : w.cell? ⟨g, 2, none⟩ = some (.bool b)) : Calls Try.prog 70 #[.pointer (some ⟨g, 0, none⟩)] w fun e w' => e = .returned (.bool b) ∧ Ext w w' := by
  go_enter Try.func70, Try.ntmps70
  repeat' (first | go_skip | go_guarded | go_step)
  go_ret
  exact ⟨rfl, Ext.refl _⟩
theorem inner_c (w : World) : Calls Try.prog 15 #[] w fun e w' => e = .returned (.pointer (some ⟨w.heap.size, 0, none⟩)) ∧ Ext w w' := by
  go_enter Try.func15, Try.ntmps15
  repeat' (first | go_skip | go_guarded | go_step)
  go_ret
  exact ⟨rfl, (Ext.refl w).alloc (Nat.le_refl _) _⟩
end Go.Proofs.Ytclcgelbcbnekaa
/- Contracts of the node chapter's small functions. -/
namespace Go.Proofs.Ytclcgelbcbnekaa
open Go.RowKit Go.QS Go.QS.Nk
set_option linter.unusedVariables false
variable [Zero (Nat → Prop)]
set_option linter.unusedSectionVars false

abbrev ND : TypeId := 128
abbrev NK : TypeId := 32
abbrev NP : TypeId := 36
abbrev nil0 : Value := .pointer none
theorem infoNK : ∃ i z, Try.prog.info? 32 = some i ∧ i.zero = some z ∧ i.size = 1 ∧ i.bytes = 8 ∧ z.cells.size = 1 := info_of (z := .pointer none) (by kernel_rfl) rfl
theorem infoNP : ∃ i z, Try.prog.info? 36 = some i ∧ i.zero = some z ∧ i.size = 2 ∧ i.bytes = 32 ∧ z.cells.size = 2 := info_of (z := .agg #[str [], str []]) (by kernel_rfl) rfl
theorem results_ct {P : Program} {fn : Func} {p u : Tmp} {ty : TypeId} (h : fn.results = #[.cell p ty, .tmp u]) (tmps : Array Value) (w : World) (g : Nat) (t : TypeId) (cs : Array Value) (fr : Nat × Nat) (d : TypeDesc)
    (hp : tmps.getD p undef = .pointer (some ⟨g, 0, none⟩)) (hg : w.heap[g]? = some (.cells cs t fr)) (hu : P.underlying ty = some d) (hd : (match d with | .struct _ | .array _ _ => true | _ => false) = true) (hi : (P.info? ty).map (·.size) = some cs.size) :
    (results fn tmps).run P w = .ok (.tuple #[.agg cs, tmps.getD u undef]) w := by
  rw [results_cell_tmp h, hp]
  simp [asAddr, run_loadVar_row w g t ty cs fr d hg hu hd hi, Result.andThen]

/-! ### Of a nil node -/
theorem isb_nil (w : World) : Calls Try.prog 58 #[nil0] w fun e w' => e = .returned (.bool false) ∧ Ext w w' := by
  go_enter Try.func58, Try.ntmps58
  repeat' (first | go_skip | go_guarded | go_step)
  go_ret
  exact ⟨rfl, Ext.refl _⟩
theorem data_nil (w : World) : Calls Try.prog 59 #[nil0] w fun e w' => e = .returned (.int .u32 0) ∧ w = w' := by
  go_enter Try.func59, Try.ntmps59
  repeat' (first | go_skip | go_guarded | go_step)
  go_ret
  exact ⟨rfl, rfl⟩
theorem nodes_nil (w : World) : Calls Try.prog 60 #[nil0] w fun e w' => e = .returned (.int .u32 0) ∧ w = w' := by
  go_enter Try.func60, Try.ntmps60
  repeat' (first | go_skip | go_guarded | go_step)
  go_ret
  exact ⟨rfl, rfl⟩
theorem pairs_nil (w : World) : Calls Try.prog 38 #[nil0] w fun e w' => e = .returned (.slice none 0 0) ∧ w = w' := by
  go_enter Try.func38, Try.ntmps38
  repeat' (first | go_skip | go_guarded | go_step)
  go_ret
  exact ⟨rfl, rfl⟩
theorem kids_nil (w : World) : Calls Try.prog 39 #[nil0] w fun e w' => e = .returned (.slice none 0 0) ∧ w = w' := by
  go_enter Try.func39, Try.ntmps39
  repeat' (first | go_skip | go_guarded | go_step)
  go_ret
  exact ⟨rfl, rfl⟩
theorem len_nil (w : World) : Calls Try.prog 18 #[nil0] w fun e w' => e = .returned (.int .i64 0) ∧ w = w' := by
  go_enter Try.func18, Try.ntmps18
  repeat' (first | go_skip | go_guarded | go_step)
  go_ret
  exact ⟨rfl, rfl⟩
theorem inner_nil (w : World) (i : Int) : Calls Try.prog 63 #[nil0, .int .i64 i] w fun e w' => e = .returned (.bool false) ∧ Ext w w' := by
  go_enter Try.func63, Try.ntmps63
  repeat' (first | go_skip | go_guarded | go_step)
  go_ret
  exact ⟨rfl, Ext.refl _⟩
theorem owned_nil (w : World) (v : Value) (hv : v = nil0 ∨ ∃ g, v = ptr g) : Calls Try.prog 20 #[v, nil0] w fun e w' => e = .returned (.bool false) ∧ w = w' := by
  rcases hv with rfl | ⟨g, rfl⟩
  · go_enter Try.func20, Try.ntmps20
    repeat' (first | go_skip | go_guarded | go_step)
    go_ret
    exact ⟨rfl, rfl⟩
  · go_enter Try.func20, Try.ntmps20
    repeat' (first | (go_at_call 70; refine (live_nil _).mono ?_; rintro e w1 ⟨rfl, rfl⟩; go_simp) | go_skip | go_guarded | go_step)
    go_ret
    exact ⟨rfl, rfl⟩

/-! ### Of a node -/
theorem isb_c (w : World) (g : Nat) (b : Bool) (h : w.cell? ⟨g, 4, none⟩ = some (.bool b)) : Calls Try.prog 58 #[ptr g] w fun e w' => e = .returned (.bool b) ∧ Ext w w' := by
  go_enter Try.func58, Try.ntmps58
  repeat' (first | go_skip | go_guarded | go_step)
  go_ret
  exact ⟨rfl, Ext.refl _⟩
theorem data_c (w : World) (g d : Nat) (h : w.cell? ⟨g, 0, none⟩ = some (.int .u32 d)) : Calls Try.prog 59 #[ptr g] w fun e w' => e = .returned (.int .u32 d) ∧ w = w' := by
  go_enter Try.func59, Try.ntmps59
  repeat' (first | go_skip | go_guarded | go_step)
  go_ret
  exact ⟨rfl, rfl⟩
theorem nodes_c (w : World) (g d : Nat) (h : w.cell? ⟨g, 1, none⟩ = some (.int .u32 d)) : Calls Try.prog 60 #[ptr g] w fun e w' => e = .returned (.int .u32 d) ∧ w = w' := by
  go_enter Try.func60, Try.ntmps60
  repeat' (first | go_skip | go_guarded | go_step)
  go_ret
  exact ⟨rfl, rfl⟩
theorem inner_yes (w : World) (g i : Nat) (hi : i < 32) (h : w.cell? ⟨g, 4, none⟩ = some (.bool false)) : Calls Try.prog 63 #[ptr g, .int .i64 i] w fun e w' => e = .returned (.bool true) ∧ Ext w w' := by
  have h1 : (0 : Int) ≤ (i : Int) := by omega
  have h2 : (i : Int) < 32 := by omega
  have h3 : decide ((0 : Int) ≤ (i : Int)) = true := by simp
  have h4 : decide ((i : Int) < 32) = true := by simp; omega
  go_enter Try.func63, Try.ntmps63
  repeat' (first | go_skip | go_guarded | go_step)
  go_ret
  exact ⟨rfl, Ext.refl _⟩
theorem inner_bk (w : World) (g : Nat) (i : Int) (h : w.cell? ⟨g, 4, none⟩ = some (.bool true)) : Calls Try.prog 63 #[ptr g, .int .i64 i] w fun e w' => e = .returned (.bool false) ∧ Ext w w' := by
  go_enter Try.func63, Try.ntmps63
  repeat' (first | go_skip | go_guarded | go_step)
  go_ret
  exact ⟨rfl, Ext.refl _⟩
theorem inner_out (w : World) (g : Nat) (i : Int) (hi : i < 0 ∨ 32 ≤ i) (h : w.cell? ⟨g, 4, none⟩ = some (.bool false)) : Calls Try.prog 63 #[ptr g, .int .i64 i] w fun e w' => e = .returned (.bool false) ∧ Ext w w' := by
  rcases hi with hi | hi
  · have h3 : decide ((0 : Int) ≤ i) = false := by simp; omega
    go_enter Try.func63, Try.ntmps63
    repeat' (first | go_skip | go_guarded | go_step)
    go_ret
    exact ⟨rfl, Ext.refl _⟩
  · have h3 : decide ((0 : Int) ≤ i) = true := by simp; omega
    have h4 : decide (i < 32) = false := by simp; omega
    go_enter Try.func63, Try.ntmps63
    repeat' (first | go_skip | go_guarded | go_step)
    go_ret
    exact ⟨rfl, Ext.refl _⟩
end Go.Proofs.Ytclcgelbcbnekaa
