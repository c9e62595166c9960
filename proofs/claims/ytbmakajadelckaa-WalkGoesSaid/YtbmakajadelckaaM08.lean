/- Texts joined. -/
import Derived.Test.YtbmakajadelckaaM07
import Derived.Lib.AppendZeros
import Derived.Test.YtbmakajadelckaaRows
import Derived.Test.YtbmakajadelckaaM06
import Derived.Shelf.Spec.TrailingZeros
import Derived.Test.YtbmakajadelckaaM03
import Derived.BigQuiet
import Derived.Test.YtbmakajadelckaaM04
import Derived.Laws.Rows
import Derived.Deep.DeepCutAuto
import Derived.Deep.RegionHeld3
set_option linter.unusedVariables false
set_option linter.unusedSimpArgs false
/- Contracts: Grow of nil, Concat. -/
namespace Go.Proofs.Ytbmakajadelckaa
open Go.RowKit Go.QS
set_option linter.unusedVariables false

set_option maxRecDepth 100000 in
theorem grow_c (w : World) (n : Nat) (h9 : n ≤ 1000000000) :
    Calls Try.prog 137 #[.slice none 0 0, .int .i64 n] w fun e w' => ∃ v', e = .returned v' ∧ w'.ownsRow w.heap.size 40 2 v' 0 [] ∧ Ext w w' := by
  obtain ⟨i, z, hi, hz, hs, hb, hzs⟩ := infoP
  rcases Nat.eq_zero_or_pos n with rfl | h0
  · go_enter Try.func137, Try.ntmps137
    clear hi hz hs hb hzs
    repeat' go_step
    go_ret
    exact ⟨_, rfl, World.ownsRow_nil _ _ _ _, Ext.refl _⟩
  · have hr := fun w : World => Lib.run_append_nil_zeros (P := Try.prog) w 27 3 27 40 i z .i64 .i64 Try.underlying27 Try.underlying3 hi hz n h0 (by omega) (by omega) (by rw [hb]; omega)
    have HZ : Hid (_ ∧ _) := Lib.hid ⟨hs, hzs⟩
    have Hr := Lib.hid hr
    clear hi hz hs hb hzs hr
    have d1 : decide (0 < n) = true := by simp [h0]
    go_enter Try.func137, Try.ntmps137
    repeat' (first | (at_builtin; refine Lib.wpList_append_run _ rfl (.tmp 20) (.tmp 21) 27 3 rfl _ _ rfl rfl _ _ (Hr.out _) ?_) | go_step)
    go_ret
    refine ⟨_, rfl, ?_, ?_⟩
    · have hm := World.ownsRow_made (base := w.heap.size) (e := 40) (size := 2) w.drew (Builtin.zeroCells z.cells n ++ Builtin.zeroCells z.cells (grownCap w n 0 40 - n)) (grownCap w n 0 40) (Nat.le_refl _)
        (grownCap_le_maxLen w n 0 _ (by unfold maxLen; omega)) (by
          have := grownCap_ge w n 0 40
          rw [Array.size_append, size_zeroCells, size_zeroCells, HZ.out.2, ← Nat.add_mul]; congr 1; omega)
      exact hm
    · exact ((Ext.refl w).drew).alloc (Nat.le_refl _) _

/-- A slice of slices of pairs. -/
def PSS (w : World) (v : Value) (ls : List (List Pr)) : Prop := ∃ A c vs, v = .slice A ls.length c ∧ Seg w A vs ∧ vs.length = ls.length ∧ ∀ (i : Nat) (u : Value) (l : List Pr), vs[i]? = some u → ls[i]? = some l → PS w u l

theorem flatten_snoc {ls : List (List Pr)} {k : Nat} {l : List Pr} (h : ls[k]? = some l) : (ls.take (k + 1)).flatten = (ls.take k).flatten ++ l := by rw [take_snoc h]; simp
theorem flatten_le (ls : List (List Pr)) (k : Nat) : (ls.take k).flatten.length ≤ ls.flatten.length := by
  have : ls.flatten = (ls.take k).flatten ++ (ls.drop k).flatten := by rw [← List.flatten_append, List.take_append_drop]
  rw [this]; simp

set_option maxRecDepth 100000 in
set_option maxHeartbeats 400000 in
theorem concat_c (w : World) (v : Value) (ls : List (List Pr)) (h : PSS w v ls) (hl9 : ls.length ≤ 1000) (h9 : ls.flatten.length ≤ 1000000000) :
    Calls Try.prog 128 #[v] w fun e w' => ∃ v', e = .returned v' ∧ w'.ownsRow w.heap.size 40 2 v' ls.flatten.length (flat ls.flatten) ∧ Ext w w' := by
  obtain ⟨A, c, vs, rfl, hs, hvl, hp⟩ := h
  obtain ⟨n, hn⟩ : ∃ n, n = ls.length := ⟨_, rfl⟩
  rw [← hn] at hl9 ⊢
  have HP : Hid (_ ∧ _ ∧ _) := Lib.hid ⟨hp, hvl, hn⟩
  clear hp hvl hn
  go_enter Try.func128, Try.ntmps128
  repeat' go_step
  go_loopg [3, 11] n (fun gk vm vk wr => ∃ k m : Nat, vk = .int .i64 k ∧ vm = .int .i64 m ∧ k ≤ n ∧ n - k ≤ gk ∧ m ≤ 1000000000 ∧ Ext w wr ∧ Hid (m = (ls.take k).flatten.length))
  case atStart => exact ⟨0, 0, rfl, rfl, Nat.zero_le _, by omega, by omega, Ext.refl _, Lib.hid (by simp)⟩
  case round =>
    obtain ⟨k, m, rfl, rfl, hkn, hgk, hm9, hE, HM⟩ := hrel
    rcases Nat.lt_or_ge k n with hlt | hge
    · have d1 : decide (k < n) = true := by simp [hlt]
      obtain ⟨hp, hvl, hn⟩ := HP.out
      obtain ⟨u, hu⟩ := get_of_lt vs (show k < vs.length by omega)
      obtain ⟨l, hl⟩ := get_of_lt ls (show k < ls.length by omega)
      obtain ⟨A', c', rfl, hl', hc', hcm', hs'⟩ := hp k u l hu hl
      obtain ⟨b, o, rfl, hat⟩ := (hs.below hE) (fun e => by rw [e] at hu; simp at hu)
      have hc1 := hat k _ hu
      have hi1 : (k : Int) < (n : Int) := by omega
      obtain ⟨m1, hm1⟩ : ∃ m1, m1 = m + l.length := ⟨_, rfl⟩
      have hs1 : (m : Int) + (l.length : Int) = (m1 : Int) := by omega
      have hm2 : m1 = (ls.take (k + 1)).flatten.length := by rw [flatten_snoc hl, List.length_append, ← HM.out, hm1]
      have hm3 : m1 ≤ 1000000000 := by rw [hm2]; exact Nat.le_trans (flatten_le _ _) h9
      have HH := Lib.hid hm2
      have d2 : ¬ ((m1 : Int) < 0) := by omega
      clear hp hvl hn hu hl hl' hs' hat hm1 hm2
      repeat' go_step
      go_roundg (n - (k + 1))
      case measure => omega
      case rel => exact ⟨k + 1, m1, by go_num, rfl, by omega, Nat.le_refl _, hm3, hE, HH⟩
    · obtain rfl : k = n := by omega
      have d1 : decide (k < k) = false := by simp
      repeat' go_step
      refine (grow_c _ m hm9).mono ?_
      rintro e w1 ⟨v1, rfl, hown, hb1⟩
      have hE1 : Ext w w1 := Ext.trans hE hb1
      have hown1 : w1.ownsRow w.heap.size 40 2 v1 0 [] := by
        refine ⟨hown.1, ?_⟩
        rcases hown.2 with h | ⟨g, cap, cur, h1, h2, h3⟩
        · exact .inl h
        · exact .inr ⟨g, cap, cur, h1, Nat.le_trans hE.size h2, h3⟩
      have HO := Lib.hid hown1
      clear hown hown1
      go_simp
      repeat' go_step
      obtain ⟨wo, rfl⟩ : ∃ wo : World, wo = w1 := ⟨_, rfl⟩
      go_loopg [6, 27] k (fun gk vm vj wr => ∃ j : Nat, vj = .int .i64 j ∧ j ≤ k ∧ k - j ≤ gk ∧ Ext w wr ∧ Hid (wr.ownsRow w.heap.size 40 2 vm (ls.take j).flatten.length (flat (ls.take j).flatten)))
      case atStart => exact ⟨0, rfl, Nat.zero_le _, by omega, hE1, Lib.hid (by simpa using HO.out)⟩
      case round =>
        obtain ⟨j, rfl, hjk, hgk2, hE2, HO2⟩ := hrel
        rcases Nat.lt_or_ge j k with hlt | hge
        · have d1 : decide (j < k) = true := by simp [hlt]
          obtain ⟨hp, hvl, hn⟩ := HP.out
          obtain ⟨u, hu⟩ := get_of_lt vs (show j < vs.length by omega)
          obtain ⟨l, hl⟩ := get_of_lt ls (show j < ls.length by omega)
          obtain ⟨A', c', rfl, hl', hc', hcm', hs'⟩ := hp j u l hu hl
          obtain ⟨b, o, rfl, hat⟩ := (hs.below hE2) (fun e => by rw [e] at hu; simp at hu)
          have hc1 := hat j _ hu
          have hi1 : (j : Int) < (k : Int) := by omega
          have hfl : (ls.take (j + 1)).flatten.length ≤ 1000000000 := Nat.le_trans (flatten_le _ _) h9
          rw [flatten_snoc hl, List.length_append] at hfl
          have HL := Lib.hid (flatten_snoc hl)
          clear hp hvl hn hu hl hat
          have hown := HO2.out
          have hs'' := hs'.below hE2
          repeat' (first | (at_builtin; refine wpList_appE (W := w) rfl (.tmp 31) (.tmp 32) _ rfl 40 2 32 Try.underlying27 infoP (by decide) _ _ _ rfl hown hE2 _ l.length c' (flat l) rfl hl' hs'' (flat_one _) (by unfold maxLen; omega) (by omega) ?_; intro v3 w3 hown3 hb3) | go_step)
          go_roundg (k - (j + 1))
          case measure => omega
          case rel => exact ⟨j + 1, by go_num, by omega, Nat.le_refl _, hb3, Lib.hid (by rw [HL.out, List.length_append, flat_append]; exact hown3)⟩
        · obtain rfl : j = k := by omega
          have d1 : decide (j < j) = false := by simp
          repeat' go_step
          go_ret
          have := HO2.out
          rw [List.take_of_length_le (by have := HP.out.2.2; omega)] at this
          exact ⟨_, rfl, this, hE2⟩
end Go.Proofs.Ytbmakajadelckaa
/- Contracts of chunk.Bits. -/
namespace Go.Proofs.Ytbmakajadelckaa
open Go.RowKit Go.QS
set_option linter.unusedVariables false

theorem has_law (n i : Nat) (hn : n < 4294967296) : (bits BinOp.and IntKind.u32 ((n : Int) / 2 ^ i) 1 == 1) = n.testBit i := by
  have h1 : (n : Int) / 2 ^ i = ((n / 2 ^ i : Nat) : Int) := by simp
  have h2 : n / 2 ^ i ≤ n := Nat.div_le_self _ _
  have h3 := bits_and_u32_nat (n / 2 ^ i) 1 (by omega) (by decide)
  rw [h1, show (1 : Int) = ((1 : Nat) : Int) from rfl, h3, Nat.and_one_is_mod, Nat.testBit_eq_decide_div_mod_eq]
  rw [Bool.eq_iff_iff]
  simp
  omega
theorem pow_law (i : Nat) (hi : i < 32) : (2 : Int) ^ i % 4294967296 = ((2 ^ i : Nat) : Int) ∧ 2 ^ i < 4294967296 := by
  have h : 2 ^ i < 2 ^ 32 := Nat.pow_lt_pow_right (by decide) hi
  have h' : 2 ^ i < 4294967296 := h
  refine ⟨?_, h'⟩
  have e : (2 : Int) ^ i = ((2 ^ i : Nat) : Int) := by simp
  rw [e]
  generalize 2 ^ i = m at h' ⊢
  omega
/-- The set n without the number i. -/
def clr (n i : Nat) : Nat := (BitVec.ofNat 32 n &&& ~~~BitVec.ofNat 32 (2 ^ i)).toNat
theorem clr_lt (n i : Nat) : clr n i < 4294967296 := BitVec.isLt _
theorem clr_bit (n i j : Nat) (hn : n < 4294967296) : (clr n i).testBit j = (n.testBit j && decide (j ≠ i)) := by
  unfold clr
  rw [BitVec.testBit_toNat]
  simp only [BitVec.getLsbD_and, BitVec.getLsbD_not, BitVec.getLsbD_ofNat, Nat.testBit_two_pow]
  by_cases hj : j < 32
  · by_cases e : i = j
    · simp [hj, e]
    · have e' : ¬ j = i := fun h => e h.symm
      simp [hj, e, e']
  · have : n.testBit j = false := Nat.testBit_lt_two_pow (Nat.lt_of_lt_of_le hn (by
      have : 2 ^ 32 ≤ 2 ^ j := Nat.pow_le_pow_right (by decide) (by omega)
      exact this))
    simp [hj, this]
theorem without_law (n i : Nat) (hi : i < 32) : bits BinOp.andNot IntKind.u32 (n : Int) ((2 : Int) ^ i % 4294967296) = ((clr n i : Nat) : Int) := by
  rw [(pow_law i hi).1]
  show IntKind.u32.wrap ((BitVec.ofInt 32 (n : Int) &&& ~~~BitVec.ofInt 32 ((2 ^ i : Nat) : Int)).toNat : Int) = _
  rw [BitVec.ofInt_natCast, BitVec.ofInt_natCast, IntKind.wrap_u32]
  have := clr_lt n i
  unfold clr at this ⊢
  omega
theorem with_law (n i : Nat) (hn : n < 4294967296) (hi : i < 32) : bits BinOp.or IntKind.u32 (n : Int) ((2 : Int) ^ i % 4294967296) = ((n ||| 2 ^ i : Nat) : Int) := by
  rw [(pow_law i hi).1]
  exact (bits_nat .u32 32 (by decide) (fun m h0 h1 => by rw [IntKind.wrap_u32]; have h1' : m < 4294967296 := h1; omega) n (2 ^ i) hn (pow_law i hi).2).2
theorem right_c (w : World) (i : Nat) (hi : i < 32) : Calls Try.prog 104 #[.int .i64 (i : Int)] w fun e w' => e = .returned (.bool true) ∧ w = w' := by
  go_enter Try.func104, Try.ntmps104
  have h1 : (0 : Int) ≤ (i : Int) := by omega
  have h2 : (i : Int) < 32 := by omega
  have h3 : decide ((0 : Int) ≤ (i : Int)) = true := by simp
  have h4 : decide ((i : Int) < 32) = true := by simp; omega
  repeat' (first | go_skip | go_guarded | go_step)
  go_ret
  exact ⟨rfl, rfl⟩

theorem has_c (w : World) (n i : Nat) (hn : n < 4294967296) (hi : i < 32) : Calls Try.prog 77 #[.int .u32 (n : Int), .int .i64 (i : Int)] w fun e w' => e = .returned (.bool (n.testBit i)) ∧ w = w' := by
  go_enter Try.func77, Try.ntmps77
  repeat' go_step
  refine (right_c _ i hi).mono ?_
  rintro e w1 ⟨rfl, rfl⟩
  go_simp
  repeat' (first | go_skip | go_guarded | go_step)
  go_ret
  exact ⟨by rw [has_law n i hn]; rfl, rfl⟩

theorem with_c (w : World) (n i : Nat) (hn : n < 4294967296) (hi : i < 32) : Calls Try.prog 115 #[.int .u32 (n : Int), .int .i64 (i : Int)] w fun e w' => e = .returned (.int .u32 ((n ||| 2 ^ i : Nat) : Int)) ∧ w = w' := by
  go_enter Try.func115, Try.ntmps115
  repeat' go_step
  refine (right_c _ i hi).mono ?_
  rintro e w1 ⟨rfl, rfl⟩
  go_simp
  repeat' (first | go_skip | go_guarded | go_step)
  go_ret
  exact ⟨by rw [with_law n i hn hi]; rfl, rfl⟩
theorem without_c (w : World) (n i : Nat) (hn : n < 4294967296) (hi : i < 32) : Calls Try.prog 131 #[.int .u32 (n : Int), .int .i64 (i : Int)] w fun e w' => e = .returned (.int .u32 ((clr n i : Nat) : Int)) ∧ w = w' := by
  go_enter Try.func131, Try.ntmps131
  repeat' go_step
  refine (right_c _ i hi).mono ?_
  rintro e w1 ⟨rfl, rfl⟩
  go_simp
  repeat' (first | go_skip | go_guarded | go_step)
  go_ret
  exact ⟨by rw [without_law n i hi]; rfl, rfl⟩
end Go.Proofs.Ytbmakajadelckaa
/- Contract of math/bits.OnesCount32, chunk.Bits.Count, Rank. -/
namespace Go.Proofs.Ytbmakajadelckaa
open Go.RowKit Go.QS
set_option linter.unusedVariables false

theorem byte_law (x : Nat) (hx : x < 4294967296) : bits BinOp.and IntKind.u32 (x : Int) 255 = ((x % 256 : Nat) : Int) := by
  have := bits_and_u32_nat x 255 hx (by decide)
  rw [show (255 : Int) = ((255 : Nat) : Int) from rfl, this]
  congr 1
  exact Nat.and_two_pow_sub_one_eq_mod x 8

set_option maxRecDepth 100000 in
theorem fold_table : (⟨(([0, 1, 1, 2, 1, 2, 2, 3, 1, 2, 2, 3, 2, 3, 3, 4, 1, 2, 2, 3, 2, 3, 3, 4, 2, 3, 3, 4, 3, 4, 4, 5, 1, 2, 2, 3, 2, 3, 3, 4, 2, 3, 3, 4, 3, 4, 4, 5, 2, 3, 3, 4, 3, 4, 4, 5, 3, 4, 4, 5, 4, 5, 5, 6].append [1, 2, 2, 3, 2, 3, 3, 4, 2, 3, 3, 4, 3, 4, 4, 5, 2, 3, 3, 4, 3, 4, 4, 5, 3, 4, 4, 5, 4, 5, 5, 6, 2, 3, 3, 4, 3, 4, 4, 5, 3, 4, 4, 5, 4, 5, 5, 6, 3, 4, 4, 5, 4, 5, 5, 6, 4, 5, 5, 6, 5, 6, 6, 7]).append ([1, 2, 2, 3, 2, 3, 3, 4, 2, 3, 3, 4, 3, 4, 4, 5, 2, 3, 3, 4, 3, 4, 4, 5, 3, 4, 4, 5, 4, 5, 5, 6, 2, 3, 3, 4, 3, 4, 4, 5, 3, 4, 4, 5, 4, 5, 5, 6, 3, 4, 4, 5, 4, 5, 5, 6, 4, 5, 5, 6, 5, 6, 6, 7].append [2, 3, 3, 4, 3, 4, 4, 5, 3, 4, 4, 5, 4, 5, 5, 6, 3, 4, 4, 5, 4, 5, 5, 6, 4, 5, 5, 6, 5, 6, 6, 7, 3, 4, 4, 5, 4, 5, 5, 6, 4, 5, 5, 6, 5, 6, 6, 7, 4, 5, 5, 6, 5, 6, 6, 7, 5, 6, 6, 7, 6, 7, 7, 8])).toArray⟩ : ByteArray) = Lib.pop8tab := by kernel_rfl

set_option maxRecDepth 100000 in
set_option maxHeartbeats 400000 in
theorem ones_c (w : World) (n : Nat) (hn : n < 4294967296) : Calls Try.prog 118 #[.int .u32 (n : Int)] w fun e w' => e = .returned (.int .i64 (Lib.onesCount n)) ∧ Ext w w' := by
  go_enter Try.func118, Try.ntmps118
  have b1 : bits BinOp.and IntKind.u32 ((n : Int) / 65536) 255 = ((n / 65536 % 256 : Nat) : Int) := by rw [← byte_law _ (by omega)]; simp
  have b2 : bits BinOp.and IntKind.u32 ((n : Int) / 256) 255 = ((n / 256 % 256 : Nat) : Int) := by rw [← byte_law _ (by omega)]; simp
  have b3 : bits BinOp.and IntKind.u32 (n : Int) 255 = ((n % 256 : Nat) : Int) := byte_law n hn
  have hT := fold_table
  have hI : ∀ (t : TypeId) (k : IntKind) (i : Int) w, Try.prog.underlying t = some .string → 0 ≤ i → i ≤ 255 → (Instr.index t (.string Lib.pop8tab) (.int k i)).run Try.prog w = .ok (.int .u8 (Lib.pop8 i)) w := fun t k i w h h0 h1 => Lib.run_index_pop8tab w t k i h h0 h1
  have c0 : (0 : Int) ≤ (n : Int) / 16777216 := by omega
  have d0 : (n : Int) / 16777216 ≤ 255 := by omega
  have c1 : (0 : Int) ≤ ((n / 65536 % 256 : Nat) : Int) := by omega
  have d1 : ((n / 65536 % 256 : Nat) : Int) ≤ 255 := by omega
  have c2 : (0 : Int) ≤ ((n / 256 % 256 : Nat) : Int) := by omega
  have d2 : ((n / 256 % 256 : Nat) : Int) ≤ 255 := by omega
  have c3 : (0 : Int) ≤ ((n % 256 : Nat) : Int) := by omega
  have d3 : ((n % 256 : Nat) : Int) ≤ 255 := by omega
  repeat' go_step
  go_quiet (fail)
  repeat' go_step
  go_ret
  exact ⟨by rw [pop_law n hn]; rfl, below_drewN (Ext.refl _) _⟩

theorem count_c (w : World) (n : Nat) (hn : n < 4294967296) : Calls Try.prog 89 #[.int .u32 (n : Int)] w fun e w' => e = .returned (.int .i64 (Lib.onesCount n)) ∧ Ext w w' := by
  go_enter Try.func89, Try.ntmps89
  repeat' go_step
  refine (ones_c _ n hn).mono ?_
  rintro e w1 ⟨rfl, b1⟩
  go_simp
  repeat' go_step
  go_ret
  exact ⟨rfl, b1⟩
theorem mask_law (n i : Nat) (hn : n < 4294967296) (hi : i < 32) : bits BinOp.and IntKind.u32 (n : Int) (((2 : Int) ^ i - 1) % 4294967296) = ((n % 2 ^ i : Nat) : Int) := by
  have h := (pow_law i hi).2
  have hp : 0 < 2 ^ i := Nat.two_pow_pos i
  have e : (2 : Int) ^ i = ((2 ^ i : Nat) : Int) := by simp
  have e2 : ((2 : Int) ^ i - 1) % 4294967296 = ((2 ^ i - 1 : Nat) : Int) := by
    rw [e]
    generalize 2 ^ i = m at h hp ⊢
    omega
  rw [e2, bits_and_u32_nat n (2 ^ i - 1) hn (by omega), Nat.and_two_pow_sub_one_eq_mod]
/-- How many of the set n are less than i. -/
def rnk (n i : Nat) : Nat := Lib.onesCount (n % 2 ^ i)
theorem rank_c (w : World) (n i : Nat) (hn : n < 4294967296) (hi : i < 32) : Calls Try.prog 58 #[.int .u32 (n : Int), .int .i64 (i : Int)] w fun e w' => e = .returned (.int .i64 (rnk n i)) ∧ Ext w w' := by
  rcases Nat.eq_zero_or_pos i with rfl | hp
  · go_enter Try.func58, Try.ntmps58
    repeat' go_step
    go_ret
    exact ⟨by simp [rnk, Nat.mod_one]; rfl, Ext.refl _⟩
  · have d1 : decide ((i : Int) ≤ 0) = false := by simp; omega
    have d2 : decide ((32 : Int) ≤ (i : Int)) = false := by simp; omega
    go_enter Try.func58, Try.ntmps58
    have d3 : decide (i = 0) = false := by simp; omega
    repeat' go_step
    rw [mask_law n i hn hi]
    refine (count_c _ (n % 2 ^ i) (Nat.lt_of_le_of_lt (Nat.mod_le _ _) hn)).mono ?_
    rintro e w1 ⟨rfl, b1⟩
    go_simp
    repeat' go_step
    go_ret
    exact ⟨rfl, b1⟩
end Go.Proofs.Ytbmakajadelckaa
/- Contracts: node.Inner, token Live. -/
namespace Go.Proofs.Ytbmakajadelckaa
open Go.RowKit Go.QS
set_option linter.unusedVariables false

theorem live_nil (w : World) : Calls Try.prog 127 #[.pointer none] w fun e w' => e = .returned (.bool false) ∧ w = w' := by
  go_enter Try.func127, Try.ntmps127
  repeat' (first | go_skip | go_guarded | go_step)
  go_ret
  exact ⟨rfl, rfl⟩
theorem live_c (w : World) (g : Nat) (b : Bool) (h : w.cell? ⟨g, 2, none⟩ = some (.bool b)) : Calls Try.prog 127 #[.pointer (some ⟨g, 0, none⟩)] w fun e w' => e = .returned (.bool b) ∧ Ext w w' := by
  go_enter Try.func127, Try.ntmps127
  repeat' (first | go_skip | go_guarded | go_step)
  go_ret
  exact ⟨rfl, Ext.refl _⟩
theorem inner_c (w : World) : Calls Try.prog 47 #[] w fun e w' => e = .returned (.pointer (some ⟨w.heap.size, 0, none⟩)) ∧ Ext w w' := by
  go_enter Try.func47, Try.ntmps47
  repeat' (first | go_skip | go_guarded | go_step)
  go_ret
  exact ⟨rfl, (Ext.refl w).alloc (Nat.le_refl _) _⟩
end Go.Proofs.Ytbmakajadelckaa
/- Contracts of the node chapter's small functions. -/
namespace Go.Proofs.Ytbmakajadelckaa
open Go.RowKit Go.QS Go.QS.Nk
set_option linter.unusedVariables false

abbrev ND : TypeId := 138
abbrev NK : TypeId := 30
abbrev NP : TypeId := 40
abbrev nil0 : Value := .pointer none
theorem infoNK : ∃ i z, Try.prog.info? 30 = some i ∧ i.zero = some z ∧ i.size = 1 ∧ i.bytes = 8 ∧ z.cells.size = 1 := info_of (z := .pointer none) (by kernel_rfl) rfl
theorem infoNP : ∃ i z, Try.prog.info? 40 = some i ∧ i.zero = some z ∧ i.size = 2 ∧ i.bytes = 32 ∧ z.cells.size = 2 := info_of (z := .agg #[str [], str []]) (by kernel_rfl) rfl
theorem results_ct {P : Program} {fn : Func} {p u : Tmp} {ty : TypeId} (h : fn.results = #[.cell p ty, .tmp u]) (tmps : Array Value) (w : World) (g : Nat) (t : TypeId) (cs : Array Value) (fr : Nat × Nat) (d : TypeDesc)
    (hp : tmps.getD p undef = .pointer (some ⟨g, 0, none⟩)) (hg : w.heap[g]? = some (.cells cs t fr)) (hu : P.underlying ty = some d) (hd : (match d with | .struct _ | .array _ _ => true | _ => false) = true) (hi : (P.info? ty).map (·.size) = some cs.size) :
    (results fn tmps).run P w = .ok (.tuple #[.agg cs, tmps.getD u undef]) w := by
  rw [results_cell_tmp h, hp]
  simp [asAddr, run_loadVar_row w g t ty cs fr d hg hu hd hi, Result.andThen]

/-! ### Of a nil node -/
theorem isb_nil (w : World) : Calls Try.prog 38 #[nil0] w fun e w' => e = .returned (.bool false) ∧ Ext w w' := by
  go_enter Try.func38, Try.ntmps38
  repeat' (first | go_skip | go_guarded | go_step)
  go_ret
  exact ⟨rfl, Ext.refl _⟩
theorem data_nil (w : World) : Calls Try.prog 39 #[nil0] w fun e w' => e = .returned (.int .u32 0) ∧ w = w' := by
  go_enter Try.func39, Try.ntmps39
  repeat' (first | go_skip | go_guarded | go_step)
  go_ret
  exact ⟨rfl, rfl⟩
theorem nodes_nil (w : World) : Calls Try.prog 40 #[nil0] w fun e w' => e = .returned (.int .u32 0) ∧ w = w' := by
  go_enter Try.func40, Try.ntmps40
  repeat' (first | go_skip | go_guarded | go_step)
  go_ret
  exact ⟨rfl, rfl⟩
theorem pairs_nil (w : World) : Calls Try.prog 43 #[nil0] w fun e w' => e = .returned (.slice none 0 0) ∧ w = w' := by
  go_enter Try.func43, Try.ntmps43
  repeat' (first | go_skip | go_guarded | go_step)
  go_ret
  exact ⟨rfl, rfl⟩
theorem kids_nil (w : World) : Calls Try.prog 64 #[nil0] w fun e w' => e = .returned (.slice none 0 0) ∧ w = w' := by
  go_enter Try.func64, Try.ntmps64
  repeat' (first | go_skip | go_guarded | go_step)
  go_ret
  exact ⟨rfl, rfl⟩
theorem len_nil (w : World) : Calls Try.prog 37 #[nil0] w fun e w' => e = .returned (.int .i64 0) ∧ w = w' := by
  go_enter Try.func37, Try.ntmps37
  repeat' (first | go_skip | go_guarded | go_step)
  go_ret
  exact ⟨rfl, rfl⟩
theorem inner_nil (w : World) (i : Int) : Calls Try.prog 112 #[nil0, .int .i64 i] w fun e w' => e = .returned (.bool false) ∧ Ext w w' := by
  go_enter Try.func112, Try.ntmps112
  repeat' (first | go_skip | go_guarded | go_step)
  go_ret
  exact ⟨rfl, Ext.refl _⟩
theorem owned_nil (w : World) (v : Value) (hv : v = nil0 ∨ ∃ g, v = ptr g) : Calls Try.prog 126 #[v, nil0] w fun e w' => e = .returned (.bool false) ∧ w = w' := by
  rcases hv with rfl | ⟨g, rfl⟩
  · go_enter Try.func126, Try.ntmps126
    repeat' (first | go_skip | go_guarded | go_step)
    go_ret
    exact ⟨rfl, rfl⟩
  · go_enter Try.func126, Try.ntmps126
    repeat' (first | (go_at_call 127; refine (live_nil _).mono ?_; rintro e w1 ⟨rfl, rfl⟩; go_simp) | go_skip | go_guarded | go_step)
    go_ret
    exact ⟨rfl, rfl⟩

/-! ### Of a node -/
theorem isb_c (w : World) (g : Nat) (b : Bool) (h : w.cell? ⟨g, 4, none⟩ = some (.bool b)) : Calls Try.prog 38 #[ptr g] w fun e w' => e = .returned (.bool b) ∧ Ext w w' := by
  go_enter Try.func38, Try.ntmps38
  repeat' (first | go_skip | go_guarded | go_step)
  go_ret
  exact ⟨rfl, Ext.refl _⟩
theorem data_c (w : World) (g d : Nat) (h : w.cell? ⟨g, 0, none⟩ = some (.int .u32 d)) : Calls Try.prog 39 #[ptr g] w fun e w' => e = .returned (.int .u32 d) ∧ w = w' := by
  go_enter Try.func39, Try.ntmps39
  repeat' (first | go_skip | go_guarded | go_step)
  go_ret
  exact ⟨rfl, rfl⟩
theorem nodes_c (w : World) (g d : Nat) (h : w.cell? ⟨g, 1, none⟩ = some (.int .u32 d)) : Calls Try.prog 40 #[ptr g] w fun e w' => e = .returned (.int .u32 d) ∧ w = w' := by
  go_enter Try.func40, Try.ntmps40
  repeat' (first | go_skip | go_guarded | go_step)
  go_ret
  exact ⟨rfl, rfl⟩
theorem inner_yes (w : World) (g i : Nat) (hi : i < 32) (h : w.cell? ⟨g, 4, none⟩ = some (.bool false)) : Calls Try.prog 112 #[ptr g, .int .i64 i] w fun e w' => e = .returned (.bool true) ∧ Ext w w' := by
  have h1 : (0 : Int) ≤ (i : Int) := by omega
  have h2 : (i : Int) < 32 := by omega
  have h3 : decide ((0 : Int) ≤ (i : Int)) = true := by simp
  have h4 : decide ((i : Int) < 32) = true := by simp; omega
  go_enter Try.func112, Try.ntmps112
  repeat' (first | go_skip | go_guarded | go_step)
  go_ret
  exact ⟨rfl, Ext.refl _⟩
theorem inner_bk (w : World) (g : Nat) (i : Int) (h : w.cell? ⟨g, 4, none⟩ = some (.bool true)) : Calls Try.prog 112 #[ptr g, .int .i64 i] w fun e w' => e = .returned (.bool false) ∧ Ext w w' := by
  go_enter Try.func112, Try.ntmps112
  repeat' (first | go_skip | go_guarded | go_step)
  go_ret
  exact ⟨rfl, Ext.refl _⟩
theorem inner_out (w : World) (g : Nat) (i : Int) (hi : i < 0 ∨ 32 ≤ i) (h : w.cell? ⟨g, 4, none⟩ = some (.bool false)) : Calls Try.prog 112 #[ptr g, .int .i64 i] w fun e w' => e = .returned (.bool false) ∧ Ext w w' := by
  rcases hi with hi | hi
  · have h3 : decide ((0 : Int) ≤ i) = false := by simp; omega
    go_enter Try.func112, Try.ntmps112
    repeat' (first | go_skip | go_guarded | go_step)
    go_ret
    exact ⟨rfl, Ext.refl _⟩
  · have h3 : decide ((0 : Int) ≤ i) = true := by simp; omega
    have h4 : decide (i < 32) = false := by simp; omega
    go_enter Try.func112, Try.ntmps112
    repeat' (first | go_skip | go_guarded | go_step)
    go_ret
    exact ⟨rfl, Ext.refl _⟩
end Go.Proofs.Ytbmakajadelckaa
