/- Contracts: eight bytes as a number; a number more is taken. -/
import Derived.Test.YtclcgelbcbnekaaHd
set_option linter.unusedVariables false
set_option linter.unusedSimpArgs false
namespace Go.Proofs.Ytclcgelbcbnekaa
open Go.RowKit Go.QS
set_option linter.unusedVariables false

set_option maxRecDepth 100000 in
set_option maxHeartbeats 1000000 in
theorem take_c (w : World) (g m : Nat) (v : V4) (h : StAt w g v) (hv : v.Ok) (hm : m < 18446744073709551616) :
    Calls Try.prog 164 #[ptr g, .int .u64 m] w fun e w' => e = .returned (.tuple #[]) ∧ StAt w' g (tk v m) ∧ Only (fun k => k = g) w w' := by
  obtain ⟨a0, b0, c0, d0⟩ := v
  obtain ⟨la0, lb0, lc0, ld0⟩ := hv
  have H1 : Hid (StAt w g ⟨a0, b0, c0, d0⟩ ∧ Only (fun k => k = g) w w) := Lib.hid ⟨h, Only.refl w⟩
  clear h
  simp only at la0 lb0 lc0 ld0
  obtain ⟨q0, q1, q2, q3, qf⟩ := H1.out.1.cells
  simp only at q0 q1 q2 q3
  go_enter Try.func164, Try.ntmps164
  repeat' (go_not_at_region 0; (first | go_skip | go_guarded | go_step))
  go_still_tail 8, (by kernel_rfl)
  change wpList _ _ _ _ _ w.drew
  repeat' (first | go_not_at_region 1; (first | go_skip | go_guarded | go_step))
  have l1 : d0 ^^^ m < 18446744073709551616 := xor_lt ld0 hm
  refine wp_st (u' := ⟨a0, b0, c0, d0 ^^^ m⟩) H1 (xor_law d0 m ld0 hm) rfl ?_
  clear q0 q1 q2 q3 qf H1
  intro w2 H2
  repeat' (first | go_at_call 166 | go_skip | go_guarded | go_step)
  refine (rounds_c w2 g 2 _ H2.out.1 ⟨la0, lb0, lc0, l1⟩ (by decide)).mono ?_
  rintro e w3 ⟨rfl, s3, o3⟩
  have ok := rnds_ok 2 (v := ⟨a0, b0, c0, d0 ^^^ m⟩) ⟨la0, lb0, lc0, l1⟩
  obtain ⟨u, hu⟩ : ∃ u, u = rnds 2 ⟨a0, b0, c0, d0 ^^^ m⟩ := ⟨_, rfl⟩
  rw [← hu] at ok s3
  have HU := Lib.hid hu
  obtain ⟨a1, b1, c1, d1⟩ := u
  obtain ⟨la1, lb1, lc1, ld1⟩ := ok
  simp only at la1 lb1 lc1 ld1
  have H3 : Hid (StAt w3 g ⟨a1, b1, c1, d1⟩ ∧ Only (fun k => k = g) w w3) := Lib.hid ⟨s3, H2.out.2.trans o3⟩
  clear s3 o3 hu
  obtain ⟨q0, q1, q2, q3, qf⟩ := H3.out.1.cells
  simp only at q0 q1 q2 q3
  go_simp
  repeat' (go_not_at_region 2; (first | go_skip | go_guarded | go_step))
  go_still_tail 8, (by kernel_rfl)
  change wpList _ _ _ _ _ w3.drew
  repeat' (first | go_skip | go_guarded | go_step)
  first | refine bodyPost_ret (results_none rfl _ _ _) rfl ?_ | refine bodyPost_end (results_none rfl _ _ _) rfl ?_
  refine ⟨rfl, ?_, (H3.out.2.setCell (.inl rfl) _).drew⟩
  have e : tk ⟨a0, b0, c0, d0⟩ m = ⟨a1 ^^^ m, b1, c1, d1⟩ := by
    unfold tk xd
    rw [← HU.out]
    rfl
  rw [e]
  exact st_set H3.out.1 (xor_law a1 m la1 hm) rfl

theorem orS (x Pi : Int) (A b P k : Nat) (hPi : Pi = (P : Int)) (hP : P = 2 ^ k) (hx : x = ((A * 256 * P : Nat) : Int)) (hb : b < 256) (hA : (A * 256 + 255) * P < 18446744073709551616) : bits BinOp.or IntKind.u64 x (IntKind.u64.wrap (IntKind.u64.wrap (b : Int) * Pi)) = (((A * 256 + b) * P : Nat) : Int) := by
  subst hPi hx
  have h1 : b * P ≤ (A * 256 + 255) * P := Nat.mul_le_mul_right _ (by omega)
  have h2 : A * 256 * P ≤ (A * 256 + 255) * P := Nat.mul_le_mul_right _ (by omega)
  have e1 : IntKind.u64.wrap (b : Int) = (b : Int) := by rw [IntKind.wrap_u64]; omega
  have e2 : IntKind.u64.wrap ((b : Int) * (P : Int)) = ((b * P : Nat) : Int) := by
    rw [IntKind.wrap_u64, ← Int.natCast_mul]; omega
  have h3 : A * 256 * P < 18446744073709551616 := Nat.lt_of_le_of_lt h2 hA
  have h4 : b * P < 18446744073709551616 := Nat.lt_of_le_of_lt h1 hA
  rw [e1, e2, bits_or_u64_nat (A * 256 * P) (b * P) h3 h4]
  congr 1
  subst hP
  rw [show A * 256 * 2 ^ k = A * 2 ^ (k + 8) by rw [Nat.pow_add, Nat.mul_assoc, Nat.mul_comm 256]]
  exact or_shift hb
theorem orL (x : Int) (A b : Nat) (hx : x = ((A * 256 : Nat) : Int)) (hb : b < 256) (hA : A * 256 + 255 < 18446744073709551616) : bits BinOp.or IntKind.u64 x (IntKind.u64.wrap (b : Int)) = ((A * 256 + b : Nat) : Int) := by
  have h1 : x = ((A * 256 * 1 : Nat) : Int) := by rw [hx, Nat.mul_one]
  have h2 : (A * 256 + 255) * 1 < 18446744073709551616 := by rw [Nat.mul_one]; exact hA
  have := orS x 1 A b 1 0 (by decide) (by decide) h1 hb h2
  rw [Int.mul_one, Nat.mul_one, IntKind.wrap_u64] at this
  have e : IntKind.u64.wrap ((b : Int) % 18446744073709551616) = IntKind.u64.wrap (b : Int) := by rw [IntKind.wrap_u64, IntKind.wrap_u64]; omega
  rw [← e]; exact this
set_option maxRecDepth 100000 in
set_option maxHeartbeats 1000000 in
theorem word0_c (w : World)  :
    Calls Try.prog 165 #[str ([] : List UInt8)] w fun e w' => e = .returned (.int .u64 (leN ([] : List UInt8))) ∧ w = w' := by
  go_enter Try.func165, Try.ntmps165
  repeat' (first | go_skip | go_guarded | go_step)
  go_ret
  exact ⟨rfl, rfl⟩
set_option maxRecDepth 100000 in
set_option maxHeartbeats 1000000 in
theorem word1_c (w : World) (b0 : UInt8) :
    Calls Try.prog 165 #[str [b0]] w fun e w' => e = .returned (.int .u64 (leN [b0])) ∧ w = w' := by
  have lb0 : b0.toNat < 256 := b0.toNat_lt
  have h0 := orL 0 (0) b0.toNat (by omega) lb0 (by omega)
  replace h0 := Lib.hid h0
  go_enter Try.func165, Try.ntmps165
  repeat' (first | go_skip | go_guarded | go_step)
  go_ret
  refine ⟨congrArg (fun z => Ending.returned (Value.int IntKind.u64 z)) (h0.out.trans ?_), rfl⟩
  simp only [leN]
  omega
set_option maxRecDepth 100000 in
set_option maxHeartbeats 1000000 in
theorem word2_c (w : World) (b0 b1 : UInt8) :
    Calls Try.prog 165 #[str [b0, b1]] w fun e w' => e = .returned (.int .u64 (leN [b0, b1])) ∧ w = w' := by
  have lb0 : b0.toNat < 256 := b0.toNat_lt
  have lb1 : b1.toNat < 256 := b1.toNat_lt
  have h1 := orS 0 256 (0) b1.toNat 256 8 rfl rfl (by omega) lb1 (by omega)
  have h0 := orL _ ((0) * 256 + b1.toNat) b0.toNat (h1.trans (by omega)) lb0 (by omega)
  replace h0 := Lib.hid h0
  replace h1 := Lib.hid h1
  go_enter Try.func165, Try.ntmps165
  repeat' (first | go_skip | go_guarded | go_step)
  go_ret
  refine ⟨congrArg (fun z => Ending.returned (Value.int IntKind.u64 z)) (h0.out.trans ?_), rfl⟩
  simp only [leN]
  omega
set_option maxRecDepth 100000 in
set_option maxHeartbeats 1000000 in
theorem word3_c (w : World) (b0 b1 b2 : UInt8) :
    Calls Try.prog 165 #[str [b0, b1, b2]] w fun e w' => e = .returned (.int .u64 (leN [b0, b1, b2])) ∧ w = w' := by
  have lb0 : b0.toNat < 256 := b0.toNat_lt
  have lb1 : b1.toNat < 256 := b1.toNat_lt
  have lb2 : b2.toNat < 256 := b2.toNat_lt
  have h2 := orS 0 65536 (0) b2.toNat 65536 16 rfl rfl (by omega) lb2 (by omega)
  have h1 := orS _ 256 ((0) * 256 + b2.toNat) b1.toNat 256 8 rfl rfl (h2.trans (by omega)) lb1 (by omega)
  have h0 := orL _ (((0) * 256 + b2.toNat) * 256 + b1.toNat) b0.toNat (h1.trans (by omega)) lb0 (by omega)
  replace h0 := Lib.hid h0
  replace h1 := Lib.hid h1
  replace h2 := Lib.hid h2
  go_enter Try.func165, Try.ntmps165
  repeat' (first | go_skip | go_guarded | go_step)
  go_ret
  refine ⟨congrArg (fun z => Ending.returned (Value.int IntKind.u64 z)) (h0.out.trans ?_), rfl⟩
  simp only [leN]
  omega
set_option maxRecDepth 100000 in
set_option maxHeartbeats 1000000 in
theorem word4_c (w : World) (b0 b1 b2 b3 : UInt8) :
    Calls Try.prog 165 #[str [b0, b1, b2, b3]] w fun e w' => e = .returned (.int .u64 (leN [b0, b1, b2, b3])) ∧ w = w' := by
  have lb0 : b0.toNat < 256 := b0.toNat_lt
  have lb1 : b1.toNat < 256 := b1.toNat_lt
  have lb2 : b2.toNat < 256 := b2.toNat_lt
  have lb3 : b3.toNat < 256 := b3.toNat_lt
  have h3 := orS 0 16777216 (0) b3.toNat 16777216 24 rfl rfl (by omega) lb3 (by omega)
  have h2 := orS _ 65536 ((0) * 256 + b3.toNat) b2.toNat 65536 16 rfl rfl (h3.trans (by omega)) lb2 (by omega)
  have h1 := orS _ 256 (((0) * 256 + b3.toNat) * 256 + b2.toNat) b1.toNat 256 8 rfl rfl (h2.trans (by omega)) lb1 (by omega)
  have h0 := orL _ ((((0) * 256 + b3.toNat) * 256 + b2.toNat) * 256 + b1.toNat) b0.toNat (h1.trans (by omega)) lb0 (by omega)
  replace h0 := Lib.hid h0
  replace h1 := Lib.hid h1
  replace h2 := Lib.hid h2
  replace h3 := Lib.hid h3
  go_enter Try.func165, Try.ntmps165
  repeat' (first | go_skip | go_guarded | go_step)
  go_ret
  refine ⟨congrArg (fun z => Ending.returned (Value.int IntKind.u64 z)) (h0.out.trans ?_), rfl⟩
  simp only [leN]
  omega
set_option maxRecDepth 100000 in
set_option maxHeartbeats 1000000 in
theorem word5_c (w : World) (b0 b1 b2 b3 b4 : UInt8) :
    Calls Try.prog 165 #[str [b0, b1, b2, b3, b4]] w fun e w' => e = .returned (.int .u64 (leN [b0, b1, b2, b3, b4])) ∧ w = w' := by
  have lb0 : b0.toNat < 256 := b0.toNat_lt
  have lb1 : b1.toNat < 256 := b1.toNat_lt
  have lb2 : b2.toNat < 256 := b2.toNat_lt
  have lb3 : b3.toNat < 256 := b3.toNat_lt
  have lb4 : b4.toNat < 256 := b4.toNat_lt
  have h4 := orS 0 4294967296 (0) b4.toNat 4294967296 32 rfl rfl (by omega) lb4 (by omega)
  have h3 := orS _ 16777216 ((0) * 256 + b4.toNat) b3.toNat 16777216 24 rfl rfl (h4.trans (by omega)) lb3 (by omega)
  have h2 := orS _ 65536 (((0) * 256 + b4.toNat) * 256 + b3.toNat) b2.toNat 65536 16 rfl rfl (h3.trans (by omega)) lb2 (by omega)
  have h1 := orS _ 256 ((((0) * 256 + b4.toNat) * 256 + b3.toNat) * 256 + b2.toNat) b1.toNat 256 8 rfl rfl (h2.trans (by omega)) lb1 (by omega)
  have h0 := orL _ (((((0) * 256 + b4.toNat) * 256 + b3.toNat) * 256 + b2.toNat) * 256 + b1.toNat) b0.toNat (h1.trans (by omega)) lb0 (by omega)
  replace h0 := Lib.hid h0
  replace h1 := Lib.hid h1
  replace h2 := Lib.hid h2
  replace h3 := Lib.hid h3
  replace h4 := Lib.hid h4
  go_enter Try.func165, Try.ntmps165
  repeat' (first | go_skip | go_guarded | go_step)
  go_ret
  refine ⟨congrArg (fun z => Ending.returned (Value.int IntKind.u64 z)) (h0.out.trans ?_), rfl⟩
  simp only [leN]
  omega
set_option maxRecDepth 100000 in
set_option maxHeartbeats 1000000 in
theorem word6_c (w : World) (b0 b1 b2 b3 b4 b5 : UInt8) :
    Calls Try.prog 165 #[str [b0, b1, b2, b3, b4, b5]] w fun e w' => e = .returned (.int .u64 (leN [b0, b1, b2, b3, b4, b5])) ∧ w = w' := by
  have lb0 : b0.toNat < 256 := b0.toNat_lt
  have lb1 : b1.toNat < 256 := b1.toNat_lt
  have lb2 : b2.toNat < 256 := b2.toNat_lt
  have lb3 : b3.toNat < 256 := b3.toNat_lt
  have lb4 : b4.toNat < 256 := b4.toNat_lt
  have lb5 : b5.toNat < 256 := b5.toNat_lt
  have h5 := orS 0 1099511627776 (0) b5.toNat 1099511627776 40 rfl rfl (by omega) lb5 (by omega)
  have h4 := orS _ 4294967296 ((0) * 256 + b5.toNat) b4.toNat 4294967296 32 rfl rfl (h5.trans (by omega)) lb4 (by omega)
  have h3 := orS _ 16777216 (((0) * 256 + b5.toNat) * 256 + b4.toNat) b3.toNat 16777216 24 rfl rfl (h4.trans (by omega)) lb3 (by omega)
  have h2 := orS _ 65536 ((((0) * 256 + b5.toNat) * 256 + b4.toNat) * 256 + b3.toNat) b2.toNat 65536 16 rfl rfl (h3.trans (by omega)) lb2 (by omega)
  have h1 := orS _ 256 (((((0) * 256 + b5.toNat) * 256 + b4.toNat) * 256 + b3.toNat) * 256 + b2.toNat) b1.toNat 256 8 rfl rfl (h2.trans (by omega)) lb1 (by omega)
  have h0 := orL _ ((((((0) * 256 + b5.toNat) * 256 + b4.toNat) * 256 + b3.toNat) * 256 + b2.toNat) * 256 + b1.toNat) b0.toNat (h1.trans (by omega)) lb0 (by omega)
  replace h0 := Lib.hid h0
  replace h1 := Lib.hid h1
  replace h2 := Lib.hid h2
  replace h3 := Lib.hid h3
  replace h4 := Lib.hid h4
  replace h5 := Lib.hid h5
  go_enter Try.func165, Try.ntmps165
  repeat' (first | go_skip | go_guarded | go_step)
  go_ret
  refine ⟨congrArg (fun z => Ending.returned (Value.int IntKind.u64 z)) (h0.out.trans ?_), rfl⟩
  simp only [leN]
  omega
set_option maxRecDepth 100000 in
set_option maxHeartbeats 1000000 in
theorem word7_c (w : World) (b0 b1 b2 b3 b4 b5 b6 : UInt8) :
    Calls Try.prog 165 #[str [b0, b1, b2, b3, b4, b5, b6]] w fun e w' => e = .returned (.int .u64 (leN [b0, b1, b2, b3, b4, b5, b6])) ∧ w = w' := by
  have lb0 : b0.toNat < 256 := b0.toNat_lt
  have lb1 : b1.toNat < 256 := b1.toNat_lt
  have lb2 : b2.toNat < 256 := b2.toNat_lt
  have lb3 : b3.toNat < 256 := b3.toNat_lt
  have lb4 : b4.toNat < 256 := b4.toNat_lt
  have lb5 : b5.toNat < 256 := b5.toNat_lt
  have lb6 : b6.toNat < 256 := b6.toNat_lt
  have h6 := orS 0 281474976710656 (0) b6.toNat 281474976710656 48 rfl rfl (by omega) lb6 (by omega)
  have h5 := orS _ 1099511627776 ((0) * 256 + b6.toNat) b5.toNat 1099511627776 40 rfl rfl (h6.trans (by omega)) lb5 (by omega)
  have h4 := orS _ 4294967296 (((0) * 256 + b6.toNat) * 256 + b5.toNat) b4.toNat 4294967296 32 rfl rfl (h5.trans (by omega)) lb4 (by omega)
  have h3 := orS _ 16777216 ((((0) * 256 + b6.toNat) * 256 + b5.toNat) * 256 + b4.toNat) b3.toNat 16777216 24 rfl rfl (h4.trans (by omega)) lb3 (by omega)
  have h2 := orS _ 65536 (((((0) * 256 + b6.toNat) * 256 + b5.toNat) * 256 + b4.toNat) * 256 + b3.toNat) b2.toNat 65536 16 rfl rfl (h3.trans (by omega)) lb2 (by omega)
  have h1 := orS _ 256 ((((((0) * 256 + b6.toNat) * 256 + b5.toNat) * 256 + b4.toNat) * 256 + b3.toNat) * 256 + b2.toNat) b1.toNat 256 8 rfl rfl (h2.trans (by omega)) lb1 (by omega)
  have h0 := orL _ (((((((0) * 256 + b6.toNat) * 256 + b5.toNat) * 256 + b4.toNat) * 256 + b3.toNat) * 256 + b2.toNat) * 256 + b1.toNat) b0.toNat (h1.trans (by omega)) lb0 (by omega)
  replace h0 := Lib.hid h0
  replace h1 := Lib.hid h1
  replace h2 := Lib.hid h2
  replace h3 := Lib.hid h3
  replace h4 := Lib.hid h4
  replace h5 := Lib.hid h5
  replace h6 := Lib.hid h6
  go_enter Try.func165, Try.ntmps165
  repeat' (first | go_skip | go_guarded | go_step)
  go_ret
  refine ⟨congrArg (fun z => Ending.returned (Value.int IntKind.u64 z)) (h0.out.trans ?_), rfl⟩
  simp only [leN]
  omega
set_option maxRecDepth 100000 in
set_option maxHeartbeats 1000000 in
theorem word8_c (w : World) (b0 b1 b2 b3 b4 b5 b6 b7 : UInt8) :
    Calls Try.prog 165 #[str [b0, b1, b2, b3, b4, b5, b6, b7]] w fun e w' => e = .returned (.int .u64 (leN [b0, b1, b2, b3, b4, b5, b6, b7])) ∧ w = w' := by
  have lb0 : b0.toNat < 256 := b0.toNat_lt
  have lb1 : b1.toNat < 256 := b1.toNat_lt
  have lb2 : b2.toNat < 256 := b2.toNat_lt
  have lb3 : b3.toNat < 256 := b3.toNat_lt
  have lb4 : b4.toNat < 256 := b4.toNat_lt
  have lb5 : b5.toNat < 256 := b5.toNat_lt
  have lb6 : b6.toNat < 256 := b6.toNat_lt
  have lb7 : b7.toNat < 256 := b7.toNat_lt
  have h7 := orS 0 72057594037927936 (0) b7.toNat 72057594037927936 56 rfl rfl (by omega) lb7 (by omega)
  have h6 := orS _ 281474976710656 ((0) * 256 + b7.toNat) b6.toNat 281474976710656 48 rfl rfl (h7.trans (by omega)) lb6 (by omega)
  have h5 := orS _ 1099511627776 (((0) * 256 + b7.toNat) * 256 + b6.toNat) b5.toNat 1099511627776 40 rfl rfl (h6.trans (by omega)) lb5 (by omega)
  have h4 := orS _ 4294967296 ((((0) * 256 + b7.toNat) * 256 + b6.toNat) * 256 + b5.toNat) b4.toNat 4294967296 32 rfl rfl (h5.trans (by omega)) lb4 (by omega)
  have h3 := orS _ 16777216 (((((0) * 256 + b7.toNat) * 256 + b6.toNat) * 256 + b5.toNat) * 256 + b4.toNat) b3.toNat 16777216 24 rfl rfl (h4.trans (by omega)) lb3 (by omega)
  have h2 := orS _ 65536 ((((((0) * 256 + b7.toNat) * 256 + b6.toNat) * 256 + b5.toNat) * 256 + b4.toNat) * 256 + b3.toNat) b2.toNat 65536 16 rfl rfl (h3.trans (by omega)) lb2 (by omega)
  have h1 := orS _ 256 (((((((0) * 256 + b7.toNat) * 256 + b6.toNat) * 256 + b5.toNat) * 256 + b4.toNat) * 256 + b3.toNat) * 256 + b2.toNat) b1.toNat 256 8 rfl rfl (h2.trans (by omega)) lb1 (by omega)
  have h0 := orL _ ((((((((0) * 256 + b7.toNat) * 256 + b6.toNat) * 256 + b5.toNat) * 256 + b4.toNat) * 256 + b3.toNat) * 256 + b2.toNat) * 256 + b1.toNat) b0.toNat (h1.trans (by omega)) lb0 (by omega)
  replace h0 := Lib.hid h0
  replace h1 := Lib.hid h1
  replace h2 := Lib.hid h2
  replace h3 := Lib.hid h3
  replace h4 := Lib.hid h4
  replace h5 := Lib.hid h5
  replace h6 := Lib.hid h6
  replace h7 := Lib.hid h7
  go_enter Try.func165, Try.ntmps165
  repeat' (first | go_skip | go_guarded | go_step)
  go_ret
  refine ⟨congrArg (fun z => Ending.returned (Value.int IntKind.u64 z)) (h0.out.trans ?_), rfl⟩
  simp only [leN]
  omega
theorem word_c (w : World) : ∀ (l : List UInt8), l.length ≤ 8 → Calls Try.prog 165 #[str l] w fun e w' => e = .returned (.int .u64 (leN l)) ∧ w = w'
  | [], _ => word0_c w
  | [b0], _ => word1_c w b0
  | [b0, b1], _ => word2_c w b0 b1
  | [b0, b1, b2], _ => word3_c w b0 b1 b2
  | [b0, b1, b2, b3], _ => word4_c w b0 b1 b2 b3
  | [b0, b1, b2, b3, b4], _ => word5_c w b0 b1 b2 b3 b4
  | [b0, b1, b2, b3, b4, b5], _ => word6_c w b0 b1 b2 b3 b4 b5
  | [b0, b1, b2, b3, b4, b5, b6], _ => word7_c w b0 b1 b2 b3 b4 b5 b6
  | [b0, b1, b2, b3, b4, b5, b6, b7], _ => word8_c w b0 b1 b2 b3 b4 b5 b6 b7
  | _ :: _ :: _ :: _ :: _ :: _ :: _ :: _ :: _ :: _, h => by simp at h
end Go.Proofs.Ytclcgelbcbnekaa
