/- Texts joined. -/
import Derived.Test.YtclcgelbcbnekaaDoorM09
import Derived.Test.YtclcgelbcbnekaaDoorRows
import Derived.Laws.Bits64b
import Derived.Deep.LoopGhost
import Derived.Test.YtclcgelbcbnekaaDoorM04
import Derived.Laws.Bits64
import Derived.StillTailTactics
import Derived.Deep.DeepCutAuto
set_option linter.unusedVariables false
set_option linter.unusedSimpArgs false
/- Contracts: bits turned: by math/bits, and as the document has it; five bits of a hash. -/
namespace Go.Proofs.YtclcgelbcbnekaaDoor
open Go.RowKit Go.QS
set_option linter.unusedVariables false

theorem or_law (x k : Nat) (hx : x < 18446744073709551616) (hk : k < 64) : bits BinOp.or IntKind.u64 ((x : Int) * 2 ^ k % 18446744073709551616) ((x : Int) / 2 ^ (64 - k)) = ((turnN k x : Nat) : Int) := by
  have e1 : (x : Int) * 2 ^ k % 18446744073709551616 = ((x * 2 ^ k % 18446744073709551616 : Nat) : Int) := by simp
  have e2 : (x : Int) / 2 ^ (64 - k) = ((x / 2 ^ (64 - k) : Nat) : Int) := by simp
  rw [e1, e2, bits_or_u64_nat _ _ (Nat.mod_lt _ (by decide)) (Nat.lt_of_le_of_lt (Nat.div_le_self _ _) hx), turn_or (by omega) hx]
set_option maxRecDepth 100000 in
theorem rotl_c (w : World) (x k : Nat) (hx : x < 18446744073709551616) (hk : k < 64) : Calls Tryd.prog 105 #[.int .u64 x, .int .i64 k] w fun e w' => e = .returned (.int .u64 (turnN k x)) ∧ w = w' := by
  have hA : bits BinOp.and IntKind.u64 (k : Int) 63 = (k : Int) := by
    have := bits_and_u64_nat k 63 (by omega) (by decide)
    rw [show k &&& 63 = k by rw [show (63 : Nat) = 2 ^ 6 - 1 from rfl, Nat.and_two_pow_sub_one_eq_mod]; exact Nat.mod_eq_of_lt (by omega)] at this
    exact this
  have hw : (k : Int) % 18446744073709551616 = (k : Int) := by omega
  have hs : (64 - (k : Int)) % 18446744073709551616 = ((64 - k : Nat) : Int) := by omega
  have h1 : (k : Int) ≤ 64 := by omega
  have h2 : ((64 - k : Nat) : Int) ≤ 64 := by omega
  have hor := or_law x k hx hk
  go_enter Tryd.func105, Tryd.ntmps105
  repeat' (first | go_skip | go_guarded | go_step)
  go_ret
  refine ⟨?_, rfl⟩
  change Ending.returned (Value.int IntKind.u64 (bits BinOp.or IntKind.u64 (IntKind.u64.wrap (↑x * 2 ^ k)) (↑x / 2 ^ (64 - k)))) = _
  rw [IntKind.wrap_u64, hor]
set_option maxRecDepth 100000 in
theorem turn_c (w : World) (x k : Nat) (hx : x < 18446744073709551616) (hk : k < 64) : Calls Tryd.prog 102 #[.int .u64 x, .int .i64 k] w fun e w' => e = .returned (.int .u64 (turnN k x)) ∧ w = w' := by
  go_enter Tryd.func102, Tryd.ntmps102
  repeat' (first | go_skip | go_guarded | go_step)
  go_loopg [5, 0] k (fun gk v5 v0 wr => ∃ i y : Nat, v5 = .int .i64 i ∧ v0 = .int .u64 y ∧ i ≤ k ∧ k - i ≤ gk ∧ y < 18446744073709551616 ∧ Hid (turnN (k - i) y = turnN k x) ∧ wr = w)
  case atStart => exact ⟨0, x, rfl, rfl, Nat.zero_le _, by omega, hx, Lib.hid rfl, rfl⟩
  case round =>
    obtain ⟨i, y, rfl, rfl, hik, hgk, hy, HT, rfl⟩ := hrel
    rcases Nat.lt_or_ge i k with hlt | hge
    · have d1 : decide (i < k) = true := by simp [hlt]
      have hr : rot1 y < 18446744073709551616 := rot1_lt hy
      have e1 : ((y : Int) * 2 % 18446744073709551616 + (y : Int) / 9223372036854775808) % 18446744073709551616 = ((rot1 y : Nat) : Int) := by
        have := hr
        unfold rot1 at this ⊢
        omega
      repeat' (first | go_skip | go_guarded | go_step)
      go_roundg (k - (i + 1))
      case measure => omega
      case rel => exact ⟨i + 1, rot1 y, by go_num, by rw [← e1]; go_num, by omega, Nat.le_refl _, hr, Lib.hid (by rw [← HT.out, show k - i = (k - (i + 1)) + 1 by omega]; rfl), rfl⟩
    · obtain rfl : i = k := by omega
      have d1 : decide (i < i) = false := by simp
      have e2 := HT.out
      rw [Nat.sub_self] at e2
      have e3 : y = turnN i x := e2
      repeat' (first | go_skip | go_guarded | go_step)
      go_ret
      exact ⟨by rw [← e3]; rfl, rfl⟩
end Go.Proofs.YtclcgelbcbnekaaDoor
/- Contracts: the hash's four numbers turned, in place. -/
namespace Go.Proofs.YtclcgelbcbnekaaDoor
open Go.RowKit Go.QS
set_option linter.unusedVariables false

abbrev ST : TypeId := 155
def StAt (w : World) (g : Nat) (v : V4) : Prop := w.heap[g]? = some (.cells #[.int .u64 v.a, .int .u64 v.b, .int .u64 v.c, .int .u64 v.d] ST (0, 0))
theorem StAt.cells {w : World} {g : Nat} {v : V4} (h : StAt w g v) : w.cell? ⟨g, 0, none⟩ = some (.int .u64 v.a) ∧ w.cell? ⟨g, 1, none⟩ = some (.int .u64 v.b) ∧ w.cell? ⟨g, 2, none⟩ = some (.int .u64 v.c) ∧ w.cell? ⟨g, 3, none⟩ = some (.int .u64 v.d) ∧ ∀ j, w.frozen? ⟨g, j, none⟩ = false := by
  unfold StAt at h
  simp [World.cell?, World.frozen?, h]
theorem xor_law (x y : Nat) (hx : x < 18446744073709551616) (hy : y < 18446744073709551616) : bits BinOp.xor IntKind.u64 (x : Int) (y : Int) = ((x ^^^ y : Nat) : Int) := bits_xor_u64_nat x y hx hy
theorem ad_law (x y : Nat) : IntKind.u64.wrap ((x : Int) + (y : Int)) = ((ad x y : Nat) : Int) := by
  rw [IntKind.wrap_u64]; unfold ad; omega
theorem rotl_s (w : World) (x k : Nat) (hx : x < 18446744073709551616) (hk : k < 64) : Calls Tryd.prog 105 #[.int .u64 x, .int .i64 k] w fun e w' => e = .returned (.int .u64 (turnN k x)) ∧ w' = w :=
  (rotl_c w x k hx hk).mono fun e w' h => ⟨h.1, h.2.symm⟩
theorem st_set {w : World} {g j y : Nat} {x : Int} {u u' : V4} (h : StAt w g u) (e : x = (y : Int)) (h' : (#[Value.int .u64 u.a, .int .u64 u.b, .int .u64 u.c, .int .u64 u.d] : Array Value).setIfInBounds j (.int .u64 y) = #[.int .u64 u'.a, .int .u64 u'.b, .int .u64 u'.c, .int .u64 u'.d]) : StAt ((w.setCell ⟨g, j, none⟩ (.int .u64 x)).drew) g u' := by
  subst e
  have := heap_set h j (.int .u64 y)
  rw [h'] at this
  exact this
theorem wp_st {P : Program} {c : Code} {Q : Exit → Act → World → Prop} {a : Act} {w wr : World} {g j y : Nat} {x : Int} {u u' : V4} (h : Hid (StAt wr g u ∧ Only (fun k => k = g) w wr)) (e : x = (y : Int)) (h' : (#[Value.int .u64 u.a, .int .u64 u.b, .int .u64 u.c, .int .u64 u.d] : Array Value).setIfInBounds j (.int .u64 y) = #[.int .u64 u'.a, .int .u64 u'.b, .int .u64 u'.c, .int .u64 u'.d])
    (hk : ∀ w', Hid (StAt w' g u' ∧ Only (fun k => k = g) w w') → c.wp P Q a w') : c.wp P Q a (wr.setCell ⟨g, j, none⟩ (.int .u64 x)).drew :=
  hk _ (Lib.hid ⟨st_set h.out.1 e h', (h.out.2.setCell (.inl rfl) _).drew⟩)

set_option maxRecDepth 100000 in
set_option maxHeartbeats 2000000 in
theorem rounds_c (w : World) (g n : Nat) (v : V4) (h : StAt w g v) (hv : v.Ok) (hn : n ≤ 100) :
    Calls Tryd.prog 98 #[ptr g, .int .i64 n] w fun e w' => e = .returned (.tuple #[]) ∧ StAt w' g (rnds n v) ∧ Only (fun k => k = g) w w' := by
  have HS := Lib.hid h
  clear h
  go_enter Tryd.func98, Tryd.ntmps98
  repeat' (first | go_skip | go_guarded | go_step)
  go_loopg [5] n (fun gk v5 wr => ∃ (i : Nat) (u : V4), v5 = .int .i64 i ∧ i ≤ n ∧ n - i ≤ gk ∧ u.Ok ∧ Hid (rnds (n - i) u = rnds n v ∧ StAt wr g u ∧ Only (fun k => k = g) w wr))
  case atStart => exact ⟨0, v, rfl, Nat.zero_le _, by omega, hv, Lib.hid ⟨rfl, HS.out, Only.refl w⟩⟩
  case round =>
    obtain ⟨i, u, rfl, hin, hgk, hu, HI⟩ := hrel
    rcases Nat.lt_or_ge i n with hlt | hge
    · have d1 : decide (i < n) = true := by simp [hlt]
      obtain ⟨a0, b0, c0, d0⟩ := u
      obtain ⟨la0, lb0, lc0, ld0⟩ := hu
      have H1 : Hid (StAt wr g ⟨a0, b0, c0, d0⟩ ∧ Only (fun k => k = g) w wr) := Lib.hid HI.out.2
      simp only at la0 lb0 lc0 ld0
      obtain ⟨q0, q1, q2, q3, qf⟩ := H1.out.1.cells
      simp only at q0 q1 q2 q3
      repeat' (go_not_at_region 2; (first | go_skip | go_guarded | go_step))
      go_still_tail 11, (by kernel_rfl)
      change wpList _ _ _ _ _ wr.drew
      repeat' (first | go_not_at_region 3; (first | go_skip | go_guarded | go_step))
      obtain ⟨a1, ea1⟩ : ∃ z, z = ad a0 b0 := ⟨_, rfl⟩
      have la1 : a1 < 18446744073709551616 := by rw [ea1]; exact ad_lt a0 b0
      have pa1 : IntKind.u64.wrap ((a0 : Int) + (b0 : Int)) = (a1 : Int) := by rw [ea1]; exact ad_law a0 b0
      replace ea1 := Lib.hid ea1
      refine wp_st (u' := ⟨a1, b0, c0, d0⟩) H1 pa1 rfl ?_
      clear q0 q1 q2 q3 qf pa1 H1
      intro w2 H2
      obtain ⟨q0, q1, q2, q3, qf⟩ := H2.out.1.cells
      simp only at q0 q1 q2 q3
      repeat' (go_not_at_region 3; (first | go_skip | go_guarded | go_step))
      go_still_tail 13, (by kernel_rfl)
      still_call (rotl_s _ b0 13 lb0 (by decide))
      repeat still_step
      try refine wpStill_nil ?_
      change wpList _ _ _ _ _ w2.drew
      repeat' (first | go_not_at_region 4; (first | go_skip | go_guarded | go_step))
      obtain ⟨b1, eb1⟩ : ∃ z, z = turnN 13 b0 ^^^ a1 := ⟨_, rfl⟩
      have lb1 : b1 < 18446744073709551616 := by rw [eb1]; exact xor_lt (turnN_lt 13 lb0) la1
      have pb1 : bits BinOp.xor IntKind.u64 ((turnN 13 b0 : Nat) : Int) (a1 : Int) = (b1 : Int) := by rw [eb1]; exact xor_law _ _ (turnN_lt 13 lb0) la1
      replace eb1 := Lib.hid eb1
      refine wp_st (u' := ⟨a1, b1, c0, d0⟩) H2 pb1 rfl ?_
      clear q0 q1 q2 q3 qf pb1 H2
      intro w3 H3
      obtain ⟨q0, q1, q2, q3, qf⟩ := H3.out.1.cells
      simp only at q0 q1 q2 q3
      repeat' (go_not_at_region 4; (first | go_skip | go_guarded | go_step))
      go_still_tail 8, (by kernel_rfl)
      still_call (rotl_s _ a1 32 la1 (by decide))
      repeat still_step
      try refine wpStill_nil ?_
      change wpList _ _ _ _ _ w3.drew
      repeat' (first | go_not_at_region 5; (first | go_skip | go_guarded | go_step))
      obtain ⟨a2, ea2⟩ : ∃ z, z = turnN 32 a1 := ⟨_, rfl⟩
      have la2 : a2 < 18446744073709551616 := by rw [ea2]; exact turnN_lt 32 la1
      have pa2 : ((turnN 32 a1 : Nat) : Int) = (a2 : Int) := by rw [ea2]
      replace ea2 := Lib.hid ea2
      refine wp_st (u' := ⟨a2, b1, c0, d0⟩) H3 pa2 rfl ?_
      clear q0 q1 q2 q3 qf pa2 H3
      intro w4 H4
      obtain ⟨q0, q1, q2, q3, qf⟩ := H4.out.1.cells
      simp only at q0 q1 q2 q3
      repeat' (go_not_at_region 5; (first | go_skip | go_guarded | go_step))
      go_still_tail 11, (by kernel_rfl)
      change wpList _ _ _ _ _ w4.drew
      repeat' (first | go_not_at_region 6; (first | go_skip | go_guarded | go_step))
      obtain ⟨c1, ec1⟩ : ∃ z, z = ad c0 d0 := ⟨_, rfl⟩
      have lc1 : c1 < 18446744073709551616 := by rw [ec1]; exact ad_lt c0 d0
      have pc1 : IntKind.u64.wrap ((c0 : Int) + (d0 : Int)) = (c1 : Int) := by rw [ec1]; exact ad_law c0 d0
      replace ec1 := Lib.hid ec1
      refine wp_st (u' := ⟨a2, b1, c1, d0⟩) H4 pc1 rfl ?_
      clear q0 q1 q2 q3 qf pc1 H4
      intro w5 H5
      obtain ⟨q0, q1, q2, q3, qf⟩ := H5.out.1.cells
      simp only at q0 q1 q2 q3
      repeat' (go_not_at_region 6; (first | go_skip | go_guarded | go_step))
      go_still_tail 13, (by kernel_rfl)
      still_call (rotl_s _ d0 16 ld0 (by decide))
      repeat still_step
      try refine wpStill_nil ?_
      change wpList _ _ _ _ _ w5.drew
      repeat' (first | go_not_at_region 7; (first | go_skip | go_guarded | go_step))
      obtain ⟨d1, ed1⟩ : ∃ z, z = turnN 16 d0 ^^^ c1 := ⟨_, rfl⟩
      have ld1 : d1 < 18446744073709551616 := by rw [ed1]; exact xor_lt (turnN_lt 16 ld0) lc1
      have pd1 : bits BinOp.xor IntKind.u64 ((turnN 16 d0 : Nat) : Int) (c1 : Int) = (d1 : Int) := by rw [ed1]; exact xor_law _ _ (turnN_lt 16 ld0) lc1
      replace ed1 := Lib.hid ed1
      refine wp_st (u' := ⟨a2, b1, c1, d1⟩) H5 pd1 rfl ?_
      clear q0 q1 q2 q3 qf pd1 H5
      intro w6 H6
      obtain ⟨q0, q1, q2, q3, qf⟩ := H6.out.1.cells
      simp only at q0 q1 q2 q3
      repeat' (go_not_at_region 7; (first | go_skip | go_guarded | go_step))
      go_still_tail 11, (by kernel_rfl)
      change wpList _ _ _ _ _ w6.drew
      repeat' (first | go_not_at_region 8; (first | go_skip | go_guarded | go_step))
      obtain ⟨a3, ea3⟩ : ∃ z, z = ad a2 d1 := ⟨_, rfl⟩
      have la3 : a3 < 18446744073709551616 := by rw [ea3]; exact ad_lt a2 d1
      have pa3 : IntKind.u64.wrap ((a2 : Int) + (d1 : Int)) = (a3 : Int) := by rw [ea3]; exact ad_law a2 d1
      replace ea3 := Lib.hid ea3
      refine wp_st (u' := ⟨a3, b1, c1, d1⟩) H6 pa3 rfl ?_
      clear q0 q1 q2 q3 qf pa3 H6
      intro w7 H7
      obtain ⟨q0, q1, q2, q3, qf⟩ := H7.out.1.cells
      simp only at q0 q1 q2 q3
      repeat' (go_not_at_region 8; (first | go_skip | go_guarded | go_step))
      go_still_tail 13, (by kernel_rfl)
      still_call (rotl_s _ d1 21 ld1 (by decide))
      repeat still_step
      try refine wpStill_nil ?_
      change wpList _ _ _ _ _ w7.drew
      repeat' (first | go_not_at_region 9; (first | go_skip | go_guarded | go_step))
      obtain ⟨d2, ed2⟩ : ∃ z, z = turnN 21 d1 ^^^ a3 := ⟨_, rfl⟩
      have ld2 : d2 < 18446744073709551616 := by rw [ed2]; exact xor_lt (turnN_lt 21 ld1) la3
      have pd2 : bits BinOp.xor IntKind.u64 ((turnN 21 d1 : Nat) : Int) (a3 : Int) = (d2 : Int) := by rw [ed2]; exact xor_law _ _ (turnN_lt 21 ld1) la3
      replace ed2 := Lib.hid ed2
      refine wp_st (u' := ⟨a3, b1, c1, d2⟩) H7 pd2 rfl ?_
      clear q0 q1 q2 q3 qf pd2 H7
      intro w8 H8
      obtain ⟨q0, q1, q2, q3, qf⟩ := H8.out.1.cells
      simp only at q0 q1 q2 q3
      repeat' (go_not_at_region 9; (first | go_skip | go_guarded | go_step))
      go_still_tail 11, (by kernel_rfl)
      change wpList _ _ _ _ _ w8.drew
      repeat' (first | go_not_at_region 10; (first | go_skip | go_guarded | go_step))
      obtain ⟨c2, ec2⟩ : ∃ z, z = ad c1 b1 := ⟨_, rfl⟩
      have lc2 : c2 < 18446744073709551616 := by rw [ec2]; exact ad_lt c1 b1
      have pc2 : IntKind.u64.wrap ((c1 : Int) + (b1 : Int)) = (c2 : Int) := by rw [ec2]; exact ad_law c1 b1
      replace ec2 := Lib.hid ec2
      refine wp_st (u' := ⟨a3, b1, c2, d2⟩) H8 pc2 rfl ?_
      clear q0 q1 q2 q3 qf pc2 H8
      intro w9 H9
      obtain ⟨q0, q1, q2, q3, qf⟩ := H9.out.1.cells
      simp only at q0 q1 q2 q3
      repeat' (go_not_at_region 10; (first | go_skip | go_guarded | go_step))
      go_still_tail 13, (by kernel_rfl)
      still_call (rotl_s _ b1 17 lb1 (by decide))
      repeat still_step
      try refine wpStill_nil ?_
      change wpList _ _ _ _ _ w9.drew
      repeat' (first | go_not_at_region 11; (first | go_skip | go_guarded | go_step))
      obtain ⟨b2, eb2⟩ : ∃ z, z = turnN 17 b1 ^^^ c2 := ⟨_, rfl⟩
      have lb2 : b2 < 18446744073709551616 := by rw [eb2]; exact xor_lt (turnN_lt 17 lb1) lc2
      have pb2 : bits BinOp.xor IntKind.u64 ((turnN 17 b1 : Nat) : Int) (c2 : Int) = (b2 : Int) := by rw [eb2]; exact xor_law _ _ (turnN_lt 17 lb1) lc2
      replace eb2 := Lib.hid eb2
      refine wp_st (u' := ⟨a3, b2, c2, d2⟩) H9 pb2 rfl ?_
      clear q0 q1 q2 q3 qf pb2 H9
      intro w10 H10
      obtain ⟨q0, q1, q2, q3, qf⟩ := H10.out.1.cells
      simp only at q0 q1 q2 q3
      repeat' (go_not_at_region 11; (first | go_skip | go_guarded | go_step))
      go_still_tail 8, (by kernel_rfl)
      still_call (rotl_s _ c2 32 lc2 (by decide))
      repeat still_step
      try refine wpStill_nil ?_
      change wpList _ _ _ _ _ w10.drew
      repeat' (first | go_not_at_region 12; (first | go_skip | go_guarded | go_step))
      obtain ⟨c3, ec3⟩ : ∃ z, z = turnN 32 c2 := ⟨_, rfl⟩
      have lc3 : c3 < 18446744073709551616 := by rw [ec3]; exact turnN_lt 32 lc2
      have pc3 : ((turnN 32 c2 : Nat) : Int) = (c3 : Int) := by rw [ec3]
      replace ec3 := Lib.hid ec3
      refine wp_st (u' := ⟨a3, b2, c3, d2⟩) H10 pc3 rfl ?_
      clear q0 q1 q2 q3 qf pc3 H10
      intro w11 H11
      obtain ⟨q0, q1, q2, q3, qf⟩ := H11.out.1.cells
      simp only at q0 q1 q2 q3
      have hr : rnd ⟨a0, b0, c0, d0⟩ = ⟨a3, b2, c3, d2⟩ := by
        rw [ed2.out, ec3.out, eb2.out, ec2.out, ea3.out, ed1.out, ea2.out, eb1.out, ec1.out, ea1.out]
        rfl
      repeat' (first | go_skip | go_guarded | go_step)
      go_roundg (n - (i + 1))
      case measure => omega
      case rel => exact ⟨i + 1, ⟨a3, b2, c3, d2⟩, by go_num, by omega, Nat.le_refl _, ⟨la3, lb2, lc3, ld2⟩, Lib.hid ⟨by rw [← HI.out.1, ← hr, show n - i = (n - (i + 1)) + 1 by omega]; rfl, H11.out⟩⟩
    · obtain rfl : i = n := by omega
      have d1 : decide (i < i) = false := by simp
      have e2 := HI.out.1
      rw [Nat.sub_self] at e2
      repeat' (first | go_skip | go_guarded | go_step)
      first | refine bodyPost_ret (results_none rfl _ _ _) rfl ?_ | refine bodyPost_end (results_none rfl _ _ _) rfl ?_
      exact ⟨rfl, by rw [← e2]; exact HI.out.2.1, HI.out.2.2⟩
end Go.Proofs.YtclcgelbcbnekaaDoor
/- Contracts: eight bytes as a number; a number more is taken. -/
namespace Go.Proofs.YtclcgelbcbnekaaDoor
open Go.RowKit Go.QS
set_option linter.unusedVariables false

set_option maxRecDepth 100000 in
set_option maxHeartbeats 1000000 in
theorem take_c (w : World) (g m : Nat) (v : V4) (h : StAt w g v) (hv : v.Ok) (hm : m < 18446744073709551616) :
    Calls Tryd.prog 96 #[ptr g, .int .u64 m] w fun e w' => e = .returned (.tuple #[]) ∧ StAt w' g (tk v m) ∧ Only (fun k => k = g) w w' := by
  obtain ⟨a0, b0, c0, d0⟩ := v
  obtain ⟨la0, lb0, lc0, ld0⟩ := hv
  have H1 : Hid (StAt w g ⟨a0, b0, c0, d0⟩ ∧ Only (fun k => k = g) w w) := Lib.hid ⟨h, Only.refl w⟩
  clear h
  simp only at la0 lb0 lc0 ld0
  obtain ⟨q0, q1, q2, q3, qf⟩ := H1.out.1.cells
  simp only at q0 q1 q2 q3
  go_enter Tryd.func96, Tryd.ntmps96
  repeat' (go_not_at_region 0; (first | go_skip | go_guarded | go_step))
  go_still_tail 8, (by kernel_rfl)
  change wpList _ _ _ _ _ w.drew
  repeat' (first | go_not_at_region 1; (first | go_skip | go_guarded | go_step))
  have l1 : d0 ^^^ m < 18446744073709551616 := xor_lt ld0 hm
  refine wp_st (u' := ⟨a0, b0, c0, d0 ^^^ m⟩) H1 (xor_law d0 m ld0 hm) rfl ?_
  clear q0 q1 q2 q3 qf H1
  intro w2 H2
  repeat' (first | go_at_call 98 | go_skip | go_guarded | go_step)
  refine (rounds_c w2 g 2 _ H2.out.1 ⟨la0, lb0, lc0, l1⟩ (by decide)).mono ?_
  rintro e w3 ⟨rfl, s3, o3⟩
  have ok := rnds_ok 2 (v := ⟨a0, b0, c0, d0 ^^^ m⟩) ⟨la0, lb0, lc0, l1⟩
  obtain ⟨u, hu⟩ : ∃ u, u = rnds 2 ⟨a0, b0, c0, d0 ^^^ m⟩ := ⟨_, rfl⟩
  rw [← hu] at ok s3
  have HU := Lib.hid hu
  obtain ⟨a1, b1, c1, d1⟩ := u
  obtain ⟨la1, lb1, lc1, ld1⟩ := ok
  simp only at la1 lb1 lc1 ld1
  have H3 : Hid (StAt w3 g ⟨a1, b1, c1, d1⟩ ∧ Only (fun k => k = g) w w3) := Lib.hid ⟨s3, H2.out.2.trans o3⟩
  clear s3 o3 hu
  obtain ⟨q0, q1, q2, q3, qf⟩ := H3.out.1.cells
  simp only at q0 q1 q2 q3
  go_simp
  repeat' (go_not_at_region 2; (first | go_skip | go_guarded | go_step))
  go_still_tail 8, (by kernel_rfl)
  change wpList _ _ _ _ _ w3.drew
  repeat' (first | go_skip | go_guarded | go_step)
  first | refine bodyPost_ret (results_none rfl _ _ _) rfl ?_ | refine bodyPost_end (results_none rfl _ _ _) rfl ?_
  refine ⟨rfl, ?_, (H3.out.2.setCell (.inl rfl) _).drew⟩
  have e : tk ⟨a0, b0, c0, d0⟩ m = ⟨a1 ^^^ m, b1, c1, d1⟩ := by
    unfold tk xd
    rw [← HU.out]
    rfl
  rw [e]
  exact st_set H3.out.1 (xor_law a1 m la1 hm) rfl

theorem orS (x Pi : Int) (A b P k : Nat) (hPi : Pi = (P : Int)) (hP : P = 2 ^ k) (hx : x = ((A * 256 * P : Nat) : Int)) (hb : b < 256) (hA : (A * 256 + 255) * P < 18446744073709551616) : bits BinOp.or IntKind.u64 x (IntKind.u64.wrap (IntKind.u64.wrap (b : Int) * Pi)) = (((A * 256 + b) * P : Nat) : Int) := by
  subst hPi hx
  have h1 : b * P ≤ (A * 256 + 255) * P := Nat.mul_le_mul_right _ (by omega)
  have h2 : A * 256 * P ≤ (A * 256 + 255) * P := Nat.mul_le_mul_right _ (by omega)
  have e1 : IntKind.u64.wrap (b : Int) = (b : Int) := by rw [IntKind.wrap_u64]; omega
  have e2 : IntKind.u64.wrap ((b : Int) * (P : Int)) = ((b * P : Nat) : Int) := by
    rw [IntKind.wrap_u64, ← Int.natCast_mul]; omega
  have h3 : A * 256 * P < 18446744073709551616 := Nat.lt_of_le_of_lt h2 hA
  have h4 : b * P < 18446744073709551616 := Nat.lt_of_le_of_lt h1 hA
  rw [e1, e2, bits_or_u64_nat (A * 256 * P) (b * P) h3 h4]
  congr 1
  subst hP
  rw [show A * 256 * 2 ^ k = A * 2 ^ (k + 8) by rw [Nat.pow_add, Nat.mul_assoc, Nat.mul_comm 256]]
  exact or_shift hb
theorem orL (x : Int) (A b : Nat) (hx : x = ((A * 256 : Nat) : Int)) (hb : b < 256) (hA : A * 256 + 255 < 18446744073709551616) : bits BinOp.or IntKind.u64 x (IntKind.u64.wrap (b : Int)) = ((A * 256 + b : Nat) : Int) := by
  have h1 : x = ((A * 256 * 1 : Nat) : Int) := by rw [hx, Nat.mul_one]
  have h2 : (A * 256 + 255) * 1 < 18446744073709551616 := by rw [Nat.mul_one]; exact hA
  have := orS x 1 A b 1 0 (by decide) (by decide) h1 hb h2
  rw [Int.mul_one, Nat.mul_one, IntKind.wrap_u64] at this
  have e : IntKind.u64.wrap ((b : Int) % 18446744073709551616) = IntKind.u64.wrap (b : Int) := by rw [IntKind.wrap_u64, IntKind.wrap_u64]; omega
  rw [← e]; exact this
set_option maxRecDepth 100000 in
set_option maxHeartbeats 1000000 in
theorem word0_c (w : World)  :
    Calls Tryd.prog 97 #[str ([] : List UInt8)] w fun e w' => e = .returned (.int .u64 (leN ([] : List UInt8))) ∧ w = w' := by
  go_enter Tryd.func97, Tryd.ntmps97
  repeat' (first | go_skip | go_guarded | go_step)
  go_ret
  exact ⟨rfl, rfl⟩
set_option maxRecDepth 100000 in
set_option maxHeartbeats 1000000 in
theorem word1_c (w : World) (b0 : UInt8) :
    Calls Tryd.prog 97 #[str [b0]] w fun e w' => e = .returned (.int .u64 (leN [b0])) ∧ w = w' := by
  have lb0 : b0.toNat < 256 := b0.toNat_lt
  have h0 := orL 0 (0) b0.toNat (by omega) lb0 (by omega)
  replace h0 := Lib.hid h0
  go_enter Tryd.func97, Tryd.ntmps97
  repeat' (first | go_skip | go_guarded | go_step)
  go_ret
  refine ⟨congrArg (fun z => Ending.returned (Value.int IntKind.u64 z)) (h0.out.trans ?_), rfl⟩
  simp only [leN]
  omega
set_option maxRecDepth 100000 in
set_option maxHeartbeats 1000000 in
theorem word2_c (w : World) (b0 b1 : UInt8) :
    Calls Tryd.prog 97 #[str [b0, b1]] w fun e w' => e = .returned (.int .u64 (leN [b0, b1])) ∧ w = w' := by
  have lb0 : b0.toNat < 256 := b0.toNat_lt
  have lb1 : b1.toNat < 256 := b1.toNat_lt
  have h1 := orS 0 256 (0) b1.toNat 256 8 rfl rfl (by omega) lb1 (by omega)
  have h0 := orL _ ((0) * 256 + b1.toNat) b0.toNat (h1.trans (by omega)) lb0 (by omega)
  replace h0 := Lib.hid h0
  replace h1 := Lib.hid h1
  go_enter Tryd.func97, Tryd.ntmps97
  repeat' (first | go_skip | go_guarded | go_step)
  go_ret
  refine ⟨congrArg (fun z => Ending.returned (Value.int IntKind.u64 z)) (h0.out.trans ?_), rfl⟩
  simp only [leN]
  omega
set_option maxRecDepth 100000 in
set_option maxHeartbeats 1000000 in
theorem word3_c (w : World) (b0 b1 b2 : UInt8) :
    Calls Tryd.prog 97 #[str [b0, b1, b2]] w fun e w' => e = .returned (.int .u64 (leN [b0, b1, b2])) ∧ w = w' := by
  have lb0 : b0.toNat < 256 := b0.toNat_lt
  have lb1 : b1.toNat < 256 := b1.toNat_lt
  have lb2 : b2.toNat < 256 := b2.toNat_lt
  have h2 := orS 0 65536 (0) b2.toNat 65536 16 rfl rfl (by omega) lb2 (by omega)
  have h1 := orS _ 256 ((0) * 256 + b2.toNat) b1.toNat 256 8 rfl rfl (h2.trans (by omega)) lb1 (by omega)
  have h0 := orL _ (((0) * 256 + b2.toNat) * 256 + b1.toNat) b0.toNat (h1.trans (by omega)) lb0 (by omega)
  replace h0 := Lib.hid h0
  replace h1 := Lib.hid h1
  replace h2 := Lib.hid h2
  go_enter Tryd.func97, Tryd.ntmps97
  repeat' (first | go_skip | go_guarded | go_step)
  go_ret
  refine ⟨congrArg (fun z => Ending.returned (Value.int IntKind.u64 z)) (h0.out.trans ?_), rfl⟩
  simp only [leN]
  omega
set_option maxRecDepth 100000 in
set_option maxHeartbeats 1000000 in
theorem word4_c (w : World) (b0 b1 b2 b3 : UInt8) :
    Calls Tryd.prog 97 #[str [b0, b1, b2, b3]] w fun e w' => e = .returned (.int .u64 (leN [b0, b1, b2, b3])) ∧ w = w' := by
  have lb0 : b0.toNat < 256 := b0.toNat_lt
  have lb1 : b1.toNat < 256 := b1.toNat_lt
  have lb2 : b2.toNat < 256 := b2.toNat_lt
  have lb3 : b3.toNat < 256 := b3.toNat_lt
  have h3 := orS 0 16777216 (0) b3.toNat 16777216 24 rfl rfl (by omega) lb3 (by omega)
  have h2 := orS _ 65536 ((0) * 256 + b3.toNat) b2.toNat 65536 16 rfl rfl (h3.trans (by omega)) lb2 (by omega)
  have h1 := orS _ 256 (((0) * 256 + b3.toNat) * 256 + b2.toNat) b1.toNat 256 8 rfl rfl (h2.trans (by omega)) lb1 (by omega)
  have h0 := orL _ ((((0) * 256 + b3.toNat) * 256 + b2.toNat) * 256 + b1.toNat) b0.toNat (h1.trans (by omega)) lb0 (by omega)
  replace h0 := Lib.hid h0
  replace h1 := Lib.hid h1
  replace h2 := Lib.hid h2
  replace h3 := Lib.hid h3
  go_enter Tryd.func97, Tryd.ntmps97
  repeat' (first | go_skip | go_guarded | go_step)
  go_ret
  refine ⟨congrArg (fun z => Ending.returned (Value.int IntKind.u64 z)) (h0.out.trans ?_), rfl⟩
  simp only [leN]
  omega
set_option maxRecDepth 100000 in
set_option maxHeartbeats 1000000 in
theorem word5_c (w : World) (b0 b1 b2 b3 b4 : UInt8) :
    Calls Tryd.prog 97 #[str [b0, b1, b2, b3, b4]] w fun e w' => e = .returned (.int .u64 (leN [b0, b1, b2, b3, b4])) ∧ w = w' := by
  have lb0 : b0.toNat < 256 := b0.toNat_lt
  have lb1 : b1.toNat < 256 := b1.toNat_lt
  have lb2 : b2.toNat < 256 := b2.toNat_lt
  have lb3 : b3.toNat < 256 := b3.toNat_lt
  have lb4 : b4.toNat < 256 := b4.toNat_lt
  have h4 := orS 0 4294967296 (0) b4.toNat 4294967296 32 rfl rfl (by omega) lb4 (by omega)
  have h3 := orS _ 16777216 ((0) * 256 + b4.toNat) b3.toNat 16777216 24 rfl rfl (h4.trans (by omega)) lb3 (by omega)
  have h2 := orS _ 65536 (((0) * 256 + b4.toNat) * 256 + b3.toNat) b2.toNat 65536 16 rfl rfl (h3.trans (by omega)) lb2 (by omega)
  have h1 := orS _ 256 ((((0) * 256 + b4.toNat) * 256 + b3.toNat) * 256 + b2.toNat) b1.toNat 256 8 rfl rfl (h2.trans (by omega)) lb1 (by omega)
  have h0 := orL _ (((((0) * 256 + b4.toNat) * 256 + b3.toNat) * 256 + b2.toNat) * 256 + b1.toNat) b0.toNat (h1.trans (by omega)) lb0 (by omega)
  replace h0 := Lib.hid h0
  replace h1 := Lib.hid h1
  replace h2 := Lib.hid h2
  replace h3 := Lib.hid h3
  replace h4 := Lib.hid h4
  go_enter Tryd.func97, Tryd.ntmps97
  repeat' (first | go_skip | go_guarded | go_step)
  go_ret
  refine ⟨congrArg (fun z => Ending.returned (Value.int IntKind.u64 z)) (h0.out.trans ?_), rfl⟩
  simp only [leN]
  omega
set_option maxRecDepth 100000 in
set_option maxHeartbeats 1000000 in
theorem word6_c (w : World) (b0 b1 b2 b3 b4 b5 : UInt8) :
    Calls Tryd.prog 97 #[str [b0, b1, b2, b3, b4, b5]] w fun e w' => e = .returned (.int .u64 (leN [b0, b1, b2, b3, b4, b5])) ∧ w = w' := by
  have lb0 : b0.toNat < 256 := b0.toNat_lt
  have lb1 : b1.toNat < 256 := b1.toNat_lt
  have lb2 : b2.toNat < 256 := b2.toNat_lt
  have lb3 : b3.toNat < 256 := b3.toNat_lt
  have lb4 : b4.toNat < 256 := b4.toNat_lt
  have lb5 : b5.toNat < 256 := b5.toNat_lt
  have h5 := orS 0 1099511627776 (0) b5.toNat 1099511627776 40 rfl rfl (by omega) lb5 (by omega)
  have h4 := orS _ 4294967296 ((0) * 256 + b5.toNat) b4.toNat 4294967296 32 rfl rfl (h5.trans (by omega)) lb4 (by omega)
  have h3 := orS _ 16777216 (((0) * 256 + b5.toNat) * 256 + b4.toNat) b3.toNat 16777216 24 rfl rfl (h4.trans (by omega)) lb3 (by omega)
  have h2 := orS _ 65536 ((((0) * 256 + b5.toNat) * 256 + b4.toNat) * 256 + b3.toNat) b2.toNat 65536 16 rfl rfl (h3.trans (by omega)) lb2 (by omega)
  have h1 := orS _ 256 (((((0) * 256 + b5.toNat) * 256 + b4.toNat) * 256 + b3.toNat) * 256 + b2.toNat) b1.toNat 256 8 rfl rfl (h2.trans (by omega)) lb1 (by omega)
  have h0 := orL _ ((((((0) * 256 + b5.toNat) * 256 + b4.toNat) * 256 + b3.toNat) * 256 + b2.toNat) * 256 + b1.toNat) b0.toNat (h1.trans (by omega)) lb0 (by omega)
  replace h0 := Lib.hid h0
  replace h1 := Lib.hid h1
  replace h2 := Lib.hid h2
  replace h3 := Lib.hid h3
  replace h4 := Lib.hid h4
  replace h5 := Lib.hid h5
  go_enter Tryd.func97, Tryd.ntmps97
  repeat' (first | go_skip | go_guarded | go_step)
  go_ret
  refine ⟨congrArg (fun z => Ending.returned (Value.int IntKind.u64 z)) (h0.out.trans ?_), rfl⟩
  simp only [leN]
  omega
set_option maxRecDepth 100000 in
set_option maxHeartbeats 1000000 in
theorem word7_c (w : World) (b0 b1 b2 b3 b4 b5 b6 : UInt8) :
    Calls Tryd.prog 97 #[str [b0, b1, b2, b3, b4, b5, b6]] w fun e w' => e = .returned (.int .u64 (leN [b0, b1, b2, b3, b4, b5, b6])) ∧ w = w' := by
  have lb0 : b0.toNat < 256 := b0.toNat_lt
  have lb1 : b1.toNat < 256 := b1.toNat_lt
  have lb2 : b2.toNat < 256 := b2.toNat_lt
  have lb3 : b3.toNat < 256 := b3.toNat_lt
  have lb4 : b4.toNat < 256 := b4.toNat_lt
  have lb5 : b5.toNat < 256 := b5.toNat_lt
  have lb6 : b6.toNat < 256 := b6.toNat_lt
  have h6 := orS 0 281474976710656 (0) b6.toNat 281474976710656 48 rfl rfl (by omega) lb6 (by omega)
  have h5 := orS _ 1099511627776 ((0) * 256 + b6.toNat) b5.toNat 1099511627776 40 rfl rfl (h6.trans (by omega)) lb5 (by omega)
  have h4 := orS _ 4294967296 (((0) * 256 + b6.toNat) * 256 + b5.toNat) b4.toNat 4294967296 32 rfl rfl (h5.trans (by omega)) lb4 (by omega)
  have h3 := orS _ 16777216 ((((0) * 256 + b6.toNat) * 256 + b5.toNat) * 256 + b4.toNat) b3.toNat 16777216 24 rfl rfl (h4.trans (by omega)) lb3 (by omega)
  have h2 := orS _ 65536 (((((0) * 256 + b6.toNat) * 256 + b5.toNat) * 256 + b4.toNat) * 256 + b3.toNat) b2.toNat 65536 16 rfl rfl (h3.trans (by omega)) lb2 (by omega)
  have h1 := orS _ 256 ((((((0) * 256 + b6.toNat) * 256 + b5.toNat) * 256 + b4.toNat) * 256 + b3.toNat) * 256 + b2.toNat) b1.toNat 256 8 rfl rfl (h2.trans (by omega)) lb1 (by omega)
  have h0 := orL _ (((((((0) * 256 + b6.toNat) * 256 + b5.toNat) * 256 + b4.toNat) * 256 + b3.toNat) * 256 + b2.toNat) * 256 + b1.toNat) b0.toNat (h1.trans (by omega)) lb0 (by omega)
  replace h0 := Lib.hid h0
  replace h1 := Lib.hid h1
  replace h2 := Lib.hid h2
  replace h3 := Lib.hid h3
  replace h4 := Lib.hid h4
  replace h5 := Lib.hid h5
  replace h6 := Lib.hid h6
  go_enter Tryd.func97, Tryd.ntmps97
  repeat' (first | go_skip | go_guarded | go_step)
  go_ret
  refine ⟨congrArg (fun z => Ending.returned (Value.int IntKind.u64 z)) (h0.out.trans ?_), rfl⟩
  simp only [leN]
  omega
set_option maxRecDepth 100000 in
set_option maxHeartbeats 1000000 in
theorem word8_c (w : World) (b0 b1 b2 b3 b4 b5 b6 b7 : UInt8) :
    Calls Tryd.prog 97 #[str [b0, b1, b2, b3, b4, b5, b6, b7]] w fun e w' => e = .returned (.int .u64 (leN [b0, b1, b2, b3, b4, b5, b6, b7])) ∧ w = w' := by
  have lb0 : b0.toNat < 256 := b0.toNat_lt
  have lb1 : b1.toNat < 256 := b1.toNat_lt
  have lb2 : b2.toNat < 256 := b2.toNat_lt
  have lb3 : b3.toNat < 256 := b3.toNat_lt
  have lb4 : b4.toNat < 256 := b4.toNat_lt
  have lb5 : b5.toNat < 256 := b5.toNat_lt
  have lb6 : b6.toNat < 256 := b6.toNat_lt
  have lb7 : b7.toNat < 256 := b7.toNat_lt
  have h7 := orS 0 72057594037927936 (0) b7.toNat 72057594037927936 56 rfl rfl (by omega) lb7 (by omega)
  have h6 := orS _ 281474976710656 ((0) * 256 + b7.toNat) b6.toNat 281474976710656 48 rfl rfl (h7.trans (by omega)) lb6 (by omega)
  have h5 := orS _ 1099511627776 (((0) * 256 + b7.toNat) * 256 + b6.toNat) b5.toNat 1099511627776 40 rfl rfl (h6.trans (by omega)) lb5 (by omega)
  have h4 := orS _ 4294967296 ((((0) * 256 + b7.toNat) * 256 + b6.toNat) * 256 + b5.toNat) b4.toNat 4294967296 32 rfl rfl (h5.trans (by omega)) lb4 (by omega)
  have h3 := orS _ 16777216 (((((0) * 256 + b7.toNat) * 256 + b6.toNat) * 256 + b5.toNat) * 256 + b4.toNat) b3.toNat 16777216 24 rfl rfl (h4.trans (by omega)) lb3 (by omega)
  have h2 := orS _ 65536 ((((((0) * 256 + b7.toNat) * 256 + b6.toNat) * 256 + b5.toNat) * 256 + b4.toNat) * 256 + b3.toNat) b2.toNat 65536 16 rfl rfl (h3.trans (by omega)) lb2 (by omega)
  have h1 := orS _ 256 (((((((0) * 256 + b7.toNat) * 256 + b6.toNat) * 256 + b5.toNat) * 256 + b4.toNat) * 256 + b3.toNat) * 256 + b2.toNat) b1.toNat 256 8 rfl rfl (h2.trans (by omega)) lb1 (by omega)
  have h0 := orL _ ((((((((0) * 256 + b7.toNat) * 256 + b6.toNat) * 256 + b5.toNat) * 256 + b4.toNat) * 256 + b3.toNat) * 256 + b2.toNat) * 256 + b1.toNat) b0.toNat (h1.trans (by omega)) lb0 (by omega)
  replace h0 := Lib.hid h0
  replace h1 := Lib.hid h1
  replace h2 := Lib.hid h2
  replace h3 := Lib.hid h3
  replace h4 := Lib.hid h4
  replace h5 := Lib.hid h5
  replace h6 := Lib.hid h6
  replace h7 := Lib.hid h7
  go_enter Tryd.func97, Tryd.ntmps97
  repeat' (first | go_skip | go_guarded | go_step)
  go_ret
  refine ⟨congrArg (fun z => Ending.returned (Value.int IntKind.u64 z)) (h0.out.trans ?_), rfl⟩
  simp only [leN]
  omega
theorem word_c (w : World) : ∀ (l : List UInt8), l.length ≤ 8 → Calls Tryd.prog 97 #[str l] w fun e w' => e = .returned (.int .u64 (leN l)) ∧ w = w'
  | [], _ => word0_c w
  | [b0], _ => word1_c w b0
  | [b0, b1], _ => word2_c w b0 b1
  | [b0, b1, b2], _ => word3_c w b0 b1 b2
  | [b0, b1, b2, b3], _ => word4_c w b0 b1 b2 b3
  | [b0, b1, b2, b3, b4], _ => word5_c w b0 b1 b2 b3 b4
  | [b0, b1, b2, b3, b4, b5], _ => word6_c w b0 b1 b2 b3 b4 b5
  | [b0, b1, b2, b3, b4, b5, b6], _ => word7_c w b0 b1 b2 b3 b4 b5 b6
  | [b0, b1, b2, b3, b4, b5, b6, b7], _ => word8_c w b0 b1 b2 b3 b4 b5 b6 b7
  | _ :: _ :: _ :: _ :: _ :: _ :: _ :: _ :: _ :: _, h => by simp at h
end Go.Proofs.YtclcgelbcbnekaaDoor
