/- Contracts: the hash's four numbers turned, in place. -/
import Derived.Test.YtclcgelbcbnekaaBi
import Derived.Test.YtclcgelbcbnekaaBb
import Derived.Laws.Bits64
import Derived.StillTailTactics
import Derived.Deep.DeepCutAuto
set_option linter.unusedVariables false
set_option linter.unusedSimpArgs false
namespace Go.Proofs.Ytclcgelbcbnekaa
open Go.RowKit Go.QS
set_option linter.unusedVariables false

abbrev ST : TypeId := 242
def StAt (w : World) (g : Nat) (v : V4) : Prop := w.heap[g]? = some (.cells #[.int .u64 v.a, .int .u64 v.b, .int .u64 v.c, .int .u64 v.d] ST (0, 0))
theorem StAt.cells {w : World} {g : Nat} {v : V4} (h : StAt w g v) : w.cell? ⟨g, 0, none⟩ = some (.int .u64 v.a) ∧ w.cell? ⟨g, 1, none⟩ = some (.int .u64 v.b) ∧ w.cell? ⟨g, 2, none⟩ = some (.int .u64 v.c) ∧ w.cell? ⟨g, 3, none⟩ = some (.int .u64 v.d) ∧ ∀ j, w.frozen? ⟨g, j, none⟩ = false := by
  unfold StAt at h
  simp [World.cell?, World.frozen?, h]
theorem xor_law (x y : Nat) (hx : x < 18446744073709551616) (hy : y < 18446744073709551616) : bits BinOp.xor IntKind.u64 (x : Int) (y : Int) = ((x ^^^ y : Nat) : Int) := bits_xor_u64_nat x y hx hy
theorem ad_law (x y : Nat) : IntKind.u64.wrap ((x : Int) + (y : Int)) = ((ad x y : Nat) : Int) := by
  rw [IntKind.wrap_u64]; unfold ad; omega
theorem rotl_s (w : World) (x k : Nat) (hx : x < 18446744073709551616) (hk : k < 64) : Calls Try.prog 178 #[.int .u64 x, .int .i64 k] w fun e w' => e = .returned (.int .u64 (turnN k x)) ∧ w' = w :=
  (rotl_c w x k hx hk).mono fun e w' h => ⟨h.1, h.2.symm⟩
theorem st_set {w : World} {g j y : Nat} {x : Int} {u u' : V4} (h : StAt w g u) (e : x = (y : Int)) (h' : (#[Value.int .u64 u.a, .int .u64 u.b, .int .u64 u.c, .int .u64 u.d] : Array Value).setIfInBounds j (.int .u64 y) = #[.int .u64 u'.a, .int .u64 u'.b, .int .u64 u'.c, .int .u64 u'.d]) : StAt ((w.setCell ⟨g, j, none⟩ (.int .u64 x)).drew) g u' := by
  subst e
  have := heap_set h j (.int .u64 y)
  rw [h'] at this
  exact this
theorem wp_st {P : Program} {c : Code} {Q : Exit → Act → World → Prop} {a : Act} {w wr : World} {g j y : Nat} {x : Int} {u u' : V4} (h : Hid (StAt wr g u ∧ Only (fun k => k = g) w wr)) (e : x = (y : Int)) (h' : (#[Value.int .u64 u.a, .int .u64 u.b, .int .u64 u.c, .int .u64 u.d] : Array Value).setIfInBounds j (.int .u64 y) = #[.int .u64 u'.a, .int .u64 u'.b, .int .u64 u'.c, .int .u64 u'.d])
    (hk : ∀ w', Hid (StAt w' g u' ∧ Only (fun k => k = g) w w') → c.wp P Q a w') : c.wp P Q a (wr.setCell ⟨g, j, none⟩ (.int .u64 x)).drew :=
  hk _ (Lib.hid ⟨st_set h.out.1 e h', (h.out.2.setCell (.inl rfl) _).drew⟩)

set_option maxRecDepth 100000 in
set_option maxHeartbeats 2000000 in
theorem rounds_c (w : World) (g n : Nat) (v : V4) (h : StAt w g v) (hv : v.Ok) (hn : n ≤ 100) :
    Calls Try.prog 166 #[ptr g, .int .i64 n] w fun e w' => e = .returned (.tuple #[]) ∧ StAt w' g (rnds n v) ∧ Only (fun k => k = g) w w' := by
  have HS := Lib.hid h
  clear h
  go_enter Try.func166, Try.ntmps166
  repeat' (first | go_skip | go_guarded | go_step)
  go_loopg [5] n (fun gk v5 wr => ∃ (i : Nat) (u : V4), v5 = .int .i64 i ∧ i ≤ n ∧ n - i ≤ gk ∧ u.Ok ∧ Hid (rnds (n - i) u = rnds n v ∧ StAt wr g u ∧ Only (fun k => k = g) w wr))
  case atStart => exact ⟨0, v, rfl, Nat.zero_le _, by omega, hv, Lib.hid ⟨rfl, HS.out, Only.refl w⟩⟩
  case round =>
    obtain ⟨i, u, rfl, hin, hgk, hu, HI⟩ := hrel
    rcases Nat.lt_or_ge i n with hlt | hge
    · have d1 : decide (i < n) = true := by simp [hlt]
      obtain ⟨a0, b0, c0, d0⟩ := u
      obtain ⟨la0, lb0, lc0, ld0⟩ := hu
      have H1 : Hid (StAt wr g ⟨a0, b0, c0, d0⟩ ∧ Only (fun k => k = g) w wr) := Lib.hid HI.out.2
      simp only at la0 lb0 lc0 ld0
      obtain ⟨q0, q1, q2, q3, qf⟩ := H1.out.1.cells
      simp only at q0 q1 q2 q3
      repeat' (go_not_at_region 2; (first | go_skip | go_guarded | go_step))
      go_still_tail 11, (by kernel_rfl)
      change wpList _ _ _ _ _ wr.drew
      repeat' (first | go_not_at_region 3; (first | go_skip | go_guarded | go_step))
      obtain ⟨a1, ea1⟩ : ∃ z, z = ad a0 b0 := ⟨_, rfl⟩
      have la1 : a1 < 18446744073709551616 := by rw [ea1]; exact ad_lt a0 b0
      have pa1 : IntKind.u64.wrap ((a0 : Int) + (b0 : Int)) = (a1 : Int) := by rw [ea1]; exact ad_law a0 b0
      replace ea1 := Lib.hid ea1
      refine wp_st (u' := ⟨a1, b0, c0, d0⟩) H1 pa1 rfl ?_
      clear q0 q1 q2 q3 qf pa1 H1
      intro w2 H2
      obtain ⟨q0, q1, q2, q3, qf⟩ := H2.out.1.cells
      simp only at q0 q1 q2 q3
      repeat' (go_not_at_region 3; (first | go_skip | go_guarded | go_step))
      go_still_tail 13, (by kernel_rfl)
      still_call (rotl_s _ b0 13 lb0 (by decide))
      repeat still_step
      try refine wpStill_nil ?_
      change wpList _ _ _ _ _ w2.drew
      repeat' (first | go_not_at_region 4; (first | go_skip | go_guarded | go_step))
      obtain ⟨b1, eb1⟩ : ∃ z, z = turnN 13 b0 ^^^ a1 := ⟨_, rfl⟩
      have lb1 : b1 < 18446744073709551616 := by rw [eb1]; exact xor_lt (turnN_lt 13 lb0) la1
      have pb1 : bits BinOp.xor IntKind.u64 ((turnN 13 b0 : Nat) : Int) (a1 : Int) = (b1 : Int) := by rw [eb1]; exact xor_law _ _ (turnN_lt 13 lb0) la1
      replace eb1 := Lib.hid eb1
      refine wp_st (u' := ⟨a1, b1, c0, d0⟩) H2 pb1 rfl ?_
      clear q0 q1 q2 q3 qf pb1 H2
      intro w3 H3
      obtain ⟨q0, q1, q2, q3, qf⟩ := H3.out.1.cells
      simp only at q0 q1 q2 q3
      repeat' (go_not_at_region 4; (first | go_skip | go_guarded | go_step))
      go_still_tail 8, (by kernel_rfl)
      still_call (rotl_s _ a1 32 la1 (by decide))
      repeat still_step
      try refine wpStill_nil ?_
      change wpList _ _ _ _ _ w3.drew
      repeat' (first | go_not_at_region 5; (first | go_skip | go_guarded | go_step))
      obtain ⟨a2, ea2⟩ : ∃ z, z = turnN 32 a1 := ⟨_, rfl⟩
      have la2 : a2 < 18446744073709551616 := by rw [ea2]; exact turnN_lt 32 la1
      have pa2 : ((turnN 32 a1 : Nat) : Int) = (a2 : Int) := by rw [ea2]
      replace ea2 := Lib.hid ea2
      refine wp_st (u' := ⟨a2, b1, c0, d0⟩) H3 pa2 rfl ?_
      clear q0 q1 q2 q3 qf pa2 H3
      intro w4 H4
      obtain ⟨q0, q1, q2, q3, qf⟩ := H4.out.1.cells
      simp only at q0 q1 q2 q3
      repeat' (go_not_at_region 5; (first | go_skip | go_guarded | go_step))
      go_still_tail 11, (by kernel_rfl)
      change wpList _ _ _ _ _ w4.drew
      repeat' (first | go_not_at_region 6; (first | go_skip | go_guarded | go_step))
      obtain ⟨c1, ec1⟩ : ∃ z, z = ad c0 d0 := ⟨_, rfl⟩
      have lc1 : c1 < 18446744073709551616 := by rw [ec1]; exact ad_lt c0 d0
      have pc1 : IntKind.u64.wrap ((c0 : Int) + (d0 : Int)) = (c1 : Int) := by rw [ec1]; exact ad_law c0 d0
      replace ec1 := Lib.hid ec1
      refine wp_st (u' := ⟨a2, b1, c1, d0⟩) H4 pc1 rfl ?_
      clear q0 q1 q2 q3 qf pc1 H4
      intro w5 H5
      obtain ⟨q0, q1, q2, q3, qf⟩ := H5.out.1.cells
      simp only at q0 q1 q2 q3
      repeat' (go_not_at_region 6; (first | go_skip | go_guarded | go_step))
      go_still_tail 13, (by kernel_rfl)
      still_call (rotl_s _ d0 16 ld0 (by decide))
      repeat still_step
      try refine wpStill_nil ?_
      change wpList _ _ _ _ _ w5.drew
      repeat' (first | go_not_at_region 7; (first | go_skip | go_guarded | go_step))
      obtain ⟨d1, ed1⟩ : ∃ z, z = turnN 16 d0 ^^^ c1 := ⟨_, rfl⟩
      have ld1 : d1 < 18446744073709551616 := by rw [ed1]; exact xor_lt (turnN_lt 16 ld0) lc1
      have pd1 : bits BinOp.xor IntKind.u64 ((turnN 16 d0 : Nat) : Int) (c1 : Int) = (d1 : Int) := by rw [ed1]; exact xor_law _ _ (turnN_lt 16 ld0) lc1
      replace ed1 := Lib.hid ed1
      refine wp_st (u' := ⟨a2, b1, c1, d1⟩) H5 pd1 rfl ?_
      clear q0 q1 q2 q3 qf pd1 H5
      intro w6 H6
      obtain ⟨q0, q1, q2, q3, qf⟩ := H6.out.1.cells
      simp only at q0 q1 q2 q3
      repeat' (go_not_at_region 7; (first | go_skip | go_guarded | go_step))
      go_still_tail 11, (by kernel_rfl)
      change wpList _ _ _ _ _ w6.drew
      repeat' (first | go_not_at_region 8; (first | go_skip | go_guarded | go_step))
      obtain ⟨a3, ea3⟩ : ∃ z, z = ad a2 d1 := ⟨_, rfl⟩
      have la3 : a3 < 18446744073709551616 := by rw [ea3]; exact ad_lt a2 d1
      have pa3 : IntKind.u64.wrap ((a2 : Int) + (d1 : Int)) = (a3 : Int) := by rw [ea3]; exact ad_law a2 d1
      replace ea3 := Lib.hid ea3
      refine wp_st (u' := ⟨a3, b1, c1, d1⟩) H6 pa3 rfl ?_
      clear q0 q1 q2 q3 qf pa3 H6
      intro w7 H7
      obtain ⟨q0, q1, q2, q3, qf⟩ := H7.out.1.cells
      simp only at q0 q1 q2 q3
      repeat' (go_not_at_region 8; (first | go_skip | go_guarded | go_step))
      go_still_tail 13, (by kernel_rfl)
      still_call (rotl_s _ d1 21 ld1 (by decide))
      repeat still_step
      try refine wpStill_nil ?_
      change wpList _ _ _ _ _ w7.drew
      repeat' (first | go_not_at_region 9; (first | go_skip | go_guarded | go_step))
      obtain ⟨d2, ed2⟩ : ∃ z, z = turnN 21 d1 ^^^ a3 := ⟨_, rfl⟩
      have ld2 : d2 < 18446744073709551616 := by rw [ed2]; exact xor_lt (turnN_lt 21 ld1) la3
      have pd2 : bits BinOp.xor IntKind.u64 ((turnN 21 d1 : Nat) : Int) (a3 : Int) = (d2 : Int) := by rw [ed2]; exact xor_law _ _ (turnN_lt 21 ld1) la3
      replace ed2 := Lib.hid ed2
      refine wp_st (u' := ⟨a3, b1, c1, d2⟩) H7 pd2 rfl ?_
      clear q0 q1 q2 q3 qf pd2 H7
      intro w8 H8
      obtain ⟨q0, q1, q2, q3, qf⟩ := H8.out.1.cells
      simp only at q0 q1 q2 q3
      repeat' (go_not_at_region 9; (first | go_skip | go_guarded | go_step))
      go_still_tail 11, (by kernel_rfl)
      change wpList _ _ _ _ _ w8.drew
      repeat' (first | go_not_at_region 10; (first | go_skip | go_guarded | go_step))
      obtain ⟨c2, ec2⟩ : ∃ z, z = ad c1 b1 := ⟨_, rfl⟩
      have lc2 : c2 < 18446744073709551616 := by rw [ec2]; exact ad_lt c1 b1
      have pc2 : IntKind.u64.wrap ((c1 : Int) + (b1 : Int)) = (c2 : Int) := by rw [ec2]; exact ad_law c1 b1
      replace ec2 := Lib.hid ec2
      refine wp_st (u' := ⟨a3, b1, c2, d2⟩) H8 pc2 rfl ?_
      clear q0 q1 q2 q3 qf pc2 H8
      intro w9 H9
      obtain ⟨q0, q1, q2, q3, qf⟩ := H9.out.1.cells
      simp only at q0 q1 q2 q3
      repeat' (go_not_at_region 10; (first | go_skip | go_guarded | go_step))
      go_still_tail 13, (by kernel_rfl)
      still_call (rotl_s _ b1 17 lb1 (by decide))
      repeat still_step
      try refine wpStill_nil ?_
      change wpList _ _ _ _ _ w9.drew
      repeat' (first | go_not_at_region 11; (first | go_skip | go_guarded | go_step))
      obtain ⟨b2, eb2⟩ : ∃ z, z = turnN 17 b1 ^^^ c2 := ⟨_, rfl⟩
      have lb2 : b2 < 18446744073709551616 := by rw [eb2]; exact xor_lt (turnN_lt 17 lb1) lc2
      have pb2 : bits BinOp.xor IntKind.u64 ((turnN 17 b1 : Nat) : Int) (c2 : Int) = (b2 : Int) := by rw [eb2]; exact xor_law _ _ (turnN_lt 17 lb1) lc2
      replace eb2 := Lib.hid eb2
      refine wp_st (u' := ⟨a3, b2, c2, d2⟩) H9 pb2 rfl ?_
      clear q0 q1 q2 q3 qf pb2 H9
      intro w10 H10
      obtain ⟨q0, q1, q2, q3, qf⟩ := H10.out.1.cells
      simp only at q0 q1 q2 q3
      repeat' (go_not_at_region 11; (first | go_skip | go_guarded | go_step))
      go_still_tail 8, (by kernel_rfl)
      still_call (rotl_s _ c2 32 lc2 (by decide))
      repeat still_step
      try refine wpStill_nil ?_
      change wpList _ _ _ _ _ w10.drew
      repeat' (first | go_not_at_region 12; (first | go_skip | go_guarded | go_step))
      obtain ⟨c3, ec3⟩ : ∃ z, z = turnN 32 c2 := ⟨_, rfl⟩
      have lc3 : c3 < 18446744073709551616 := by rw [ec3]; exact turnN_lt 32 lc2
      have pc3 : ((turnN 32 c2 : Nat) : Int) = (c3 : Int) := by rw [ec3]
      replace ec3 := Lib.hid ec3
      refine wp_st (u' := ⟨a3, b2, c3, d2⟩) H10 pc3 rfl ?_
      clear q0 q1 q2 q3 qf pc3 H10
      intro w11 H11
      obtain ⟨q0, q1, q2, q3, qf⟩ := H11.out.1.cells
      simp only at q0 q1 q2 q3
      have hr : rnd ⟨a0, b0, c0, d0⟩ = ⟨a3, b2, c3, d2⟩ := by
        rw [ed2.out, ec3.out, eb2.out, ec2.out, ea3.out, ed1.out, ea2.out, eb1.out, ec1.out, ea1.out]
        rfl
      repeat' (first | go_skip | go_guarded | go_step)
      go_roundg (n - (i + 1))
      case measure => omega
      case rel => exact ⟨i + 1, ⟨a3, b2, c3, d2⟩, by go_num, by omega, Nat.le_refl _, ⟨la3, lb2, lc3, ld2⟩, Lib.hid ⟨by rw [← HI.out.1, ← hr, show n - i = (n - (i + 1)) + 1 by omega]; rfl, H11.out⟩⟩
    · obtain rfl : i = n := by omega
      have d1 : decide (i < i) = false := by simp
      have e2 := HI.out.1
      rw [Nat.sub_self] at e2
      repeat' (first | go_skip | go_guarded | go_step)
      first | refine bodyPost_ret (results_none rfl _ _ _) rfl ?_ | refine bodyPost_end (results_none rfl _ _ _) rfl ?_
      exact ⟨rfl, by rw [← e2]; exact HI.out.2.1, HI.out.2.2⟩
end Go.Proofs.Ytclcgelbcbnekaa
