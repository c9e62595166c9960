/- Contract: the document's round. -/
import Derived.Test.YtclcgelbcbnekaaDoorM11
import Derived.Laws.Rows
import Derived.BigQuiet
import Derived.Deep.QuietTactic
set_option linter.unusedVariables false
set_option linter.unusedSimpArgs false
namespace Go.Proofs.YtclcgelbcbnekaaDoor
open Go.RowKit Go.QS
set_option linter.unusedVariables false
variable [Zero (Nat → Prop)]
set_option linter.unusedSectionVars false

abbrev v4V (v : V4) : Value := .agg #[.int .u64 v.a, .int .u64 v.b, .int .u64 v.c, .int .u64 v.d]
theorem turn_n (x k t : Nat) (hx : x < 18446744073709551616) (hk : k < 64) (ht : t = turnN k x) (w : World) : Calls Tryd.prog 102 #[.int .u64 x, .int .i64 k] w fun e w' => e = .returned (.int .u64 t) ∧ w = w' := by
  subst ht; exact turn_c w x k hx hk
set_option maxRecDepth 100000 in
set_option maxHeartbeats 1000000 in
theorem rround_c (w : World) (v : V4) (hv : v.Ok) :
    Calls Tryd.prog 92 #[v4V v] w fun e w' => e = .returned (v4V (rnd v)) ∧ Ext w w' := by
  obtain ⟨a0, b0, c0, d0⟩ := v
  obtain ⟨la0, lb0, lc0, ld0⟩ := hv
  simp only at la0 lb0 lc0 ld0
  obtain ⟨a1, ea1⟩ : ∃ z, z = ad a0 b0 := ⟨_, rfl⟩
  have la1 : a1 < 18446744073709551616 := by rw [ea1]; exact ad_lt _ _
  have pa1 : IntKind.u64.wrap ((a0 : Int) + (b0 : Int)) = (a1 : Int) := by rw [ea1]; exact ad_law _ _
  obtain ⟨b1, eb1⟩ : ∃ z, z = turnN 13 b0 := ⟨_, rfl⟩
  have lb1 : b1 < 18446744073709551616 := by rw [eb1]; exact turnN_lt _ lb0
  have Tb1 := Lib.hid (turn_n b0 13 b1 lb0 (by decide) eb1)
  obtain ⟨b2, eb2⟩ : ∃ z, z = b1 ^^^ a1 := ⟨_, rfl⟩
  have lb2 : b2 < 18446744073709551616 := by rw [eb2]; exact xor_lt lb1 la1
  have pb2 : bits BinOp.xor IntKind.u64 (b1 : Int) (a1 : Int) = (b2 : Int) := by rw [eb2]; exact xor_law _ _ lb1 la1
  obtain ⟨a2, ea2⟩ : ∃ z, z = turnN 32 a1 := ⟨_, rfl⟩
  have la2 : a2 < 18446744073709551616 := by rw [ea2]; exact turnN_lt _ la1
  have Ta2 := Lib.hid (turn_n a1 32 a2 la1 (by decide) ea2)
  obtain ⟨c1, ec1⟩ : ∃ z, z = ad c0 d0 := ⟨_, rfl⟩
  have lc1 : c1 < 18446744073709551616 := by rw [ec1]; exact ad_lt _ _
  have pc1 : IntKind.u64.wrap ((c0 : Int) + (d0 : Int)) = (c1 : Int) := by rw [ec1]; exact ad_law _ _
  obtain ⟨d1, ed1⟩ : ∃ z, z = turnN 16 d0 := ⟨_, rfl⟩
  have ld1 : d1 < 18446744073709551616 := by rw [ed1]; exact turnN_lt _ ld0
  have Td1 := Lib.hid (turn_n d0 16 d1 ld0 (by decide) ed1)
  obtain ⟨d2, ed2⟩ : ∃ z, z = d1 ^^^ c1 := ⟨_, rfl⟩
  have ld2 : d2 < 18446744073709551616 := by rw [ed2]; exact xor_lt ld1 lc1
  have pd2 : bits BinOp.xor IntKind.u64 (d1 : Int) (c1 : Int) = (d2 : Int) := by rw [ed2]; exact xor_law _ _ ld1 lc1
  obtain ⟨a3, ea3⟩ : ∃ z, z = ad a2 d2 := ⟨_, rfl⟩
  have la3 : a3 < 18446744073709551616 := by rw [ea3]; exact ad_lt _ _
  have pa3 : IntKind.u64.wrap ((a2 : Int) + (d2 : Int)) = (a3 : Int) := by rw [ea3]; exact ad_law _ _
  obtain ⟨d3, ed3⟩ : ∃ z, z = turnN 21 d2 := ⟨_, rfl⟩
  have ld3 : d3 < 18446744073709551616 := by rw [ed3]; exact turnN_lt _ ld2
  have Td3 := Lib.hid (turn_n d2 21 d3 ld2 (by decide) ed3)
  obtain ⟨d4, ed4⟩ : ∃ z, z = d3 ^^^ a3 := ⟨_, rfl⟩
  have ld4 : d4 < 18446744073709551616 := by rw [ed4]; exact xor_lt ld3 la3
  have pd4 : bits BinOp.xor IntKind.u64 (d3 : Int) (a3 : Int) = (d4 : Int) := by rw [ed4]; exact xor_law _ _ ld3 la3
  obtain ⟨c2, ec2⟩ : ∃ z, z = ad c1 b2 := ⟨_, rfl⟩
  have lc2 : c2 < 18446744073709551616 := by rw [ec2]; exact ad_lt _ _
  have pc2 : IntKind.u64.wrap ((c1 : Int) + (b2 : Int)) = (c2 : Int) := by rw [ec2]; exact ad_law _ _
  obtain ⟨b3, eb3⟩ : ∃ z, z = turnN 17 b2 := ⟨_, rfl⟩
  have lb3 : b3 < 18446744073709551616 := by rw [eb3]; exact turnN_lt _ lb2
  have Tb3 := Lib.hid (turn_n b2 17 b3 lb2 (by decide) eb3)
  obtain ⟨b4, eb4⟩ : ∃ z, z = b3 ^^^ c2 := ⟨_, rfl⟩
  have lb4 : b4 < 18446744073709551616 := by rw [eb4]; exact xor_lt lb3 lc2
  have pb4 : bits BinOp.xor IntKind.u64 (b3 : Int) (c2 : Int) = (b4 : Int) := by rw [eb4]; exact xor_law _ _ lb3 lc2
  obtain ⟨c3, ec3⟩ : ∃ z, z = turnN 32 c2 := ⟨_, rfl⟩
  have lc3 : c3 < 18446744073709551616 := by rw [ec3]; exact turnN_lt _ lc2
  have Tc3 := Lib.hid (turn_n c2 32 c3 lc2 (by decide) ec3)
  have hr : rnd ⟨a0, b0, c0, d0⟩ = ⟨a3, b4, c3, d4⟩ := by
    rw [ec3, eb4, eb3, ec2, ed4, ed3, ea3, ed2, ed1, ec1, ea2, eb2, eb1, ea1]
    rfl
  rw [hr]
  clear hr ea1 eb1 eb2 ea2 ec1 ed1 ed2 ea3 ed3 ed4 ec2 eb3 eb4 ec3
  have hE : ∀ u : Value, Ext w ((((w.alloc (.cells #[.int .u64 a0, .int .u64 b0, .int .u64 c0, .int .u64 d0] 153)).alloc (.cells #[.int .u64 0, .int .u64 0, .int .u64 0, .int .u64 0] 153)))) := fun _ => ((Ext.refl w).alloc (Nat.le_refl _) _).alloc (by simp) _
  go_enter Tryd.func92, Tryd.ntmps92
  repeat' (go_not_at_region 1; (first | go_skip | go_guarded | go_step))
  go_quiet (fail)
  repeat' (first | go_at_call 102 | go_skip | go_guarded | go_step)
  refine (Tb1.out _).mono ?_
  rintro e w1 ⟨rfl, rfl⟩
  go_simp
  repeat' (first | go_at_call 102 | go_skip | go_guarded | go_step)
  refine (Ta2.out _).mono ?_
  rintro e w3 ⟨rfl, rfl⟩
  go_simp
  repeat' (first | go_at_call 102 | go_skip | go_guarded | go_step)
  refine (Td1.out _).mono ?_
  rintro e w5 ⟨rfl, rfl⟩
  go_simp
  repeat' (first | go_at_call 102 | go_skip | go_guarded | go_step)
  refine (Td3.out _).mono ?_
  rintro e w8 ⟨rfl, rfl⟩
  go_simp
  repeat' (first | go_at_call 102 | go_skip | go_guarded | go_step)
  refine (Tb3.out _).mono ?_
  rintro e w11 ⟨rfl, rfl⟩
  go_simp
  repeat' (first | go_at_call 102 | go_skip | go_guarded | go_step)
  refine (Tc3.out _).mono ?_
  rintro e w13 ⟨rfl, rfl⟩
  go_simp
  repeat' (first | go_skip | go_guarded | go_step)
  have hh : ((w.alloc (.cells #[.int .u64 a0, .int .u64 b0, .int .u64 c0, .int .u64 d0] 153)).alloc (.cells #[.int .u64 0, .int .u64 0, .int .u64 0, .int .u64 0] 153)).heap[w.heap.size + 1]? = some (.cells #[.int .u64 0, .int .u64 0, .int .u64 0, .int .u64 0] 153 (0, 0)) := heap_alloc2_new _ _ _
  have hh2 : (((w.alloc (.cells #[.int .u64 a0, .int .u64 b0, .int .u64 c0, .int .u64 d0] 153)).alloc (.cells #[.int .u64 0, .int .u64 0, .int .u64 0, .int .u64 0] 153)).drewN nq).heap[w.heap.size + 1]? = some (.cells #[.int .u64 0, .int .u64 0, .int .u64 0, .int .u64 0] 153 (0, 0)) := by
    rw [← hh]; simp
  have hle : w.heap.size ≤ w.heap.size + 1 := Nat.le_succ _
  have hE2 := below_drewN (hE (.bool true)) nq
  (try simp only [Exit.inBlock, Exit.then])
  refine bodyPost_ret_by (results_cell_row rfl _ _ _ _ _ _ _ rfl (heap_set (heap_set (heap_set (heap_set hh2 0 _) 1 _) 2 _) 3 _) Tryd.underlying153 rfl (by kernel_rfl)) rfl ?_
  exact ⟨rfl, (((hE2.setCell hle _).setCell hle _).setCell hle _).setCell hle _⟩
end Go.Proofs.YtclcgelbcbnekaaDoor
