/- Contracts: Canon of nothing; law 7's awake. -/
import Derived.Test.YtbmakajadelckaaDoorSxc
set_option linter.unusedVariables false
set_option linter.unusedSimpArgs false
namespace Go.Proofs.YtbmakajadelckaaDoor
open Go Go.RowKit Go.QS Go.QS.Nk
set_option linter.unusedVariables false

set_option maxRecDepth 100000 in
theorem canonE_c (w : World) (a0 a1 a2 : Int) (g : Nat) (hN : No w g) : Calls Tryd.prog 14 #[.agg #[.int .u64 a0, .int .u64 a1, .int .u64 a2], ptr g] w fun e w' => e = .returned (.bool true) ∧ Ext w w' := by
  have HC : Hid (∀ W, Ext w W → Calls Tryd.prog 29 #[.agg #[.int .u64 a0, .int .u64 a1, .int .u64 a2], ptr g, .slice none 0 0] W fun e w' => e = .returned (.tuple #[.int .i64 0, .bool true]) ∧ Ext W w') := Lib.hid (fun W f => canon0_c W a0 a1 a2 g (hN.ext f))
  clear hN
  go_enter Tryd.func14, Tryd.ntmps14
  repeat' (go_not_at_region 1; (first | go_skip | go_guarded | go_step))
  obtain ⟨gh, hgh⟩ : ∃ x, x = w.heap.size := ⟨_, rfl⟩
  rw [← hgh]
  refine wp_nameS (fun w' => w'.heap[gh]? = some (.cells #[.int .u64 a0, .int .u64 a1, .int .u64 a2] 32 (0, 0)) ∧ Ext w w') ⟨by rw [hgh]; exact heap_newG w _, (Ext.refl _).alloc (Nat.le_refl _) _⟩ ?_
  clear hgh
  intro w1 H1
  have c0 : w1.cell? ⟨gh, 0, none⟩ = some (.int .u64 a0) := by rw [cellG H1.out.1]; rfl
  have c1 : w1.cell? ⟨gh, 1, none⟩ = some (.int .u64 a1) := by rw [cellG H1.out.1]; rfl
  have c2 : w1.cell? ⟨gh, 2, none⟩ = some (.int .u64 a2) := by rw [cellG H1.out.1]; rfl
  repeat' (first | go_at_call 29 | go_skip | go_guarded | go_step)
  refine (HC.out w1 H1.out.2).mono ?_
  rintro e w2 ⟨rfl, f2⟩
  have F2 := Lib.hid (Ext.trans H1.out.2 f2)
  clear f2 c0 c1 c2
  go_simp
  repeat' (first | go_skip | go_guarded | go_step)
  go_ret
  exact ⟨rfl, F2.out⟩
set_option maxRecDepth 100000 in
theorem canonN_c (w : World) (a0 a1 a2 : Int) : Calls Tryd.prog 14 #[.agg #[.int .u64 a0, .int .u64 a1, .int .u64 a2], .pointer none] w fun e w' => e = .returned (.bool false) ∧ Ext w w' := by
  go_enter Tryd.func14, Tryd.ntmps14
  repeat' (first | go_skip | go_guarded | go_step)
  go_ret
  exact ⟨rfl, (Ext.refl _).alloc (Nat.le_refl _) _⟩
set_option maxRecDepth 100000 in
set_option maxHeartbeats 1000000 in
theorem awake07_c (w : World) : Calls Tryd.prog 5 #[] w fun e w' => e = .returned (.bool true) ∧ Ext w w' := by
  go_enter Tryd.func5, Tryd.ntmps5
  repeat' (first | go_at_call 17 | go_skip | go_guarded | go_step)
  refine (inner00_c w).mono ?_
  rintro e w1 ⟨g1, rfl, hN1, f1⟩
  have H1 := Lib.hid f1
  have HO := Lib.hid (of0_c w1 g1 hN1)
  clear hN1 f1
  go_simp
  repeat' (first | go_at_call 10 | go_skip | go_guarded | go_step)
  refine HO.out.mono ?_
  rintro e w2 ⟨A2, C2, rfl, f2⟩
  have H2 := Lib.hid (Ext.trans H1.out f2)
  clear f2 HO H1
  go_simp
  repeat' (first | go_at_call 18 | go_skip | go_guarded | go_step)
  refine (empty00_c w2).mono ?_
  rintro e w3 ⟨g3, rfl, hN3, f3⟩
  have H3 := Lib.hid (Ext.trans H2.out f3)
  have HC := Lib.hid (canonE_c w3 0 0 0 g3 hN3)
  clear hN3 f3 H2
  go_simp
  repeat' (first | go_at_call 14 | go_skip | go_guarded | go_step)
  refine HC.out.mono ?_
  rintro e w4 ⟨rfl, f4⟩
  have H4 := Lib.hid (Ext.trans H3.out f4)
  clear f4 HC H3
  go_simp
  repeat' (first | go_at_call 14 | go_skip | go_guarded | go_step)
  refine (canonN_c w4 0 0 0).mono ?_
  rintro e w5 ⟨rfl, f5⟩
  have H5 := Lib.hid (Ext.trans H4.out f5)
  clear f5 H4
  go_simp
  repeat' (first | go_skip | go_guarded | go_step)
  go_ret
  exact ⟨rfl, H5.out⟩
end Go.Proofs.YtbmakajadelckaaDoor
