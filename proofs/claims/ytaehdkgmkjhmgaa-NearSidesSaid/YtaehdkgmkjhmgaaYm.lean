/- The near laws' example; a tree's lists. -/
import Derived.Test.YtaehdkgmkjhmgaaYh
import Derived.Test.YtaehdkgmkjhmgaaYk
namespace Go.Proofs.Ytaehdkgmkjhmgaa
open Go.RowKit Go.QS
set_option linter.unusedVariables false

def exB : List Pr := [([97], []), ([97, 98], []), ([98], [])]
theorem exB_cut : (exB.take 40).map cutP = exB := by decide
theorem exB_floor : nearL true true [97, 97] (treeOf exB).prs = some ([97], []) := by
  rw [(treeOf_ok exB (by decide)).2.2]; decide
theorem exB_ceil : nearL false true [97, 97] (treeOf exB).prs = some ([97, 98], []) := by
  rw [(treeOf_ok exB (by decide)).2.2]; decide

set_option maxRecDepth 100000 in
set_option maxHeartbeats 1000000 in
theorem awakeN_c (w : World) : Calls Try.prog 34 #[] w fun e w' => e = .returned (.bool true) ∧ Ext w w' := by
  have hok := treeOf_ok exB (by decide)
  have HOK := Lib.hid hok
  clear hok
  go_enter Try.func34, Try.ntmps34
  repeat' (first | go_at_call 35 | go_skip | go_guarded | go_step)
  refine (tree_c _ _ exB (PS.of_own (base := 0) (e := 29) (n := 3) (own_lit (flat exB) 3 (by decide) rfl (Nat.zero_le _)))).mono ?_
  rintro e w1 ⟨g, v', rfl, f1, r1, p1⟩
  rw [exB_cut] at r1
  have E1 : Ext w w1 := ((Ext.refl w).alloc (Nat.le_refl _) _).trans (f1.mono (by simp))
  have H1 : Hid (_ ∧ _) := Lib.hid ⟨E1, r1⟩
  clear f1 r1 p1 E1
  go_simp
  repeat' (first | go_at_call 46 | go_skip | go_guarded | go_step)
  refine (floor_c w1 (ptr g) (treeOf exB) 40 (.of H1.out.2) HOK.out.2.1 HOK.out.1 (by decide) [97, 97] (by decide)).mono ?_
  rintro e w2 ⟨rfl, f2⟩
  rw [exB_floor]
  simp only [optR]
  have E2 : Ext w w2 := Ext.trans H1.out.1 f2
  have H2 : Hid (_ ∧ _) := Lib.hid ⟨E2, H1.out.2.ext f2⟩
  clear f2 E2
  go_simp
  repeat' (first | go_at_call 47 | go_skip | go_guarded | go_step)
  obtain ⟨wa, hwa⟩ : ∃ wa, wa = w2.alloc (.cells #[str [97], str []] 29) := ⟨_, rfl⟩
  obtain ⟨ra, hra⟩ : ∃ ra, ra = w2.heap.size := ⟨_, rfl⟩
  have hba := heap_new w2 (.cells #[str [97], str []] 29)
  have hEa : Ext w2 wa := by rw [hwa]; exact (Ext.refl _).alloc (Nat.le_refl _) _
  rw [← hwa, ← hra] at hba
  have hwa' := hwa.symm
  first | rw [hwa', ← hra] | skip
  refine (ceil_c _ (ptr g) (treeOf exB) 40 (.of (H2.out.2.ext (by first | exact hEa | exact (Ext.refl _).alloc (Nat.le_refl _) _))) HOK.out.2.1 HOK.out.1 (by decide) [97, 97] (by decide)).mono ?_
  rintro e w3 ⟨rfl, f3⟩
  rw [exB_ceil]
  simp only [optR]
  have hb3 := bx_ext hba f3
  obtain ⟨c0, c1⟩ := bx_cells hb3
  have hrl := heap_lt hb3
  have H3 := Lib.hid (Ext.trans H2.out.1 (Ext.trans hEa f3))
  clear f3 hb3 hwa hwa' hra hba hEa
  go_simp
  repeat' (first | go_skip | go_guarded | go_step)
  go_ret
  exact ⟨rfl, H3.out.alloc H3.out.size _⟩

/-! ### Neighbours by their places -/
theorem pick_first (x : List Pr) : pick false x = x[0]? := by simp [pick, List.head?_eq_getElem?]
theorem pick_last (x : List Pr) : pick true x = atI x ((x.length : Int) - 1) := by
  have := last_at x []
  rw [List.append_nil] at this
  rw [this]; rfl
theorem near_next {x : List Pr} (h : Rise x) {i : Nat} {p : Pr} (hp : x[i]? = some p) : nearL false false p.1 x = x[i + 1]? := by
  obtain ⟨h1, h2⟩ := rank_at h hp
  have := near_doc h p.1 3 (by decide)
  rw [show decide ((3 : Nat) = 0 ∨ (3 : Nat) = 2) = false by decide, show decide ((3 : Nat) = 0 ∨ (3 : Nat) = 1) = false by decide] at this
  rw [this]
  unfold nearI
  rw [if_neg (by decide), if_neg (by decide), if_pos rfl, h1, h2, if_pos rfl, show (i : Int) + 1 = ((i + 1 : Nat) : Int) by omega, atI_nat]
theorem near_prev {x : List Pr} (h : Rise x) {i : Nat} {p : Pr} (hp : x[i]? = some p) : nearL true false p.1 x = atI x ((i : Int) - 1) := by
  obtain ⟨h1, h2⟩ := rank_at h hp
  have := near_doc h p.1 2 (by decide)
  rw [show decide ((2 : Nat) = 0 ∨ (2 : Nat) = 2) = true by decide, show decide ((2 : Nat) = 0 ∨ (2 : Nat) = 1) = false by decide] at this
  rw [this]
  unfold nearI
  rw [if_neg (by decide), if_pos rfl, h1]
end Go.Proofs.Ytaehdkgmkjhmgaa
