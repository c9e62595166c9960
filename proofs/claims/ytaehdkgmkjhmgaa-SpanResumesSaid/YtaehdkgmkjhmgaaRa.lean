/- Contracts of the small functions of the radix chapter, without a token. -/
import Derived.Test.YtaehdkgmkjhmgaaRows
import Derived.Test.YtaehdkgmkjhmgaaApp
import Derived.Test.YtaehdkgmkjhmgaaRt
import Derived.Deep.RegionHeld3
namespace Go.Proofs.Ytaehdkgmkjhmgaa
open Go.RowKit Go.QS
set_option linter.unusedVariables false

abbrev NT : TypeId := 109
abbrev PT : TypeId := 24
theorem infoK : ∃ i z, Try.prog.info? 24 = some i ∧ i.zero = some z ∧ i.size = 1 ∧ i.bytes = 8 ∧ z.cells.size = 1 := info_of (z := .pointer none) (by kernel_rfl) rfl

theorem live_nil (w : World) : Calls Try.prog 95 #[.pointer none] w fun e w' => e = .returned (.bool false) ∧ w = w' := by
  go_enter Try.func95, Try.ntmps95
  repeat' (first | go_skip | go_guarded | go_step)
  go_ret
  exact ⟨rfl, rfl⟩

theorem owned_nil (w : World) (g : Nat) : Calls Try.prog 94 #[ptr g, .pointer none] w fun e w' => e = .returned (.bool false) ∧ w = w' := by
  go_enter Try.func94, Try.ntmps94
  repeat' (first | (go_at_call 95; refine (live_nil _).mono ?_; rintro e w1 ⟨rfl, rfl⟩; go_simp) | go_skip | go_guarded | go_step)
  go_ret
  exact ⟨rfl, rfl⟩

theorem label_c (w : World) (g : Nat) (l : List UInt8) (h : w.cell? ⟨g, 0, none⟩ = some (str l)) : Calls Try.prog 62 #[ptr g] w fun e w' => e = .returned (str l) ∧ w = w' := by
  go_enter Try.func62, Try.ntmps62
  repeat' (first | go_skip | go_guarded | go_step)
  go_ret
  exact ⟨rfl, rfl⟩

theorem value_c (w : World) (g : Nat) (b : Bool) (l : List UInt8) (h1 : w.cell? ⟨g, 1, none⟩ = some (.bool b)) (h2 : w.cell? ⟨g, 2, none⟩ = some (str l)) : Calls Try.prog 63 #[ptr g] w fun e w' => e = .returned (.tuple #[str l, .bool b]) ∧ Ext w w' := by
  go_enter Try.func63, Try.ntmps63
  repeat' (first | go_skip | go_guarded | go_step)
  first | (go_quiet (fail)) | skip
  repeat' (first | go_skip | go_guarded | go_step)
  go_ret2
  first | exact ⟨rfl, Ext.refl _⟩ | exact ⟨rfl, below_drewN (Ext.refl _) _⟩

theorem some_c (w : World) (g : Nat) : Calls Try.prog 66 #[ptr g] w fun e w' => e = .returned (ptr g) ∧ w = w' := by
  go_enter Try.func66, Try.ntmps66
  repeat' (first | go_skip | go_guarded | go_step)
  go_ret
  exact ⟨rfl, rfl⟩

theorem empty_c (w : World) : Calls Try.prog 54 #[] w fun e w' => e = .returned (ptr w.heap.size) ∧ w' = w.alloc (.cells #[str [], .bool false, str [], .slice none 0 0, .pointer none] NT) := by
  go_enter Try.func54, Try.ntmps54
  repeat' (first | go_skip | go_guarded | go_step)
  go_ret
  exact ⟨rfl, rfl⟩

theorem named_c (w : World) (g : Nat) (l0 l : List UInt8) (h : w.cell? ⟨g, 0, none⟩ = some (str l0)) (hf : w.frozen? ⟨g, 0, none⟩ = false) : Calls Try.prog 100 #[ptr g, str l] w fun e w' => e = .returned (ptr g) ∧ w' = w.setCell ⟨g, 0, none⟩ (str l) := by
  go_enter Try.func100, Try.ntmps100
  repeat' (first | go_skip | go_guarded | go_step)
  go_ret
  exact ⟨rfl, rfl⟩

theorem valued_c (w : World) (g : Nat) (b0 : Bool) (l0 l : List UInt8) (h1 : w.cell? ⟨g, 1, none⟩ = some (.bool b0)) (h2 : w.cell? ⟨g, 2, none⟩ = some (str l0)) (hf1 : w.frozen? ⟨g, 1, none⟩ = false) (hf2 : w.frozen? ⟨g, 2, none⟩ = false) : Calls Try.prog 82 #[ptr g, str l] w fun e w' => e = .returned (ptr g) ∧ Ext (w.setCell ⟨g, 1, none⟩ (.bool true) |>.setCell ⟨g, 2, none⟩ (str l)) w' := by
  go_enter Try.func82, Try.ntmps82
  repeat' (first | go_skip | go_guarded | go_step)
  go_ret
  exact ⟨rfl, Ext.refl _⟩

set_option maxRecDepth 100000 in
theorem clone_k (w : World) (v : Value) (l : List Nat) (h : Sl w 1 v l.length (ptrs l)) (h9 : l.length ≤ 1000000000) :
    Calls Try.prog 92 #[v] w fun e w' => ∃ v', e = .returned v' ∧ w'.ownsRow w.heap.size 24 1 v' l.length (ptrs l) ∧ Ext w w' := by
  obtain ⟨A, c, rfl, hl, hn, hc, hs⟩ := h
  have hnil := fun w : World => Lib.run_eql_slice_nil (P := Try.prog) w 102 24 A l.length c 0 0 Try.underlying102
  cases A with
  | none =>
    have hl0 : l = [] := by
      cases l with
      | nil => rfl
      | cons p l => obtain ⟨b, o, h, _⟩ := hs (by simp [ptrs]); cases h
    subst hl0
    have hnil := fun w : World => Lib.run_eql_slice_nil (P := Try.prog) w 102 24 none 0 c 0 0 Try.underlying102
    go_enter Try.func92, Try.ntmps92
    repeat' go_step
    go_ret
    exact ⟨_, rfl, World.ownsRow_nil _ _ _ _, Ext.refl _⟩
  | some a =>
    go_enter Try.func92, Try.ntmps92
    repeat' (first | (at_builtin; refine wpList_appE (W := w) rfl (.tmp 5) (.tmp 6) _ rfl 24 1 8 Try.underlying102 infoK (by decide) _ 0 [] rfl (own_lit [] 0 (by decide) rfl (Nat.le_refl _)) ((Ext.refl w).alloc (Nat.le_refl _) _) _ _ c (ptrs l) rfl hl (hs.alloc _) (ptrs_one _) (by unfold maxLen; omega) (by omega) ?_; intro v1 w1 hown hb) | go_step)
    go_ret
    refine ⟨_, rfl, ?_, hb⟩
    simpa using hown

theorem kids_c (w : World) (g : Nat) (kv : Value) (l : List Nat) (hg : w.cell? ⟨g, 3, none⟩ = some kv) (h : Sl w 1 kv l.length (ptrs l)) (h9 : l.length ≤ 1000000000) : Calls Try.prog 72 #[ptr g] w fun e w' => ∃ v', e = .returned v' ∧ w'.ownsRow w.heap.size 24 1 v' l.length (ptrs l) ∧ Ext w w' := by
  have HC := Lib.hid (clone_k w kv l h h9)
  clear h
  go_enter Try.func72, Try.ntmps72
  repeat' (first | (go_at_call 92; refine HC.out.mono ?_; rintro e w1 ⟨v1, rfl, h1, h2⟩; go_simp) | go_skip | go_guarded | go_step)
  go_ret
  exact ⟨_, rfl, h1, h2⟩
end Go.Proofs.Ytaehdkgmkjhmgaa
