/- Contracts of the node chapter's small functions. -/
import Derived.Test.YtbmakajadelckaaDoorNm
import Derived.Test.YtbmakajadelckaaDoorNc
import Derived.Laws.Rows
import Derived.Deep.DeepCutAuto
import Derived.Deep.RegionHeld3
set_option linter.unusedVariables false
set_option linter.unusedSimpArgs false
namespace Go.Proofs.YtbmakajadelckaaDoor
open Go.RowKit Go.QS Go.QS.Nk
set_option linter.unusedVariables false

abbrev ND : TypeId := 79
abbrev NK : TypeId := 34
abbrev NP : TypeId := 53
abbrev nil0 : Value := .pointer none
theorem infoNK : ∃ i z, Tryd.prog.info? 34 = some i ∧ i.zero = some z ∧ i.size = 1 ∧ i.bytes = 8 ∧ z.cells.size = 1 := info_of (z := .pointer none) (by kernel_rfl) rfl
theorem infoNP : ∃ i z, Tryd.prog.info? 53 = some i ∧ i.zero = some z ∧ i.size = 2 ∧ i.bytes = 32 ∧ z.cells.size = 2 := info_of (z := .agg #[str [], str []]) (by kernel_rfl) rfl
theorem results_ct {P : Program} {fn : Func} {p u : Tmp} {ty : TypeId} (h : fn.results = #[.cell p ty, .tmp u]) (tmps : Array Value) (w : World) (g : Nat) (t : TypeId) (cs : Array Value) (fr : Nat × Nat) (d : TypeDesc)
    (hp : tmps.getD p undef = .pointer (some ⟨g, 0, none⟩)) (hg : w.heap[g]? = some (.cells cs t fr)) (hu : P.underlying ty = some d) (hd : (match d with | .struct _ | .array _ _ => true | _ => false) = true) (hi : (P.info? ty).map (·.size) = some cs.size) :
    (results fn tmps).run P w = .ok (.tuple #[.agg cs, tmps.getD u undef]) w := by
  rw [results_cell_tmp h, hp]
  simp [asAddr, run_loadVar_row w g t ty cs fr d hg hu hd hi, Result.andThen]

/-! ### Of a nil node -/
theorem isb_nil (w : World) : Calls Tryd.prog 36 #[nil0] w fun e w' => e = .returned (.bool false) ∧ Ext w w' := by
  go_enter Tryd.func36, Tryd.ntmps36
  repeat' (first | go_skip | go_guarded | go_step)
  go_ret
  exact ⟨rfl, Ext.refl _⟩
theorem data_nil (w : World) : Calls Tryd.prog 40 #[nil0] w fun e w' => e = .returned (.int .u32 0) ∧ w = w' := by
  go_enter Tryd.func40, Tryd.ntmps40
  repeat' (first | go_skip | go_guarded | go_step)
  go_ret
  exact ⟨rfl, rfl⟩
theorem nodes_nil (w : World) : Calls Tryd.prog 41 #[nil0] w fun e w' => e = .returned (.int .u32 0) ∧ w = w' := by
  go_enter Tryd.func41, Tryd.ntmps41
  repeat' (first | go_skip | go_guarded | go_step)
  go_ret
  exact ⟨rfl, rfl⟩
theorem pairs_nil (w : World) : Calls Tryd.prog 39 #[nil0] w fun e w' => e = .returned (.slice none 0 0) ∧ w = w' := by
  go_enter Tryd.func39, Tryd.ntmps39
  repeat' (first | go_skip | go_guarded | go_step)
  go_ret
  exact ⟨rfl, rfl⟩
theorem kids_nil (w : World) : Calls Tryd.prog 42 #[nil0] w fun e w' => e = .returned (.slice none 0 0) ∧ w = w' := by
  go_enter Tryd.func42, Tryd.ntmps42
  repeat' (first | go_skip | go_guarded | go_step)
  go_ret
  exact ⟨rfl, rfl⟩
theorem len_nil (w : World) : Calls Tryd.prog 38 #[nil0] w fun e w' => e = .returned (.int .i64 0) ∧ w = w' := by
  go_enter Tryd.func38, Tryd.ntmps38
  repeat' (first | go_skip | go_guarded | go_step)
  go_ret
  exact ⟨rfl, rfl⟩
theorem inner_nil (w : World) (i : Int) : Calls Tryd.prog 70 #[nil0, .int .i64 i] w fun e w' => e = .returned (.bool false) ∧ Ext w w' := by
  go_enter Tryd.func70, Tryd.ntmps70
  repeat' (first | go_skip | go_guarded | go_step)
  go_ret
  exact ⟨rfl, Ext.refl _⟩
theorem owned_nil (w : World) (v : Value) (hv : v = nil0 ∨ ∃ g, v = ptr g) : Calls Tryd.prog 83 #[v, nil0] w fun e w' => e = .returned (.bool false) ∧ w = w' := by
  rcases hv with rfl | ⟨g, rfl⟩
  · go_enter Tryd.func83, Tryd.ntmps83
    repeat' (first | go_skip | go_guarded | go_step)
    go_ret
    exact ⟨rfl, rfl⟩
  · go_enter Tryd.func83, Tryd.ntmps83
    repeat' (first | (go_at_call 84; refine (live_nil _).mono ?_; rintro e w1 ⟨rfl, rfl⟩; go_simp) | go_skip | go_guarded | go_step)
    go_ret
    exact ⟨rfl, rfl⟩

/-! ### Of a node -/
theorem isb_c (w : World) (g : Nat) (b : Bool) (h : w.cell? ⟨g, 4, none⟩ = some (.bool b)) : Calls Tryd.prog 36 #[ptr g] w fun e w' => e = .returned (.bool b) ∧ Ext w w' := by
  go_enter Tryd.func36, Tryd.ntmps36
  repeat' (first | go_skip | go_guarded | go_step)
  go_ret
  exact ⟨rfl, Ext.refl _⟩
theorem data_c (w : World) (g d : Nat) (h : w.cell? ⟨g, 0, none⟩ = some (.int .u32 d)) : Calls Tryd.prog 40 #[ptr g] w fun e w' => e = .returned (.int .u32 d) ∧ w = w' := by
  go_enter Tryd.func40, Tryd.ntmps40
  repeat' (first | go_skip | go_guarded | go_step)
  go_ret
  exact ⟨rfl, rfl⟩
theorem nodes_c (w : World) (g d : Nat) (h : w.cell? ⟨g, 1, none⟩ = some (.int .u32 d)) : Calls Tryd.prog 41 #[ptr g] w fun e w' => e = .returned (.int .u32 d) ∧ w = w' := by
  go_enter Tryd.func41, Tryd.ntmps41
  repeat' (first | go_skip | go_guarded | go_step)
  go_ret
  exact ⟨rfl, rfl⟩
theorem inner_yes (w : World) (g i : Nat) (hi : i < 32) (h : w.cell? ⟨g, 4, none⟩ = some (.bool false)) : Calls Tryd.prog 70 #[ptr g, .int .i64 i] w fun e w' => e = .returned (.bool true) ∧ Ext w w' := by
  have h1 : (0 : Int) ≤ (i : Int) := by omega
  have h2 : (i : Int) < 32 := by omega
  have h3 : decide ((0 : Int) ≤ (i : Int)) = true := by simp
  have h4 : decide ((i : Int) < 32) = true := by simp; omega
  go_enter Tryd.func70, Tryd.ntmps70
  repeat' (first | go_skip | go_guarded | go_step)
  go_ret
  exact ⟨rfl, Ext.refl _⟩
theorem inner_bk (w : World) (g : Nat) (i : Int) (h : w.cell? ⟨g, 4, none⟩ = some (.bool true)) : Calls Tryd.prog 70 #[ptr g, .int .i64 i] w fun e w' => e = .returned (.bool false) ∧ Ext w w' := by
  go_enter Tryd.func70, Tryd.ntmps70
  repeat' (first | go_skip | go_guarded | go_step)
  go_ret
  exact ⟨rfl, Ext.refl _⟩
theorem inner_out (w : World) (g : Nat) (i : Int) (hi : i < 0 ∨ 32 ≤ i) (h : w.cell? ⟨g, 4, none⟩ = some (.bool false)) : Calls Tryd.prog 70 #[ptr g, .int .i64 i] w fun e w' => e = .returned (.bool false) ∧ Ext w w' := by
  rcases hi with hi | hi
  · have h3 : decide ((0 : Int) ≤ i) = false := by simp; omega
    go_enter Tryd.func70, Tryd.ntmps70
    repeat' (first | go_skip | go_guarded | go_step)
    go_ret
    exact ⟨rfl, Ext.refl _⟩
  · have h3 : decide ((0 : Int) ≤ i) = true := by simp; omega
    have h4 : decide (i < 32) = false := by simp; omega
    go_enter Tryd.func70, Tryd.ntmps70
    repeat' (first | go_skip | go_guarded | go_step)
    go_ret
    exact ⟨rfl, Ext.refl _⟩
end Go.Proofs.YtbmakajadelckaaDoor
