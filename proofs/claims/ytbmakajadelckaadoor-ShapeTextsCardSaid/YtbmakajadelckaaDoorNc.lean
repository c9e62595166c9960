/- Contracts: node.Inner, token Live. -/
import Derived.Test.YtbmakajadelckaaDoorNb
set_option linter.unusedVariables false
set_option linter.unusedSimpArgs false
namespace Go.Proofs.YtbmakajadelckaaDoor
open Go.RowKit Go.QS
set_option linter.unusedVariables false

theorem live_nil (w : World) : Calls Tryd.prog 84 #[.pointer none] w fun e w' => e = .returned (.bool false) ∧ w = w' := by
  go_enter Tryd.func84, Tryd.ntmps84
  repeat' (first | go_skip | go_guarded | go_step)
  go_ret
  exact ⟨rfl, rfl⟩
theorem live_c (w : World) (g : Nat) (b : Bool) (h : w.cell? ⟨g, 2, none⟩ = some (.bool b)) : Calls Tryd.prog 84 #[.pointer (some ⟨g, 0, none⟩)] w fun e w' => e = .returned (.bool b) ∧ Ext w w' := by
  go_enter Tryd.func84, Tryd.ntmps84
  repeat' (first | go_skip | go_guarded | go_step)
  go_ret
  exact ⟨rfl, Ext.refl _⟩
theorem inner_c (w : World) : Calls Tryd.prog 17 #[] w fun e w' => e = .returned (.pointer (some ⟨w.heap.size, 0, none⟩)) ∧ Ext w w' := by
  go_enter Tryd.func17, Tryd.ntmps17
  repeat' (first | go_skip | go_guarded | go_step)
  go_ret
  exact ⟨rfl, (Ext.refl w).alloc (Nat.le_refl _) _⟩
end Go.Proofs.YtbmakajadelckaaDoor
