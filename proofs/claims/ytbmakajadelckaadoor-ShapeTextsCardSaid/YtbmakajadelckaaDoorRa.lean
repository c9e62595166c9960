/- Contracts of the small functions of the radix chapter, without a token. -/
import Derived.Test.YtbmakajadelckaaDoorRows
import Derived.Test.YtbmakajadelckaaDoorApp
import Derived.Test.YtbmakajadelckaaDoorRt
import Derived.Deep.RegionHeld3
set_option linter.unusedVariables false
set_option linter.unusedSimpArgs false
namespace Go.Proofs.YtbmakajadelckaaDoor
open Go.RowKit Go.QS
set_option linter.unusedVariables false

theorem liveR_nil (w : World) : Calls Tryd.prog 84 #[.pointer none] w fun e w' => e = .returned (.bool false) ∧ w = w' := by
  go_enter Tryd.func84, Tryd.ntmps84
  repeat' (first | go_skip | go_guarded | go_step)
  go_ret
  exact ⟨rfl, rfl⟩

end Go.Proofs.YtbmakajadelckaaDoor
