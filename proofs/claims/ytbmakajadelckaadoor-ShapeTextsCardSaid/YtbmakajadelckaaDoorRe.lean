/- Contract: where a kid is, or would be. -/
import Derived.Test.YtbmakajadelckaaDoorRd
import Derived.Test.YtbmakajadelckaaDoorRp
import Derived.Test.YtbmakajadelckaaDoorFind
import Derived.Deep.LoopGhost
set_option linter.unusedVariables false
set_option linter.unusedSimpArgs false
namespace Go.Proofs.YtbmakajadelckaaDoor
open Go.RowKit Go.QS
set_option linter.unusedVariables false

theorem hd_cons {x : UInt8} {l : List UInt8} {k : RT} (h : k.lab = x :: l) : k.hd = x.toNat := by simp [RT.hd, h]
theorem hd_lt (k : RT) : k.hd < 256 := UInt8.toNat_lt _

end Go.Proofs.YtbmakajadelckaaDoor
