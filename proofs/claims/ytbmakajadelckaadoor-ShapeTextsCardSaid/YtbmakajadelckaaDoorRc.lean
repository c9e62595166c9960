/- Contracts: slices.Insert at the slices of nodes: its four roads. -/
import Derived.Test.YtbmakajadelckaaDoorRb
import Derived.Shelf.Spec.SlicesInsertGrow
set_option linter.unusedVariables false
set_option linter.unusedSimpArgs false
namespace Go.Proofs.YtbmakajadelckaaDoor
open Go.RowKit Go.QS Go.Lib Go.Shelf
set_option linter.unusedVariables false

end Go.Proofs.YtbmakajadelckaaDoor
