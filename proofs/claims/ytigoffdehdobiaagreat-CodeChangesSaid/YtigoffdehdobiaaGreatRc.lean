/- Contracts: slices.Insert at the slices of nodes: its four roads. -/
import Derived.Test.YtigoffdehdobiaaGreatM04
import Derived.Shelf.Spec.SlicesInsertGrow
set_option linter.unusedVariables false
set_option linter.unusedSimpArgs false
namespace Go.Proofs.YtigoffdehdobiaaGreat
open Go.RowKit Go.QS Go.Lib Go.Shelf
set_option linter.unusedVariables false

theorem infoKm : (Tryz.prog.info? 55).map (fun i => (i.zero, i.size, i.bytes)) = some (some (Value.pointer none), 1, 8) := by kernel_rfl

end Go.Proofs.YtigoffdehdobiaaGreat
