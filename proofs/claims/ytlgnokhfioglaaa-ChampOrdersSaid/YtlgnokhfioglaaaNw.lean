/- Small laws for the node chapter's regions. -/
import Derived.Test.YtlgnokhfioglaaaNs
namespace Go.Proofs.Ytlgnokhfioglaaa
open Go.RowKit Go.QS Go.QS.Nk
set_option linter.unusedVariables false

theorem ext_alloc {a w : World} (h : Ext a w) (o : Obj) : Ext a (w.alloc o) := h.alloc h.size o
theorem ext_drew {a w : World} (h : Ext a w) : Ext a w.drew := h.drew
theorem Ext.cell' {w w' : World} {a : Addr} {u : Value} (f : Ext w w') (h : w.cell? a = some u) : w'.cell? a = some u := (f.cell (World.block_lt_of_cell? w _ h)).trans h
end Go.Proofs.Ytlgnokhfioglaaa
