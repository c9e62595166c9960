/- A pair's box; pieces of a function's code. (Vi bears the same: no text imports both.) -/
import Derived.Test.YtmpeniboccahdaaMh
import Derived.Lib.Builder
namespace Go.Proofs.Ytmpeniboccahdaa
open Go.RowKit Go.QS
set_option linter.unusedVariables false

theorem cutP_short (p : Pr) : (cutP p).1.length ≤ 40 ∧ (cutP p).2.length ≤ 40 := by simp [cutP]; omega

/-- A pair's box, and that all that stood still stands. -/
def Box (w : World) (g : Nat) (p : Pr) : Prop := w.heap[g]? = some (.cells #[str p.1, str p.2] 24 (0, 0))
theorem Box.ext {w w' : World} {g : Nat} {p : Pr} (h : Box w g p) (f : Ext w w') : Box w' g p := box_ext h f
theorem Box.cells {w : World} {g : Nat} {p : Pr} (h : Box w g p) : w.cell? ⟨g, 0, none⟩ = some (str p.1) ∧ w.cell? ⟨g, 1, none⟩ = some (str p.2) := box_cells h

def lead : Code → Option Nat
  | .region id _ _ => some id
  | .seq a _ => lead a
  | _ => none
def findS (n : Nat) : Code → Option Code
  | .region id ops d => if id = n then some (.region id ops d) else none
  | .seq a b => if lead a = some n then some (.seq a b) else match findS n a with | some c => some c | none => findS n b
  | .cond _ a b => match findS n a with | some c => some c | none => findS n b
  | .block _ b => findS n b
  | .loop b => findS n b
  | .scope b => findS n b
  | _ => none
def findT (n : Nat) : Code → Option Code
  | .seq a b => match a with
    | .region id _ _ => if id = n then some b else findT n b
    | _ => match findT n a with | some c => some c | none => findT n b
  | .cond _ a b => match findT n a with | some c => some c | none => findT n b
  | .block _ b => findT n b
  | .loop b => findT n b
  | .scope b => findT n b
  | _ => none
def findR (n : Nat) : Code → Option Code
  | .region id ops d => if id = n then some (.region id ops d) else none
  | .seq a b => match findR n a with | some c => some c | none => findR n b
  | .cond _ a b => match findR n a with | some c => some c | none => findR n b
  | .block _ b => findR n b
  | .loop b => findR n b
  | .scope b => findR n b
  | _ => none

set_option maxRecDepth 100000 in
theorem fieldP (a x : Value) (w : World) : (Instr.field 24 (.agg #[a, x]) 0).run Try.prog w = .ok a w := by
  unfold Instr.field
  simp [go_sem, asAgg]
set_option maxRecDepth 100000 in
theorem neqP (g : Nat) (w : World) : (binOp .neq 26 (ptr g) (ptr g)).run Try.prog w = .ok (.bool false) w := by
  have h : (Try.prog.info? 93).isSome = true := by kernel_rfl
  obtain ⟨j, hj⟩ := Option.isSome_iff_exists.1 h
  exact Lib.run_neq_ptr_same w _ Try.underlying26 hj
end Go.Proofs.Ytmpeniboccahdaa
