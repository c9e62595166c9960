/- Pieces of a function's code. No program. -/
import Derived.Test.YtbmakajadelckaaDoorVoc
set_option linter.unusedVariables false
set_option linter.unusedSimpArgs false
namespace Go.QS.Nk
open Go
def lead : Code → Option Nat
  | .region id _ _ => some id
  | .seq a _ => lead a
  | _ => none
def findS (n : Nat) : Code → Option Code
  | .region id ops d => if id = n then some (.region id ops d) else none
  | .seq a b => if lead a = some n then some (.seq a b) else match findS n a with | some c => some c | none => findS n b
  | .cond _ a b => match findS n a with | some c => some c | none => findS n b
  | .block _ b => findS n b
  | .loop b => findS n b
  | .scope b => findS n b
  | _ => none
def findT (n : Nat) : Code → Option Code
  | .seq a b => match a with
    | .region id _ _ => if id = n then some b else findT n b
    | _ => match findT n a with | some c => some c | none => findT n b
  | .cond _ a b => match findT n a with | some c => some c | none => findT n b
  | .block _ b => findT n b
  | .loop b => findT n b
  | .scope b => findT n b
  | _ => none
def findR (n : Nat) : Code → Option Code
  | .region id ops d => if id = n then some (.region id ops d) else none
  | .seq a b => match findR n a with | some c => some c | none => findR n b
  | .cond _ a b => match findR n a with | some c => some c | none => findR n b
  | .block _ b => findR n b
  | .loop b => findR n b
  | .scope b => findR n b
  | _ => none

end Go.QS.Nk
