/-
  No cell of these rows narrows 'for every input' (looked for: loops, veiled, ifaces, maps, wideKeys, modest, calm, conditions, laid).
  DERIVED. THE GIVEN ROWS OF THIS SEAT. 5 by the template 'for every input the law returns true; each argument reads behind the call as it read before'; 0 by the template 'total and deterministic' (their statements: YtdajhbllakmmlaaTotals.lean).
  GIVEN WITH THE SEED: the statements are not yours to turn. If you find one false, say at which input.
  Laid BY PROGRAM, IN A SANDBOX (cutbox-rows.mjs): the forced cells as the released guide's own fill.sh prints them over the translation 580e2aea5ff3d71d… (all of the seat's roots in one cut). By AI agents, Wed Nov 11 2026. No macro, syntax, notation, axiom, sorry.
-/
import Derived.Test.YtdajhbllakmmlaaChecked
import GoSem.Claim
import GoSem.ClaimJoined
import GoSem.ClaimMapViews
import Derived.JoinedTies
import Derived.KernelRfl
namespace Go.Proofs.Ytdajhbllakmmlaa
/- THE CELL 'sum', in the pinned program and in every row, IS THE sha256 OF THE DUMP (.gsa) THAT YtdajhbllakmmlaaProg.lean LOADS. Nothing in Lean hashes anything: it is a label: what it is worth is what the hold of that sum in a sandbox is worth. -/
noncomputable def Try.pinned : Pinned := { name := "ytdajhbllakmmlaa", sum := "580e2aea5ff3d71dc7845aaef504cb01b01ddef45cc9859e997c8209380ad025", checked := Try.checked }
namespace Rows
def none {H : Type} : Left H := { results := [], args := [] }

/-- 'quicksetlaw03.PairSame': WHATEVER THE INPUT: true; the input reads as it did. -/
def pairSameSpec : ChangeSpec := { name := "pairSame", fn := fun _ => fun
  | [d1, d2, d3] => { results := [.lit (.bool true)], args := [d1, d2, d3] }
  | _ => none }
def pairSameRow : OpenClaim := { program := "ytdajhbllakmmlaa", sum := "580e2aea5ff3d71dc7845aaef504cb01b01ddef45cc9859e997c8209380ad025", func := "quickset/quicksetlaw03.PairSame", spec := "pairSame", unfollowed := true, recurses := true, apart := false }
def PairSameSaid : Prop := pairSameRow.holds Try.pinned (OpenSpec.ofChange pairSameSpec)

/-- ITS FALSE NEIGHBOUR: 'it returns false'. Refute it at one input. -/
def pairSameWrong : ChangeSpec := { name := "pairSame", fn := fun _ => fun
  | [d1, d2, d3] => { results := [.lit (.bool false)], args := [d1, d2, d3] }
  | _ => none }
def PairSameWrongFalsely : Prop := pairSameRow.holds Try.pinned (OpenSpec.ofChange pairSameWrong)

/-- 'quicksetlaw03.PairSorts': WHATEVER THE INPUT: true; the input reads as it did. -/
def pairSortsSpec : ChangeSpec := { name := "pairSorts", fn := fun _ => fun
  | [d] => { results := [.lit (.bool true)], args := [d] }
  | _ => none }
def pairSortsRow : OpenClaim := { program := "ytdajhbllakmmlaa", sum := "580e2aea5ff3d71dc7845aaef504cb01b01ddef45cc9859e997c8209380ad025", func := "quickset/quicksetlaw03.PairSorts", spec := "pairSorts", unfollowed := true, recurses := true, apart := false }
def PairSortsSaid : Prop := pairSortsRow.holds Try.pinned (OpenSpec.ofChange pairSortsSpec)

/-- ITS FALSE NEIGHBOUR: 'it returns false'. Refute it at one input. -/
def pairSortsWrong : ChangeSpec := { name := "pairSorts", fn := fun _ => fun
  | [d] => { results := [.lit (.bool false)], args := [d] }
  | _ => none }
def PairSortsWrongFalsely : Prop := pairSortsRow.holds Try.pinned (OpenSpec.ofChange pairSortsWrong)

/-- 'quicksetlaw03.PairRights': WHATEVER THE INPUT: true; the input reads as it did. -/
def pairRightsSpec : ChangeSpec := { name := "pairRights", fn := fun _ => fun
  | [d1, d2, d3] => { results := [.lit (.bool true)], args := [d1, d2, d3] }
  | _ => none }
def pairRightsRow : OpenClaim := { program := "ytdajhbllakmmlaa", sum := "580e2aea5ff3d71dc7845aaef504cb01b01ddef45cc9859e997c8209380ad025", func := "quickset/quicksetlaw03.PairRights", spec := "pairRights", unfollowed := true, recurses := true, apart := false }
def PairRightsSaid : Prop := pairRightsRow.holds Try.pinned (OpenSpec.ofChange pairRightsSpec)

/-- ITS FALSE NEIGHBOUR: 'it returns false'. Refute it at one input. -/
def pairRightsWrong : ChangeSpec := { name := "pairRights", fn := fun _ => fun
  | [d1, d2, d3] => { results := [.lit (.bool false)], args := [d1, d2, d3] }
  | _ => none }
def PairRightsWrongFalsely : Prop := pairRightsRow.holds Try.pinned (OpenSpec.ofChange pairRightsWrong)

/-- 'quicksetlaw03.PairTurns': WHATEVER THE INPUT: true; the input reads as it did. -/
def pairTurnsSpec : ChangeSpec := { name := "pairTurns", fn := fun _ => fun
  | [d1, d2, d3] => { results := [.lit (.bool true)], args := [d1, d2, d3] }
  | _ => none }
def pairTurnsRow : OpenClaim := { program := "ytdajhbllakmmlaa", sum := "580e2aea5ff3d71dc7845aaef504cb01b01ddef45cc9859e997c8209380ad025", func := "quickset/quicksetlaw03.PairTurns", spec := "pairTurns", unfollowed := true, recurses := true, apart := false }
def PairTurnsSaid : Prop := pairTurnsRow.holds Try.pinned (OpenSpec.ofChange pairTurnsSpec)

/-- ITS FALSE NEIGHBOUR: 'it returns false'. Refute it at one input. -/
def pairTurnsWrong : ChangeSpec := { name := "pairTurns", fn := fun _ => fun
  | [d1, d2, d3] => { results := [.lit (.bool false)], args := [d1, d2, d3] }
  | _ => none }
def PairTurnsWrongFalsely : Prop := pairTurnsRow.holds Try.pinned (OpenSpec.ofChange pairTurnsWrong)

/-- 'quicksetlaw03.PairChanges': WHATEVER THE INPUT: true; the input reads as it did. -/
def pairChangesSpec : ChangeSpec := { name := "pairChanges", fn := fun _ => fun
  | [d1, d2] => { results := [.lit (.bool true)], args := [d1, d2] }
  | _ => none }
def pairChangesRow : OpenClaim := { program := "ytdajhbllakmmlaa", sum := "580e2aea5ff3d71dc7845aaef504cb01b01ddef45cc9859e997c8209380ad025", func := "quickset/quicksetlaw03.PairChanges", spec := "pairChanges", unfollowed := true, recurses := true, apart := false }
def PairChangesSaid : Prop := pairChangesRow.holds Try.pinned (OpenSpec.ofChange pairChangesSpec)

/-- ITS FALSE NEIGHBOUR: 'it returns false'. Refute it at one input. -/
def pairChangesWrong : ChangeSpec := { name := "pairChanges", fn := fun _ => fun
  | [d1, d2] => { results := [.lit (.bool false)], args := [d1, d2] }
  | _ => none }
def PairChangesWrongFalsely : Prop := pairChangesRow.holds Try.pinned (OpenSpec.ofChange pairChangesWrong)

/- THE SECOND FORM. 'bulk': how many values and letters a reading holds, each counted each time it is reached (what is shared counts as often as it is met; a slice's spare places count too). A statement '..UptoSaid' is the law's where the arguments, and the package variables that the reading takes, are together of bulk at most 1048576: NARROWER than '..Said'. Prove '..Said' where nothing that the law and all that it calls make is longer than what came in: it says more and counts as full. Else prove '..UptoSaid'. A law counts once. -/
mutual
def uptoBulk {H : Type} : DataW H → Nat
  | .lit (.string bytes) => bytes.length + 1
  | .lit _ => 1
  | .nil => 1
  | .ptr d => uptoBulk d + 1
  | .slice elems spare => uptoBulkAll elems + uptoBulkAll spare + 1
  | .agg parts => uptoBulkAll parts + 1
  | .iface _ d => uptoBulk d + 1
  | .map entries => uptoBulkEntries entries + 1
  | .held _ => 1
def uptoBulkAll {H : Type} : List (DataW H) → Nat
  | [] => 0
  | d :: r => uptoBulk d + uptoBulkAll r
def uptoBulkEntries {H : Type} : List (Lit × DataW H) → Nat
  | [] => 0
  | x :: r => uptoBulkEntry x + uptoBulkEntries r
def uptoBulkEntry {H : Type} : Lit × DataW H → Nat
  | (.string bytes, d) => bytes.length + uptoBulk d + 1
  | (_, d) => uptoBulk d + 1
 end
def uptoSmall : (H : Type) → List (DataW H) → Bool := fun _ ds => decide (uptoBulkAll ds ≤ 1048576)
def OpenSpec.upto (s : _root_.Go.ChangeSpec) : _root_.Go.OpenSpec := { _root_.Go.OpenSpec.ofChange s with cond := some uptoSmall }

/-- 'quicksetlaw03.PairSame', WHERE WHAT IT READS IS OF BULK AT MOST 1048576: true; the input reads as it did. -/
def pairSameUptoRow : OpenClaim := { program := "ytdajhbllakmmlaa", sum := "580e2aea5ff3d71dc7845aaef504cb01b01ddef45cc9859e997c8209380ad025", func := "quickset/quicksetlaw03.PairSame", spec := "pairSame", unfollowed := true, recurses := true, apart := false, narrowed := true }
def PairSameUptoSaid : Prop := pairSameUptoRow.holds Try.pinned (OpenSpec.upto pairSameSpec)

/-- 'quicksetlaw03.PairSorts', WHERE WHAT IT READS IS OF BULK AT MOST 1048576: true; the input reads as it did. -/
def pairSortsUptoRow : OpenClaim := { program := "ytdajhbllakmmlaa", sum := "580e2aea5ff3d71dc7845aaef504cb01b01ddef45cc9859e997c8209380ad025", func := "quickset/quicksetlaw03.PairSorts", spec := "pairSorts", unfollowed := true, recurses := true, apart := false, narrowed := true }
def PairSortsUptoSaid : Prop := pairSortsUptoRow.holds Try.pinned (OpenSpec.upto pairSortsSpec)

/-- 'quicksetlaw03.PairRights', WHERE WHAT IT READS IS OF BULK AT MOST 1048576: true; the input reads as it did. -/
def pairRightsUptoRow : OpenClaim := { program := "ytdajhbllakmmlaa", sum := "580e2aea5ff3d71dc7845aaef504cb01b01ddef45cc9859e997c8209380ad025", func := "quickset/quicksetlaw03.PairRights", spec := "pairRights", unfollowed := true, recurses := true, apart := false, narrowed := true }
def PairRightsUptoSaid : Prop := pairRightsUptoRow.holds Try.pinned (OpenSpec.upto pairRightsSpec)

/-- 'quicksetlaw03.PairTurns', WHERE WHAT IT READS IS OF BULK AT MOST 1048576: true; the input reads as it did. -/
def pairTurnsUptoRow : OpenClaim := { program := "ytdajhbllakmmlaa", sum := "580e2aea5ff3d71dc7845aaef504cb01b01ddef45cc9859e997c8209380ad025", func := "quickset/quicksetlaw03.PairTurns", spec := "pairTurns", unfollowed := true, recurses := true, apart := false, narrowed := true }
def PairTurnsUptoSaid : Prop := pairTurnsUptoRow.holds Try.pinned (OpenSpec.upto pairTurnsSpec)

/-- 'quicksetlaw03.PairChanges', WHERE WHAT IT READS IS OF BULK AT MOST 1048576: true; the input reads as it did. -/
def pairChangesUptoRow : OpenClaim := { program := "ytdajhbllakmmlaa", sum := "580e2aea5ff3d71dc7845aaef504cb01b01ddef45cc9859e997c8209380ad025", func := "quickset/quicksetlaw03.PairChanges", spec := "pairChanges", unfollowed := true, recurses := true, apart := false, narrowed := true }
def PairChangesUptoSaid : Prop := pairChangesUptoRow.holds Try.pinned (OpenSpec.upto pairChangesSpec)

end Rows
end Go.Proofs.Ytdajhbllakmmlaa
