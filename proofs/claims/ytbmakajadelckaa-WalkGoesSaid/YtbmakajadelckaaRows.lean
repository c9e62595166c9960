/-
  No cell of these rows narrows 'for every input' (looked for: loops, veiled, ifaces, maps, wideKeys, modest, calm, conditions, laid).
  DERIVED. THE GIVEN ROWS OF THIS SEAT. 7 by the template 'for every input the law returns true; each argument reads behind the call as it read before'; 0 by the template 'total and deterministic' (their statements: YtbmakajadelckaaTotals.lean).
  GIVEN WITH THE SEED: the statements are not yours to turn. If you find one false, say at which input.
  Laid BY PROGRAM, IN A SANDBOX (cutbox-rows.mjs): the forced cells as the released guide's own fill.sh prints them over the translation 9b575ff77fd96f90… (all of the seat's roots in one cut). By AI agents, Wed Nov 11 2026. No macro, syntax, notation, axiom, sorry.
-/
import Derived.Test.YtbmakajadelckaaChecked
import GoSem.Claim
import GoSem.ClaimJoined
import GoSem.ClaimMapViews
import Derived.JoinedTies
import Derived.KernelRfl
namespace Go.Proofs.Ytbmakajadelckaa
/- THE CELL 'sum', in the pinned program and in every row, IS THE sha256 OF THE DUMP (.gsa) THAT YtbmakajadelckaaProg.lean LOADS. Nothing in Lean hashes anything: it is a label: what it is worth is what the hold of that sum in a sandbox is worth. -/
noncomputable def Try.pinned : Pinned := { name := "ytbmakajadelckaa", sum := "9b575ff77fd96f90d0424521118b5fbd68471dfc93f771ecdcfeeffaf1c8715c", checked := Try.checked }
namespace Rows
def none {H : Type} : Left H := { results := [], args := [] }

/-- 'quicksetlaw08.WalkOrders': WHATEVER THE INPUT: true; the input reads as it did. -/
def walkOrdersSpec : ChangeSpec := { name := "walkOrders", fn := fun _ => fun
  | [d1, d2, d3] => { results := [.lit (.bool true)], args := [d1, d2, d3] }
  | _ => none }
def walkOrdersRow : OpenClaim := { program := "ytbmakajadelckaa", sum := "9b575ff77fd96f90d0424521118b5fbd68471dfc93f771ecdcfeeffaf1c8715c", func := "quickset/quicksetlaw08.WalkOrders", spec := "walkOrders", inPlace := ["slices.overlaps[quickset/pair.Pair]", "slices.overlaps[*quickset/node.Node]"], unfollowed := true, recurses := true, apart := false }
def WalkOrdersSaid : Prop := walkOrdersRow.holds Try.pinned (OpenSpec.ofChange walkOrdersSpec)

/-- ITS FALSE NEIGHBOUR: 'it returns false'. Refute it at one input. -/
def walkOrdersWrong : ChangeSpec := { name := "walkOrders", fn := fun _ => fun
  | [d1, d2, d3] => { results := [.lit (.bool false)], args := [d1, d2, d3] }
  | _ => none }
def WalkOrdersWrongFalsely : Prop := walkOrdersRow.holds Try.pinned (OpenSpec.ofChange walkOrdersWrong)

/-- 'quicksetlaw08.WalkGoes': WHATEVER THE INPUT: true; the input reads as it did. -/
def walkGoesSpec : ChangeSpec := { name := "walkGoes", fn := fun _ => fun
  | [d1, d2, d3] => { results := [.lit (.bool true)], args := [d1, d2, d3] }
  | _ => none }
def walkGoesRow : OpenClaim := { program := "ytbmakajadelckaa", sum := "9b575ff77fd96f90d0424521118b5fbd68471dfc93f771ecdcfeeffaf1c8715c", func := "quickset/quicksetlaw08.WalkGoes", spec := "walkGoes", inPlace := ["slices.overlaps[quickset/pair.Pair]", "slices.overlaps[*quickset/node.Node]"], unfollowed := true, recurses := true, apart := false }
def WalkGoesSaid : Prop := walkGoesRow.holds Try.pinned (OpenSpec.ofChange walkGoesSpec)

/-- ITS FALSE NEIGHBOUR: 'it returns false'. Refute it at one input. -/
def walkGoesWrong : ChangeSpec := { name := "walkGoes", fn := fun _ => fun
  | [d1, d2, d3] => { results := [.lit (.bool false)], args := [d1, d2, d3] }
  | _ => none }
def WalkGoesWrongFalsely : Prop := walkGoesRow.holds Try.pinned (OpenSpec.ofChange walkGoesWrong)

/-- 'quicksetlaw08.WalkNil': WHATEVER THE INPUT: true; the input reads as it did. -/
def walkNilSpec : ChangeSpec := { name := "walkNil", fn := fun _ => fun
  | [d1, d2] => { results := [.lit (.bool true)], args := [d1, d2] }
  | _ => none }
def walkNilRow : OpenClaim := { program := "ytbmakajadelckaa", sum := "9b575ff77fd96f90d0424521118b5fbd68471dfc93f771ecdcfeeffaf1c8715c", func := "quickset/quicksetlaw08.WalkNil", spec := "walkNil", inPlace := ["slices.overlaps[quickset/pair.Pair]", "slices.overlaps[*quickset/node.Node]"], unfollowed := true, recurses := true, apart := false }
def WalkNilSaid : Prop := walkNilRow.holds Try.pinned (OpenSpec.ofChange walkNilSpec)

/-- ITS FALSE NEIGHBOUR: 'it returns false'. Refute it at one input. -/
def walkNilWrong : ChangeSpec := { name := "walkNil", fn := fun _ => fun
  | [d1, d2] => { results := [.lit (.bool false)], args := [d1, d2] }
  | _ => none }
def WalkNilWrongFalsely : Prop := walkNilRow.holds Try.pinned (OpenSpec.ofChange walkNilWrong)

/-- 'quicksetlaw09.GaugeFolds': WHATEVER THE INPUT: true; the input reads as it did. -/
def gaugeFoldsSpec : ChangeSpec := { name := "gaugeFolds", fn := fun _ => fun
  | [d1, d2, d3] => { results := [.lit (.bool true)], args := [d1, d2, d3] }
  | _ => none }
def gaugeFoldsRow : OpenClaim := { program := "ytbmakajadelckaa", sum := "9b575ff77fd96f90d0424521118b5fbd68471dfc93f771ecdcfeeffaf1c8715c", func := "quickset/quicksetlaw09.GaugeFolds", spec := "gaugeFolds", inPlace := ["slices.overlaps[quickset/pair.Pair]", "slices.overlaps[*quickset/node.Node]"], unfollowed := true, recurses := true, apart := false }
def GaugeFoldsSaid : Prop := gaugeFoldsRow.holds Try.pinned (OpenSpec.ofChange gaugeFoldsSpec)

/-- ITS FALSE NEIGHBOUR: 'it returns false'. Refute it at one input. -/
def gaugeFoldsWrong : ChangeSpec := { name := "gaugeFolds", fn := fun _ => fun
  | [d1, d2, d3] => { results := [.lit (.bool false)], args := [d1, d2, d3] }
  | _ => none }
def GaugeFoldsWrongFalsely : Prop := gaugeFoldsRow.holds Try.pinned (OpenSpec.ofChange gaugeFoldsWrong)

/-- 'quicksetlaw09.GaugeBounds': WHATEVER THE INPUT: true; the input reads as it did. -/
def gaugeBoundsSpec : ChangeSpec := { name := "gaugeBounds", fn := fun _ => fun
  | [d1, d2, d3] => { results := [.lit (.bool true)], args := [d1, d2, d3] }
  | _ => none }
def gaugeBoundsRow : OpenClaim := { program := "ytbmakajadelckaa", sum := "9b575ff77fd96f90d0424521118b5fbd68471dfc93f771ecdcfeeffaf1c8715c", func := "quickset/quicksetlaw09.GaugeBounds", spec := "gaugeBounds", inPlace := ["slices.overlaps[quickset/pair.Pair]", "slices.overlaps[*quickset/node.Node]"], unfollowed := true, recurses := true, apart := false }
def GaugeBoundsSaid : Prop := gaugeBoundsRow.holds Try.pinned (OpenSpec.ofChange gaugeBoundsSpec)

/-- ITS FALSE NEIGHBOUR: 'it returns false'. Refute it at one input. -/
def gaugeBoundsWrong : ChangeSpec := { name := "gaugeBounds", fn := fun _ => fun
  | [d1, d2, d3] => { results := [.lit (.bool false)], args := [d1, d2, d3] }
  | _ => none }
def GaugeBoundsWrongFalsely : Prop := gaugeBoundsRow.holds Try.pinned (OpenSpec.ofChange gaugeBoundsWrong)

/-- 'quicksetlaw06.ChampShrinks': WHATEVER THE INPUT: true; the input reads as it did. -/
def champShrinksSpec : ChangeSpec := { name := "champShrinks", fn := fun _ => fun
  | [d1, d2, d3, d4] => { results := [.lit (.bool true)], args := [d1, d2, d3, d4] }
  | _ => none }
def champShrinksRow : OpenClaim := { program := "ytbmakajadelckaa", sum := "9b575ff77fd96f90d0424521118b5fbd68471dfc93f771ecdcfeeffaf1c8715c", func := "quickset/quicksetlaw06.ChampShrinks", spec := "champShrinks", inPlace := ["slices.overlaps[quickset/pair.Pair]", "slices.overlaps[*quickset/node.Node]"], unfollowed := true, recurses := true, apart := false }
def ChampShrinksSaid : Prop := champShrinksRow.holds Try.pinned (OpenSpec.ofChange champShrinksSpec)

/-- ITS FALSE NEIGHBOUR: 'it returns false'. Refute it at one input. -/
def champShrinksWrong : ChangeSpec := { name := "champShrinks", fn := fun _ => fun
  | [d1, d2, d3, d4] => { results := [.lit (.bool false)], args := [d1, d2, d3, d4] }
  | _ => none }
def ChampShrinksWrongFalsely : Prop := champShrinksRow.holds Try.pinned (OpenSpec.ofChange champShrinksWrong)

/-- 'quicksetlaw06.ChampCollides': WHATEVER THE INPUT: true; the input reads as it did. -/
def champCollidesSpec : ChangeSpec := { name := "champCollides", fn := fun _ => fun
  | [d1, d2] => { results := [.lit (.bool true)], args := [d1, d2] }
  | _ => none }
def champCollidesRow : OpenClaim := { program := "ytbmakajadelckaa", sum := "9b575ff77fd96f90d0424521118b5fbd68471dfc93f771ecdcfeeffaf1c8715c", func := "quickset/quicksetlaw06.ChampCollides", spec := "champCollides", inPlace := ["slices.overlaps[quickset/pair.Pair]", "slices.overlaps[*quickset/node.Node]"], unfollowed := true, recurses := true, apart := false }
def ChampCollidesSaid : Prop := champCollidesRow.holds Try.pinned (OpenSpec.ofChange champCollidesSpec)

/-- ITS FALSE NEIGHBOUR: 'it returns false'. Refute it at one input. -/
def champCollidesWrong : ChangeSpec := { name := "champCollides", fn := fun _ => fun
  | [d1, d2] => { results := [.lit (.bool false)], args := [d1, d2] }
  | _ => none }
def ChampCollidesWrongFalsely : Prop := champCollidesRow.holds Try.pinned (OpenSpec.ofChange champCollidesWrong)

/- THE SECOND FORM. 'bulk': how many values and letters a reading holds, each counted each time it is reached (what is shared counts as often as it is met; a slice's spare places count too). A statement '..UptoSaid' is the law's where the arguments, and the package variables that the reading takes, are together of bulk at most 1048576: NARROWER than '..Said'. Prove '..Said' where nothing that the law and all that it calls make is longer than what came in: it says more and counts as full. Else prove '..UptoSaid'. A law counts once. -/
mutual
def uptoBulk {H : Type} : DataW H → Nat
  | .lit (.string bytes) => bytes.length + 1
  | .lit _ => 1
  | .nil => 1
  | .ptr d => uptoBulk d + 1
  | .slice elems spare => uptoBulkAll elems + uptoBulkAll spare + 1
  | .agg parts => uptoBulkAll parts + 1
  | .iface _ d => uptoBulk d + 1
  | .map entries => uptoBulkEntries entries + 1
  | .held _ => 1
def uptoBulkAll {H : Type} : List (DataW H) → Nat
  | [] => 0
  | d :: r => uptoBulk d + uptoBulkAll r
def uptoBulkEntries {H : Type} : List (Lit × DataW H) → Nat
  | [] => 0
  | x :: r => uptoBulkEntry x + uptoBulkEntries r
def uptoBulkEntry {H : Type} : Lit × DataW H → Nat
  | (.string bytes, d) => bytes.length + uptoBulk d + 1
  | (_, d) => uptoBulk d + 1
 end
def uptoSmall : (H : Type) → List (DataW H) → Bool := fun _ ds => decide (uptoBulkAll ds ≤ 1048576)
def OpenSpec.upto (s : _root_.Go.ChangeSpec) : _root_.Go.OpenSpec := { _root_.Go.OpenSpec.ofChange s with cond := some uptoSmall }

/-- 'quicksetlaw08.WalkOrders', WHERE WHAT IT READS IS OF BULK AT MOST 1048576: true; the input reads as it did. -/
def walkOrdersUptoRow : OpenClaim := { program := "ytbmakajadelckaa", sum := "9b575ff77fd96f90d0424521118b5fbd68471dfc93f771ecdcfeeffaf1c8715c", func := "quickset/quicksetlaw08.WalkOrders", spec := "walkOrders", inPlace := ["slices.overlaps[quickset/pair.Pair]", "slices.overlaps[*quickset/node.Node]"], unfollowed := true, recurses := true, apart := false, narrowed := true }
def WalkOrdersUptoSaid : Prop := walkOrdersUptoRow.holds Try.pinned (OpenSpec.upto walkOrdersSpec)

/-- 'quicksetlaw08.WalkGoes', WHERE WHAT IT READS IS OF BULK AT MOST 1048576: true; the input reads as it did. -/
def walkGoesUptoRow : OpenClaim := { program := "ytbmakajadelckaa", sum := "9b575ff77fd96f90d0424521118b5fbd68471dfc93f771ecdcfeeffaf1c8715c", func := "quickset/quicksetlaw08.WalkGoes", spec := "walkGoes", inPlace := ["slices.overlaps[quickset/pair.Pair]", "slices.overlaps[*quickset/node.Node]"], unfollowed := true, recurses := true, apart := false, narrowed := true }
def WalkGoesUptoSaid : Prop := walkGoesUptoRow.holds Try.pinned (OpenSpec.upto walkGoesSpec)

/-- 'quicksetlaw08.WalkNil', WHERE WHAT IT READS IS OF BULK AT MOST 1048576: true; the input reads as it did. -/
def walkNilUptoRow : OpenClaim := { program := "ytbmakajadelckaa", sum := "9b575ff77fd96f90d0424521118b5fbd68471dfc93f771ecdcfeeffaf1c8715c", func := "quickset/quicksetlaw08.WalkNil", spec := "walkNil", inPlace := ["slices.overlaps[quickset/pair.Pair]", "slices.overlaps[*quickset/node.Node]"], unfollowed := true, recurses := true, apart := false, narrowed := true }
def WalkNilUptoSaid : Prop := walkNilUptoRow.holds Try.pinned (OpenSpec.upto walkNilSpec)

/-- 'quicksetlaw09.GaugeFolds', WHERE WHAT IT READS IS OF BULK AT MOST 1048576: true; the input reads as it did. -/
def gaugeFoldsUptoRow : OpenClaim := { program := "ytbmakajadelckaa", sum := "9b575ff77fd96f90d0424521118b5fbd68471dfc93f771ecdcfeeffaf1c8715c", func := "quickset/quicksetlaw09.GaugeFolds", spec := "gaugeFolds", inPlace := ["slices.overlaps[quickset/pair.Pair]", "slices.overlaps[*quickset/node.Node]"], unfollowed := true, recurses := true, apart := false, narrowed := true }
def GaugeFoldsUptoSaid : Prop := gaugeFoldsUptoRow.holds Try.pinned (OpenSpec.upto gaugeFoldsSpec)

/-- 'quicksetlaw09.GaugeBounds', WHERE WHAT IT READS IS OF BULK AT MOST 1048576: true; the input reads as it did. -/
def gaugeBoundsUptoRow : OpenClaim := { program := "ytbmakajadelckaa", sum := "9b575ff77fd96f90d0424521118b5fbd68471dfc93f771ecdcfeeffaf1c8715c", func := "quickset/quicksetlaw09.GaugeBounds", spec := "gaugeBounds", inPlace := ["slices.overlaps[quickset/pair.Pair]", "slices.overlaps[*quickset/node.Node]"], unfollowed := true, recurses := true, apart := false, narrowed := true }
def GaugeBoundsUptoSaid : Prop := gaugeBoundsUptoRow.holds Try.pinned (OpenSpec.upto gaugeBoundsSpec)

/-- 'quicksetlaw06.ChampShrinks', WHERE WHAT IT READS IS OF BULK AT MOST 1048576: true; the input reads as it did. -/
def champShrinksUptoRow : OpenClaim := { program := "ytbmakajadelckaa", sum := "9b575ff77fd96f90d0424521118b5fbd68471dfc93f771ecdcfeeffaf1c8715c", func := "quickset/quicksetlaw06.ChampShrinks", spec := "champShrinks", inPlace := ["slices.overlaps[quickset/pair.Pair]", "slices.overlaps[*quickset/node.Node]"], unfollowed := true, recurses := true, apart := false, narrowed := true }
def ChampShrinksUptoSaid : Prop := champShrinksUptoRow.holds Try.pinned (OpenSpec.upto champShrinksSpec)

/-- 'quicksetlaw06.ChampCollides', WHERE WHAT IT READS IS OF BULK AT MOST 1048576: true; the input reads as it did. -/
def champCollidesUptoRow : OpenClaim := { program := "ytbmakajadelckaa", sum := "9b575ff77fd96f90d0424521118b5fbd68471dfc93f771ecdcfeeffaf1c8715c", func := "quickset/quicksetlaw06.ChampCollides", spec := "champCollides", inPlace := ["slices.overlaps[quickset/pair.Pair]", "slices.overlaps[*quickset/node.Node]"], unfollowed := true, recurses := true, apart := false, narrowed := true }
def ChampCollidesUptoSaid : Prop := champCollidesUptoRow.holds Try.pinned (OpenSpec.upto champCollidesSpec)

end Rows
end Go.Proofs.Ytbmakajadelckaa
