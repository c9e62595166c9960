/-
  No cell of these rows narrows 'for every input' (looked for: loops, veiled, ifaces, maps, wideKeys, modest, calm, conditions, laid).
  DERIVED. THE GIVEN ROWS OF THIS SEAT. 9 by the template 'for every input the law returns true; each argument reads behind the call as it read before'; 0 by the template 'total and deterministic' (their statements: YtclcgelbcbnekaaTotals.lean).
  GIVEN WITH THE SEED: the statements are not yours to turn. If you find one false, say at which input.
  Laid BY PROGRAM, IN A SANDBOX (cutbox-rows.mjs): the forced cells as the released guide's own fill.sh prints them over the translation cf1ea836fb80ba0e… (all of the seat's roots in one cut). By AI agents, Wed Nov 11 2026. No macro, syntax, notation, axiom, sorry.
-/
import Derived.Test.YtclcgelbcbnekaaChecked
import GoSem.Claim
import GoSem.ClaimJoined
import GoSem.ClaimMapViews
import Derived.JoinedTies
import Derived.KernelRfl
namespace Go.Proofs.Ytclcgelbcbnekaa
/- THE CELL 'sum', in the pinned program and in every row, IS THE sha256 OF THE DUMP (.gsa) THAT YtclcgelbcbnekaaProg.lean LOADS. Nothing in Lean hashes anything: it is a label: what it is worth is what the hold of that sum in a sandbox is worth. -/
noncomputable def Try.pinned : Pinned := { name := "ytclcgelbcbnekaa", sum := "cf1ea836fb80ba0e013390ac0aef164b1b02cb4d558eb94beb66a69b9fcf239b", checked := Try.checked }
namespace Rows
def none {H : Type} : Left H := { results := [], args := [] }

/-- 'quicksetlaw05.NodeOwns': WHATEVER THE INPUT: true; the input reads as it did. -/
def nodeOwnsSpec : ChangeSpec := { name := "nodeOwns", fn := fun _ => fun
  | [d1, d2, d3] => { results := [.lit (.bool true)], args := [d1, d2, d3] }
  | _ => none }
def nodeOwnsRow : OpenClaim := { program := "ytclcgelbcbnekaa", sum := "cf1ea836fb80ba0e013390ac0aef164b1b02cb4d558eb94beb66a69b9fcf239b", func := "quickset/quicksetlaw05.NodeOwns", spec := "nodeOwns", inPlace := ["slices.overlaps[quickset/pair.Pair]"], apart := false }
def NodeOwnsSaid : Prop := nodeOwnsRow.holds Try.pinned (OpenSpec.ofChange nodeOwnsSpec)

/-- ITS FALSE NEIGHBOUR: 'it returns false'. Refute it at one input. -/
def nodeOwnsWrong : ChangeSpec := { name := "nodeOwns", fn := fun _ => fun
  | [d1, d2, d3] => { results := [.lit (.bool false)], args := [d1, d2, d3] }
  | _ => none }
def NodeOwnsWrongFalsely : Prop := nodeOwnsRow.holds Try.pinned (OpenSpec.ofChange nodeOwnsWrong)

/-- 'quicksetlaw11.RadixFresh': WHATEVER THE INPUT: true; the input reads as it did. -/
def radixFreshSpec : ChangeSpec := { name := "radixFresh", fn := fun _ => fun
  | [d1, d2] => { results := [.lit (.bool true)], args := [d1, d2] }
  | _ => none }
def radixFreshRow : OpenClaim := { program := "ytclcgelbcbnekaa", sum := "cf1ea836fb80ba0e013390ac0aef164b1b02cb4d558eb94beb66a69b9fcf239b", func := "quickset/quicksetlaw11.RadixFresh", spec := "radixFresh", inPlace := ["slices.overlaps[*quickset/radix.Node]"], unfollowed := true, recurses := true, apart := false }
def RadixFreshSaid : Prop := radixFreshRow.holds Try.pinned (OpenSpec.ofChange radixFreshSpec)

/-- ITS FALSE NEIGHBOUR: 'it returns false'. Refute it at one input. -/
def radixFreshWrong : ChangeSpec := { name := "radixFresh", fn := fun _ => fun
  | [d1, d2] => { results := [.lit (.bool false)], args := [d1, d2] }
  | _ => none }
def RadixFreshWrongFalsely : Prop := radixFreshRow.holds Try.pinned (OpenSpec.ofChange radixFreshWrong)

/-- 'quicksetlaw11.RadixOwns': WHATEVER THE INPUT: true; the input reads as it did. -/
def radixOwnsSpec : ChangeSpec := { name := "radixOwns", fn := fun _ => fun
  | [d1, d2, d3] => { results := [.lit (.bool true)], args := [d1, d2, d3] }
  | _ => none }
def radixOwnsRow : OpenClaim := { program := "ytclcgelbcbnekaa", sum := "cf1ea836fb80ba0e013390ac0aef164b1b02cb4d558eb94beb66a69b9fcf239b", func := "quickset/quicksetlaw11.RadixOwns", spec := "radixOwns", inPlace := ["slices.overlaps[*quickset/radix.Node]"], unfollowed := true, recurses := true, apart := false }
def RadixOwnsSaid : Prop := radixOwnsRow.holds Try.pinned (OpenSpec.ofChange radixOwnsSpec)

/-- ITS FALSE NEIGHBOUR: 'it returns false'. Refute it at one input. -/
def radixOwnsWrong : ChangeSpec := { name := "radixOwns", fn := fun _ => fun
  | [d1, d2, d3] => { results := [.lit (.bool false)], args := [d1, d2, d3] }
  | _ => none }
def RadixOwnsWrongFalsely : Prop := radixOwnsRow.holds Try.pinned (OpenSpec.ofChange radixOwnsWrong)

/-- 'quicksetlaw05.NodePlays': WHATEVER THE INPUT: true; the input reads as it did. -/
def nodePlaysSpec : ChangeSpec := { name := "nodePlays", fn := fun _ => fun
  | [d] => { results := [.lit (.bool true)], args := [d] }
  | _ => none }
def nodePlaysRow : OpenClaim := { program := "ytclcgelbcbnekaa", sum := "cf1ea836fb80ba0e013390ac0aef164b1b02cb4d558eb94beb66a69b9fcf239b", func := "quickset/quicksetlaw05.NodePlays", spec := "nodePlays", inPlace := ["slices.overlaps[quickset/pair.Pair]", "slices.overlaps[*quickset/node.Node]"], unfollowed := true, recurses := true, apart := false }
def NodePlaysSaid : Prop := nodePlaysRow.holds Try.pinned (OpenSpec.ofChange nodePlaysSpec)

/-- ITS FALSE NEIGHBOUR: 'it returns false'. Refute it at one input. -/
def nodePlaysWrong : ChangeSpec := { name := "nodePlays", fn := fun _ => fun
  | [d] => { results := [.lit (.bool false)], args := [d] }
  | _ => none }
def NodePlaysWrongFalsely : Prop := nodePlaysRow.holds Try.pinned (OpenSpec.ofChange nodePlaysWrong)

/-- 'quicksetlaw05.NodeStays': WHATEVER THE INPUT: true; the input reads as it did. -/
def nodeStaysSpec : ChangeSpec := { name := "nodeStays", fn := fun _ => fun
  | [d1, d2, d3] => { results := [.lit (.bool true)], args := [d1, d2, d3] }
  | _ => none }
def nodeStaysRow : OpenClaim := { program := "ytclcgelbcbnekaa", sum := "cf1ea836fb80ba0e013390ac0aef164b1b02cb4d558eb94beb66a69b9fcf239b", func := "quickset/quicksetlaw05.NodeStays", spec := "nodeStays", inPlace := ["slices.overlaps[quickset/pair.Pair]", "slices.overlaps[*quickset/node.Node]"], unfollowed := true, recurses := true, apart := false }
def NodeStaysSaid : Prop := nodeStaysRow.holds Try.pinned (OpenSpec.ofChange nodeStaysSpec)

/-- ITS FALSE NEIGHBOUR: 'it returns false'. Refute it at one input. -/
def nodeStaysWrong : ChangeSpec := { name := "nodeStays", fn := fun _ => fun
  | [d1, d2, d3] => { results := [.lit (.bool false)], args := [d1, d2, d3] }
  | _ => none }
def NodeStaysWrongFalsely : Prop := nodeStaysRow.holds Try.pinned (OpenSpec.ofChange nodeStaysWrong)

/-- 'quicksetlaw06.ChampShrinks': WHATEVER THE INPUT: true; the input reads as it did. -/
def champShrinksSpec : ChangeSpec := { name := "champShrinks", fn := fun _ => fun
  | [d1, d2, d3, d4] => { results := [.lit (.bool true)], args := [d1, d2, d3, d4] }
  | _ => none }
def champShrinksRow : OpenClaim := { program := "ytclcgelbcbnekaa", sum := "cf1ea836fb80ba0e013390ac0aef164b1b02cb4d558eb94beb66a69b9fcf239b", func := "quickset/quicksetlaw06.ChampShrinks", spec := "champShrinks", inPlace := ["slices.overlaps[quickset/pair.Pair]", "slices.overlaps[*quickset/node.Node]"], unfollowed := true, recurses := true, apart := false }
def ChampShrinksSaid : Prop := champShrinksRow.holds Try.pinned (OpenSpec.ofChange champShrinksSpec)

/-- ITS FALSE NEIGHBOUR: 'it returns false'. Refute it at one input. -/
def champShrinksWrong : ChangeSpec := { name := "champShrinks", fn := fun _ => fun
  | [d1, d2, d3, d4] => { results := [.lit (.bool false)], args := [d1, d2, d3, d4] }
  | _ => none }
def ChampShrinksWrongFalsely : Prop := champShrinksRow.holds Try.pinned (OpenSpec.ofChange champShrinksWrong)

/-- 'quicksetlaw06.ChampOwns': WHATEVER THE INPUT: true; the input reads as it did. -/
def champOwnsSpec : ChangeSpec := { name := "champOwns", fn := fun _ => fun
  | [d1, d2, d3, d4] => { results := [.lit (.bool true)], args := [d1, d2, d3, d4] }
  | _ => none }
def champOwnsRow : OpenClaim := { program := "ytclcgelbcbnekaa", sum := "cf1ea836fb80ba0e013390ac0aef164b1b02cb4d558eb94beb66a69b9fcf239b", func := "quickset/quicksetlaw06.ChampOwns", spec := "champOwns", inPlace := ["slices.overlaps[quickset/pair.Pair]", "slices.overlaps[*quickset/node.Node]"], unfollowed := true, recurses := true, apart := false }
def ChampOwnsSaid : Prop := champOwnsRow.holds Try.pinned (OpenSpec.ofChange champOwnsSpec)

/-- ITS FALSE NEIGHBOUR: 'it returns false'. Refute it at one input. -/
def champOwnsWrong : ChangeSpec := { name := "champOwns", fn := fun _ => fun
  | [d1, d2, d3, d4] => { results := [.lit (.bool false)], args := [d1, d2, d3, d4] }
  | _ => none }
def ChampOwnsWrongFalsely : Prop := champOwnsRow.holds Try.pinned (OpenSpec.ofChange champOwnsWrong)

/-- 'quicksetlaw09.GaugeFresh': WHATEVER THE INPUT: true; the input reads as it did. -/
def gaugeFreshSpec : ChangeSpec := { name := "gaugeFresh", fn := fun _ => fun
  | [d1, d2, d3] => { results := [.lit (.bool true)], args := [d1, d2, d3] }
  | _ => none }
def gaugeFreshRow : OpenClaim := { program := "ytclcgelbcbnekaa", sum := "cf1ea836fb80ba0e013390ac0aef164b1b02cb4d558eb94beb66a69b9fcf239b", func := "quickset/quicksetlaw09.GaugeFresh", spec := "gaugeFresh", inPlace := ["slices.overlaps[quickset/pair.Pair]", "slices.overlaps[*quickset/node.Node]"], unfollowed := true, recurses := true, apart := false }
def GaugeFreshSaid : Prop := gaugeFreshRow.holds Try.pinned (OpenSpec.ofChange gaugeFreshSpec)

/-- ITS FALSE NEIGHBOUR: 'it returns false'. Refute it at one input. -/
def gaugeFreshWrong : ChangeSpec := { name := "gaugeFresh", fn := fun _ => fun
  | [d1, d2, d3] => { results := [.lit (.bool false)], args := [d1, d2, d3] }
  | _ => none }
def GaugeFreshWrongFalsely : Prop := gaugeFreshRow.holds Try.pinned (OpenSpec.ofChange gaugeFreshWrong)

/-- 'quicksetlaw06.ChampCollides': WHATEVER THE INPUT: true; the input reads as it did. -/
def champCollidesSpec : ChangeSpec := { name := "champCollides", fn := fun _ => fun
  | [d1, d2] => { results := [.lit (.bool true)], args := [d1, d2] }
  | _ => none }
def champCollidesRow : OpenClaim := { program := "ytclcgelbcbnekaa", sum := "cf1ea836fb80ba0e013390ac0aef164b1b02cb4d558eb94beb66a69b9fcf239b", func := "quickset/quicksetlaw06.ChampCollides", spec := "champCollides", inPlace := ["slices.overlaps[quickset/pair.Pair]", "slices.overlaps[*quickset/node.Node]"], unfollowed := true, recurses := true, apart := false }
def ChampCollidesSaid : Prop := champCollidesRow.holds Try.pinned (OpenSpec.ofChange champCollidesSpec)

/-- ITS FALSE NEIGHBOUR: 'it returns false'. Refute it at one input. -/
def champCollidesWrong : ChangeSpec := { name := "champCollides", fn := fun _ => fun
  | [d1, d2] => { results := [.lit (.bool false)], args := [d1, d2] }
  | _ => none }
def ChampCollidesWrongFalsely : Prop := champCollidesRow.holds Try.pinned (OpenSpec.ofChange champCollidesWrong)

/- THE SECOND FORM. 'bulk': how many values and letters a reading holds, each counted each time it is reached (what is shared counts as often as it is met; a slice's spare places count too). A statement '..UptoSaid' is the law's where the arguments, and the package variables that the reading takes, are together of bulk at most 1048576: NARROWER than '..Said'. Prove '..Said' where nothing that the law and all that it calls make is longer than what came in: it says more and counts as full. Else prove '..UptoSaid'. A law counts once. -/
mutual
def uptoBulk {H : Type} : DataW H → Nat
  | .lit (.string bytes) => bytes.length + 1
  | .lit _ => 1
  | .nil => 1
  | .ptr d => uptoBulk d + 1
  | .slice elems spare => uptoBulkAll elems + uptoBulkAll spare + 1
  | .agg parts => uptoBulkAll parts + 1
  | .iface _ d => uptoBulk d + 1
  | .map entries => uptoBulkEntries entries + 1
  | .held _ => 1
def uptoBulkAll {H : Type} : List (DataW H) → Nat
  | [] => 0
  | d :: r => uptoBulk d + uptoBulkAll r
def uptoBulkEntries {H : Type} : List (Lit × DataW H) → Nat
  | [] => 0
  | x :: r => uptoBulkEntry x + uptoBulkEntries r
def uptoBulkEntry {H : Type} : Lit × DataW H → Nat
  | (.string bytes, d) => bytes.length + uptoBulk d + 1
  | (_, d) => uptoBulk d + 1
 end
def uptoSmall : (H : Type) → List (DataW H) → Bool := fun _ ds => decide (uptoBulkAll ds ≤ 1048576)
def OpenSpec.upto (s : _root_.Go.ChangeSpec) : _root_.Go.OpenSpec := { _root_.Go.OpenSpec.ofChange s with cond := some uptoSmall }

/-- 'quicksetlaw05.NodeOwns', WHERE WHAT IT READS IS OF BULK AT MOST 1048576: true; the input reads as it did. -/
def nodeOwnsUptoRow : OpenClaim := { program := "ytclcgelbcbnekaa", sum := "cf1ea836fb80ba0e013390ac0aef164b1b02cb4d558eb94beb66a69b9fcf239b", func := "quickset/quicksetlaw05.NodeOwns", spec := "nodeOwns", inPlace := ["slices.overlaps[quickset/pair.Pair]"], apart := false, narrowed := true }
def NodeOwnsUptoSaid : Prop := nodeOwnsUptoRow.holds Try.pinned (OpenSpec.upto nodeOwnsSpec)

/-- 'quicksetlaw11.RadixFresh', WHERE WHAT IT READS IS OF BULK AT MOST 1048576: true; the input reads as it did. -/
def radixFreshUptoRow : OpenClaim := { program := "ytclcgelbcbnekaa", sum := "cf1ea836fb80ba0e013390ac0aef164b1b02cb4d558eb94beb66a69b9fcf239b", func := "quickset/quicksetlaw11.RadixFresh", spec := "radixFresh", inPlace := ["slices.overlaps[*quickset/radix.Node]"], unfollowed := true, recurses := true, apart := false, narrowed := true }
def RadixFreshUptoSaid : Prop := radixFreshUptoRow.holds Try.pinned (OpenSpec.upto radixFreshSpec)

/-- 'quicksetlaw11.RadixOwns', WHERE WHAT IT READS IS OF BULK AT MOST 1048576: true; the input reads as it did. -/
def radixOwnsUptoRow : OpenClaim := { program := "ytclcgelbcbnekaa", sum := "cf1ea836fb80ba0e013390ac0aef164b1b02cb4d558eb94beb66a69b9fcf239b", func := "quickset/quicksetlaw11.RadixOwns", spec := "radixOwns", inPlace := ["slices.overlaps[*quickset/radix.Node]"], unfollowed := true, recurses := true, apart := false, narrowed := true }
def RadixOwnsUptoSaid : Prop := radixOwnsUptoRow.holds Try.pinned (OpenSpec.upto radixOwnsSpec)

/-- 'quicksetlaw05.NodePlays', WHERE WHAT IT READS IS OF BULK AT MOST 1048576: true; the input reads as it did. -/
def nodePlaysUptoRow : OpenClaim := { program := "ytclcgelbcbnekaa", sum := "cf1ea836fb80ba0e013390ac0aef164b1b02cb4d558eb94beb66a69b9fcf239b", func := "quickset/quicksetlaw05.NodePlays", spec := "nodePlays", inPlace := ["slices.overlaps[quickset/pair.Pair]", "slices.overlaps[*quickset/node.Node]"], unfollowed := true, recurses := true, apart := false, narrowed := true }
def NodePlaysUptoSaid : Prop := nodePlaysUptoRow.holds Try.pinned (OpenSpec.upto nodePlaysSpec)

/-- 'quicksetlaw05.NodeStays', WHERE WHAT IT READS IS OF BULK AT MOST 1048576: true; the input reads as it did. -/
def nodeStaysUptoRow : OpenClaim := { program := "ytclcgelbcbnekaa", sum := "cf1ea836fb80ba0e013390ac0aef164b1b02cb4d558eb94beb66a69b9fcf239b", func := "quickset/quicksetlaw05.NodeStays", spec := "nodeStays", inPlace := ["slices.overlaps[quickset/pair.Pair]", "slices.overlaps[*quickset/node.Node]"], unfollowed := true, recurses := true, apart := false, narrowed := true }
def NodeStaysUptoSaid : Prop := nodeStaysUptoRow.holds Try.pinned (OpenSpec.upto nodeStaysSpec)

/-- 'quicksetlaw06.ChampShrinks', WHERE WHAT IT READS IS OF BULK AT MOST 1048576: true; the input reads as it did. -/
def champShrinksUptoRow : OpenClaim := { program := "ytclcgelbcbnekaa", sum := "cf1ea836fb80ba0e013390ac0aef164b1b02cb4d558eb94beb66a69b9fcf239b", func := "quickset/quicksetlaw06.ChampShrinks", spec := "champShrinks", inPlace := ["slices.overlaps[quickset/pair.Pair]", "slices.overlaps[*quickset/node.Node]"], unfollowed := true, recurses := true, apart := false, narrowed := true }
def ChampShrinksUptoSaid : Prop := champShrinksUptoRow.holds Try.pinned (OpenSpec.upto champShrinksSpec)

/-- 'quicksetlaw06.ChampOwns', WHERE WHAT IT READS IS OF BULK AT MOST 1048576: true; the input reads as it did. -/
def champOwnsUptoRow : OpenClaim := { program := "ytclcgelbcbnekaa", sum := "cf1ea836fb80ba0e013390ac0aef164b1b02cb4d558eb94beb66a69b9fcf239b", func := "quickset/quicksetlaw06.ChampOwns", spec := "champOwns", inPlace := ["slices.overlaps[quickset/pair.Pair]", "slices.overlaps[*quickset/node.Node]"], unfollowed := true, recurses := true, apart := false, narrowed := true }
def ChampOwnsUptoSaid : Prop := champOwnsUptoRow.holds Try.pinned (OpenSpec.upto champOwnsSpec)

/-- 'quicksetlaw09.GaugeFresh', WHERE WHAT IT READS IS OF BULK AT MOST 1048576: true; the input reads as it did. -/
def gaugeFreshUptoRow : OpenClaim := { program := "ytclcgelbcbnekaa", sum := "cf1ea836fb80ba0e013390ac0aef164b1b02cb4d558eb94beb66a69b9fcf239b", func := "quickset/quicksetlaw09.GaugeFresh", spec := "gaugeFresh", inPlace := ["slices.overlaps[quickset/pair.Pair]", "slices.overlaps[*quickset/node.Node]"], unfollowed := true, recurses := true, apart := false, narrowed := true }
def GaugeFreshUptoSaid : Prop := gaugeFreshUptoRow.holds Try.pinned (OpenSpec.upto gaugeFreshSpec)

/-- 'quicksetlaw06.ChampCollides', WHERE WHAT IT READS IS OF BULK AT MOST 1048576: true; the input reads as it did. -/
def champCollidesUptoRow : OpenClaim := { program := "ytclcgelbcbnekaa", sum := "cf1ea836fb80ba0e013390ac0aef164b1b02cb4d558eb94beb66a69b9fcf239b", func := "quickset/quicksetlaw06.ChampCollides", spec := "champCollides", inPlace := ["slices.overlaps[quickset/pair.Pair]", "slices.overlaps[*quickset/node.Node]"], unfollowed := true, recurses := true, apart := false, narrowed := true }
def ChampCollidesUptoSaid : Prop := champCollidesUptoRow.holds Try.pinned (OpenSpec.upto champCollidesSpec)

end Rows
end Go.Proofs.Ytclcgelbcbnekaa
