/-
  No cell of these rows narrows 'for every input' (looked for: loops, veiled, ifaces, maps, wideKeys, modest, calm, conditions, laid).
  DERIVED. THE GIVEN ROWS OF THIS SEAT. 6 by the template 'for every input the law returns true; each argument reads behind the call as it read before'; 0 by the template 'total and deterministic' (their statements: YtbplddiopajocaaTotals.lean).
  GIVEN WITH THE SEED: the statements are not yours to turn. If you find one false, say at which input.
  Laid BY PROGRAM, IN A SANDBOX (cutbox-rows.mjs): the forced cells as the released guide's own fill.sh prints them over the translation 10b7f12a8c729ebe… (all of the seat's roots in one cut). By AI agents, Wed Nov 11 2026. No macro, syntax, notation, axiom, sorry.
-/
import Derived.Test.YtbplddiopajocaaChecked
import GoSem.Claim
import GoSem.ClaimJoined
import GoSem.ClaimMapViews
import Derived.JoinedTies
import Derived.KernelRfl
namespace Go.Proofs.Ytbplddiopajocaa
/- THE CELL 'sum', in the pinned program and in every row, IS THE sha256 OF THE DUMP (.gsa) THAT YtbplddiopajocaaProg.lean LOADS. Nothing in Lean hashes anything: it is a label: what it is worth is what the hold of that sum in a sandbox is worth. -/
noncomputable def Try.pinned : Pinned := { name := "ytbplddiopajocaa", sum := "10b7f12a8c729ebe77d7604b70fdfca3cc748d0bd60a34c916c6d600326e0570", checked := Try.checked }
namespace Rows
def none {H : Type} : Left H := { results := [], args := [] }

/-- 'quicksetlaw11.RadixFresh': WHATEVER THE INPUT: true; the input reads as it did. -/
def radixFreshSpec : ChangeSpec := { name := "radixFresh", fn := fun _ => fun
  | [d1, d2] => { results := [.lit (.bool true)], args := [d1, d2] }
  | _ => none }
def radixFreshRow : OpenClaim := { program := "ytbplddiopajocaa", sum := "10b7f12a8c729ebe77d7604b70fdfca3cc748d0bd60a34c916c6d600326e0570", func := "quickset/quicksetlaw11.RadixFresh", spec := "radixFresh", inPlace := ["slices.overlaps[*quickset/radix.Node]"], unfollowed := true, recurses := true, apart := false }
def RadixFreshSaid : Prop := radixFreshRow.holds Try.pinned (OpenSpec.ofChange radixFreshSpec)

/-- ITS FALSE NEIGHBOUR: 'it returns false'. Refute it at one input. -/
def radixFreshWrong : ChangeSpec := { name := "radixFresh", fn := fun _ => fun
  | [d1, d2] => { results := [.lit (.bool false)], args := [d1, d2] }
  | _ => none }
def RadixFreshWrongFalsely : Prop := radixFreshRow.holds Try.pinned (OpenSpec.ofChange radixFreshWrong)

/-- 'quicksetlaw13.SpanGoes': WHATEVER THE INPUT: true; the input reads as it did. -/
def spanGoesSpec : ChangeSpec := { name := "spanGoes", fn := fun _ => fun
  | [d1, d2, d3, d4] => { results := [.lit (.bool true)], args := [d1, d2, d3, d4] }
  | _ => none }
def spanGoesRow : OpenClaim := { program := "ytbplddiopajocaa", sum := "10b7f12a8c729ebe77d7604b70fdfca3cc748d0bd60a34c916c6d600326e0570", func := "quickset/quicksetlaw13.SpanGoes", spec := "spanGoes", inPlace := ["slices.overlaps[*quickset/radix.Node]"], unfollowed := true, recurses := true, apart := false }
def SpanGoesSaid : Prop := spanGoesRow.holds Try.pinned (OpenSpec.ofChange spanGoesSpec)

/-- ITS FALSE NEIGHBOUR: 'it returns false'. Refute it at one input. -/
def spanGoesWrong : ChangeSpec := { name := "spanGoes", fn := fun _ => fun
  | [d1, d2, d3, d4] => { results := [.lit (.bool false)], args := [d1, d2, d3, d4] }
  | _ => none }
def SpanGoesWrongFalsely : Prop := spanGoesRow.holds Try.pinned (OpenSpec.ofChange spanGoesWrong)

/-- 'quicksetlaw13.SpanNil': WHATEVER THE INPUT: true; the input reads as it did. -/
def spanNilSpec : ChangeSpec := { name := "spanNil", fn := fun _ => fun
  | [d1, d2] => { results := [.lit (.bool true)], args := [d1, d2] }
  | _ => none }
def spanNilRow : OpenClaim := { program := "ytbplddiopajocaa", sum := "10b7f12a8c729ebe77d7604b70fdfca3cc748d0bd60a34c916c6d600326e0570", func := "quickset/quicksetlaw13.SpanNil", spec := "spanNil", inPlace := ["slices.overlaps[*quickset/radix.Node]"], unfollowed := true, recurses := true, apart := false }
def SpanNilSaid : Prop := spanNilRow.holds Try.pinned (OpenSpec.ofChange spanNilSpec)

/-- ITS FALSE NEIGHBOUR: 'it returns false'. Refute it at one input. -/
def spanNilWrong : ChangeSpec := { name := "spanNil", fn := fun _ => fun
  | [d1, d2] => { results := [.lit (.bool false)], args := [d1, d2] }
  | _ => none }
def SpanNilWrongFalsely : Prop := spanNilRow.holds Try.pinned (OpenSpec.ofChange spanNilWrong)

/-- 'quicksetlaw13.SpanParts': WHATEVER THE INPUT: true; the input reads as it did. -/
def spanPartsSpec : ChangeSpec := { name := "spanParts", fn := fun _ => fun
  | [d1, d2, d3, d4, d5] => { results := [.lit (.bool true)], args := [d1, d2, d3, d4, d5] }
  | _ => none }
def spanPartsRow : OpenClaim := { program := "ytbplddiopajocaa", sum := "10b7f12a8c729ebe77d7604b70fdfca3cc748d0bd60a34c916c6d600326e0570", func := "quickset/quicksetlaw13.SpanParts", spec := "spanParts", inPlace := ["slices.overlaps[*quickset/radix.Node]"], unfollowed := true, recurses := true, apart := false }
def SpanPartsSaid : Prop := spanPartsRow.holds Try.pinned (OpenSpec.ofChange spanPartsSpec)

/-- ITS FALSE NEIGHBOUR: 'it returns false'. Refute it at one input. -/
def spanPartsWrong : ChangeSpec := { name := "spanParts", fn := fun _ => fun
  | [d1, d2, d3, d4, d5] => { results := [.lit (.bool false)], args := [d1, d2, d3, d4, d5] }
  | _ => none }
def SpanPartsWrongFalsely : Prop := spanPartsRow.holds Try.pinned (OpenSpec.ofChange spanPartsWrong)

/-- 'quicksetlaw13.SpanNests': WHATEVER THE INPUT: true; the input reads as it did. -/
def spanNestsSpec : ChangeSpec := { name := "spanNests", fn := fun _ => fun
  | [d1, d2, d3] => { results := [.lit (.bool true)], args := [d1, d2, d3] }
  | _ => none }
def spanNestsRow : OpenClaim := { program := "ytbplddiopajocaa", sum := "10b7f12a8c729ebe77d7604b70fdfca3cc748d0bd60a34c916c6d600326e0570", func := "quickset/quicksetlaw13.SpanNests", spec := "spanNests", inPlace := ["slices.overlaps[*quickset/radix.Node]"], unfollowed := true, recurses := true, apart := false }
def SpanNestsSaid : Prop := spanNestsRow.holds Try.pinned (OpenSpec.ofChange spanNestsSpec)

/-- ITS FALSE NEIGHBOUR: 'it returns false'. Refute it at one input. -/
def spanNestsWrong : ChangeSpec := { name := "spanNests", fn := fun _ => fun
  | [d1, d2, d3] => { results := [.lit (.bool false)], args := [d1, d2, d3] }
  | _ => none }
def SpanNestsWrongFalsely : Prop := spanNestsRow.holds Try.pinned (OpenSpec.ofChange spanNestsWrong)

/-- 'quicksetlaw11.RadixOwns': WHATEVER THE INPUT: true; the input reads as it did. -/
def radixOwnsSpec : ChangeSpec := { name := "radixOwns", fn := fun _ => fun
  | [d1, d2, d3] => { results := [.lit (.bool true)], args := [d1, d2, d3] }
  | _ => none }
def radixOwnsRow : OpenClaim := { program := "ytbplddiopajocaa", sum := "10b7f12a8c729ebe77d7604b70fdfca3cc748d0bd60a34c916c6d600326e0570", func := "quickset/quicksetlaw11.RadixOwns", spec := "radixOwns", inPlace := ["slices.overlaps[*quickset/radix.Node]"], unfollowed := true, recurses := true, apart := false }
def RadixOwnsSaid : Prop := radixOwnsRow.holds Try.pinned (OpenSpec.ofChange radixOwnsSpec)

/-- ITS FALSE NEIGHBOUR: 'it returns false'. Refute it at one input. -/
def radixOwnsWrong : ChangeSpec := { name := "radixOwns", fn := fun _ => fun
  | [d1, d2, d3] => { results := [.lit (.bool false)], args := [d1, d2, d3] }
  | _ => none }
def RadixOwnsWrongFalsely : Prop := radixOwnsRow.holds Try.pinned (OpenSpec.ofChange radixOwnsWrong)

/- THE SECOND FORM. 'bulk': how many values and letters a reading holds, each counted each time it is reached (what is shared counts as often as it is met; a slice's spare places count too). A statement '..UptoSaid' is the law's where the arguments, and the package variables that the reading takes, are together of bulk at most 1048576: NARROWER than '..Said'. Prove '..Said' where nothing that the law and all that it calls make is longer than what came in: it says more and counts as full. Else prove '..UptoSaid'. A law counts once. -/
mutual
def uptoBulk {H : Type} : DataW H → Nat
  | .lit (.string bytes) => bytes.length + 1
  | .lit _ => 1
  | .nil => 1
  | .ptr d => uptoBulk d + 1
  | .slice elems spare => uptoBulkAll elems + uptoBulkAll spare + 1
  | .agg parts => uptoBulkAll parts + 1
  | .iface _ d => uptoBulk d + 1
  | .map entries => uptoBulkEntries entries + 1
  | .held _ => 1
def uptoBulkAll {H : Type} : List (DataW H) → Nat
  | [] => 0
  | d :: r => uptoBulk d + uptoBulkAll r
def uptoBulkEntries {H : Type} : List (Lit × DataW H) → Nat
  | [] => 0
  | x :: r => uptoBulkEntry x + uptoBulkEntries r
def uptoBulkEntry {H : Type} : Lit × DataW H → Nat
  | (.string bytes, d) => bytes.length + uptoBulk d + 1
  | (_, d) => uptoBulk d + 1
 end
def uptoSmall : (H : Type) → List (DataW H) → Bool := fun _ ds => decide (uptoBulkAll ds ≤ 1048576)
def OpenSpec.upto (s : _root_.Go.ChangeSpec) : _root_.Go.OpenSpec := { _root_.Go.OpenSpec.ofChange s with cond := some uptoSmall }

/-- 'quicksetlaw11.RadixFresh', WHERE WHAT IT READS IS OF BULK AT MOST 1048576: true; the input reads as it did. -/
def radixFreshUptoRow : OpenClaim := { program := "ytbplddiopajocaa", sum := "10b7f12a8c729ebe77d7604b70fdfca3cc748d0bd60a34c916c6d600326e0570", func := "quickset/quicksetlaw11.RadixFresh", spec := "radixFresh", inPlace := ["slices.overlaps[*quickset/radix.Node]"], unfollowed := true, recurses := true, apart := false, narrowed := true }
def RadixFreshUptoSaid : Prop := radixFreshUptoRow.holds Try.pinned (OpenSpec.upto radixFreshSpec)

/-- 'quicksetlaw13.SpanGoes', WHERE WHAT IT READS IS OF BULK AT MOST 1048576: true; the input reads as it did. -/
def spanGoesUptoRow : OpenClaim := { program := "ytbplddiopajocaa", sum := "10b7f12a8c729ebe77d7604b70fdfca3cc748d0bd60a34c916c6d600326e0570", func := "quickset/quicksetlaw13.SpanGoes", spec := "spanGoes", inPlace := ["slices.overlaps[*quickset/radix.Node]"], unfollowed := true, recurses := true, apart := false, narrowed := true }
def SpanGoesUptoSaid : Prop := spanGoesUptoRow.holds Try.pinned (OpenSpec.upto spanGoesSpec)

/-- 'quicksetlaw13.SpanNil', WHERE WHAT IT READS IS OF BULK AT MOST 1048576: true; the input reads as it did. -/
def spanNilUptoRow : OpenClaim := { program := "ytbplddiopajocaa", sum := "10b7f12a8c729ebe77d7604b70fdfca3cc748d0bd60a34c916c6d600326e0570", func := "quickset/quicksetlaw13.SpanNil", spec := "spanNil", inPlace := ["slices.overlaps[*quickset/radix.Node]"], unfollowed := true, recurses := true, apart := false, narrowed := true }
def SpanNilUptoSaid : Prop := spanNilUptoRow.holds Try.pinned (OpenSpec.upto spanNilSpec)

/-- 'quicksetlaw13.SpanParts', WHERE WHAT IT READS IS OF BULK AT MOST 1048576: true; the input reads as it did. -/
def spanPartsUptoRow : OpenClaim := { program := "ytbplddiopajocaa", sum := "10b7f12a8c729ebe77d7604b70fdfca3cc748d0bd60a34c916c6d600326e0570", func := "quickset/quicksetlaw13.SpanParts", spec := "spanParts", inPlace := ["slices.overlaps[*quickset/radix.Node]"], unfollowed := true, recurses := true, apart := false, narrowed := true }
def SpanPartsUptoSaid : Prop := spanPartsUptoRow.holds Try.pinned (OpenSpec.upto spanPartsSpec)

/-- 'quicksetlaw13.SpanNests', WHERE WHAT IT READS IS OF BULK AT MOST 1048576: true; the input reads as it did. -/
def spanNestsUptoRow : OpenClaim := { program := "ytbplddiopajocaa", sum := "10b7f12a8c729ebe77d7604b70fdfca3cc748d0bd60a34c916c6d600326e0570", func := "quickset/quicksetlaw13.SpanNests", spec := "spanNests", inPlace := ["slices.overlaps[*quickset/radix.Node]"], unfollowed := true, recurses := true, apart := false, narrowed := true }
def SpanNestsUptoSaid : Prop := spanNestsUptoRow.holds Try.pinned (OpenSpec.upto spanNestsSpec)

/-- 'quicksetlaw11.RadixOwns', WHERE WHAT IT READS IS OF BULK AT MOST 1048576: true; the input reads as it did. -/
def radixOwnsUptoRow : OpenClaim := { program := "ytbplddiopajocaa", sum := "10b7f12a8c729ebe77d7604b70fdfca3cc748d0bd60a34c916c6d600326e0570", func := "quickset/quicksetlaw11.RadixOwns", spec := "radixOwns", inPlace := ["slices.overlaps[*quickset/radix.Node]"], unfollowed := true, recurses := true, apart := false, narrowed := true }
def RadixOwnsUptoSaid : Prop := radixOwnsUptoRow.holds Try.pinned (OpenSpec.upto radixOwnsSpec)

end Rows
end Go.Proofs.Ytbplddiopajocaa
