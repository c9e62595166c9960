/-
  No cell of these rows narrows 'for every input' (looked for: loops, veiled, ifaces, maps, wideKeys, modest, calm, conditions, laid).
  DERIVED. THE GIVEN ROWS OF THIS SEAT. 8 by the template 'for every input the law returns true; each argument reads behind the call as it read before'; 0 by the template 'total and deterministic' (their statements: YtmpeniboccahdaaTotals.lean).
  GIVEN WITH THE SEED: the statements are not yours to turn. If you find one false, say at which input.
  Laid BY PROGRAM, IN A SANDBOX (cutbox-rows.mjs): the forced cells as the released guide's own fill.sh prints them over the translation e8cbbc72c69cbe15… (all of the seat's roots in one cut). By AI agents, Wed Nov 11 2026. No macro, syntax, notation, axiom, sorry.
-/
import Derived.Test.YtmpeniboccahdaaChecked
import GoSem.Claim
import GoSem.ClaimJoined
import GoSem.ClaimMapViews
import Derived.JoinedTies
import Derived.KernelRfl
namespace Go.Proofs.Ytmpeniboccahdaa
/- THE CELL 'sum', in the pinned program and in every row, IS THE sha256 OF THE DUMP (.gsa) THAT YtmpeniboccahdaaProg.lean LOADS. Nothing in Lean hashes anything: it is a label: what it is worth is what the hold of that sum in a sandbox is worth. -/
noncomputable def Try.pinned : Pinned := { name := "ytmpeniboccahdaa", sum := "e8cbbc72c69cbe154cffc12a562be6f9f2c5b1967fdd7b333b36fd5e934363a8", checked := Try.checked }
namespace Rows
def none {H : Type} : Left H := { results := [], args := [] }

/-- 'quicksetlaw11.RadixFresh': WHATEVER THE INPUT: true; the input reads as it did. -/
def radixFreshSpec : ChangeSpec := { name := "radixFresh", fn := fun _ => fun
  | [d1, d2] => { results := [.lit (.bool true)], args := [d1, d2] }
  | _ => none }
def radixFreshRow : OpenClaim := { program := "ytmpeniboccahdaa", sum := "e8cbbc72c69cbe154cffc12a562be6f9f2c5b1967fdd7b333b36fd5e934363a8", func := "quickset/quicksetlaw11.RadixFresh", spec := "radixFresh", inPlace := ["slices.overlaps[*quickset/radix.Node]"], unfollowed := true, recurses := true, apart := false }
def RadixFreshSaid : Prop := radixFreshRow.holds Try.pinned (OpenSpec.ofChange radixFreshSpec)

/-- ITS FALSE NEIGHBOUR: 'it returns false'. Refute it at one input. -/
def radixFreshWrong : ChangeSpec := { name := "radixFresh", fn := fun _ => fun
  | [d1, d2] => { results := [.lit (.bool false)], args := [d1, d2] }
  | _ => none }
def RadixFreshWrongFalsely : Prop := radixFreshRow.holds Try.pinned (OpenSpec.ofChange radixFreshWrong)

/-- 'quicksetlaw11.RadixRaw': WHATEVER THE INPUT: true; the input reads as it did. -/
def radixRawSpec : ChangeSpec := { name := "radixRaw", fn := fun _ => fun
  | [d] => { results := [.lit (.bool true)], args := [d] }
  | _ => none }
def radixRawRow : OpenClaim := { program := "ytmpeniboccahdaa", sum := "e8cbbc72c69cbe154cffc12a562be6f9f2c5b1967fdd7b333b36fd5e934363a8", func := "quickset/quicksetlaw11.RadixRaw", spec := "radixRaw", inPlace := ["slices.overlaps[*quickset/radix.Node]"], unfollowed := true, recurses := true, apart := false }
def RadixRawSaid : Prop := radixRawRow.holds Try.pinned (OpenSpec.ofChange radixRawSpec)

/-- ITS FALSE NEIGHBOUR: 'it returns false'. Refute it at one input. -/
def radixRawWrong : ChangeSpec := { name := "radixRaw", fn := fun _ => fun
  | [d] => { results := [.lit (.bool false)], args := [d] }
  | _ => none }
def RadixRawWrongFalsely : Prop := radixRawRow.holds Try.pinned (OpenSpec.ofChange radixRawWrong)

/-- 'quicksetlaw11.RadixVersions': WHATEVER THE INPUT: true; the input reads as it did. -/
def radixVersionsSpec : ChangeSpec := { name := "radixVersions", fn := fun _ => fun
  | [d] => { results := [.lit (.bool true)], args := [d] }
  | _ => none }
def radixVersionsRow : OpenClaim := { program := "ytmpeniboccahdaa", sum := "e8cbbc72c69cbe154cffc12a562be6f9f2c5b1967fdd7b333b36fd5e934363a8", func := "quickset/quicksetlaw11.RadixVersions", spec := "radixVersions", inPlace := ["slices.overlaps[*quickset/radix.Node]"], unfollowed := true, recurses := true, apart := false }
def RadixVersionsSaid : Prop := radixVersionsRow.holds Try.pinned (OpenSpec.ofChange radixVersionsSpec)

/-- ITS FALSE NEIGHBOUR: 'it returns false'. Refute it at one input. -/
def radixVersionsWrong : ChangeSpec := { name := "radixVersions", fn := fun _ => fun
  | [d] => { results := [.lit (.bool false)], args := [d] }
  | _ => none }
def RadixVersionsWrongFalsely : Prop := radixVersionsRow.holds Try.pinned (OpenSpec.ofChange radixVersionsWrong)

/-- 'quicksetlaw11.RadixShrinks': WHATEVER THE INPUT: true; the input reads as it did. -/
def radixShrinksSpec : ChangeSpec := { name := "radixShrinks", fn := fun _ => fun
  | [d1, d2, d3] => { results := [.lit (.bool true)], args := [d1, d2, d3] }
  | _ => none }
def radixShrinksRow : OpenClaim := { program := "ytmpeniboccahdaa", sum := "e8cbbc72c69cbe154cffc12a562be6f9f2c5b1967fdd7b333b36fd5e934363a8", func := "quickset/quicksetlaw11.RadixShrinks", spec := "radixShrinks", inPlace := ["slices.overlaps[*quickset/radix.Node]"], unfollowed := true, recurses := true, apart := false }
def RadixShrinksSaid : Prop := radixShrinksRow.holds Try.pinned (OpenSpec.ofChange radixShrinksSpec)

/-- ITS FALSE NEIGHBOUR: 'it returns false'. Refute it at one input. -/
def radixShrinksWrong : ChangeSpec := { name := "radixShrinks", fn := fun _ => fun
  | [d1, d2, d3] => { results := [.lit (.bool false)], args := [d1, d2, d3] }
  | _ => none }
def RadixShrinksWrongFalsely : Prop := radixShrinksRow.holds Try.pinned (OpenSpec.ofChange radixShrinksWrong)

/-- 'quicksetlaw11.RadixPlays': WHATEVER THE INPUT: true; the input reads as it did. -/
def radixPlaysSpec : ChangeSpec := { name := "radixPlays", fn := fun _ => fun
  | [d1, d2] => { results := [.lit (.bool true)], args := [d1, d2] }
  | _ => none }
def radixPlaysRow : OpenClaim := { program := "ytmpeniboccahdaa", sum := "e8cbbc72c69cbe154cffc12a562be6f9f2c5b1967fdd7b333b36fd5e934363a8", func := "quickset/quicksetlaw11.RadixPlays", spec := "radixPlays", inPlace := ["slices.overlaps[*quickset/radix.Node]"], unfollowed := true, recurses := true, apart := false }
def RadixPlaysSaid : Prop := radixPlaysRow.holds Try.pinned (OpenSpec.ofChange radixPlaysSpec)

/-- ITS FALSE NEIGHBOUR: 'it returns false'. Refute it at one input. -/
def radixPlaysWrong : ChangeSpec := { name := "radixPlays", fn := fun _ => fun
  | [d1, d2] => { results := [.lit (.bool false)], args := [d1, d2] }
  | _ => none }
def RadixPlaysWrongFalsely : Prop := radixPlaysRow.holds Try.pinned (OpenSpec.ofChange radixPlaysWrong)

/-- 'quicksetlaw11.RadixNil': WHATEVER THE INPUT: true; the input reads as it did. -/
def radixNilSpec : ChangeSpec := { name := "radixNil", fn := fun _ => fun
  | [d] => { results := [.lit (.bool true)], args := [d] }
  | _ => none }
def radixNilRow : OpenClaim := { program := "ytmpeniboccahdaa", sum := "e8cbbc72c69cbe154cffc12a562be6f9f2c5b1967fdd7b333b36fd5e934363a8", func := "quickset/quicksetlaw11.RadixNil", spec := "radixNil", inPlace := ["slices.overlaps[*quickset/radix.Node]"], unfollowed := true, recurses := true, apart := false }
def RadixNilSaid : Prop := radixNilRow.holds Try.pinned (OpenSpec.ofChange radixNilSpec)

/-- ITS FALSE NEIGHBOUR: 'it returns false'. Refute it at one input. -/
def radixNilWrong : ChangeSpec := { name := "radixNil", fn := fun _ => fun
  | [d] => { results := [.lit (.bool false)], args := [d] }
  | _ => none }
def RadixNilWrongFalsely : Prop := radixNilRow.holds Try.pinned (OpenSpec.ofChange radixNilWrong)

/-- 'quicksetlaw11.RadixOwns': WHATEVER THE INPUT: true; the input reads as it did. -/
def radixOwnsSpec : ChangeSpec := { name := "radixOwns", fn := fun _ => fun
  | [d1, d2, d3] => { results := [.lit (.bool true)], args := [d1, d2, d3] }
  | _ => none }
def radixOwnsRow : OpenClaim := { program := "ytmpeniboccahdaa", sum := "e8cbbc72c69cbe154cffc12a562be6f9f2c5b1967fdd7b333b36fd5e934363a8", func := "quickset/quicksetlaw11.RadixOwns", spec := "radixOwns", inPlace := ["slices.overlaps[*quickset/radix.Node]"], unfollowed := true, recurses := true, apart := false }
def RadixOwnsSaid : Prop := radixOwnsRow.holds Try.pinned (OpenSpec.ofChange radixOwnsSpec)

/-- ITS FALSE NEIGHBOUR: 'it returns false'. Refute it at one input. -/
def radixOwnsWrong : ChangeSpec := { name := "radixOwns", fn := fun _ => fun
  | [d1, d2, d3] => { results := [.lit (.bool false)], args := [d1, d2, d3] }
  | _ => none }
def RadixOwnsWrongFalsely : Prop := radixOwnsRow.holds Try.pinned (OpenSpec.ofChange radixOwnsWrong)

/-- 'quicksetlaw11.RadixOrders': WHATEVER THE INPUT: true; the input reads as it did. -/
def radixOrdersSpec : ChangeSpec := { name := "radixOrders", fn := fun _ => fun
  | [d1, d2, d3, d4] => { results := [.lit (.bool true)], args := [d1, d2, d3, d4] }
  | _ => none }
def radixOrdersRow : OpenClaim := { program := "ytmpeniboccahdaa", sum := "e8cbbc72c69cbe154cffc12a562be6f9f2c5b1967fdd7b333b36fd5e934363a8", func := "quickset/quicksetlaw11.RadixOrders", spec := "radixOrders", inPlace := ["slices.overlaps[*quickset/radix.Node]"], unfollowed := true, recurses := true, apart := false }
def RadixOrdersSaid : Prop := radixOrdersRow.holds Try.pinned (OpenSpec.ofChange radixOrdersSpec)

/-- ITS FALSE NEIGHBOUR: 'it returns false'. Refute it at one input. -/
def radixOrdersWrong : ChangeSpec := { name := "radixOrders", fn := fun _ => fun
  | [d1, d2, d3, d4] => { results := [.lit (.bool false)], args := [d1, d2, d3, d4] }
  | _ => none }
def RadixOrdersWrongFalsely : Prop := radixOrdersRow.holds Try.pinned (OpenSpec.ofChange radixOrdersWrong)

/- THE SECOND FORM. 'bulk': how many values and letters a reading holds, each counted each time it is reached (what is shared counts as often as it is met; a slice's spare places count too). A statement '..UptoSaid' is the law's where the arguments, and the package variables that the reading takes, are together of bulk at most 1048576: NARROWER than '..Said'. Prove '..Said' where nothing that the law and all that it calls make is longer than what came in: it says more and counts as full. Else prove '..UptoSaid'. A law counts once. -/
mutual
def uptoBulk {H : Type} : DataW H → Nat
  | .lit (.string bytes) => bytes.length + 1
  | .lit _ => 1
  | .nil => 1
  | .ptr d => uptoBulk d + 1
  | .slice elems spare => uptoBulkAll elems + uptoBulkAll spare + 1
  | .agg parts => uptoBulkAll parts + 1
  | .iface _ d => uptoBulk d + 1
  | .map entries => uptoBulkEntries entries + 1
  | .held _ => 1
def uptoBulkAll {H : Type} : List (DataW H) → Nat
  | [] => 0
  | d :: r => uptoBulk d + uptoBulkAll r
def uptoBulkEntries {H : Type} : List (Lit × DataW H) → Nat
  | [] => 0
  | x :: r => uptoBulkEntry x + uptoBulkEntries r
def uptoBulkEntry {H : Type} : Lit × DataW H → Nat
  | (.string bytes, d) => bytes.length + uptoBulk d + 1
  | (_, d) => uptoBulk d + 1
 end
def uptoSmall : (H : Type) → List (DataW H) → Bool := fun _ ds => decide (uptoBulkAll ds ≤ 1048576)
def OpenSpec.upto (s : _root_.Go.ChangeSpec) : _root_.Go.OpenSpec := { _root_.Go.OpenSpec.ofChange s with cond := some uptoSmall }

/-- 'quicksetlaw11.RadixFresh', WHERE WHAT IT READS IS OF BULK AT MOST 1048576: true; the input reads as it did. -/
def radixFreshUptoRow : OpenClaim := { program := "ytmpeniboccahdaa", sum := "e8cbbc72c69cbe154cffc12a562be6f9f2c5b1967fdd7b333b36fd5e934363a8", func := "quickset/quicksetlaw11.RadixFresh", spec := "radixFresh", inPlace := ["slices.overlaps[*quickset/radix.Node]"], unfollowed := true, recurses := true, apart := false, narrowed := true }
def RadixFreshUptoSaid : Prop := radixFreshUptoRow.holds Try.pinned (OpenSpec.upto radixFreshSpec)

/-- 'quicksetlaw11.RadixRaw', WHERE WHAT IT READS IS OF BULK AT MOST 1048576: true; the input reads as it did. -/
def radixRawUptoRow : OpenClaim := { program := "ytmpeniboccahdaa", sum := "e8cbbc72c69cbe154cffc12a562be6f9f2c5b1967fdd7b333b36fd5e934363a8", func := "quickset/quicksetlaw11.RadixRaw", spec := "radixRaw", inPlace := ["slices.overlaps[*quickset/radix.Node]"], unfollowed := true, recurses := true, apart := false, narrowed := true }
def RadixRawUptoSaid : Prop := radixRawUptoRow.holds Try.pinned (OpenSpec.upto radixRawSpec)

/-- 'quicksetlaw11.RadixVersions', WHERE WHAT IT READS IS OF BULK AT MOST 1048576: true; the input reads as it did. -/
def radixVersionsUptoRow : OpenClaim := { program := "ytmpeniboccahdaa", sum := "e8cbbc72c69cbe154cffc12a562be6f9f2c5b1967fdd7b333b36fd5e934363a8", func := "quickset/quicksetlaw11.RadixVersions", spec := "radixVersions", inPlace := ["slices.overlaps[*quickset/radix.Node]"], unfollowed := true, recurses := true, apart := false, narrowed := true }
def RadixVersionsUptoSaid : Prop := radixVersionsUptoRow.holds Try.pinned (OpenSpec.upto radixVersionsSpec)

/-- 'quicksetlaw11.RadixShrinks', WHERE WHAT IT READS IS OF BULK AT MOST 1048576: true; the input reads as it did. -/
def radixShrinksUptoRow : OpenClaim := { program := "ytmpeniboccahdaa", sum := "e8cbbc72c69cbe154cffc12a562be6f9f2c5b1967fdd7b333b36fd5e934363a8", func := "quickset/quicksetlaw11.RadixShrinks", spec := "radixShrinks", inPlace := ["slices.overlaps[*quickset/radix.Node]"], unfollowed := true, recurses := true, apart := false, narrowed := true }
def RadixShrinksUptoSaid : Prop := radixShrinksUptoRow.holds Try.pinned (OpenSpec.upto radixShrinksSpec)

/-- 'quicksetlaw11.RadixPlays', WHERE WHAT IT READS IS OF BULK AT MOST 1048576: true; the input reads as it did. -/
def radixPlaysUptoRow : OpenClaim := { program := "ytmpeniboccahdaa", sum := "e8cbbc72c69cbe154cffc12a562be6f9f2c5b1967fdd7b333b36fd5e934363a8", func := "quickset/quicksetlaw11.RadixPlays", spec := "radixPlays", inPlace := ["slices.overlaps[*quickset/radix.Node]"], unfollowed := true, recurses := true, apart := false, narrowed := true }
def RadixPlaysUptoSaid : Prop := radixPlaysUptoRow.holds Try.pinned (OpenSpec.upto radixPlaysSpec)

/-- 'quicksetlaw11.RadixNil', WHERE WHAT IT READS IS OF BULK AT MOST 1048576: true; the input reads as it did. -/
def radixNilUptoRow : OpenClaim := { program := "ytmpeniboccahdaa", sum := "e8cbbc72c69cbe154cffc12a562be6f9f2c5b1967fdd7b333b36fd5e934363a8", func := "quickset/quicksetlaw11.RadixNil", spec := "radixNil", inPlace := ["slices.overlaps[*quickset/radix.Node]"], unfollowed := true, recurses := true, apart := false, narrowed := true }
def RadixNilUptoSaid : Prop := radixNilUptoRow.holds Try.pinned (OpenSpec.upto radixNilSpec)

/-- 'quicksetlaw11.RadixOwns', WHERE WHAT IT READS IS OF BULK AT MOST 1048576: true; the input reads as it did. -/
def radixOwnsUptoRow : OpenClaim := { program := "ytmpeniboccahdaa", sum := "e8cbbc72c69cbe154cffc12a562be6f9f2c5b1967fdd7b333b36fd5e934363a8", func := "quickset/quicksetlaw11.RadixOwns", spec := "radixOwns", inPlace := ["slices.overlaps[*quickset/radix.Node]"], unfollowed := true, recurses := true, apart := false, narrowed := true }
def RadixOwnsUptoSaid : Prop := radixOwnsUptoRow.holds Try.pinned (OpenSpec.upto radixOwnsSpec)

/-- 'quicksetlaw11.RadixOrders', WHERE WHAT IT READS IS OF BULK AT MOST 1048576: true; the input reads as it did. -/
def radixOrdersUptoRow : OpenClaim := { program := "ytmpeniboccahdaa", sum := "e8cbbc72c69cbe154cffc12a562be6f9f2c5b1967fdd7b333b36fd5e934363a8", func := "quickset/quicksetlaw11.RadixOrders", spec := "radixOrders", inPlace := ["slices.overlaps[*quickset/radix.Node]"], unfollowed := true, recurses := true, apart := false, narrowed := true }
def RadixOrdersUptoSaid : Prop := radixOrdersUptoRow.holds Try.pinned (OpenSpec.upto radixOrdersSpec)

end Rows
end Go.Proofs.Ytmpeniboccahdaa
