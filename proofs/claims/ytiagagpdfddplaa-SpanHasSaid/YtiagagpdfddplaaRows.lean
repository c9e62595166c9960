/-
  No cell of these rows narrows 'for every input' (looked for: loops, veiled, ifaces, maps, wideKeys, modest, calm, conditions, laid).
  DERIVED. THE GIVEN ROWS OF THIS SEAT. 2 by the template 'for every input the law returns true; each argument reads behind the call as it read before'; 0 by the template 'total and deterministic' (their statements: YtiagagpdfddplaaTotals.lean).
  GIVEN WITH THE SEED: the statements are not yours to turn. If you find one false, say at which input.
  Laid BY PROGRAM, IN A SANDBOX (cutbox-rows.mjs): the forced cells as the released guide's own fill.sh prints them over the translation 27c1f4ceaab6aa04… (all of the seat's roots in one cut). By AI agents, Wed Nov 11 2026. No macro, syntax, notation, axiom, sorry.
-/
import Derived.Test.YtiagagpdfddplaaChecked
import GoSem.Claim
import GoSem.ClaimJoined
import GoSem.ClaimMapViews
import Derived.JoinedTies
import Derived.KernelRfl
namespace Go.Proofs.Ytiagagpdfddplaa
/- THE CELL 'sum', in the pinned program and in every row, IS THE sha256 OF THE DUMP (.gsa) THAT YtiagagpdfddplaaProg.lean LOADS. Nothing in Lean hashes anything: it is a label: what it is worth is what the hold of that sum in a sandbox is worth. -/
noncomputable def Try.pinned : Pinned := { name := "ytiagagpdfddplaa", sum := "27c1f4ceaab6aa04151420c5dca7c6178616e16e821c0ba07e30b90d07b2fa86", checked := Try.checked }
namespace Rows
def none {H : Type} : Left H := { results := [], args := [] }

/-- 'quicksetlaw13.SpanHas': WHATEVER THE INPUT: true; the input reads as it did. -/
def spanHasSpec : ChangeSpec := { name := "spanHas", fn := fun _ => fun
  | [d1, d2] => { results := [.lit (.bool true)], args := [d1, d2] }
  | _ => none }
def spanHasRow : OpenClaim := { program := "ytiagagpdfddplaa", sum := "27c1f4ceaab6aa04151420c5dca7c6178616e16e821c0ba07e30b90d07b2fa86", func := "quickset/quicksetlaw13.SpanHas", spec := "spanHas", inPlace := ["slices.overlaps[*quickset/radix.Node]"], unfollowed := true, recurses := true, apart := false }
def SpanHasSaid : Prop := spanHasRow.holds Try.pinned (OpenSpec.ofChange spanHasSpec)

/-- ITS FALSE NEIGHBOUR: 'it returns false'. Refute it at one input. -/
def spanHasWrong : ChangeSpec := { name := "spanHas", fn := fun _ => fun
  | [d1, d2] => { results := [.lit (.bool false)], args := [d1, d2] }
  | _ => none }
def SpanHasWrongFalsely : Prop := spanHasRow.holds Try.pinned (OpenSpec.ofChange spanHasWrong)

/-- 'quicksetlaw13.SpanPrefixes': WHATEVER THE INPUT: true; the input reads as it did. -/
def spanPrefixesSpec : ChangeSpec := { name := "spanPrefixes", fn := fun _ => fun
  | [d1, d2, d3] => { results := [.lit (.bool true)], args := [d1, d2, d3] }
  | _ => none }
def spanPrefixesRow : OpenClaim := { program := "ytiagagpdfddplaa", sum := "27c1f4ceaab6aa04151420c5dca7c6178616e16e821c0ba07e30b90d07b2fa86", func := "quickset/quicksetlaw13.SpanPrefixes", spec := "spanPrefixes", inPlace := ["slices.overlaps[*quickset/radix.Node]"], unfollowed := true, recurses := true, apart := false }
def SpanPrefixesSaid : Prop := spanPrefixesRow.holds Try.pinned (OpenSpec.ofChange spanPrefixesSpec)

/-- ITS FALSE NEIGHBOUR: 'it returns false'. Refute it at one input. -/
def spanPrefixesWrong : ChangeSpec := { name := "spanPrefixes", fn := fun _ => fun
  | [d1, d2, d3] => { results := [.lit (.bool false)], args := [d1, d2, d3] }
  | _ => none }
def SpanPrefixesWrongFalsely : Prop := spanPrefixesRow.holds Try.pinned (OpenSpec.ofChange spanPrefixesWrong)

/- THE SECOND FORM. 'bulk': how many values and letters a reading holds, each counted each time it is reached (what is shared counts as often as it is met; a slice's spare places count too). A statement '..UptoSaid' is the law's where the arguments, and the package variables that the reading takes, are together of bulk at most 1048576: NARROWER than '..Said'. Prove '..Said' where nothing that the law and all that it calls make is longer than what came in: it says more and counts as full. Else prove '..UptoSaid'. A law counts once. -/
mutual
def uptoBulk {H : Type} : DataW H → Nat
  | .lit (.string bytes) => bytes.length + 1
  | .lit _ => 1
  | .nil => 1
  | .ptr d => uptoBulk d + 1
  | .slice elems spare => uptoBulkAll elems + uptoBulkAll spare + 1
  | .agg parts => uptoBulkAll parts + 1
  | .iface _ d => uptoBulk d + 1
  | .map entries => uptoBulkEntries entries + 1
  | .held _ => 1
def uptoBulkAll {H : Type} : List (DataW H) → Nat
  | [] => 0
  | d :: r => uptoBulk d + uptoBulkAll r
def uptoBulkEntries {H : Type} : List (Lit × DataW H) → Nat
  | [] => 0
  | x :: r => uptoBulkEntry x + uptoBulkEntries r
def uptoBulkEntry {H : Type} : Lit × DataW H → Nat
  | (.string bytes, d) => bytes.length + uptoBulk d + 1
  | (_, d) => uptoBulk d + 1
 end
def uptoSmall : (H : Type) → List (DataW H) → Bool := fun _ ds => decide (uptoBulkAll ds ≤ 1048576)
def OpenSpec.upto (s : _root_.Go.ChangeSpec) : _root_.Go.OpenSpec := { _root_.Go.OpenSpec.ofChange s with cond := some uptoSmall }

/-- 'quicksetlaw13.SpanHas', WHERE WHAT IT READS IS OF BULK AT MOST 1048576: true; the input reads as it did. -/
def spanHasUptoRow : OpenClaim := { program := "ytiagagpdfddplaa", sum := "27c1f4ceaab6aa04151420c5dca7c6178616e16e821c0ba07e30b90d07b2fa86", func := "quickset/quicksetlaw13.SpanHas", spec := "spanHas", inPlace := ["slices.overlaps[*quickset/radix.Node]"], unfollowed := true, recurses := true, apart := false, narrowed := true }
def SpanHasUptoSaid : Prop := spanHasUptoRow.holds Try.pinned (OpenSpec.upto spanHasSpec)

/-- 'quicksetlaw13.SpanPrefixes', WHERE WHAT IT READS IS OF BULK AT MOST 1048576: true; the input reads as it did. -/
def spanPrefixesUptoRow : OpenClaim := { program := "ytiagagpdfddplaa", sum := "27c1f4ceaab6aa04151420c5dca7c6178616e16e821c0ba07e30b90d07b2fa86", func := "quickset/quicksetlaw13.SpanPrefixes", spec := "spanPrefixes", inPlace := ["slices.overlaps[*quickset/radix.Node]"], unfollowed := true, recurses := true, apart := false, narrowed := true }
def SpanPrefixesUptoSaid : Prop := spanPrefixesUptoRow.holds Try.pinned (OpenSpec.upto spanPrefixesSpec)

end Rows
end Go.Proofs.Ytiagagpdfddplaa
