/-
  No cell of these rows narrows 'for every input' (looked for: loops, veiled, ifaces, maps, wideKeys, modest, calm, conditions, laid).
  DERIVED. THE GIVEN ROWS OF THIS SEAT. 12 by the template 'for every input the law returns true; each argument reads behind the call as it read before'; 0 by the template 'total and deterministic' (their statements: YtaehdkgmkjhmgaaTotals.lean).
  GIVEN WITH THE SEED: the statements are not yours to turn. If you find one false, say at which input.
  Laid BY PROGRAM, IN A SANDBOX (cutbox-rows.mjs): the forced cells as the released guide's own fill.sh prints them over the translation 1fcfaf79cf5cc35e… (all of the seat's roots in one cut). By AI agents, Wed Nov 11 2026. No macro, syntax, notation, axiom, sorry.
-/
import Derived.Test.YtaehdkgmkjhmgaaChecked
import GoSem.Claim
import GoSem.ClaimJoined
import GoSem.ClaimMapViews
import Derived.JoinedTies
import Derived.KernelRfl
namespace Go.Proofs.Ytaehdkgmkjhmgaa
/- THE CELL 'sum', in the pinned program and in every row, IS THE sha256 OF THE DUMP (.gsa) THAT YtaehdkgmkjhmgaaProg.lean LOADS. Nothing in Lean hashes anything: it is a label: what it is worth is what the hold of that sum in a sandbox is worth. -/
noncomputable def Try.pinned : Pinned := { name := "ytaehdkgmkjhmgaa", sum := "1fcfaf79cf5cc35e6fe4b01dea679bd8dcd9677e7cd910b28b4bc7cb79069523", checked := Try.checked }
namespace Rows
def none {H : Type} : Left H := { results := [], args := [] }

/-- 'quicksetlaw13.SpanPrefixes': WHATEVER THE INPUT: true; the input reads as it did. -/
def spanPrefixesSpec : ChangeSpec := { name := "spanPrefixes", fn := fun _ => fun
  | [d1, d2, d3] => { results := [.lit (.bool true)], args := [d1, d2, d3] }
  | _ => none }
def spanPrefixesRow : OpenClaim := { program := "ytaehdkgmkjhmgaa", sum := "1fcfaf79cf5cc35e6fe4b01dea679bd8dcd9677e7cd910b28b4bc7cb79069523", func := "quickset/quicksetlaw13.SpanPrefixes", spec := "spanPrefixes", inPlace := ["slices.overlaps[*quickset/radix.Node]"], unfollowed := true, recurses := true, apart := false }
def SpanPrefixesSaid : Prop := spanPrefixesRow.holds Try.pinned (OpenSpec.ofChange spanPrefixesSpec)

/-- ITS FALSE NEIGHBOUR: 'it returns false'. Refute it at one input. -/
def spanPrefixesWrong : ChangeSpec := { name := "spanPrefixes", fn := fun _ => fun
  | [d1, d2, d3] => { results := [.lit (.bool false)], args := [d1, d2, d3] }
  | _ => none }
def SpanPrefixesWrongFalsely : Prop := spanPrefixesRow.holds Try.pinned (OpenSpec.ofChange spanPrefixesWrong)

/-- 'quicksetlaw13.SpanGoes': WHATEVER THE INPUT: true; the input reads as it did. -/
def spanGoesSpec : ChangeSpec := { name := "spanGoes", fn := fun _ => fun
  | [d1, d2, d3, d4] => { results := [.lit (.bool true)], args := [d1, d2, d3, d4] }
  | _ => none }
def spanGoesRow : OpenClaim := { program := "ytaehdkgmkjhmgaa", sum := "1fcfaf79cf5cc35e6fe4b01dea679bd8dcd9677e7cd910b28b4bc7cb79069523", func := "quickset/quicksetlaw13.SpanGoes", spec := "spanGoes", inPlace := ["slices.overlaps[*quickset/radix.Node]"], unfollowed := true, recurses := true, apart := false }
def SpanGoesSaid : Prop := spanGoesRow.holds Try.pinned (OpenSpec.ofChange spanGoesSpec)

/-- ITS FALSE NEIGHBOUR: 'it returns false'. Refute it at one input. -/
def spanGoesWrong : ChangeSpec := { name := "spanGoes", fn := fun _ => fun
  | [d1, d2, d3, d4] => { results := [.lit (.bool false)], args := [d1, d2, d3, d4] }
  | _ => none }
def SpanGoesWrongFalsely : Prop := spanGoesRow.holds Try.pinned (OpenSpec.ofChange spanGoesWrong)

/-- 'quicksetlaw13.SpanNil': WHATEVER THE INPUT: true; the input reads as it did. -/
def spanNilSpec : ChangeSpec := { name := "spanNil", fn := fun _ => fun
  | [d1, d2] => { results := [.lit (.bool true)], args := [d1, d2] }
  | _ => none }
def spanNilRow : OpenClaim := { program := "ytaehdkgmkjhmgaa", sum := "1fcfaf79cf5cc35e6fe4b01dea679bd8dcd9677e7cd910b28b4bc7cb79069523", func := "quickset/quicksetlaw13.SpanNil", spec := "spanNil", inPlace := ["slices.overlaps[*quickset/radix.Node]"], unfollowed := true, recurses := true, apart := false }
def SpanNilSaid : Prop := spanNilRow.holds Try.pinned (OpenSpec.ofChange spanNilSpec)

/-- ITS FALSE NEIGHBOUR: 'it returns false'. Refute it at one input. -/
def spanNilWrong : ChangeSpec := { name := "spanNil", fn := fun _ => fun
  | [d1, d2] => { results := [.lit (.bool false)], args := [d1, d2] }
  | _ => none }
def SpanNilWrongFalsely : Prop := spanNilRow.holds Try.pinned (OpenSpec.ofChange spanNilWrong)

/-- 'quicksetlaw13.SpanParts': WHATEVER THE INPUT: true; the input reads as it did. -/
def spanPartsSpec : ChangeSpec := { name := "spanParts", fn := fun _ => fun
  | [d1, d2, d3, d4, d5] => { results := [.lit (.bool true)], args := [d1, d2, d3, d4, d5] }
  | _ => none }
def spanPartsRow : OpenClaim := { program := "ytaehdkgmkjhmgaa", sum := "1fcfaf79cf5cc35e6fe4b01dea679bd8dcd9677e7cd910b28b4bc7cb79069523", func := "quickset/quicksetlaw13.SpanParts", spec := "spanParts", inPlace := ["slices.overlaps[*quickset/radix.Node]"], unfollowed := true, recurses := true, apart := false }
def SpanPartsSaid : Prop := spanPartsRow.holds Try.pinned (OpenSpec.ofChange spanPartsSpec)

/-- ITS FALSE NEIGHBOUR: 'it returns false'. Refute it at one input. -/
def spanPartsWrong : ChangeSpec := { name := "spanParts", fn := fun _ => fun
  | [d1, d2, d3, d4, d5] => { results := [.lit (.bool false)], args := [d1, d2, d3, d4, d5] }
  | _ => none }
def SpanPartsWrongFalsely : Prop := spanPartsRow.holds Try.pinned (OpenSpec.ofChange spanPartsWrong)

/-- 'quicksetlaw13.SpanNests': WHATEVER THE INPUT: true; the input reads as it did. -/
def spanNestsSpec : ChangeSpec := { name := "spanNests", fn := fun _ => fun
  | [d1, d2, d3] => { results := [.lit (.bool true)], args := [d1, d2, d3] }
  | _ => none }
def spanNestsRow : OpenClaim := { program := "ytaehdkgmkjhmgaa", sum := "1fcfaf79cf5cc35e6fe4b01dea679bd8dcd9677e7cd910b28b4bc7cb79069523", func := "quickset/quicksetlaw13.SpanNests", spec := "spanNests", inPlace := ["slices.overlaps[*quickset/radix.Node]"], unfollowed := true, recurses := true, apart := false }
def SpanNestsSaid : Prop := spanNestsRow.holds Try.pinned (OpenSpec.ofChange spanNestsSpec)

/-- ITS FALSE NEIGHBOUR: 'it returns false'. Refute it at one input. -/
def spanNestsWrong : ChangeSpec := { name := "spanNests", fn := fun _ => fun
  | [d1, d2, d3] => { results := [.lit (.bool false)], args := [d1, d2, d3] }
  | _ => none }
def SpanNestsWrongFalsely : Prop := spanNestsRow.holds Try.pinned (OpenSpec.ofChange spanNestsWrong)

/-- 'quicksetlaw13.SpanResumes': WHATEVER THE INPUT: true; the input reads as it did. -/
def spanResumesSpec : ChangeSpec := { name := "spanResumes", fn := fun _ => fun
  | [d1, d2, d3, d4, d5] => { results := [.lit (.bool true)], args := [d1, d2, d3, d4, d5] }
  | _ => none }
def spanResumesRow : OpenClaim := { program := "ytaehdkgmkjhmgaa", sum := "1fcfaf79cf5cc35e6fe4b01dea679bd8dcd9677e7cd910b28b4bc7cb79069523", func := "quickset/quicksetlaw13.SpanResumes", spec := "spanResumes", inPlace := ["slices.overlaps[*quickset/radix.Node]"], unfollowed := true, recurses := true, apart := false }
def SpanResumesSaid : Prop := spanResumesRow.holds Try.pinned (OpenSpec.ofChange spanResumesSpec)

/-- ITS FALSE NEIGHBOUR: 'it returns false'. Refute it at one input. -/
def spanResumesWrong : ChangeSpec := { name := "spanResumes", fn := fun _ => fun
  | [d1, d2, d3, d4, d5] => { results := [.lit (.bool false)], args := [d1, d2, d3, d4, d5] }
  | _ => none }
def SpanResumesWrongFalsely : Prop := spanResumesRow.holds Try.pinned (OpenSpec.ofChange spanResumesWrong)

/-- 'quicksetlaw12.NearSteps': WHATEVER THE INPUT: true; the input reads as it did. -/
def nearStepsSpec : ChangeSpec := { name := "nearSteps", fn := fun _ => fun
  | [d] => { results := [.lit (.bool true)], args := [d] }
  | _ => none }
def nearStepsRow : OpenClaim := { program := "ytaehdkgmkjhmgaa", sum := "1fcfaf79cf5cc35e6fe4b01dea679bd8dcd9677e7cd910b28b4bc7cb79069523", func := "quickset/quicksetlaw12.NearSteps", spec := "nearSteps", inPlace := ["slices.overlaps[*quickset/radix.Node]"], unfollowed := true, recurses := true, apart := false }
def NearStepsSaid : Prop := nearStepsRow.holds Try.pinned (OpenSpec.ofChange nearStepsSpec)

/-- ITS FALSE NEIGHBOUR: 'it returns false'. Refute it at one input. -/
def nearStepsWrong : ChangeSpec := { name := "nearSteps", fn := fun _ => fun
  | [d] => { results := [.lit (.bool false)], args := [d] }
  | _ => none }
def NearStepsWrongFalsely : Prop := nearStepsRow.holds Try.pinned (OpenSpec.ofChange nearStepsWrong)

/-- 'quicksetlaw12.NearLongest': WHATEVER THE INPUT: true; the input reads as it did. -/
def nearLongestSpec : ChangeSpec := { name := "nearLongest", fn := fun _ => fun
  | [d1, d2] => { results := [.lit (.bool true)], args := [d1, d2] }
  | _ => none }
def nearLongestRow : OpenClaim := { program := "ytaehdkgmkjhmgaa", sum := "1fcfaf79cf5cc35e6fe4b01dea679bd8dcd9677e7cd910b28b4bc7cb79069523", func := "quickset/quicksetlaw12.NearLongest", spec := "nearLongest", inPlace := ["slices.overlaps[*quickset/radix.Node]"], unfollowed := true, recurses := true, apart := false }
def NearLongestSaid : Prop := nearLongestRow.holds Try.pinned (OpenSpec.ofChange nearLongestSpec)

/-- ITS FALSE NEIGHBOUR: 'it returns false'. Refute it at one input. -/
def nearLongestWrong : ChangeSpec := { name := "nearLongest", fn := fun _ => fun
  | [d1, d2] => { results := [.lit (.bool false)], args := [d1, d2] }
  | _ => none }
def NearLongestWrongFalsely : Prop := nearLongestRow.holds Try.pinned (OpenSpec.ofChange nearLongestWrong)

/-- 'quicksetlaw12.NearEnds': WHATEVER THE INPUT: true; the input reads as it did. -/
def nearEndsSpec : ChangeSpec := { name := "nearEnds", fn := fun _ => fun
  | [d1, d2] => { results := [.lit (.bool true)], args := [d1, d2] }
  | _ => none }
def nearEndsRow : OpenClaim := { program := "ytaehdkgmkjhmgaa", sum := "1fcfaf79cf5cc35e6fe4b01dea679bd8dcd9677e7cd910b28b4bc7cb79069523", func := "quickset/quicksetlaw12.NearEnds", spec := "nearEnds", inPlace := ["slices.overlaps[*quickset/radix.Node]"], unfollowed := true, recurses := true, apart := false }
def NearEndsSaid : Prop := nearEndsRow.holds Try.pinned (OpenSpec.ofChange nearEndsSpec)

/-- ITS FALSE NEIGHBOUR: 'it returns false'. Refute it at one input. -/
def nearEndsWrong : ChangeSpec := { name := "nearEnds", fn := fun _ => fun
  | [d1, d2] => { results := [.lit (.bool false)], args := [d1, d2] }
  | _ => none }
def NearEndsWrongFalsely : Prop := nearEndsRow.holds Try.pinned (OpenSpec.ofChange nearEndsWrong)

/-- 'quicksetlaw12.NearSides': WHATEVER THE INPUT: true; the input reads as it did. -/
def nearSidesSpec : ChangeSpec := { name := "nearSides", fn := fun _ => fun
  | [d1, d2] => { results := [.lit (.bool true)], args := [d1, d2] }
  | _ => none }
def nearSidesRow : OpenClaim := { program := "ytaehdkgmkjhmgaa", sum := "1fcfaf79cf5cc35e6fe4b01dea679bd8dcd9677e7cd910b28b4bc7cb79069523", func := "quickset/quicksetlaw12.NearSides", spec := "nearSides", inPlace := ["slices.overlaps[*quickset/radix.Node]"], unfollowed := true, recurses := true, apart := false }
def NearSidesSaid : Prop := nearSidesRow.holds Try.pinned (OpenSpec.ofChange nearSidesSpec)

/-- ITS FALSE NEIGHBOUR: 'it returns false'. Refute it at one input. -/
def nearSidesWrong : ChangeSpec := { name := "nearSides", fn := fun _ => fun
  | [d1, d2] => { results := [.lit (.bool false)], args := [d1, d2] }
  | _ => none }
def NearSidesWrongFalsely : Prop := nearSidesRow.holds Try.pinned (OpenSpec.ofChange nearSidesWrong)

/-- 'quicksetlaw12.NearKeys': WHATEVER THE INPUT: true; the input reads as it did. -/
def nearKeysSpec : ChangeSpec := { name := "nearKeys", fn := fun _ => fun
  | [d1, d2] => { results := [.lit (.bool true)], args := [d1, d2] }
  | _ => none }
def nearKeysRow : OpenClaim := { program := "ytaehdkgmkjhmgaa", sum := "1fcfaf79cf5cc35e6fe4b01dea679bd8dcd9677e7cd910b28b4bc7cb79069523", func := "quickset/quicksetlaw12.NearKeys", spec := "nearKeys", inPlace := ["slices.overlaps[*quickset/radix.Node]"], unfollowed := true, recurses := true, apart := false }
def NearKeysSaid : Prop := nearKeysRow.holds Try.pinned (OpenSpec.ofChange nearKeysSpec)

/-- ITS FALSE NEIGHBOUR: 'it returns false'. Refute it at one input. -/
def nearKeysWrong : ChangeSpec := { name := "nearKeys", fn := fun _ => fun
  | [d1, d2] => { results := [.lit (.bool false)], args := [d1, d2] }
  | _ => none }
def NearKeysWrongFalsely : Prop := nearKeysRow.holds Try.pinned (OpenSpec.ofChange nearKeysWrong)

/-- 'quicksetlaw12.NearNil': WHATEVER THE INPUT: true; the input reads as it did. -/
def nearNilSpec : ChangeSpec := { name := "nearNil", fn := fun _ => fun
  | [d1, d2] => { results := [.lit (.bool true)], args := [d1, d2] }
  | _ => none }
def nearNilRow : OpenClaim := { program := "ytaehdkgmkjhmgaa", sum := "1fcfaf79cf5cc35e6fe4b01dea679bd8dcd9677e7cd910b28b4bc7cb79069523", func := "quickset/quicksetlaw12.NearNil", spec := "nearNil", inPlace := ["slices.overlaps[*quickset/radix.Node]"], unfollowed := true, recurses := true, apart := false }
def NearNilSaid : Prop := nearNilRow.holds Try.pinned (OpenSpec.ofChange nearNilSpec)

/-- ITS FALSE NEIGHBOUR: 'it returns false'. Refute it at one input. -/
def nearNilWrong : ChangeSpec := { name := "nearNil", fn := fun _ => fun
  | [d1, d2] => { results := [.lit (.bool false)], args := [d1, d2] }
  | _ => none }
def NearNilWrongFalsely : Prop := nearNilRow.holds Try.pinned (OpenSpec.ofChange nearNilWrong)

/- THE SECOND FORM. 'bulk': how many values and letters a reading holds, each counted each time it is reached (what is shared counts as often as it is met; a slice's spare places count too). A statement '..UptoSaid' is the law's where the arguments, and the package variables that the reading takes, are together of bulk at most 1048576: NARROWER than '..Said'. Prove '..Said' where nothing that the law and all that it calls make is longer than what came in: it says more and counts as full. Else prove '..UptoSaid'. A law counts once. -/
mutual
def uptoBulk {H : Type} : DataW H → Nat
  | .lit (.string bytes) => bytes.length + 1
  | .lit _ => 1
  | .nil => 1
  | .ptr d => uptoBulk d + 1
  | .slice elems spare => uptoBulkAll elems + uptoBulkAll spare + 1
  | .agg parts => uptoBulkAll parts + 1
  | .iface _ d => uptoBulk d + 1
  | .map entries => uptoBulkEntries entries + 1
  | .held _ => 1
def uptoBulkAll {H : Type} : List (DataW H) → Nat
  | [] => 0
  | d :: r => uptoBulk d + uptoBulkAll r
def uptoBulkEntries {H : Type} : List (Lit × DataW H) → Nat
  | [] => 0
  | x :: r => uptoBulkEntry x + uptoBulkEntries r
def uptoBulkEntry {H : Type} : Lit × DataW H → Nat
  | (.string bytes, d) => bytes.length + uptoBulk d + 1
  | (_, d) => uptoBulk d + 1
 end
def uptoSmall : (H : Type) → List (DataW H) → Bool := fun _ ds => decide (uptoBulkAll ds ≤ 1048576)
def OpenSpec.upto (s : _root_.Go.ChangeSpec) : _root_.Go.OpenSpec := { _root_.Go.OpenSpec.ofChange s with cond := some uptoSmall }

/-- 'quicksetlaw13.SpanPrefixes', WHERE WHAT IT READS IS OF BULK AT MOST 1048576: true; the input reads as it did. -/
def spanPrefixesUptoRow : OpenClaim := { program := "ytaehdkgmkjhmgaa", sum := "1fcfaf79cf5cc35e6fe4b01dea679bd8dcd9677e7cd910b28b4bc7cb79069523", func := "quickset/quicksetlaw13.SpanPrefixes", spec := "spanPrefixes", inPlace := ["slices.overlaps[*quickset/radix.Node]"], unfollowed := true, recurses := true, apart := false, narrowed := true }
def SpanPrefixesUptoSaid : Prop := spanPrefixesUptoRow.holds Try.pinned (OpenSpec.upto spanPrefixesSpec)

/-- 'quicksetlaw13.SpanGoes', WHERE WHAT IT READS IS OF BULK AT MOST 1048576: true; the input reads as it did. -/
def spanGoesUptoRow : OpenClaim := { program := "ytaehdkgmkjhmgaa", sum := "1fcfaf79cf5cc35e6fe4b01dea679bd8dcd9677e7cd910b28b4bc7cb79069523", func := "quickset/quicksetlaw13.SpanGoes", spec := "spanGoes", inPlace := ["slices.overlaps[*quickset/radix.Node]"], unfollowed := true, recurses := true, apart := false, narrowed := true }
def SpanGoesUptoSaid : Prop := spanGoesUptoRow.holds Try.pinned (OpenSpec.upto spanGoesSpec)

/-- 'quicksetlaw13.SpanNil', WHERE WHAT IT READS IS OF BULK AT MOST 1048576: true; the input reads as it did. -/
def spanNilUptoRow : OpenClaim := { program := "ytaehdkgmkjhmgaa", sum := "1fcfaf79cf5cc35e6fe4b01dea679bd8dcd9677e7cd910b28b4bc7cb79069523", func := "quickset/quicksetlaw13.SpanNil", spec := "spanNil", inPlace := ["slices.overlaps[*quickset/radix.Node]"], unfollowed := true, recurses := true, apart := false, narrowed := true }
def SpanNilUptoSaid : Prop := spanNilUptoRow.holds Try.pinned (OpenSpec.upto spanNilSpec)

/-- 'quicksetlaw13.SpanParts', WHERE WHAT IT READS IS OF BULK AT MOST 1048576: true; the input reads as it did. -/
def spanPartsUptoRow : OpenClaim := { program := "ytaehdkgmkjhmgaa", sum := "1fcfaf79cf5cc35e6fe4b01dea679bd8dcd9677e7cd910b28b4bc7cb79069523", func := "quickset/quicksetlaw13.SpanParts", spec := "spanParts", inPlace := ["slices.overlaps[*quickset/radix.Node]"], unfollowed := true, recurses := true, apart := false, narrowed := true }
def SpanPartsUptoSaid : Prop := spanPartsUptoRow.holds Try.pinned (OpenSpec.upto spanPartsSpec)

/-- 'quicksetlaw13.SpanNests', WHERE WHAT IT READS IS OF BULK AT MOST 1048576: true; the input reads as it did. -/
def spanNestsUptoRow : OpenClaim := { program := "ytaehdkgmkjhmgaa", sum := "1fcfaf79cf5cc35e6fe4b01dea679bd8dcd9677e7cd910b28b4bc7cb79069523", func := "quickset/quicksetlaw13.SpanNests", spec := "spanNests", inPlace := ["slices.overlaps[*quickset/radix.Node]"], unfollowed := true, recurses := true, apart := false, narrowed := true }
def SpanNestsUptoSaid : Prop := spanNestsUptoRow.holds Try.pinned (OpenSpec.upto spanNestsSpec)

/-- 'quicksetlaw13.SpanResumes', WHERE WHAT IT READS IS OF BULK AT MOST 1048576: true; the input reads as it did. -/
def spanResumesUptoRow : OpenClaim := { program := "ytaehdkgmkjhmgaa", sum := "1fcfaf79cf5cc35e6fe4b01dea679bd8dcd9677e7cd910b28b4bc7cb79069523", func := "quickset/quicksetlaw13.SpanResumes", spec := "spanResumes", inPlace := ["slices.overlaps[*quickset/radix.Node]"], unfollowed := true, recurses := true, apart := false, narrowed := true }
def SpanResumesUptoSaid : Prop := spanResumesUptoRow.holds Try.pinned (OpenSpec.upto spanResumesSpec)

/-- 'quicksetlaw12.NearSteps', WHERE WHAT IT READS IS OF BULK AT MOST 1048576: true; the input reads as it did. -/
def nearStepsUptoRow : OpenClaim := { program := "ytaehdkgmkjhmgaa", sum := "1fcfaf79cf5cc35e6fe4b01dea679bd8dcd9677e7cd910b28b4bc7cb79069523", func := "quickset/quicksetlaw12.NearSteps", spec := "nearSteps", inPlace := ["slices.overlaps[*quickset/radix.Node]"], unfollowed := true, recurses := true, apart := false, narrowed := true }
def NearStepsUptoSaid : Prop := nearStepsUptoRow.holds Try.pinned (OpenSpec.upto nearStepsSpec)

/-- 'quicksetlaw12.NearLongest', WHERE WHAT IT READS IS OF BULK AT MOST 1048576: true; the input reads as it did. -/
def nearLongestUptoRow : OpenClaim := { program := "ytaehdkgmkjhmgaa", sum := "1fcfaf79cf5cc35e6fe4b01dea679bd8dcd9677e7cd910b28b4bc7cb79069523", func := "quickset/quicksetlaw12.NearLongest", spec := "nearLongest", inPlace := ["slices.overlaps[*quickset/radix.Node]"], unfollowed := true, recurses := true, apart := false, narrowed := true }
def NearLongestUptoSaid : Prop := nearLongestUptoRow.holds Try.pinned (OpenSpec.upto nearLongestSpec)

/-- 'quicksetlaw12.NearEnds', WHERE WHAT IT READS IS OF BULK AT MOST 1048576: true; the input reads as it did. -/
def nearEndsUptoRow : OpenClaim := { program := "ytaehdkgmkjhmgaa", sum := "1fcfaf79cf5cc35e6fe4b01dea679bd8dcd9677e7cd910b28b4bc7cb79069523", func := "quickset/quicksetlaw12.NearEnds", spec := "nearEnds", inPlace := ["slices.overlaps[*quickset/radix.Node]"], unfollowed := true, recurses := true, apart := false, narrowed := true }
def NearEndsUptoSaid : Prop := nearEndsUptoRow.holds Try.pinned (OpenSpec.upto nearEndsSpec)

/-- 'quicksetlaw12.NearSides', WHERE WHAT IT READS IS OF BULK AT MOST 1048576: true; the input reads as it did. -/
def nearSidesUptoRow : OpenClaim := { program := "ytaehdkgmkjhmgaa", sum := "1fcfaf79cf5cc35e6fe4b01dea679bd8dcd9677e7cd910b28b4bc7cb79069523", func := "quickset/quicksetlaw12.NearSides", spec := "nearSides", inPlace := ["slices.overlaps[*quickset/radix.Node]"], unfollowed := true, recurses := true, apart := false, narrowed := true }
def NearSidesUptoSaid : Prop := nearSidesUptoRow.holds Try.pinned (OpenSpec.upto nearSidesSpec)

/-- 'quicksetlaw12.NearKeys', WHERE WHAT IT READS IS OF BULK AT MOST 1048576: true; the input reads as it did. -/
def nearKeysUptoRow : OpenClaim := { program := "ytaehdkgmkjhmgaa", sum := "1fcfaf79cf5cc35e6fe4b01dea679bd8dcd9677e7cd910b28b4bc7cb79069523", func := "quickset/quicksetlaw12.NearKeys", spec := "nearKeys", inPlace := ["slices.overlaps[*quickset/radix.Node]"], unfollowed := true, recurses := true, apart := false, narrowed := true }
def NearKeysUptoSaid : Prop := nearKeysUptoRow.holds Try.pinned (OpenSpec.upto nearKeysSpec)

/-- 'quicksetlaw12.NearNil', WHERE WHAT IT READS IS OF BULK AT MOST 1048576: true; the input reads as it did. -/
def nearNilUptoRow : OpenClaim := { program := "ytaehdkgmkjhmgaa", sum := "1fcfaf79cf5cc35e6fe4b01dea679bd8dcd9677e7cd910b28b4bc7cb79069523", func := "quickset/quicksetlaw12.NearNil", spec := "nearNil", inPlace := ["slices.overlaps[*quickset/radix.Node]"], unfollowed := true, recurses := true, apart := false, narrowed := true }
def NearNilUptoSaid : Prop := nearNilUptoRow.holds Try.pinned (OpenSpec.upto nearNilSpec)

end Rows
end Go.Proofs.Ytaehdkgmkjhmgaa
