/-
  DERIVED. GIVEN WITH THE SEED: THE CARDS: each row of YtclcgelbcbnekaaDoorRows.lean that lists a variable, with what it lists TIED to the program's text (the seventh form; the later family's looks); each row that meets fmt, with fmt's text TOLD by the authors' own Lean function (tested against real Go, not proved from fmt's source: count such statements apart). THE CARD IS WHAT COUNTS. Prove the row's statement (the work); the ties are given (YtclcgelbcbnekaaDoorTie.lean); close each card by the builder's one call (the guide's Derived/Test/ToyasCard.lean, 'card_holds'). Laid BY PROGRAM, IN A SANDBOX (cutbox-door.mjs). By AI agents, Wed Nov 11 2026. No macro, syntax, notation, axiom, sorry.
-/
import Derived.Test.YtclcgelbcbnekaaDoorRows
import GoSem.ClaimSeven
namespace Go.Proofs.YtclcgelbcbnekaaDoor
namespace Rows

/-- THE TIED CARD OF 'quicksetlaw07.ShapeRaw'. -/
def shapeRawCard : Claim7 := { stood := { row := shapeRawRow, standIns := [], harness := (true, "5ddec61081d3440c765127731da813ef8ca6578c1f4e03bcb344bb37b47b81c9"), looks := false }, kinds := [], alts := [], laidByText := true, laidKinds := [.data], laidTests := true, laidLooks := .later }
def ShapeRawCardSaid : Prop := Claim7.holds Tryd.pinned (.plain (OpenSpec.ofChange shapeRawSpec)) shapeRawCard

/-- THE TIED CARD OF 'quicksetlaw07.ShapeBends'. -/
def shapeBendsCard : Claim7 := { stood := { row := shapeBendsRow, standIns := [], harness := (true, "5ddec61081d3440c765127731da813ef8ca6578c1f4e03bcb344bb37b47b81c9"), looks := false }, kinds := [], alts := [], laidByText := true, laidKinds := [.data], laidTests := true, laidLooks := .later }
def ShapeBendsCardSaid : Prop := Claim7.holds Tryd.pinned (.plain (OpenSpec.ofChange shapeBendsSpec)) shapeBendsCard

/-- THE TIED CARD OF 'quicksetlaw07.ShapeOwners'. -/
def shapeOwnersCard : Claim7 := { stood := { row := shapeOwnersRow, standIns := [], harness := (true, "5ddec61081d3440c765127731da813ef8ca6578c1f4e03bcb344bb37b47b81c9"), looks := false }, kinds := [], alts := [], laidByText := true, laidKinds := [.data], laidTests := true, laidLooks := .later }
def ShapeOwnersCardSaid : Prop := Claim7.holds Tryd.pinned (.plain (OpenSpec.ofChange shapeOwnersSpec)) shapeOwnersCard

/-- THE SECOND FORM's CARD OF 'quicksetlaw07.ShapeRaw'. -/
def shapeRawUptoCard : Claim7 := { stood := { row := shapeRawUptoRow, standIns := [], harness := (true, "5ddec61081d3440c765127731da813ef8ca6578c1f4e03bcb344bb37b47b81c9"), looks := false }, kinds := [], alts := [], laidByText := true, laidKinds := [.data], laidTests := true, laidLooks := .later }
def ShapeRawUptoCardSaid : Prop := Claim7.holds Tryd.pinned (.plain (OpenSpec.upto shapeRawSpec)) shapeRawUptoCard

/-- THE SECOND FORM's CARD OF 'quicksetlaw07.ShapeBends'. -/
def shapeBendsUptoCard : Claim7 := { stood := { row := shapeBendsUptoRow, standIns := [], harness := (true, "5ddec61081d3440c765127731da813ef8ca6578c1f4e03bcb344bb37b47b81c9"), looks := false }, kinds := [], alts := [], laidByText := true, laidKinds := [.data], laidTests := true, laidLooks := .later }
def ShapeBendsUptoCardSaid : Prop := Claim7.holds Tryd.pinned (.plain (OpenSpec.upto shapeBendsSpec)) shapeBendsUptoCard

/-- THE SECOND FORM's CARD OF 'quicksetlaw07.ShapeOwners'. -/
def shapeOwnersUptoCard : Claim7 := { stood := { row := shapeOwnersUptoRow, standIns := [], harness := (true, "5ddec61081d3440c765127731da813ef8ca6578c1f4e03bcb344bb37b47b81c9"), looks := false }, kinds := [], alts := [], laidByText := true, laidKinds := [.data], laidTests := true, laidLooks := .later }
def ShapeOwnersUptoCardSaid : Prop := Claim7.holds Tryd.pinned (.plain (OpenSpec.upto shapeOwnersSpec)) shapeOwnersUptoCard
end Rows
end Go.Proofs.YtclcgelbcbnekaaDoor
