/-
  DERIVED. GIVEN WITH THE SEED: THE CARDS: each row of YtajodnldhnehcaaDoorRows.lean that lists a variable, with what it lists TIED to the program's text (the seventh form; the later family's looks); each row that meets fmt, with fmt's text TOLD by the authors' own Lean function (tested against real Go, not proved from fmt's source: count such statements apart). THE CARD IS WHAT COUNTS. Prove the row's statement (the work); the ties are given (YtajodnldhnehcaaDoorTie.lean); close each card by the builder's one call (the guide's Derived/Test/ToyasCard.lean, 'card_holds'). Laid BY PROGRAM, IN A SANDBOX (cutbox-door.mjs). By AI agents, Wed Nov 11 2026. No macro, syntax, notation, axiom, sorry.
-/
import Derived.Test.YtajodnldhnehcaaDoorRows
import GoSem.ClaimSeven
namespace Go.Proofs.YtajodnldhnehcaaDoor
namespace Rows

/-- THE TIED CARD OF 'quicksetlaw07.ShapeRaw'. -/
def shapeRawCard : Claim7 := { stood := { row := shapeRawRow, standIns := [], harness := (true, "f1592fe7695f89f010d8d87614f9bf4e32656f749e34558bf2d470c212c6e171"), looks := false }, kinds := [], alts := [], laidByText := true, laidKinds := [.data], laidTests := true, laidLooks := .later }
def ShapeRawCardSaid : Prop := Claim7.holds Tryd.pinned (.plain (OpenSpec.ofChange shapeRawSpec)) shapeRawCard

/-- THE TIED CARD OF 'quicksetlaw07.ShapeBends'. -/
def shapeBendsCard : Claim7 := { stood := { row := shapeBendsRow, standIns := [], harness := (true, "f1592fe7695f89f010d8d87614f9bf4e32656f749e34558bf2d470c212c6e171"), looks := false }, kinds := [], alts := [], laidByText := true, laidKinds := [.data], laidTests := true, laidLooks := .later }
def ShapeBendsCardSaid : Prop := Claim7.holds Tryd.pinned (.plain (OpenSpec.ofChange shapeBendsSpec)) shapeBendsCard

/-- THE TIED CARD OF 'quicksetlaw07.ShapeTries'. -/
def shapeTriesCard : Claim7 := { stood := { row := shapeTriesRow, standIns := [], harness := (true, "f1592fe7695f89f010d8d87614f9bf4e32656f749e34558bf2d470c212c6e171"), looks := false }, kinds := [], alts := [], laidByText := true, laidKinds := [.data], laidTests := true, laidLooks := .later }
def ShapeTriesCardSaid : Prop := Claim7.holds Tryd.pinned (.plain (OpenSpec.ofChange shapeTriesSpec)) shapeTriesCard

/-- THE TIED CARD OF 'quicksetlaw07.ShapeHashers'. -/
def shapeHashersCard : Claim7 := { stood := { row := shapeHashersRow, standIns := [], harness := (true, "f1592fe7695f89f010d8d87614f9bf4e32656f749e34558bf2d470c212c6e171"), looks := false }, kinds := [], alts := [], laidByText := true, laidKinds := [.data], laidTests := true, laidLooks := .later }
def ShapeHashersCardSaid : Prop := Claim7.holds Tryd.pinned (.plain (OpenSpec.ofChange shapeHashersSpec)) shapeHashersCard

/-- THE TIED CARD OF 'quicksetlaw07.ShapeOwners'. -/
def shapeOwnersCard : Claim7 := { stood := { row := shapeOwnersRow, standIns := [], harness := (true, "f1592fe7695f89f010d8d87614f9bf4e32656f749e34558bf2d470c212c6e171"), looks := false }, kinds := [], alts := [], laidByText := true, laidKinds := [.data], laidTests := true, laidLooks := .later }
def ShapeOwnersCardSaid : Prop := Claim7.holds Tryd.pinned (.plain (OpenSpec.ofChange shapeOwnersSpec)) shapeOwnersCard

/-- THE SECOND FORM's CARD OF 'quicksetlaw07.ShapeRaw'. -/
def shapeRawUptoCard : Claim7 := { stood := { row := shapeRawUptoRow, standIns := [], harness := (true, "f1592fe7695f89f010d8d87614f9bf4e32656f749e34558bf2d470c212c6e171"), looks := false }, kinds := [], alts := [], laidByText := true, laidKinds := [.data], laidTests := true, laidLooks := .later }
def ShapeRawUptoCardSaid : Prop := Claim7.holds Tryd.pinned (.plain (OpenSpec.upto shapeRawSpec)) shapeRawUptoCard

/-- THE SECOND FORM's CARD OF 'quicksetlaw07.ShapeBends'. -/
def shapeBendsUptoCard : Claim7 := { stood := { row := shapeBendsUptoRow, standIns := [], harness := (true, "f1592fe7695f89f010d8d87614f9bf4e32656f749e34558bf2d470c212c6e171"), looks := false }, kinds := [], alts := [], laidByText := true, laidKinds := [.data], laidTests := true, laidLooks := .later }
def ShapeBendsUptoCardSaid : Prop := Claim7.holds Tryd.pinned (.plain (OpenSpec.upto shapeBendsSpec)) shapeBendsUptoCard

/-- THE SECOND FORM's CARD OF 'quicksetlaw07.ShapeTries'. -/
def shapeTriesUptoCard : Claim7 := { stood := { row := shapeTriesUptoRow, standIns := [], harness := (true, "f1592fe7695f89f010d8d87614f9bf4e32656f749e34558bf2d470c212c6e171"), looks := false }, kinds := [], alts := [], laidByText := true, laidKinds := [.data], laidTests := true, laidLooks := .later }
def ShapeTriesUptoCardSaid : Prop := Claim7.holds Tryd.pinned (.plain (OpenSpec.upto shapeTriesSpec)) shapeTriesUptoCard

/-- THE SECOND FORM's CARD OF 'quicksetlaw07.ShapeHashers'. -/
def shapeHashersUptoCard : Claim7 := { stood := { row := shapeHashersUptoRow, standIns := [], harness := (true, "f1592fe7695f89f010d8d87614f9bf4e32656f749e34558bf2d470c212c6e171"), looks := false }, kinds := [], alts := [], laidByText := true, laidKinds := [.data], laidTests := true, laidLooks := .later }
def ShapeHashersUptoCardSaid : Prop := Claim7.holds Tryd.pinned (.plain (OpenSpec.upto shapeHashersSpec)) shapeHashersUptoCard

/-- THE SECOND FORM's CARD OF 'quicksetlaw07.ShapeOwners'. -/
def shapeOwnersUptoCard : Claim7 := { stood := { row := shapeOwnersUptoRow, standIns := [], harness := (true, "f1592fe7695f89f010d8d87614f9bf4e32656f749e34558bf2d470c212c6e171"), looks := false }, kinds := [], alts := [], laidByText := true, laidKinds := [.data], laidTests := true, laidLooks := .later }
def ShapeOwnersUptoCardSaid : Prop := Claim7.holds Tryd.pinned (.plain (OpenSpec.upto shapeOwnersSpec)) shapeOwnersUptoCard
end Rows
end Go.Proofs.YtajodnldhnehcaaDoor
