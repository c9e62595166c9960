/-
  DERIVED. GIVEN WITH THE SEED: THE CARDS: each row of YtbmakajadelckaaDoorRows.lean that lists a variable, with what it lists TIED to the program's text (the seventh form; the later family's looks); each row that meets fmt, with fmt's text TOLD by the authors' own Lean function (tested against real Go, not proved from fmt's source: count such statements apart). THE CARD IS WHAT COUNTS. Prove the row's statement (the work); the ties are given (YtbmakajadelckaaDoorTie.lean); close each card by the builder's one call (the guide's Derived/Test/ToyasCard.lean, 'card_holds'). Laid BY PROGRAM, IN A SANDBOX (cutbox-door.mjs). By AI agents, Wed Nov 11 2026. No macro, syntax, notation, axiom, sorry.
-/
import Derived.Test.YtbmakajadelckaaDoorRows
import GoSem.ClaimSeven
namespace Go.Proofs.YtbmakajadelckaaDoor
namespace Rows

/-- THE TIED CARD OF 'quicksetlaw07.ShapeTexts'. -/
def shapeTextsCard : Claim7 := { stood := { row := shapeTextsRow, standIns := [], harness := (true, "c9a105c74bff07e5802931d9444dab67225fe81aa77992d1b910c10eda412358"), looks := false }, kinds := [], alts := [], laidByText := true, laidKinds := [.data], laidTests := true, laidLooks := .later }
def ShapeTextsCardSaid : Prop := Claim7.holds Tryd.pinned (.plain (OpenSpec.ofChange shapeTextsSpec)) shapeTextsCard

/-- THE TIED CARD OF 'quicksetlaw07.ShapeTries'. -/
def shapeTriesCard : Claim7 := { stood := { row := shapeTriesRow, standIns := [], harness := (true, "c9a105c74bff07e5802931d9444dab67225fe81aa77992d1b910c10eda412358"), looks := false }, kinds := [], alts := [], laidByText := true, laidKinds := [.data], laidTests := true, laidLooks := .later }
def ShapeTriesCardSaid : Prop := Claim7.holds Tryd.pinned (.plain (OpenSpec.ofChange shapeTriesSpec)) shapeTriesCard

/-- THE SECOND FORM's CARD OF 'quicksetlaw07.ShapeTexts'. -/
def shapeTextsUptoCard : Claim7 := { stood := { row := shapeTextsUptoRow, standIns := [], harness := (true, "c9a105c74bff07e5802931d9444dab67225fe81aa77992d1b910c10eda412358"), looks := false }, kinds := [], alts := [], laidByText := true, laidKinds := [.data], laidTests := true, laidLooks := .later }
def ShapeTextsUptoCardSaid : Prop := Claim7.holds Tryd.pinned (.plain (OpenSpec.upto shapeTextsSpec)) shapeTextsUptoCard

/-- THE SECOND FORM's CARD OF 'quicksetlaw07.ShapeTries'. -/
def shapeTriesUptoCard : Claim7 := { stood := { row := shapeTriesUptoRow, standIns := [], harness := (true, "c9a105c74bff07e5802931d9444dab67225fe81aa77992d1b910c10eda412358"), looks := false }, kinds := [], alts := [], laidByText := true, laidKinds := [.data], laidTests := true, laidLooks := .later }
def ShapeTriesUptoCardSaid : Prop := Claim7.holds Tryd.pinned (.plain (OpenSpec.upto shapeTriesSpec)) shapeTriesUptoCard
end Rows
end Go.Proofs.YtbmakajadelckaaDoor
