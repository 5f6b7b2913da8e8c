/-
  DERIVED. GIVEN WITH THE SEED: THE CARDS: each row of YtnmikhmbnpiadaaDoorRows.lean that lists a variable, with what it lists TIED to the program's text (the seventh form; the later family's looks); each row that meets fmt, with fmt's text TOLD by the authors' own Lean function (tested against real Go, not proved from fmt's source: count such statements apart). THE CARD IS WHAT COUNTS. Prove the row's statement (the work); the ties are given (YtnmikhmbnpiadaaDoorTie.lean); close each card by the builder's one call (the guide's Derived/Test/ToyasCard.lean, 'card_holds'). Laid BY PROGRAM, IN A SANDBOX (cutbox-door.mjs). By AI agents, Wed Nov 11 2026. No macro, syntax, notation, axiom, sorry.
-/
import Derived.Test.YtnmikhmbnpiadaaDoorRows
import GoSem.ClaimSeven
namespace Go.Proofs.YtnmikhmbnpiadaaDoor
namespace Rows

/-- THE TIED CARD OF 'chancerykeep3.ShapeTurnKeepsSides'. -/
def shapeTurnKeepsSidesCard : Claim7 := { stood := { row := shapeTurnKeepsSidesRow, standIns := [], harness := (true, "0033d5c4f99aef9b82c08da9c1357e50926af6b85babfc5968ccf75c8792d8fc"), looks := false }, kinds := [], alts := [], laidByText := true, laidKinds := [.data], laidTests := true, laidLooks := .later }
def ShapeTurnKeepsSidesCardSaid : Prop := Claim7.holds Tryd.pinned (.plain (OpenSpec.ofChange shapeTurnKeepsSidesSpec)) shapeTurnKeepsSidesCard

/-- THE TIED CARD OF 'chancerykeep3.ShapeQuarterTurns'. -/
def shapeQuarterTurnsCard : Claim7 := { stood := { row := shapeQuarterTurnsRow, standIns := [], harness := (true, "0033d5c4f99aef9b82c08da9c1357e50926af6b85babfc5968ccf75c8792d8fc"), looks := false }, kinds := [], alts := [], laidByText := true, laidKinds := [.data], laidTests := true, laidLooks := .later }
def ShapeQuarterTurnsCardSaid : Prop := Claim7.holds Tryd.pinned (.plain (OpenSpec.ofChange shapeQuarterTurnsSpec)) shapeQuarterTurnsCard

/-- THE TIED CARD OF 'chancerykeep3.ShapeHitMiddle'. -/
def shapeHitMiddleCard : Claim7 := { stood := { row := shapeHitMiddleRow, standIns := [], harness := (true, "0033d5c4f99aef9b82c08da9c1357e50926af6b85babfc5968ccf75c8792d8fc"), looks := false }, kinds := [], alts := [], laidByText := true, laidKinds := [.data], laidTests := true, laidLooks := .later }
def ShapeHitMiddleCardSaid : Prop := Claim7.holds Tryd.pinned (.plain (OpenSpec.ofChange shapeHitMiddleSpec)) shapeHitMiddleCard

/-- THE TIED CARD OF 'chancerykeep3.ShapeUngroupTurned'. -/
def shapeUngroupTurnedCard : Claim7 := { stood := { row := shapeUngroupTurnedRow, standIns := [], harness := (true, "0033d5c4f99aef9b82c08da9c1357e50926af6b85babfc5968ccf75c8792d8fc"), looks := false }, kinds := [], alts := [], laidByText := true, laidKinds := [.data], laidTests := true, laidLooks := .later }
def ShapeUngroupTurnedCardSaid : Prop := Claim7.holds Tryd.pinned (.plain (OpenSpec.ofChange shapeUngroupTurnedSpec)) shapeUngroupTurnedCard

/-- THE TIED CARD OF 'chancerykeep3.ShapeAlignedTwice'. -/
def shapeAlignedTwiceCard : Claim7 := { stood := { row := shapeAlignedTwiceRow, standIns := [], harness := (true, "0033d5c4f99aef9b82c08da9c1357e50926af6b85babfc5968ccf75c8792d8fc"), looks := false }, kinds := [], alts := [], laidByText := true, laidKinds := [.data], laidTests := true, laidLooks := .later }
def ShapeAlignedTwiceCardSaid : Prop := Claim7.holds Tryd.pinned (.plain (OpenSpec.ofChange shapeAlignedTwiceSpec)) shapeAlignedTwiceCard

/-- THE TIED CARD OF 'chancerykeep3.ShapeGroupStays'. -/
def shapeGroupStaysCard : Claim7 := { stood := { row := shapeGroupStaysRow, standIns := [], harness := (true, "0033d5c4f99aef9b82c08da9c1357e50926af6b85babfc5968ccf75c8792d8fc"), looks := false }, kinds := [], alts := [], laidByText := true, laidKinds := [.data], laidTests := true, laidLooks := .later }
def ShapeGroupStaysCardSaid : Prop := Claim7.holds Tryd.pinned (.plain (OpenSpec.ofChange shapeGroupStaysSpec)) shapeGroupStaysCard

/-- THE SECOND FORM's CARD OF 'chancerykeep3.ShapeTurnKeepsSides'. -/
def shapeTurnKeepsSidesUptoCard : Claim7 := { stood := { row := shapeTurnKeepsSidesUptoRow, standIns := [], harness := (true, "0033d5c4f99aef9b82c08da9c1357e50926af6b85babfc5968ccf75c8792d8fc"), looks := false }, kinds := [], alts := [], laidByText := true, laidKinds := [.data], laidTests := true, laidLooks := .later }
def ShapeTurnKeepsSidesUptoCardSaid : Prop := Claim7.holds Tryd.pinned (.plain (OpenSpec.upto shapeTurnKeepsSidesSpec)) shapeTurnKeepsSidesUptoCard

/-- THE SECOND FORM's CARD OF 'chancerykeep3.ShapeQuarterTurns'. -/
def shapeQuarterTurnsUptoCard : Claim7 := { stood := { row := shapeQuarterTurnsUptoRow, standIns := [], harness := (true, "0033d5c4f99aef9b82c08da9c1357e50926af6b85babfc5968ccf75c8792d8fc"), looks := false }, kinds := [], alts := [], laidByText := true, laidKinds := [.data], laidTests := true, laidLooks := .later }
def ShapeQuarterTurnsUptoCardSaid : Prop := Claim7.holds Tryd.pinned (.plain (OpenSpec.upto shapeQuarterTurnsSpec)) shapeQuarterTurnsUptoCard

/-- THE SECOND FORM's CARD OF 'chancerykeep3.ShapeHitMiddle'. -/
def shapeHitMiddleUptoCard : Claim7 := { stood := { row := shapeHitMiddleUptoRow, standIns := [], harness := (true, "0033d5c4f99aef9b82c08da9c1357e50926af6b85babfc5968ccf75c8792d8fc"), looks := false }, kinds := [], alts := [], laidByText := true, laidKinds := [.data], laidTests := true, laidLooks := .later }
def ShapeHitMiddleUptoCardSaid : Prop := Claim7.holds Tryd.pinned (.plain (OpenSpec.upto shapeHitMiddleSpec)) shapeHitMiddleUptoCard

/-- THE SECOND FORM's CARD OF 'chancerykeep3.ShapeUngroupTurned'. -/
def shapeUngroupTurnedUptoCard : Claim7 := { stood := { row := shapeUngroupTurnedUptoRow, standIns := [], harness := (true, "0033d5c4f99aef9b82c08da9c1357e50926af6b85babfc5968ccf75c8792d8fc"), looks := false }, kinds := [], alts := [], laidByText := true, laidKinds := [.data], laidTests := true, laidLooks := .later }
def ShapeUngroupTurnedUptoCardSaid : Prop := Claim7.holds Tryd.pinned (.plain (OpenSpec.upto shapeUngroupTurnedSpec)) shapeUngroupTurnedUptoCard

/-- THE SECOND FORM's CARD OF 'chancerykeep3.ShapeAlignedTwice'. -/
def shapeAlignedTwiceUptoCard : Claim7 := { stood := { row := shapeAlignedTwiceUptoRow, standIns := [], harness := (true, "0033d5c4f99aef9b82c08da9c1357e50926af6b85babfc5968ccf75c8792d8fc"), looks := false }, kinds := [], alts := [], laidByText := true, laidKinds := [.data], laidTests := true, laidLooks := .later }
def ShapeAlignedTwiceUptoCardSaid : Prop := Claim7.holds Tryd.pinned (.plain (OpenSpec.upto shapeAlignedTwiceSpec)) shapeAlignedTwiceUptoCard

/-- THE SECOND FORM's CARD OF 'chancerykeep3.ShapeGroupStays'. -/
def shapeGroupStaysUptoCard : Claim7 := { stood := { row := shapeGroupStaysUptoRow, standIns := [], harness := (true, "0033d5c4f99aef9b82c08da9c1357e50926af6b85babfc5968ccf75c8792d8fc"), looks := false }, kinds := [], alts := [], laidByText := true, laidKinds := [.data], laidTests := true, laidLooks := .later }
def ShapeGroupStaysUptoCardSaid : Prop := Claim7.holds Tryd.pinned (.plain (OpenSpec.upto shapeGroupStaysSpec)) shapeGroupStaysUptoCard
end Rows
end Go.Proofs.YtnmikhmbnpiadaaDoor
