/-
  DERIVED. GIVEN WITH THE SEED: THE CARDS: each row of YtdikfldogmbeaaaDoorRows.lean that lists a variable, with what it lists TIED to the program's text (the seventh form; the later family's looks); each row that meets fmt, with fmt's text TOLD by the authors' own Lean function (tested against real Go, not proved from fmt's source: count such statements apart). THE CARD IS WHAT COUNTS. Prove the row's statement (the work); the ties are given (YtdikfldogmbeaaaDoorTie.lean); close each card by the builder's one call (the guide's Derived/Test/ToyasCard.lean, 'card_holds'). Laid BY PROGRAM, IN A SANDBOX (cutbox-door.mjs). By AI agents, Wed Nov 11 2026. No macro, syntax, notation, axiom, sorry.
-/
import Derived.Test.YtdikfldogmbeaaaDoorRows
import GoSem.ClaimSeven
namespace Go.Proofs.YtdikfldogmbeaaaDoor
namespace Rows

/-- THE TIED CARD OF 'chancerykeep3.BidiIsolated'. -/
def bidiIsolatedCard : Claim7 := { stood := { row := bidiIsolatedRow, standIns := [], harness := (true, "dc325a33d721ee8d36ed2a63bc3423150babb9981c2998a8110c55e155ad6a67"), looks := false }, kinds := [], alts := [], laidByText := true, laidKinds := [.data, .widerDeep], laidTests := true, laidLooks := .later }
def BidiIsolatedCardSaid : Prop := Claim7.holds Tryd.pinned (.plain (OpenSpec.ofChange bidiIsolatedSpec)) bidiIsolatedCard

/-- THE TIED CARD OF 'chancerykeep3.BidiOneDirection'. -/
def bidiOneDirectionCard : Claim7 := { stood := { row := bidiOneDirectionRow, standIns := [], harness := (true, "dc325a33d721ee8d36ed2a63bc3423150babb9981c2998a8110c55e155ad6a67"), looks := false }, kinds := [], alts := [], laidByText := true, laidKinds := [.data, .widerDeep], laidTests := true, laidLooks := .later }
def BidiOneDirectionCardSaid : Prop := Claim7.holds Tryd.pinned (.plain (OpenSpec.ofChange bidiOneDirectionSpec)) bidiOneDirectionCard

/-- THE TIED CARD OF 'chancerykeep3.BidiOrderIsPermutation'. -/
def bidiOrderIsPermutationCard : Claim7 := { stood := { row := bidiOrderIsPermutationRow, standIns := [], harness := (true, "dc325a33d721ee8d36ed2a63bc3423150babb9981c2998a8110c55e155ad6a67"), looks := false }, kinds := [], alts := [], laidByText := true, laidKinds := [.data, .widerDeep], laidTests := true, laidLooks := .later }
def BidiOrderIsPermutationCardSaid : Prop := Claim7.holds Tryd.pinned (.plain (OpenSpec.ofChange bidiOrderIsPermutationSpec)) bidiOrderIsPermutationCard

/-- THE SECOND FORM's CARD OF 'chancerykeep3.BidiIsolated'. -/
def bidiIsolatedUptoCard : Claim7 := { stood := { row := bidiIsolatedUptoRow, standIns := [], harness := (true, "dc325a33d721ee8d36ed2a63bc3423150babb9981c2998a8110c55e155ad6a67"), looks := false }, kinds := [], alts := [], laidByText := true, laidKinds := [.data, .widerDeep], laidTests := true, laidLooks := .later }
def BidiIsolatedUptoCardSaid : Prop := Claim7.holds Tryd.pinned (.plain (OpenSpec.upto bidiIsolatedSpec)) bidiIsolatedUptoCard

/-- THE SECOND FORM's CARD OF 'chancerykeep3.BidiOneDirection'. -/
def bidiOneDirectionUptoCard : Claim7 := { stood := { row := bidiOneDirectionUptoRow, standIns := [], harness := (true, "dc325a33d721ee8d36ed2a63bc3423150babb9981c2998a8110c55e155ad6a67"), looks := false }, kinds := [], alts := [], laidByText := true, laidKinds := [.data, .widerDeep], laidTests := true, laidLooks := .later }
def BidiOneDirectionUptoCardSaid : Prop := Claim7.holds Tryd.pinned (.plain (OpenSpec.upto bidiOneDirectionSpec)) bidiOneDirectionUptoCard

/-- THE SECOND FORM's CARD OF 'chancerykeep3.BidiOrderIsPermutation'. -/
def bidiOrderIsPermutationUptoCard : Claim7 := { stood := { row := bidiOrderIsPermutationUptoRow, standIns := [], harness := (true, "dc325a33d721ee8d36ed2a63bc3423150babb9981c2998a8110c55e155ad6a67"), looks := false }, kinds := [], alts := [], laidByText := true, laidKinds := [.data, .widerDeep], laidTests := true, laidLooks := .later }
def BidiOrderIsPermutationUptoCardSaid : Prop := Claim7.holds Tryd.pinned (.plain (OpenSpec.upto bidiOrderIsPermutationSpec)) bidiOrderIsPermutationUptoCard
end Rows
end Go.Proofs.YtdikfldogmbeaaaDoor
