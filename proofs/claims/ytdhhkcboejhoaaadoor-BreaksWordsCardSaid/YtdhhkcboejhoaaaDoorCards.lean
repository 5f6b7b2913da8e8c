/-
  DERIVED. GIVEN WITH THE SEED: THE CARDS: each row of YtdhhkcboejhoaaaDoorRows.lean that lists a variable, with what it lists TIED to the program's text (the seventh form; the later family's looks); each row that meets fmt, with fmt's text TOLD by the authors' own Lean function (tested against real Go, not proved from fmt's source: count such statements apart). THE CARD IS WHAT COUNTS. Prove the row's statement (the work); the ties are given (YtdhhkcboejhoaaaDoorTie.lean); close each card by the builder's one call (the guide's Derived/Test/ToyasCard.lean, 'card_holds'). Laid BY PROGRAM, IN A SANDBOX (cutbox-door.mjs). By AI agents, Wed Nov 11 2026. No macro, syntax, notation, axiom, sorry.
-/
import Derived.Test.YtdhhkcboejhoaaaDoorRows
import GoSem.ClaimSeven
namespace Go.Proofs.YtdhhkcboejhoaaaDoor
namespace Rows

/-- THE TIED CARD OF 'chancerykeep3.BreaksWords'. -/
def breaksWordsCard : Claim7 := { stood := { row := breaksWordsRow, standIns := [], harness := (true, "615198ff36b7c7e435cabbe38a7256887dfbc5d265756060a0dddb598d2df81c"), looks := false }, kinds := [], alts := [], laidByText := true, laidKinds := [.widerDeep], laidTests := true, laidLooks := .later }
def BreaksWordsCardSaid : Prop := Claim7.holds Tryd.pinned (.plain (OpenSpec.ofChange breaksWordsSpec)) breaksWordsCard

/-- THE TIED CARD OF 'chancerykeep3.BreaksMustBehindNewlines'. -/
def breaksMustBehindNewlinesCard : Claim7 := { stood := { row := breaksMustBehindNewlinesRow, standIns := [], harness := (true, "615198ff36b7c7e435cabbe38a7256887dfbc5d265756060a0dddb598d2df81c"), looks := false }, kinds := [], alts := [], laidByText := true, laidKinds := [.widerDeep], laidTests := true, laidLooks := .later }
def BreaksMustBehindNewlinesCardSaid : Prop := Claim7.holds Tryd.pinned (.plain (OpenSpec.ofChange breaksMustBehindNewlinesSpec)) breaksMustBehindNewlinesCard

/-- THE TIED CARD OF 'chancerykeep3.BreaksKeepClusters'. -/
def breaksKeepClustersCard : Claim7 := { stood := { row := breaksKeepClustersRow, standIns := [], harness := (true, "615198ff36b7c7e435cabbe38a7256887dfbc5d265756060a0dddb598d2df81c"), looks := false }, kinds := [], alts := [], laidByText := true, laidKinds := [.widerDeep], laidTests := true, laidLooks := .later }
def BreaksKeepClustersCardSaid : Prop := Claim7.holds Tryd.pinned (.plain (OpenSpec.ofChange breaksKeepClustersSpec)) breaksKeepClustersCard

/-- THE TIED CARD OF 'chancerykeep3.MetricFitNarrows'. -/
def metricFitNarrowsCard : Claim7 := { stood := { row := metricFitNarrowsRow, standIns := [], harness := (true, "615198ff36b7c7e435cabbe38a7256887dfbc5d265756060a0dddb598d2df81c"), looks := false }, kinds := [], alts := [], laidByText := true, laidKinds := [.widerDeep, .widerDeep], laidTests := true, laidLooks := .later }
def MetricFitNarrowsCardSaid : Prop := Claim7.holds Tryd.pinned (.plain (OpenSpec.ofChange metricFitNarrowsSpec)) metricFitNarrowsCard

/-- THE TIED CARD OF 'chancerykeep3.MetricFixedAlike'. -/
def metricFixedAlikeCard : Claim7 := { stood := { row := metricFixedAlikeRow, standIns := [], harness := (true, "615198ff36b7c7e435cabbe38a7256887dfbc5d265756060a0dddb598d2df81c"), looks := false }, kinds := [], alts := [], laidByText := true, laidKinds := [.widerDeep, .widerDeep], laidTests := true, laidLooks := .later }
def MetricFixedAlikeCardSaid : Prop := Claim7.holds Tryd.pinned (.plain (OpenSpec.ofChange metricFixedAlikeSpec)) metricFixedAlikeCard

/-- THE SECOND FORM's CARD OF 'chancerykeep3.BreaksWords'. -/
def breaksWordsUptoCard : Claim7 := { stood := { row := breaksWordsUptoRow, standIns := [], harness := (true, "615198ff36b7c7e435cabbe38a7256887dfbc5d265756060a0dddb598d2df81c"), looks := false }, kinds := [], alts := [], laidByText := true, laidKinds := [.widerDeep], laidTests := true, laidLooks := .later }
def BreaksWordsUptoCardSaid : Prop := Claim7.holds Tryd.pinned (.plain (OpenSpec.upto breaksWordsSpec)) breaksWordsUptoCard

/-- THE SECOND FORM's CARD OF 'chancerykeep3.BreaksMustBehindNewlines'. -/
def breaksMustBehindNewlinesUptoCard : Claim7 := { stood := { row := breaksMustBehindNewlinesUptoRow, standIns := [], harness := (true, "615198ff36b7c7e435cabbe38a7256887dfbc5d265756060a0dddb598d2df81c"), looks := false }, kinds := [], alts := [], laidByText := true, laidKinds := [.widerDeep], laidTests := true, laidLooks := .later }
def BreaksMustBehindNewlinesUptoCardSaid : Prop := Claim7.holds Tryd.pinned (.plain (OpenSpec.upto breaksMustBehindNewlinesSpec)) breaksMustBehindNewlinesUptoCard

/-- THE SECOND FORM's CARD OF 'chancerykeep3.BreaksKeepClusters'. -/
def breaksKeepClustersUptoCard : Claim7 := { stood := { row := breaksKeepClustersUptoRow, standIns := [], harness := (true, "615198ff36b7c7e435cabbe38a7256887dfbc5d265756060a0dddb598d2df81c"), looks := false }, kinds := [], alts := [], laidByText := true, laidKinds := [.widerDeep], laidTests := true, laidLooks := .later }
def BreaksKeepClustersUptoCardSaid : Prop := Claim7.holds Tryd.pinned (.plain (OpenSpec.upto breaksKeepClustersSpec)) breaksKeepClustersUptoCard

/-- THE SECOND FORM's CARD OF 'chancerykeep3.MetricFitNarrows'. -/
def metricFitNarrowsUptoCard : Claim7 := { stood := { row := metricFitNarrowsUptoRow, standIns := [], harness := (true, "615198ff36b7c7e435cabbe38a7256887dfbc5d265756060a0dddb598d2df81c"), looks := false }, kinds := [], alts := [], laidByText := true, laidKinds := [.widerDeep, .widerDeep], laidTests := true, laidLooks := .later }
def MetricFitNarrowsUptoCardSaid : Prop := Claim7.holds Tryd.pinned (.plain (OpenSpec.upto metricFitNarrowsSpec)) metricFitNarrowsUptoCard

/-- THE SECOND FORM's CARD OF 'chancerykeep3.MetricFixedAlike'. -/
def metricFixedAlikeUptoCard : Claim7 := { stood := { row := metricFixedAlikeUptoRow, standIns := [], harness := (true, "615198ff36b7c7e435cabbe38a7256887dfbc5d265756060a0dddb598d2df81c"), looks := false }, kinds := [], alts := [], laidByText := true, laidKinds := [.widerDeep, .widerDeep], laidTests := true, laidLooks := .later }
def MetricFixedAlikeUptoCardSaid : Prop := Claim7.holds Tryd.pinned (.plain (OpenSpec.upto metricFixedAlikeSpec)) metricFixedAlikeUptoCard
end Rows
end Go.Proofs.YtdhhkcboejhoaaaDoor
