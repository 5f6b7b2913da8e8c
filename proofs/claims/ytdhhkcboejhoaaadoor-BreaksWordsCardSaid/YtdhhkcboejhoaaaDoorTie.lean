/-
  DERIVED. GIVEN WITH THE SEED: THE PROGRAM's TIES (one call each: nine closed facts by the kernel) AND EACH ROW's TIE, after the 31st guide's Derived/Test/Toyas{Tie, Card}.lean. No idea stands in it: it is a product of the set-up. Laid BY PROGRAM, IN A SANDBOX (cutbox-door.mjs). By AI agents, Wed Nov 11 2026. No macro, syntax, notation, axiom, sorry.
-/
import Derived.Test.YtdhhkcboejhoaaaDoorRows
import Derived.LaidByTextLater
import Derived.SevenTiedAt
import Derived.LaidSub
import Derived.LaidOnce
namespace Go.Proofs.YtdhhkcboejhoaaaDoor
open Go
set_option maxRecDepth 100000
theorem seatTie1 : Tryd.prog.laidByTextLater [("chancery/metric.marks", Rows.laid_chancery_metric_marks), ("chancery/metric.others", Rows.laid_chancery_metric_others)] [.widerDeep, .widerDeep] true :=
  Program.laidByTextLater_by_one 48 8 52 (by kernel_rfl) (by kernel_rfl) (by kernel_rfl) (by kernel_rfl) (by kernel_rfl) (by kernel_rfl) (fun _ _ => by kernel_rfl)
theorem noOwnUnsafe : Tryd.pinned.checked.prog.headLifts.contains "ownunsafe" = false := by kernel_rfl
theorem tie : Tryd.prog.laidByTextLater [("chancery/metric.marks", Rows.laid_chancery_metric_marks)] [.widerDeep] true :=
  Program.laidByTextLater.sub seatTie1 ["chancery/metric.marks"] (by kernel_rfl) (by kernel_rfl)
theorem breaksWords_row_tie : Rows.breaksWordsRow.laidByTextAt .later Tryd.pinned [.widerDeep] true :=
  OpenClaim.laidByTextAt_later rfl rfl tie noOwnUnsafe
theorem breaksMustBehindNewlines_row_tie : Rows.breaksMustBehindNewlinesRow.laidByTextAt .later Tryd.pinned [.widerDeep] true :=
  OpenClaim.laidByTextAt_later rfl rfl tie noOwnUnsafe
theorem breaksKeepClusters_row_tie : Rows.breaksKeepClustersRow.laidByTextAt .later Tryd.pinned [.widerDeep] true :=
  OpenClaim.laidByTextAt_later rfl rfl tie noOwnUnsafe
theorem tie2 : Tryd.prog.laidByTextLater [("chancery/metric.marks", Rows.laid_chancery_metric_marks), ("chancery/metric.others", Rows.laid_chancery_metric_others)] [.widerDeep, .widerDeep] true :=
  Program.laidByTextLater.sub seatTie1 ["chancery/metric.marks", "chancery/metric.others"] (by kernel_rfl) (by kernel_rfl)
theorem metricFitNarrows_row_tie : Rows.metricFitNarrowsRow.laidByTextAt .later Tryd.pinned [.widerDeep, .widerDeep] true :=
  OpenClaim.laidByTextAt_later rfl rfl tie2 noOwnUnsafe
theorem metricFixedAlike_row_tie : Rows.metricFixedAlikeRow.laidByTextAt .later Tryd.pinned [.widerDeep, .widerDeep] true :=
  OpenClaim.laidByTextAt_later rfl rfl tie2 noOwnUnsafe
theorem breaksWordsUpto_row_tie : Rows.breaksWordsUptoRow.laidByTextAt .later Tryd.pinned [.widerDeep] true :=
  OpenClaim.laidByTextAt_later rfl rfl tie noOwnUnsafe
theorem breaksMustBehindNewlinesUpto_row_tie : Rows.breaksMustBehindNewlinesUptoRow.laidByTextAt .later Tryd.pinned [.widerDeep] true :=
  OpenClaim.laidByTextAt_later rfl rfl tie noOwnUnsafe
theorem breaksKeepClustersUpto_row_tie : Rows.breaksKeepClustersUptoRow.laidByTextAt .later Tryd.pinned [.widerDeep] true :=
  OpenClaim.laidByTextAt_later rfl rfl tie noOwnUnsafe
theorem metricFitNarrowsUpto_row_tie : Rows.metricFitNarrowsUptoRow.laidByTextAt .later Tryd.pinned [.widerDeep, .widerDeep] true :=
  OpenClaim.laidByTextAt_later rfl rfl tie2 noOwnUnsafe
theorem metricFixedAlikeUpto_row_tie : Rows.metricFixedAlikeUptoRow.laidByTextAt .later Tryd.pinned [.widerDeep, .widerDeep] true :=
  OpenClaim.laidByTextAt_later rfl rfl tie2 noOwnUnsafe
end Go.Proofs.YtdhhkcboejhoaaaDoor
