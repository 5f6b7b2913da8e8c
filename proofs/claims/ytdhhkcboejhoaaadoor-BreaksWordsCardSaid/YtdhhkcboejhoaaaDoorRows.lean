/-
  NARROWER THAN 'FOR EVERY INPUT', by the rows' own cells (each row's printed sentence says how): BreaksWords: laid · BreaksMustBehindNewlines: laid · BreaksKeepClusters: laid · MetricFitNarrows: laid · MetricFixedAlike: laid.
  DERIVED. THE GIVEN ROWS OF THIS SEAT. 5 by the template 'for every input the law returns true; each argument reads behind the call as it read before'; 0 by the template 'total and deterministic' (their statements: YtdhhkcboejhoaaaDoorTotals.lean).
  GIVEN WITH THE SEED: the statements are not yours to turn. If you find one false, say at which input.
  Laid BY PROGRAM, IN A SANDBOX (cutbox-rows.mjs): the forced cells as the released guide's own fill.sh prints them over the translation 237f9ba5a173c22b… (all of the seat's roots in one cut). By AI agents, Wed Nov 11 2026. No macro, syntax, notation, axiom, sorry.
-/
import Derived.Test.YtdhhkcboejhoaaaDoorChecked
import GoSem.Claim
import GoSem.ClaimJoined
import GoSem.ClaimMapViews
import Derived.JoinedTies
import Derived.KernelRfl
namespace Go.Proofs.YtdhhkcboejhoaaaDoor
/- THE CELL 'sum', in the pinned program and in every row, IS THE sha256 OF THE DUMP (.gsa) THAT YtdhhkcboejhoaaaDoorProg.lean LOADS. Nothing in Lean hashes anything: it is a label: what it is worth is what the hold of that sum in a sandbox is worth. -/
noncomputable def Tryd.pinned : Pinned := { name := "ytdhhkcboejhoaaadoor", sum := "237f9ba5a173c22b7f6f0b5cd8a6c8cdf35f95560aa89d4ea56f770a128fc758", checked := Tryd.checked }
namespace Rows
def none {H : Type} : Left H := { results := [], args := [] }

/- WHAT THE LISTED PACKAGE-LEVEL VARIABLES READ AS WHEN THE CALL BEGINS. Each datum BY PROGRAM (the guide's laid-datum.mjs) off the statement by which the dump's own 'gosem.cut.vars' lays the variable. In a bare row this is a premise. The card (YtdhhkcboejhoaaaDoorCards.lean) ties it to the program's text. -/
def laid_chancery_metric_marks {H : Type} : DataW H := .slice [.agg [.lit (.int .i64 173), .lit (.int .i64 173), .lit (.int .i64 0)], .agg [.lit (.int .i64 768), .lit (.int .i64 879), .lit (.int .i64 0)], .agg [.lit (.int .i64 1425), .lit (.int .i64 1469), .lit (.int .i64 0)], .agg [.lit (.int .i64 1471), .lit (.int .i64 1471), .lit (.int .i64 0)], .agg [.lit (.int .i64 1473), .lit (.int .i64 1474), .lit (.int .i64 0)], .agg [.lit (.int .i64 1552), .lit (.int .i64 1562), .lit (.int .i64 0)], .agg [.lit (.int .i64 1611), .lit (.int .i64 1631), .lit (.int .i64 0)], .agg [.lit (.int .i64 8203), .lit (.int .i64 8207), .lit (.int .i64 0)], .agg [.lit (.int .i64 8234), .lit (.int .i64 8238), .lit (.int .i64 0)], .agg [.lit (.int .i64 8288), .lit (.int .i64 8297), .lit (.int .i64 0)], .agg [.lit (.int .i64 65024), .lit (.int .i64 65039), .lit (.int .i64 0)], .agg [.lit (.int .i64 65532), .lit (.int .i64 65532), .lit (.int .i64 0)]] []
def laid_chancery_metric_others {H : Type} : DataW H := .slice [.agg [.lit (.int .i64 9), .lit (.int .i64 10), .lit (.int .i64 0)], .agg [.lit (.int .i64 48), .lit (.int .i64 57), .lit (.int .i64 500)], .agg [.lit (.int .i64 160), .lit (.int .i64 160), .lit (.int .i64 250)], .agg [.lit (.int .i64 192), .lit (.int .i64 222), .lit (.int .i64 660)], .agg [.lit (.int .i64 223), .lit (.int .i64 591), .lit (.int .i64 500)], .agg [.lit (.int .i64 880), .lit (.int .i64 1327), .lit (.int .i64 560)], .agg [.lit (.int .i64 1424), .lit (.int .i64 2303), .lit (.int .i64 520)], .agg [.lit (.int .i64 4352), .lit (.int .i64 4447), .lit (.int .i64 1000)], .agg [.lit (.int .i64 8212), .lit (.int .i64 8212), .lit (.int .i64 1000)], .agg [.lit (.int .i64 8208), .lit (.int .i64 8211), .lit (.int .i64 500)], .agg [.lit (.int .i64 11904), .lit (.int .i64 42191), .lit (.int .i64 1000)], .agg [.lit (.int .i64 44032), .lit (.int .i64 55203), .lit (.int .i64 1000)], .agg [.lit (.int .i64 63744), .lit (.int .i64 64255), .lit (.int .i64 1000)], .agg [.lit (.int .i64 65280), .lit (.int .i64 65376), .lit (.int .i64 1000)], .agg [.lit (.int .i64 131072), .lit (.int .i64 262141), .lit (.int .i64 1000)], .agg [.lit (.int .i64 65), .lit (.int .i64 90), .lit (.int .i64 660)], .agg [.lit (.int .i64 33), .lit (.int .i64 126), .lit (.int .i64 500)]] []

/-- 'chancerykeep3.BreaksWords': WHATEVER THE INPUT: true; the input reads as it did. -/
def breaksWordsSpec : ChangeSpec := { name := "breaksWords", fn := fun _ => fun
  | [d1, d2] => { results := [.lit (.bool true)], args := [d1, d2] }
  | _ => none }
def breaksWordsRow : OpenClaim := { program := "ytdhhkcboejhoaaadoor", sum := "237f9ba5a173c22b7f6f0b5cd8a6c8cdf35f95560aa89d4ea56f770a128fc758", func := "chancery/chancerykeep3.BreaksWords", spec := "breaksWords", unfollowed := true, recurses := true, named := ["chancery/metric.marks"], apart := false, laid := [("chancery/metric.marks", laid_chancery_metric_marks)] }
def BreaksWordsSaid : Prop := breaksWordsRow.holds Tryd.pinned (OpenSpec.ofChange breaksWordsSpec)

/-- ITS FALSE NEIGHBOUR: 'it returns false'. Refute it at one input. -/
def breaksWordsWrong : ChangeSpec := { name := "breaksWords", fn := fun _ => fun
  | [d1, d2] => { results := [.lit (.bool false)], args := [d1, d2] }
  | _ => none }
def BreaksWordsWrongFalsely : Prop := breaksWordsRow.holds Tryd.pinned (OpenSpec.ofChange breaksWordsWrong)

/-- 'chancerykeep3.BreaksMustBehindNewlines': WHATEVER THE INPUT: true; the input reads as it did. -/
def breaksMustBehindNewlinesSpec : ChangeSpec := { name := "breaksMustBehindNewlines", fn := fun _ => fun
  | [d1, d2] => { results := [.lit (.bool true)], args := [d1, d2] }
  | _ => none }
def breaksMustBehindNewlinesRow : OpenClaim := { program := "ytdhhkcboejhoaaadoor", sum := "237f9ba5a173c22b7f6f0b5cd8a6c8cdf35f95560aa89d4ea56f770a128fc758", func := "chancery/chancerykeep3.BreaksMustBehindNewlines", spec := "breaksMustBehindNewlines", named := ["chancery/metric.marks"], apart := false, laid := [("chancery/metric.marks", laid_chancery_metric_marks)] }
def BreaksMustBehindNewlinesSaid : Prop := breaksMustBehindNewlinesRow.holds Tryd.pinned (OpenSpec.ofChange breaksMustBehindNewlinesSpec)

/-- ITS FALSE NEIGHBOUR: 'it returns false'. Refute it at one input. -/
def breaksMustBehindNewlinesWrong : ChangeSpec := { name := "breaksMustBehindNewlines", fn := fun _ => fun
  | [d1, d2] => { results := [.lit (.bool false)], args := [d1, d2] }
  | _ => none }
def BreaksMustBehindNewlinesWrongFalsely : Prop := breaksMustBehindNewlinesRow.holds Tryd.pinned (OpenSpec.ofChange breaksMustBehindNewlinesWrong)

/-- 'chancerykeep3.BreaksKeepClusters': WHATEVER THE INPUT: true; the input reads as it did. -/
def breaksKeepClustersSpec : ChangeSpec := { name := "breaksKeepClusters", fn := fun _ => fun
  | [d] => { results := [.lit (.bool true)], args := [d] }
  | _ => none }
def breaksKeepClustersRow : OpenClaim := { program := "ytdhhkcboejhoaaadoor", sum := "237f9ba5a173c22b7f6f0b5cd8a6c8cdf35f95560aa89d4ea56f770a128fc758", func := "chancery/chancerykeep3.BreaksKeepClusters", spec := "breaksKeepClusters", unfollowed := true, recurses := true, named := ["chancery/metric.marks"], apart := false, laid := [("chancery/metric.marks", laid_chancery_metric_marks)] }
def BreaksKeepClustersSaid : Prop := breaksKeepClustersRow.holds Tryd.pinned (OpenSpec.ofChange breaksKeepClustersSpec)

/-- ITS FALSE NEIGHBOUR: 'it returns false'. Refute it at one input. -/
def breaksKeepClustersWrong : ChangeSpec := { name := "breaksKeepClusters", fn := fun _ => fun
  | [d] => { results := [.lit (.bool false)], args := [d] }
  | _ => none }
def BreaksKeepClustersWrongFalsely : Prop := breaksKeepClustersRow.holds Tryd.pinned (OpenSpec.ofChange breaksKeepClustersWrong)

/-- 'chancerykeep3.MetricFitNarrows': WHATEVER THE INPUT: true; the input reads as it did. -/
def metricFitNarrowsSpec : ChangeSpec := { name := "metricFitNarrows", fn := fun _ => fun
  | [d1, d2, d3, d4] => { results := [.lit (.bool true)], args := [d1, d2, d3, d4] }
  | _ => none }
def metricFitNarrowsRow : OpenClaim := { program := "ytdhhkcboejhoaaadoor", sum := "237f9ba5a173c22b7f6f0b5cd8a6c8cdf35f95560aa89d4ea56f770a128fc758", func := "chancery/chancerykeep3.MetricFitNarrows", spec := "metricFitNarrows", unfollowed := true, recurses := true, named := ["chancery/metric.others", "chancery/metric.marks"], apart := false, laid := [("chancery/metric.marks", laid_chancery_metric_marks), ("chancery/metric.others", laid_chancery_metric_others)] }
def MetricFitNarrowsSaid : Prop := metricFitNarrowsRow.holds Tryd.pinned (OpenSpec.ofChange metricFitNarrowsSpec)

/-- ITS FALSE NEIGHBOUR: 'it returns false'. Refute it at one input. -/
def metricFitNarrowsWrong : ChangeSpec := { name := "metricFitNarrows", fn := fun _ => fun
  | [d1, d2, d3, d4] => { results := [.lit (.bool false)], args := [d1, d2, d3, d4] }
  | _ => none }
def MetricFitNarrowsWrongFalsely : Prop := metricFitNarrowsRow.holds Tryd.pinned (OpenSpec.ofChange metricFitNarrowsWrong)

/-- 'chancerykeep3.MetricFixedAlike': WHATEVER THE INPUT: true; the input reads as it did. -/
def metricFixedAlikeSpec : ChangeSpec := { name := "metricFixedAlike", fn := fun _ => fun
  | [d1, d2, d3] => { results := [.lit (.bool true)], args := [d1, d2, d3] }
  | _ => none }
def metricFixedAlikeRow : OpenClaim := { program := "ytdhhkcboejhoaaadoor", sum := "237f9ba5a173c22b7f6f0b5cd8a6c8cdf35f95560aa89d4ea56f770a128fc758", func := "chancery/chancerykeep3.MetricFixedAlike", spec := "metricFixedAlike", unfollowed := true, recurses := true, named := ["chancery/metric.others", "chancery/metric.marks"], apart := false, laid := [("chancery/metric.marks", laid_chancery_metric_marks), ("chancery/metric.others", laid_chancery_metric_others)] }
def MetricFixedAlikeSaid : Prop := metricFixedAlikeRow.holds Tryd.pinned (OpenSpec.ofChange metricFixedAlikeSpec)

/-- ITS FALSE NEIGHBOUR: 'it returns false'. Refute it at one input. -/
def metricFixedAlikeWrong : ChangeSpec := { name := "metricFixedAlike", fn := fun _ => fun
  | [d1, d2, d3] => { results := [.lit (.bool false)], args := [d1, d2, d3] }
  | _ => none }
def MetricFixedAlikeWrongFalsely : Prop := metricFixedAlikeRow.holds Tryd.pinned (OpenSpec.ofChange metricFixedAlikeWrong)

/- THE SECOND FORM. 'bulk': how many values and letters a reading holds, each counted each time it is reached (what is shared counts as often as it is met; a slice's spare places count too). A statement '..UptoSaid' is the law's where the arguments, and the package variables that the reading takes, are together of bulk at most 1048576: NARROWER than '..Said'. Prove '..Said' where nothing that the law and all that it calls make is longer than what came in: it says more and counts as full. Else prove '..UptoSaid'. A law counts once. -/
mutual
def uptoBulk {H : Type} : DataW H → Nat
  | .lit (.string bytes) => bytes.length + 1
  | .lit _ => 1
  | .nil => 1
  | .ptr d => uptoBulk d + 1
  | .slice elems spare => uptoBulkAll elems + uptoBulkAll spare + 1
  | .agg parts => uptoBulkAll parts + 1
  | .iface _ d => uptoBulk d + 1
  | .map entries => uptoBulkEntries entries + 1
  | .held _ => 1
def uptoBulkAll {H : Type} : List (DataW H) → Nat
  | [] => 0
  | d :: r => uptoBulk d + uptoBulkAll r
def uptoBulkEntries {H : Type} : List (Lit × DataW H) → Nat
  | [] => 0
  | x :: r => uptoBulkEntry x + uptoBulkEntries r
def uptoBulkEntry {H : Type} : Lit × DataW H → Nat
  | (.string bytes, d) => bytes.length + uptoBulk d + 1
  | (_, d) => uptoBulk d + 1
 end
def uptoSmall : (H : Type) → List (DataW H) → Bool := fun _ ds => decide (uptoBulkAll ds ≤ 1048576)
def OpenSpec.upto (s : _root_.Go.ChangeSpec) : _root_.Go.OpenSpec := { _root_.Go.OpenSpec.ofChange s with cond := some uptoSmall }

/-- 'chancerykeep3.BreaksWords', WHERE WHAT IT READS IS OF BULK AT MOST 1048576: true; the input reads as it did. -/
def breaksWordsUptoRow : OpenClaim := { program := "ytdhhkcboejhoaaadoor", sum := "237f9ba5a173c22b7f6f0b5cd8a6c8cdf35f95560aa89d4ea56f770a128fc758", func := "chancery/chancerykeep3.BreaksWords", spec := "breaksWords", unfollowed := true, recurses := true, named := ["chancery/metric.marks"], apart := false, laid := [("chancery/metric.marks", laid_chancery_metric_marks)], narrowed := true }
def BreaksWordsUptoSaid : Prop := breaksWordsUptoRow.holds Tryd.pinned (OpenSpec.upto breaksWordsSpec)

/-- 'chancerykeep3.BreaksMustBehindNewlines', WHERE WHAT IT READS IS OF BULK AT MOST 1048576: true; the input reads as it did. -/
def breaksMustBehindNewlinesUptoRow : OpenClaim := { program := "ytdhhkcboejhoaaadoor", sum := "237f9ba5a173c22b7f6f0b5cd8a6c8cdf35f95560aa89d4ea56f770a128fc758", func := "chancery/chancerykeep3.BreaksMustBehindNewlines", spec := "breaksMustBehindNewlines", named := ["chancery/metric.marks"], apart := false, laid := [("chancery/metric.marks", laid_chancery_metric_marks)], narrowed := true }
def BreaksMustBehindNewlinesUptoSaid : Prop := breaksMustBehindNewlinesUptoRow.holds Tryd.pinned (OpenSpec.upto breaksMustBehindNewlinesSpec)

/-- 'chancerykeep3.BreaksKeepClusters', WHERE WHAT IT READS IS OF BULK AT MOST 1048576: true; the input reads as it did. -/
def breaksKeepClustersUptoRow : OpenClaim := { program := "ytdhhkcboejhoaaadoor", sum := "237f9ba5a173c22b7f6f0b5cd8a6c8cdf35f95560aa89d4ea56f770a128fc758", func := "chancery/chancerykeep3.BreaksKeepClusters", spec := "breaksKeepClusters", unfollowed := true, recurses := true, named := ["chancery/metric.marks"], apart := false, laid := [("chancery/metric.marks", laid_chancery_metric_marks)], narrowed := true }
def BreaksKeepClustersUptoSaid : Prop := breaksKeepClustersUptoRow.holds Tryd.pinned (OpenSpec.upto breaksKeepClustersSpec)

/-- 'chancerykeep3.MetricFitNarrows', WHERE WHAT IT READS IS OF BULK AT MOST 1048576: true; the input reads as it did. -/
def metricFitNarrowsUptoRow : OpenClaim := { program := "ytdhhkcboejhoaaadoor", sum := "237f9ba5a173c22b7f6f0b5cd8a6c8cdf35f95560aa89d4ea56f770a128fc758", func := "chancery/chancerykeep3.MetricFitNarrows", spec := "metricFitNarrows", unfollowed := true, recurses := true, named := ["chancery/metric.others", "chancery/metric.marks"], apart := false, laid := [("chancery/metric.marks", laid_chancery_metric_marks), ("chancery/metric.others", laid_chancery_metric_others)], narrowed := true }
def MetricFitNarrowsUptoSaid : Prop := metricFitNarrowsUptoRow.holds Tryd.pinned (OpenSpec.upto metricFitNarrowsSpec)

/-- 'chancerykeep3.MetricFixedAlike', WHERE WHAT IT READS IS OF BULK AT MOST 1048576: true; the input reads as it did. -/
def metricFixedAlikeUptoRow : OpenClaim := { program := "ytdhhkcboejhoaaadoor", sum := "237f9ba5a173c22b7f6f0b5cd8a6c8cdf35f95560aa89d4ea56f770a128fc758", func := "chancery/chancerykeep3.MetricFixedAlike", spec := "metricFixedAlike", unfollowed := true, recurses := true, named := ["chancery/metric.others", "chancery/metric.marks"], apart := false, laid := [("chancery/metric.marks", laid_chancery_metric_marks), ("chancery/metric.others", laid_chancery_metric_others)], narrowed := true }
def MetricFixedAlikeUptoSaid : Prop := metricFixedAlikeUptoRow.holds Tryd.pinned (OpenSpec.upto metricFixedAlikeSpec)

end Rows
end Go.Proofs.YtdhhkcboejhoaaaDoor
