/-
  No cell of these rows narrows 'for every input' (looked for: loops, veiled, ifaces, maps, wideKeys, modest, calm, conditions, laid).
  DERIVED. THE GIVEN ROWS OF THIS SEAT. 7 by the template 'for every input the law returns true; each argument reads behind the call as it read before'; 0 by the template 'total and deterministic' (their statements: YtmnbcpinlgklpaaTotals.lean).
  GIVEN WITH THE SEED: the statements are not yours to turn. If you find one false, say at which input.
  Laid BY PROGRAM, IN A SANDBOX (cutbox-rows.mjs): the forced cells as the released guide's own fill.sh prints them over the translation b7082cb4e4f74900… (all of the seat's roots in one cut). By AI agents, Wed Nov 11 2026. No macro, syntax, notation, axiom, sorry.
-/
import Derived.Test.YtmnbcpinlgklpaaChecked
import GoSem.Claim
import GoSem.ClaimJoined
import GoSem.ClaimMapViews
import Derived.JoinedTies
import Derived.KernelRfl
namespace Go.Proofs.Ytmnbcpinlgklpaa
/- THE CELL 'sum', in the pinned program and in every row, IS THE sha256 OF THE DUMP (.gsa) THAT YtmnbcpinlgklpaaProg.lean LOADS. Nothing in Lean hashes anything: it is a label: what it is worth is what the hold of that sum in a sandbox is worth. -/
noncomputable def Try.pinned : Pinned := { name := "ytmnbcpinlgklpaa", sum := "b7082cb4e4f749001ca34ae9c65876e0461a110999f56e11759b0cc7e740509e", checked := Try.checked }
namespace Rows
def none {H : Type} : Left H := { results := [], args := [] }

/-- 'chancerykeep3.MetricHeights': WHATEVER THE INPUT: true; the input reads as it did. -/
def metricHeightsSpec : ChangeSpec := { name := "metricHeights", fn := fun _ => fun
  | [d] => { results := [.lit (.bool true)], args := [d] }
  | _ => none }
def metricHeightsRow : OpenClaim := { program := "ytmnbcpinlgklpaa", sum := "b7082cb4e4f749001ca34ae9c65876e0461a110999f56e11759b0cc7e740509e", func := "chancery/chancerykeep3.MetricHeights", spec := "metricHeights", apart := false }
def MetricHeightsSaid : Prop := metricHeightsRow.holds Try.pinned (OpenSpec.ofChange metricHeightsSpec)

/-- ITS FALSE NEIGHBOUR: 'it returns false'. Refute it at one input. -/
def metricHeightsWrong : ChangeSpec := { name := "metricHeights", fn := fun _ => fun
  | [d] => { results := [.lit (.bool false)], args := [d] }
  | _ => none }
def MetricHeightsWrongFalsely : Prop := metricHeightsRow.holds Try.pinned (OpenSpec.ofChange metricHeightsWrong)

/-- 'chancerykeep3.PrintingBookletReads': WHATEVER THE INPUT: true; the input reads as it did. -/
def printingBookletReadsSpec : ChangeSpec := { name := "printingBookletReads", fn := fun _ => fun
  | [d] => { results := [.lit (.bool true)], args := [d] }
  | _ => none }
def printingBookletReadsRow : OpenClaim := { program := "ytmnbcpinlgklpaa", sum := "b7082cb4e4f749001ca34ae9c65876e0461a110999f56e11759b0cc7e740509e", func := "chancery/chancerykeep3.PrintingBookletReads", spec := "printingBookletReads", unfollowed := true, recurses := true, apart := false }
def PrintingBookletReadsSaid : Prop := printingBookletReadsRow.holds Try.pinned (OpenSpec.ofChange printingBookletReadsSpec)

/-- ITS FALSE NEIGHBOUR: 'it returns false'. Refute it at one input. -/
def printingBookletReadsWrong : ChangeSpec := { name := "printingBookletReads", fn := fun _ => fun
  | [d] => { results := [.lit (.bool false)], args := [d] }
  | _ => none }
def PrintingBookletReadsWrongFalsely : Prop := printingBookletReadsRow.holds Try.pinned (OpenSpec.ofChange printingBookletReadsWrong)

/-- 'chancerykeep3.ScaleContainsValues': WHATEVER THE INPUT: true; the input reads as it did. -/
def scaleContainsValuesSpec : ChangeSpec := { name := "scaleContainsValues", fn := fun _ => fun
  | [d1, d2, d3, d4] => { results := [.lit (.bool true)], args := [d1, d2, d3, d4] }
  | _ => none }
def scaleContainsValuesRow : OpenClaim := { program := "ytmnbcpinlgklpaa", sum := "b7082cb4e4f749001ca34ae9c65876e0461a110999f56e11759b0cc7e740509e", func := "chancery/chancerykeep3.ScaleContainsValues", spec := "scaleContainsValues", apart := false }
def ScaleContainsValuesSaid : Prop := scaleContainsValuesRow.holds Try.pinned (OpenSpec.ofChange scaleContainsValuesSpec)

/-- ITS FALSE NEIGHBOUR: 'it returns false'. Refute it at one input. -/
def scaleContainsValuesWrong : ChangeSpec := { name := "scaleContainsValues", fn := fun _ => fun
  | [d1, d2, d3, d4] => { results := [.lit (.bool false)], args := [d1, d2, d3, d4] }
  | _ => none }
def ScaleContainsValuesWrongFalsely : Prop := scaleContainsValuesRow.holds Try.pinned (OpenSpec.ofChange scaleContainsValuesWrong)

/-- 'chancerykeep3.ChartPartsOfWhole': WHATEVER THE INPUT: true; the input reads as it did. -/
def chartPartsOfWholeSpec : ChangeSpec := { name := "chartPartsOfWhole", fn := fun _ => fun
  | [d] => { results := [.lit (.bool true)], args := [d] }
  | _ => none }
def chartPartsOfWholeRow : OpenClaim := { program := "ytmnbcpinlgklpaa", sum := "b7082cb4e4f749001ca34ae9c65876e0461a110999f56e11759b0cc7e740509e", func := "chancery/chancerykeep3.ChartPartsOfWhole", spec := "chartPartsOfWhole", apart := false }
def ChartPartsOfWholeSaid : Prop := chartPartsOfWholeRow.holds Try.pinned (OpenSpec.ofChange chartPartsOfWholeSpec)

/-- ITS FALSE NEIGHBOUR: 'it returns false'. Refute it at one input. -/
def chartPartsOfWholeWrong : ChangeSpec := { name := "chartPartsOfWhole", fn := fun _ => fun
  | [d] => { results := [.lit (.bool false)], args := [d] }
  | _ => none }
def ChartPartsOfWholeWrongFalsely : Prop := chartPartsOfWholeRow.holds Try.pinned (OpenSpec.ofChange chartPartsOfWholeWrong)

/-- 'chancerykeep3.ClockAddsUp': WHATEVER THE INPUT: true; the input reads as it did. -/
def clockAddsUpSpec : ChangeSpec := { name := "clockAddsUp", fn := fun _ => fun
  | [d1, d2, d3] => { results := [.lit (.bool true)], args := [d1, d2, d3] }
  | _ => none }
def clockAddsUpRow : OpenClaim := { program := "ytmnbcpinlgklpaa", sum := "b7082cb4e4f749001ca34ae9c65876e0461a110999f56e11759b0cc7e740509e", func := "chancery/chancerykeep3.ClockAddsUp", spec := "clockAddsUp", apart := false }
def ClockAddsUpSaid : Prop := clockAddsUpRow.holds Try.pinned (OpenSpec.ofChange clockAddsUpSpec)

/-- ITS FALSE NEIGHBOUR: 'it returns false'. Refute it at one input. -/
def clockAddsUpWrong : ChangeSpec := { name := "clockAddsUp", fn := fun _ => fun
  | [d1, d2, d3] => { results := [.lit (.bool false)], args := [d1, d2, d3] }
  | _ => none }
def ClockAddsUpWrongFalsely : Prop := clockAddsUpRow.holds Try.pinned (OpenSpec.ofChange clockAddsUpWrong)

/-- 'chancerykeep3.BalanceAddsUp': WHATEVER THE INPUT: true; the input reads as it did. -/
def balanceAddsUpSpec : ChangeSpec := { name := "balanceAddsUp", fn := fun _ => fun
  | [d1, d2, d3] => { results := [.lit (.bool true)], args := [d1, d2, d3] }
  | _ => none }
def balanceAddsUpRow : OpenClaim := { program := "ytmnbcpinlgklpaa", sum := "b7082cb4e4f749001ca34ae9c65876e0461a110999f56e11759b0cc7e740509e", func := "chancery/chancerykeep3.BalanceAddsUp", spec := "balanceAddsUp", unfollowed := true, recurses := true, apart := false }
def BalanceAddsUpSaid : Prop := balanceAddsUpRow.holds Try.pinned (OpenSpec.ofChange balanceAddsUpSpec)

/-- ITS FALSE NEIGHBOUR: 'it returns false'. Refute it at one input. -/
def balanceAddsUpWrong : ChangeSpec := { name := "balanceAddsUp", fn := fun _ => fun
  | [d1, d2, d3] => { results := [.lit (.bool false)], args := [d1, d2, d3] }
  | _ => none }
def BalanceAddsUpWrongFalsely : Prop := balanceAddsUpRow.holds Try.pinned (OpenSpec.ofChange balanceAddsUpWrong)

/-- 'chancerykeep3.BalanceGrows': WHATEVER THE INPUT: true; the input reads as it did. -/
def balanceGrowsSpec : ChangeSpec := { name := "balanceGrows", fn := fun _ => fun
  | [d1, d2, d3, d4] => { results := [.lit (.bool true)], args := [d1, d2, d3, d4] }
  | _ => none }
def balanceGrowsRow : OpenClaim := { program := "ytmnbcpinlgklpaa", sum := "b7082cb4e4f749001ca34ae9c65876e0461a110999f56e11759b0cc7e740509e", func := "chancery/chancerykeep3.BalanceGrows", spec := "balanceGrows", unfollowed := true, recurses := true, apart := false }
def BalanceGrowsSaid : Prop := balanceGrowsRow.holds Try.pinned (OpenSpec.ofChange balanceGrowsSpec)

/-- ITS FALSE NEIGHBOUR: 'it returns false'. Refute it at one input. -/
def balanceGrowsWrong : ChangeSpec := { name := "balanceGrows", fn := fun _ => fun
  | [d1, d2, d3, d4] => { results := [.lit (.bool false)], args := [d1, d2, d3, d4] }
  | _ => none }
def BalanceGrowsWrongFalsely : Prop := balanceGrowsRow.holds Try.pinned (OpenSpec.ofChange balanceGrowsWrong)

/- THE SECOND FORM. 'bulk': how many values and letters a reading holds, each counted each time it is reached (what is shared counts as often as it is met; a slice's spare places count too). A statement '..UptoSaid' is the law's where the arguments, and the package variables that the reading takes, are together of bulk at most 1048576: NARROWER than '..Said'. Prove '..Said' where nothing that the law and all that it calls make is longer than what came in: it says more and counts as full. Else prove '..UptoSaid'. A law counts once. -/
mutual
def uptoBulk {H : Type} : DataW H → Nat
  | .lit (.string bytes) => bytes.length + 1
  | .lit _ => 1
  | .nil => 1
  | .ptr d => uptoBulk d + 1
  | .slice elems spare => uptoBulkAll elems + uptoBulkAll spare + 1
  | .agg parts => uptoBulkAll parts + 1
  | .iface _ d => uptoBulk d + 1
  | .map entries => uptoBulkEntries entries + 1
  | .held _ => 1
def uptoBulkAll {H : Type} : List (DataW H) → Nat
  | [] => 0
  | d :: r => uptoBulk d + uptoBulkAll r
def uptoBulkEntries {H : Type} : List (Lit × DataW H) → Nat
  | [] => 0
  | x :: r => uptoBulkEntry x + uptoBulkEntries r
def uptoBulkEntry {H : Type} : Lit × DataW H → Nat
  | (.string bytes, d) => bytes.length + uptoBulk d + 1
  | (_, d) => uptoBulk d + 1
 end
def uptoSmall : (H : Type) → List (DataW H) → Bool := fun _ ds => decide (uptoBulkAll ds ≤ 1048576)
def OpenSpec.upto (s : _root_.Go.ChangeSpec) : _root_.Go.OpenSpec := { _root_.Go.OpenSpec.ofChange s with cond := some uptoSmall }

/-- 'chancerykeep3.MetricHeights', WHERE WHAT IT READS IS OF BULK AT MOST 1048576: true; the input reads as it did. -/
def metricHeightsUptoRow : OpenClaim := { program := "ytmnbcpinlgklpaa", sum := "b7082cb4e4f749001ca34ae9c65876e0461a110999f56e11759b0cc7e740509e", func := "chancery/chancerykeep3.MetricHeights", spec := "metricHeights", apart := false, narrowed := true }
def MetricHeightsUptoSaid : Prop := metricHeightsUptoRow.holds Try.pinned (OpenSpec.upto metricHeightsSpec)

/-- 'chancerykeep3.PrintingBookletReads', WHERE WHAT IT READS IS OF BULK AT MOST 1048576: true; the input reads as it did. -/
def printingBookletReadsUptoRow : OpenClaim := { program := "ytmnbcpinlgklpaa", sum := "b7082cb4e4f749001ca34ae9c65876e0461a110999f56e11759b0cc7e740509e", func := "chancery/chancerykeep3.PrintingBookletReads", spec := "printingBookletReads", unfollowed := true, recurses := true, apart := false, narrowed := true }
def PrintingBookletReadsUptoSaid : Prop := printingBookletReadsUptoRow.holds Try.pinned (OpenSpec.upto printingBookletReadsSpec)

/-- 'chancerykeep3.ScaleContainsValues', WHERE WHAT IT READS IS OF BULK AT MOST 1048576: true; the input reads as it did. -/
def scaleContainsValuesUptoRow : OpenClaim := { program := "ytmnbcpinlgklpaa", sum := "b7082cb4e4f749001ca34ae9c65876e0461a110999f56e11759b0cc7e740509e", func := "chancery/chancerykeep3.ScaleContainsValues", spec := "scaleContainsValues", apart := false, narrowed := true }
def ScaleContainsValuesUptoSaid : Prop := scaleContainsValuesUptoRow.holds Try.pinned (OpenSpec.upto scaleContainsValuesSpec)

/-- 'chancerykeep3.ChartPartsOfWhole', WHERE WHAT IT READS IS OF BULK AT MOST 1048576: true; the input reads as it did. -/
def chartPartsOfWholeUptoRow : OpenClaim := { program := "ytmnbcpinlgklpaa", sum := "b7082cb4e4f749001ca34ae9c65876e0461a110999f56e11759b0cc7e740509e", func := "chancery/chancerykeep3.ChartPartsOfWhole", spec := "chartPartsOfWhole", apart := false, narrowed := true }
def ChartPartsOfWholeUptoSaid : Prop := chartPartsOfWholeUptoRow.holds Try.pinned (OpenSpec.upto chartPartsOfWholeSpec)

/-- 'chancerykeep3.ClockAddsUp', WHERE WHAT IT READS IS OF BULK AT MOST 1048576: true; the input reads as it did. -/
def clockAddsUpUptoRow : OpenClaim := { program := "ytmnbcpinlgklpaa", sum := "b7082cb4e4f749001ca34ae9c65876e0461a110999f56e11759b0cc7e740509e", func := "chancery/chancerykeep3.ClockAddsUp", spec := "clockAddsUp", apart := false, narrowed := true }
def ClockAddsUpUptoSaid : Prop := clockAddsUpUptoRow.holds Try.pinned (OpenSpec.upto clockAddsUpSpec)

/-- 'chancerykeep3.BalanceAddsUp', WHERE WHAT IT READS IS OF BULK AT MOST 1048576: true; the input reads as it did. -/
def balanceAddsUpUptoRow : OpenClaim := { program := "ytmnbcpinlgklpaa", sum := "b7082cb4e4f749001ca34ae9c65876e0461a110999f56e11759b0cc7e740509e", func := "chancery/chancerykeep3.BalanceAddsUp", spec := "balanceAddsUp", unfollowed := true, recurses := true, apart := false, narrowed := true }
def BalanceAddsUpUptoSaid : Prop := balanceAddsUpUptoRow.holds Try.pinned (OpenSpec.upto balanceAddsUpSpec)

/-- 'chancerykeep3.BalanceGrows', WHERE WHAT IT READS IS OF BULK AT MOST 1048576: true; the input reads as it did. -/
def balanceGrowsUptoRow : OpenClaim := { program := "ytmnbcpinlgklpaa", sum := "b7082cb4e4f749001ca34ae9c65876e0461a110999f56e11759b0cc7e740509e", func := "chancery/chancerykeep3.BalanceGrows", spec := "balanceGrows", unfollowed := true, recurses := true, apart := false, narrowed := true }
def BalanceGrowsUptoSaid : Prop := balanceGrowsUptoRow.holds Try.pinned (OpenSpec.upto balanceGrowsSpec)

end Rows
end Go.Proofs.Ytmnbcpinlgklpaa
