/-
  No cell of these rows narrows 'for every input' (looked for: loops, veiled, ifaces, maps, wideKeys, modest, calm, conditions, laid).
  DERIVED. THE GIVEN ROWS OF THIS SEAT. 2 by the template 'for every input the law returns true; each argument reads behind the call as it read before'; 0 by the template 'total and deterministic' (their statements: YtoggpbbndoipdaaTotals.lean).
  GIVEN WITH THE SEED: the statements are not yours to turn. If you find one false, say at which input.
  Laid BY PROGRAM, IN A SANDBOX (cutbox-rows.mjs): the forced cells as the released guide's own fill.sh prints them over the translation 2e01407b69d67810… (all of the seat's roots in one cut). By AI agents, Wed Nov 11 2026. No macro, syntax, notation, axiom, sorry.
-/
import Derived.Test.YtoggpbbndoipdaaChecked
import GoSem.Claim
import GoSem.ClaimJoined
import GoSem.ClaimMapViews
import Derived.JoinedTies
import Derived.KernelRfl
namespace Go.Proofs.Ytoggpbbndoipdaa
/- THE CELL 'sum', in the pinned program and in every row, IS THE sha256 OF THE DUMP (.gsa) THAT YtoggpbbndoipdaaProg.lean LOADS. Nothing in Lean hashes anything: it is a label: what it is worth is what the hold of that sum in a sandbox is worth. -/
noncomputable def Try.pinned : Pinned := { name := "ytoggpbbndoipdaa", sum := "2e01407b69d678101d0f81f0e5942d2dc015b45753cb4aad7dd6b86e135e34c6", checked := Try.checked }
namespace Rows
def none {H : Type} : Left H := { results := [], args := [] }

/-- 'chancerykeep3.ChartBarsInside': WHATEVER THE INPUT: true; the input reads as it did. -/
def chartBarsInsideSpec : ChangeSpec := { name := "chartBarsInside", fn := fun _ => fun
  | [d1, d2, d3, d4, d5] => { results := [.lit (.bool true)], args := [d1, d2, d3, d4, d5] }
  | _ => none }
def chartBarsInsideRow : OpenClaim := { program := "ytoggpbbndoipdaa", sum := "2e01407b69d678101d0f81f0e5942d2dc015b45753cb4aad7dd6b86e135e34c6", func := "chancery/chancerykeep3.ChartBarsInside", spec := "chartBarsInside", apart := false }
def ChartBarsInsideSaid : Prop := chartBarsInsideRow.holds Try.pinned (OpenSpec.ofChange chartBarsInsideSpec)

/-- ITS FALSE NEIGHBOUR: 'it returns false'. Refute it at one input. -/
def chartBarsInsideWrong : ChangeSpec := { name := "chartBarsInside", fn := fun _ => fun
  | [d1, d2, d3, d4, d5] => { results := [.lit (.bool false)], args := [d1, d2, d3, d4, d5] }
  | _ => none }
def ChartBarsInsideWrongFalsely : Prop := chartBarsInsideRow.holds Try.pinned (OpenSpec.ofChange chartBarsInsideWrong)

/-- 'chancerykeep3.ChartStackedHeights': WHATEVER THE INPUT: true; the input reads as it did. -/
def chartStackedHeightsSpec : ChangeSpec := { name := "chartStackedHeights", fn := fun _ => fun
  | [d1, d2] => { results := [.lit (.bool true)], args := [d1, d2] }
  | _ => none }
def chartStackedHeightsRow : OpenClaim := { program := "ytoggpbbndoipdaa", sum := "2e01407b69d678101d0f81f0e5942d2dc015b45753cb4aad7dd6b86e135e34c6", func := "chancery/chancerykeep3.ChartStackedHeights", spec := "chartStackedHeights", apart := false }
def ChartStackedHeightsSaid : Prop := chartStackedHeightsRow.holds Try.pinned (OpenSpec.ofChange chartStackedHeightsSpec)

/-- ITS FALSE NEIGHBOUR: 'it returns false'. Refute it at one input. -/
def chartStackedHeightsWrong : ChangeSpec := { name := "chartStackedHeights", fn := fun _ => fun
  | [d1, d2] => { results := [.lit (.bool false)], args := [d1, d2] }
  | _ => none }
def ChartStackedHeightsWrongFalsely : Prop := chartStackedHeightsRow.holds Try.pinned (OpenSpec.ofChange chartStackedHeightsWrong)

/- THE SECOND FORM. 'bulk': how many values and letters a reading holds, each counted each time it is reached (what is shared counts as often as it is met; a slice's spare places count too). A statement '..UptoSaid' is the law's where the arguments, and the package variables that the reading takes, are together of bulk at most 1048576: NARROWER than '..Said'. Prove '..Said' where nothing that the law and all that it calls make is longer than what came in: it says more and counts as full. Else prove '..UptoSaid'. A law counts once. -/
mutual
def uptoBulk {H : Type} : DataW H → Nat
  | .lit (.string bytes) => bytes.length + 1
  | .lit _ => 1
  | .nil => 1
  | .ptr d => uptoBulk d + 1
  | .slice elems spare => uptoBulkAll elems + uptoBulkAll spare + 1
  | .agg parts => uptoBulkAll parts + 1
  | .iface _ d => uptoBulk d + 1
  | .map entries => uptoBulkEntries entries + 1
  | .held _ => 1
def uptoBulkAll {H : Type} : List (DataW H) → Nat
  | [] => 0
  | d :: r => uptoBulk d + uptoBulkAll r
def uptoBulkEntries {H : Type} : List (Lit × DataW H) → Nat
  | [] => 0
  | x :: r => uptoBulkEntry x + uptoBulkEntries r
def uptoBulkEntry {H : Type} : Lit × DataW H → Nat
  | (.string bytes, d) => bytes.length + uptoBulk d + 1
  | (_, d) => uptoBulk d + 1
 end
def uptoSmall : (H : Type) → List (DataW H) → Bool := fun _ ds => decide (uptoBulkAll ds ≤ 1048576)
def OpenSpec.upto (s : _root_.Go.ChangeSpec) : _root_.Go.OpenSpec := { _root_.Go.OpenSpec.ofChange s with cond := some uptoSmall }

/-- 'chancerykeep3.ChartBarsInside', WHERE WHAT IT READS IS OF BULK AT MOST 1048576: true; the input reads as it did. -/
def chartBarsInsideUptoRow : OpenClaim := { program := "ytoggpbbndoipdaa", sum := "2e01407b69d678101d0f81f0e5942d2dc015b45753cb4aad7dd6b86e135e34c6", func := "chancery/chancerykeep3.ChartBarsInside", spec := "chartBarsInside", apart := false, narrowed := true }
def ChartBarsInsideUptoSaid : Prop := chartBarsInsideUptoRow.holds Try.pinned (OpenSpec.upto chartBarsInsideSpec)

/-- 'chancerykeep3.ChartStackedHeights', WHERE WHAT IT READS IS OF BULK AT MOST 1048576: true; the input reads as it did. -/
def chartStackedHeightsUptoRow : OpenClaim := { program := "ytoggpbbndoipdaa", sum := "2e01407b69d678101d0f81f0e5942d2dc015b45753cb4aad7dd6b86e135e34c6", func := "chancery/chancerykeep3.ChartStackedHeights", spec := "chartStackedHeights", apart := false, narrowed := true }
def ChartStackedHeightsUptoSaid : Prop := chartStackedHeightsUptoRow.holds Try.pinned (OpenSpec.upto chartStackedHeightsSpec)

end Rows
end Go.Proofs.Ytoggpbbndoipdaa
