/-
  No cell of these rows narrows 'for every input' (looked for: loops, veiled, ifaces, maps, wideKeys, modest, calm, conditions, laid).
  DERIVED. THE GIVEN ROWS OF THIS SEAT. 3 by the template 'for every input the law returns true; each argument reads behind the call as it read before'; 0 by the template 'total and deterministic' (their statements: YtegmokdhfmgdgaaTotals.lean).
  GIVEN WITH THE SEED: the statements are not yours to turn. If you find one false, say at which input.
  Laid BY PROGRAM, IN A SANDBOX (cutbox-rows.mjs): the forced cells as the released guide's own fill.sh prints them over the translation 69b05f12f696300b… (all of the seat's roots in one cut). By AI agents, Wed Nov 11 2026. No macro, syntax, notation, axiom, sorry.
-/
import Derived.Test.YtegmokdhfmgdgaaChecked
import GoSem.Claim
import GoSem.ClaimJoined
import GoSem.ClaimMapViews
import Derived.JoinedTies
import Derived.KernelRfl
namespace Go.Proofs.Ytegmokdhfmgdgaa
/- THE CELL 'sum', in the pinned program and in every row, IS THE sha256 OF THE DUMP (.gsa) THAT YtegmokdhfmgdgaaProg.lean LOADS. Nothing in Lean hashes anything: it is a label: what it is worth is what the hold of that sum in a sandbox is worth. -/
noncomputable def Try.pinned : Pinned := { name := "ytegmokdhfmgdgaa", sum := "69b05f12f696300b882051c803384df60b20eb43942b998cec87f5bdc83c7ab1", checked := Try.checked }
namespace Rows
def none {H : Type} : Left H := { results := [], args := [] }

/-- 'chancerykeep3.RouteKeepsClear': WHATEVER THE INPUT: true; the input reads as it did. -/
def routeKeepsClearSpec : ChangeSpec := { name := "routeKeepsClear", fn := fun _ => fun
  | [d1, d2, d3, d4, d5] => { results := [.lit (.bool true)], args := [d1, d2, d3, d4, d5] }
  | _ => none }
def routeKeepsClearRow : OpenClaim := { program := "ytegmokdhfmgdgaa", sum := "69b05f12f696300b882051c803384df60b20eb43942b998cec87f5bdc83c7ab1", func := "chancery/chancerykeep3.RouteKeepsClear", spec := "routeKeepsClear", recurses := true, apart := false }
def RouteKeepsClearSaid : Prop := routeKeepsClearRow.holds Try.pinned (OpenSpec.ofChange routeKeepsClearSpec)

/-- ITS FALSE NEIGHBOUR: 'it returns false'. Refute it at one input. -/
def routeKeepsClearWrong : ChangeSpec := { name := "routeKeepsClear", fn := fun _ => fun
  | [d1, d2, d3, d4, d5] => { results := [.lit (.bool false)], args := [d1, d2, d3, d4, d5] }
  | _ => none }
def RouteKeepsClearWrongFalsely : Prop := routeKeepsClearRow.holds Try.pinned (OpenSpec.ofChange routeKeepsClearWrong)

/-- 'chancerykeep3.RouteBackwards': WHATEVER THE INPUT: true; the input reads as it did. -/
def routeBackwardsSpec : ChangeSpec := { name := "routeBackwards", fn := fun _ => fun
  | [d1, d2, d3, d4, d5] => { results := [.lit (.bool true)], args := [d1, d2, d3, d4, d5] }
  | _ => none }
def routeBackwardsRow : OpenClaim := { program := "ytegmokdhfmgdgaa", sum := "69b05f12f696300b882051c803384df60b20eb43942b998cec87f5bdc83c7ab1", func := "chancery/chancerykeep3.RouteBackwards", spec := "routeBackwards", unfollowed := true, recurses := true, apart := false }
def RouteBackwardsSaid : Prop := routeBackwardsRow.holds Try.pinned (OpenSpec.ofChange routeBackwardsSpec)

/-- ITS FALSE NEIGHBOUR: 'it returns false'. Refute it at one input. -/
def routeBackwardsWrong : ChangeSpec := { name := "routeBackwards", fn := fun _ => fun
  | [d1, d2, d3, d4, d5] => { results := [.lit (.bool false)], args := [d1, d2, d3, d4, d5] }
  | _ => none }
def RouteBackwardsWrongFalsely : Prop := routeBackwardsRow.holds Try.pinned (OpenSpec.ofChange routeBackwardsWrong)

/-- 'chancerykeep3.RouteMirrored': WHATEVER THE INPUT: true; the input reads as it did. -/
def routeMirroredSpec : ChangeSpec := { name := "routeMirrored", fn := fun _ => fun
  | [d1, d2, d3] => { results := [.lit (.bool true)], args := [d1, d2, d3] }
  | _ => none }
def routeMirroredRow : OpenClaim := { program := "ytegmokdhfmgdgaa", sum := "69b05f12f696300b882051c803384df60b20eb43942b998cec87f5bdc83c7ab1", func := "chancery/chancerykeep3.RouteMirrored", spec := "routeMirrored", recurses := true, apart := false }
def RouteMirroredSaid : Prop := routeMirroredRow.holds Try.pinned (OpenSpec.ofChange routeMirroredSpec)

/-- ITS FALSE NEIGHBOUR: 'it returns false'. Refute it at one input. -/
def routeMirroredWrong : ChangeSpec := { name := "routeMirrored", fn := fun _ => fun
  | [d1, d2, d3] => { results := [.lit (.bool false)], args := [d1, d2, d3] }
  | _ => none }
def RouteMirroredWrongFalsely : Prop := routeMirroredRow.holds Try.pinned (OpenSpec.ofChange routeMirroredWrong)

/- THE SECOND FORM. 'bulk': how many values and letters a reading holds, each counted each time it is reached (what is shared counts as often as it is met; a slice's spare places count too). A statement '..UptoSaid' is the law's where the arguments, and the package variables that the reading takes, are together of bulk at most 1048576: NARROWER than '..Said'. Prove '..Said' where nothing that the law and all that it calls make is longer than what came in: it says more and counts as full. Else prove '..UptoSaid'. A law counts once. -/
mutual
def uptoBulk {H : Type} : DataW H → Nat
  | .lit (.string bytes) => bytes.length + 1
  | .lit _ => 1
  | .nil => 1
  | .ptr d => uptoBulk d + 1
  | .slice elems spare => uptoBulkAll elems + uptoBulkAll spare + 1
  | .agg parts => uptoBulkAll parts + 1
  | .iface _ d => uptoBulk d + 1
  | .map entries => uptoBulkEntries entries + 1
  | .held _ => 1
def uptoBulkAll {H : Type} : List (DataW H) → Nat
  | [] => 0
  | d :: r => uptoBulk d + uptoBulkAll r
def uptoBulkEntries {H : Type} : List (Lit × DataW H) → Nat
  | [] => 0
  | x :: r => uptoBulkEntry x + uptoBulkEntries r
def uptoBulkEntry {H : Type} : Lit × DataW H → Nat
  | (.string bytes, d) => bytes.length + uptoBulk d + 1
  | (_, d) => uptoBulk d + 1
 end
def uptoSmall : (H : Type) → List (DataW H) → Bool := fun _ ds => decide (uptoBulkAll ds ≤ 1048576)
def OpenSpec.upto (s : _root_.Go.ChangeSpec) : _root_.Go.OpenSpec := { _root_.Go.OpenSpec.ofChange s with cond := some uptoSmall }

/-- 'chancerykeep3.RouteKeepsClear', WHERE WHAT IT READS IS OF BULK AT MOST 1048576: true; the input reads as it did. -/
def routeKeepsClearUptoRow : OpenClaim := { program := "ytegmokdhfmgdgaa", sum := "69b05f12f696300b882051c803384df60b20eb43942b998cec87f5bdc83c7ab1", func := "chancery/chancerykeep3.RouteKeepsClear", spec := "routeKeepsClear", recurses := true, apart := false, narrowed := true }
def RouteKeepsClearUptoSaid : Prop := routeKeepsClearUptoRow.holds Try.pinned (OpenSpec.upto routeKeepsClearSpec)

/-- 'chancerykeep3.RouteBackwards', WHERE WHAT IT READS IS OF BULK AT MOST 1048576: true; the input reads as it did. -/
def routeBackwardsUptoRow : OpenClaim := { program := "ytegmokdhfmgdgaa", sum := "69b05f12f696300b882051c803384df60b20eb43942b998cec87f5bdc83c7ab1", func := "chancery/chancerykeep3.RouteBackwards", spec := "routeBackwards", unfollowed := true, recurses := true, apart := false, narrowed := true }
def RouteBackwardsUptoSaid : Prop := routeBackwardsUptoRow.holds Try.pinned (OpenSpec.upto routeBackwardsSpec)

/-- 'chancerykeep3.RouteMirrored', WHERE WHAT IT READS IS OF BULK AT MOST 1048576: true; the input reads as it did. -/
def routeMirroredUptoRow : OpenClaim := { program := "ytegmokdhfmgdgaa", sum := "69b05f12f696300b882051c803384df60b20eb43942b998cec87f5bdc83c7ab1", func := "chancery/chancerykeep3.RouteMirrored", spec := "routeMirrored", recurses := true, apart := false, narrowed := true }
def RouteMirroredUptoSaid : Prop := routeMirroredUptoRow.holds Try.pinned (OpenSpec.upto routeMirroredSpec)

end Rows
end Go.Proofs.Ytegmokdhfmgdgaa
