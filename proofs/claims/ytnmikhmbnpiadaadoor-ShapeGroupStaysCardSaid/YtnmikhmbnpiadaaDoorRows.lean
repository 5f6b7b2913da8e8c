/-
  NARROWER THAN 'FOR EVERY INPUT', by the rows' own cells (each row's printed sentence says how): ShapeTurnKeepsSides: laid · ShapeQuarterTurns: laid · ShapeHitMiddle: laid · ShapeUngroupTurned: laid · ShapeAlignedTwice: laid · ShapeGroupStays: laid.
  DERIVED. THE GIVEN ROWS OF THIS SEAT. 6 by the template 'for every input the law returns true; each argument reads behind the call as it read before'; 0 by the template 'total and deterministic' (their statements: YtnmikhmbnpiadaaDoorTotals.lean).
  GIVEN WITH THE SEED: the statements are not yours to turn. If you find one false, say at which input.
  Laid BY PROGRAM, IN A SANDBOX (cutbox-rows.mjs): the forced cells as the released guide's own fill.sh prints them over the translation ddaef7418fdeecb4… (all of the seat's roots in one cut). By AI agents, Wed Nov 11 2026. No macro, syntax, notation, axiom, sorry.
-/
import Derived.Test.YtnmikhmbnpiadaaDoorChecked
import GoSem.Claim
import GoSem.ClaimJoined
import GoSem.ClaimMapViews
import Derived.JoinedTies
import Derived.KernelRfl
namespace Go.Proofs.YtnmikhmbnpiadaaDoor
/- THE CELL 'sum', in the pinned program and in every row, IS THE sha256 OF THE DUMP (.gsa) THAT YtnmikhmbnpiadaaDoorProg.lean LOADS. Nothing in Lean hashes anything: it is a label: what it is worth is what the hold of that sum in a sandbox is worth. -/
noncomputable def Tryd.pinned : Pinned := { name := "ytnmikhmbnpiadaadoor", sum := "ddaef7418fdeecb4614e5da838722b3e971c94302b07e01159bade26d1c0da17", checked := Tryd.checked }
namespace Rows
def none {H : Type} : Left H := { results := [], args := [] }

/- WHAT THE LISTED PACKAGE-LEVEL VARIABLES READ AS WHEN THE CALL BEGINS. Each datum BY PROGRAM (the guide's laid-datum.mjs) off the statement by which the dump's own 'gosem.cut.vars' lays the variable. In a bare row this is a premise. The card (YtnmikhmbnpiadaaDoorCards.lean) ties it to the program's text. -/
def laid_chancery_shape_quarter {H : Type} : DataW H := .agg [.lit (.int .i64 0), .lit (.int .i64 1144), .lit (.int .i64 2287), .lit (.int .i64 3430), .lit (.int .i64 4572), .lit (.int .i64 5712), .lit (.int .i64 6850), .lit (.int .i64 7987), .lit (.int .i64 9121), .lit (.int .i64 10252), .lit (.int .i64 11380), .lit (.int .i64 12505), .lit (.int .i64 13626), .lit (.int .i64 14742), .lit (.int .i64 15855), .lit (.int .i64 16962), .lit (.int .i64 18064), .lit (.int .i64 19161), .lit (.int .i64 20252), .lit (.int .i64 21336), .lit (.int .i64 22415), .lit (.int .i64 23486), .lit (.int .i64 24550), .lit (.int .i64 25607), .lit (.int .i64 26656), .lit (.int .i64 27697), .lit (.int .i64 28729), .lit (.int .i64 29753), .lit (.int .i64 30767), .lit (.int .i64 31772), .lit (.int .i64 32768), .lit (.int .i64 33754), .lit (.int .i64 34729), .lit (.int .i64 35693), .lit (.int .i64 36647), .lit (.int .i64 37590), .lit (.int .i64 38521), .lit (.int .i64 39441), .lit (.int .i64 40348), .lit (.int .i64 41243), .lit (.int .i64 42126), .lit (.int .i64 42995), .lit (.int .i64 43852), .lit (.int .i64 44695), .lit (.int .i64 45525), .lit (.int .i64 46341), .lit (.int .i64 47143), .lit (.int .i64 47930), .lit (.int .i64 48703), .lit (.int .i64 49461), .lit (.int .i64 50203), .lit (.int .i64 50931), .lit (.int .i64 51643), .lit (.int .i64 52339), .lit (.int .i64 53020), .lit (.int .i64 53684), .lit (.int .i64 54332), .lit (.int .i64 54963), .lit (.int .i64 55578), .lit (.int .i64 56175), .lit (.int .i64 56756), .lit (.int .i64 57319), .lit (.int .i64 57865), .lit (.int .i64 58393), .lit (.int .i64 58903), .lit (.int .i64 59396), .lit (.int .i64 59870), .lit (.int .i64 60326), .lit (.int .i64 60764), .lit (.int .i64 61183), .lit (.int .i64 61584), .lit (.int .i64 61966), .lit (.int .i64 62328), .lit (.int .i64 62672), .lit (.int .i64 62997), .lit (.int .i64 63303), .lit (.int .i64 63589), .lit (.int .i64 63856), .lit (.int .i64 64104), .lit (.int .i64 64332), .lit (.int .i64 64540), .lit (.int .i64 64729), .lit (.int .i64 64898), .lit (.int .i64 65048), .lit (.int .i64 65177), .lit (.int .i64 65287), .lit (.int .i64 65376), .lit (.int .i64 65446), .lit (.int .i64 65496), .lit (.int .i64 65526), .lit (.int .i64 65536)]

/-- 'chancerykeep3.ShapeTurnKeepsSides': WHATEVER THE INPUT: true; the input reads as it did. -/
def shapeTurnKeepsSidesSpec : ChangeSpec := { name := "shapeTurnKeepsSides", fn := fun _ => fun
  | [d1, d2] => { results := [.lit (.bool true)], args := [d1, d2] }
  | _ => none }
def shapeTurnKeepsSidesRow : OpenClaim := { program := "ytnmikhmbnpiadaadoor", sum := "ddaef7418fdeecb4614e5da838722b3e971c94302b07e01159bade26d1c0da17", func := "chancery/chancerykeep3.ShapeTurnKeepsSides", spec := "shapeTurnKeepsSides", unfollowed := true, recurses := true, named := ["chancery/shape.quarter"], apart := false, laid := [("chancery/shape.quarter", laid_chancery_shape_quarter)] }
def ShapeTurnKeepsSidesSaid : Prop := shapeTurnKeepsSidesRow.holds Tryd.pinned (OpenSpec.ofChange shapeTurnKeepsSidesSpec)

/-- ITS FALSE NEIGHBOUR: 'it returns false'. Refute it at one input. -/
def shapeTurnKeepsSidesWrong : ChangeSpec := { name := "shapeTurnKeepsSides", fn := fun _ => fun
  | [d1, d2] => { results := [.lit (.bool false)], args := [d1, d2] }
  | _ => none }
def ShapeTurnKeepsSidesWrongFalsely : Prop := shapeTurnKeepsSidesRow.holds Tryd.pinned (OpenSpec.ofChange shapeTurnKeepsSidesWrong)

/-- 'chancerykeep3.ShapeQuarterTurns': WHATEVER THE INPUT: true; the input reads as it did. -/
def shapeQuarterTurnsSpec : ChangeSpec := { name := "shapeQuarterTurns", fn := fun _ => fun
  | [d1, d2] => { results := [.lit (.bool true)], args := [d1, d2] }
  | _ => none }
def shapeQuarterTurnsRow : OpenClaim := { program := "ytnmikhmbnpiadaadoor", sum := "ddaef7418fdeecb4614e5da838722b3e971c94302b07e01159bade26d1c0da17", func := "chancery/chancerykeep3.ShapeQuarterTurns", spec := "shapeQuarterTurns", unfollowed := true, recurses := true, named := ["chancery/shape.quarter"], apart := false, laid := [("chancery/shape.quarter", laid_chancery_shape_quarter)] }
def ShapeQuarterTurnsSaid : Prop := shapeQuarterTurnsRow.holds Tryd.pinned (OpenSpec.ofChange shapeQuarterTurnsSpec)

/-- ITS FALSE NEIGHBOUR: 'it returns false'. Refute it at one input. -/
def shapeQuarterTurnsWrong : ChangeSpec := { name := "shapeQuarterTurns", fn := fun _ => fun
  | [d1, d2] => { results := [.lit (.bool false)], args := [d1, d2] }
  | _ => none }
def ShapeQuarterTurnsWrongFalsely : Prop := shapeQuarterTurnsRow.holds Tryd.pinned (OpenSpec.ofChange shapeQuarterTurnsWrong)

/-- 'chancerykeep3.ShapeHitMiddle': WHATEVER THE INPUT: true; the input reads as it did. -/
def shapeHitMiddleSpec : ChangeSpec := { name := "shapeHitMiddle", fn := fun _ => fun
  | [d1, d2] => { results := [.lit (.bool true)], args := [d1, d2] }
  | _ => none }
def shapeHitMiddleRow : OpenClaim := { program := "ytnmikhmbnpiadaadoor", sum := "ddaef7418fdeecb4614e5da838722b3e971c94302b07e01159bade26d1c0da17", func := "chancery/chancerykeep3.ShapeHitMiddle", spec := "shapeHitMiddle", unfollowed := true, recurses := true, named := ["chancery/shape.quarter"], apart := false, laid := [("chancery/shape.quarter", laid_chancery_shape_quarter)] }
def ShapeHitMiddleSaid : Prop := shapeHitMiddleRow.holds Tryd.pinned (OpenSpec.ofChange shapeHitMiddleSpec)

/-- ITS FALSE NEIGHBOUR: 'it returns false'. Refute it at one input. -/
def shapeHitMiddleWrong : ChangeSpec := { name := "shapeHitMiddle", fn := fun _ => fun
  | [d1, d2] => { results := [.lit (.bool false)], args := [d1, d2] }
  | _ => none }
def ShapeHitMiddleWrongFalsely : Prop := shapeHitMiddleRow.holds Tryd.pinned (OpenSpec.ofChange shapeHitMiddleWrong)

/-- 'chancerykeep3.ShapeUngroupTurned': WHATEVER THE INPUT: true; the input reads as it did. -/
def shapeUngroupTurnedSpec : ChangeSpec := { name := "shapeUngroupTurned", fn := fun _ => fun
  | [d1, d2] => { results := [.lit (.bool true)], args := [d1, d2] }
  | _ => none }
def shapeUngroupTurnedRow : OpenClaim := { program := "ytnmikhmbnpiadaadoor", sum := "ddaef7418fdeecb4614e5da838722b3e971c94302b07e01159bade26d1c0da17", func := "chancery/chancerykeep3.ShapeUngroupTurned", spec := "shapeUngroupTurned", unfollowed := true, recurses := true, named := ["chancery/shape.quarter"], apart := false, laid := [("chancery/shape.quarter", laid_chancery_shape_quarter)] }
def ShapeUngroupTurnedSaid : Prop := shapeUngroupTurnedRow.holds Tryd.pinned (OpenSpec.ofChange shapeUngroupTurnedSpec)

/-- ITS FALSE NEIGHBOUR: 'it returns false'. Refute it at one input. -/
def shapeUngroupTurnedWrong : ChangeSpec := { name := "shapeUngroupTurned", fn := fun _ => fun
  | [d1, d2] => { results := [.lit (.bool false)], args := [d1, d2] }
  | _ => none }
def ShapeUngroupTurnedWrongFalsely : Prop := shapeUngroupTurnedRow.holds Tryd.pinned (OpenSpec.ofChange shapeUngroupTurnedWrong)

/-- 'chancerykeep3.ShapeAlignedTwice': WHATEVER THE INPUT: true; the input reads as it did. -/
def shapeAlignedTwiceSpec : ChangeSpec := { name := "shapeAlignedTwice", fn := fun _ => fun
  | [d1, d2, d3] => { results := [.lit (.bool true)], args := [d1, d2, d3] }
  | _ => none }
def shapeAlignedTwiceRow : OpenClaim := { program := "ytnmikhmbnpiadaadoor", sum := "ddaef7418fdeecb4614e5da838722b3e971c94302b07e01159bade26d1c0da17", func := "chancery/chancerykeep3.ShapeAlignedTwice", spec := "shapeAlignedTwice", unfollowed := true, recurses := true, named := ["chancery/shape.quarter"], apart := false, laid := [("chancery/shape.quarter", laid_chancery_shape_quarter)] }
def ShapeAlignedTwiceSaid : Prop := shapeAlignedTwiceRow.holds Tryd.pinned (OpenSpec.ofChange shapeAlignedTwiceSpec)

/-- ITS FALSE NEIGHBOUR: 'it returns false'. Refute it at one input. -/
def shapeAlignedTwiceWrong : ChangeSpec := { name := "shapeAlignedTwice", fn := fun _ => fun
  | [d1, d2, d3] => { results := [.lit (.bool false)], args := [d1, d2, d3] }
  | _ => none }
def ShapeAlignedTwiceWrongFalsely : Prop := shapeAlignedTwiceRow.holds Tryd.pinned (OpenSpec.ofChange shapeAlignedTwiceWrong)

/-- 'chancerykeep3.ShapeGroupStays': WHATEVER THE INPUT: true; the input reads as it did. -/
def shapeGroupStaysSpec : ChangeSpec := { name := "shapeGroupStays", fn := fun _ => fun
  | [d1, d2] => { results := [.lit (.bool true)], args := [d1, d2] }
  | _ => none }
def shapeGroupStaysRow : OpenClaim := { program := "ytnmikhmbnpiadaadoor", sum := "ddaef7418fdeecb4614e5da838722b3e971c94302b07e01159bade26d1c0da17", func := "chancery/chancerykeep3.ShapeGroupStays", spec := "shapeGroupStays", unfollowed := true, recurses := true, named := ["chancery/shape.quarter"], apart := false, laid := [("chancery/shape.quarter", laid_chancery_shape_quarter)] }
def ShapeGroupStaysSaid : Prop := shapeGroupStaysRow.holds Tryd.pinned (OpenSpec.ofChange shapeGroupStaysSpec)

/-- ITS FALSE NEIGHBOUR: 'it returns false'. Refute it at one input. -/
def shapeGroupStaysWrong : ChangeSpec := { name := "shapeGroupStays", fn := fun _ => fun
  | [d1, d2] => { results := [.lit (.bool false)], args := [d1, d2] }
  | _ => none }
def ShapeGroupStaysWrongFalsely : Prop := shapeGroupStaysRow.holds Tryd.pinned (OpenSpec.ofChange shapeGroupStaysWrong)

/- THE SECOND FORM. 'bulk': how many values and letters a reading holds, each counted each time it is reached (what is shared counts as often as it is met; a slice's spare places count too). A statement '..UptoSaid' is the law's where the arguments, and the package variables that the reading takes, are together of bulk at most 1048576: NARROWER than '..Said'. Prove '..Said' where nothing that the law and all that it calls make is longer than what came in: it says more and counts as full. Else prove '..UptoSaid'. A law counts once. -/
mutual
def uptoBulk {H : Type} : DataW H → Nat
  | .lit (.string bytes) => bytes.length + 1
  | .lit _ => 1
  | .nil => 1
  | .ptr d => uptoBulk d + 1
  | .slice elems spare => uptoBulkAll elems + uptoBulkAll spare + 1
  | .agg parts => uptoBulkAll parts + 1
  | .iface _ d => uptoBulk d + 1
  | .map entries => uptoBulkEntries entries + 1
  | .held _ => 1
def uptoBulkAll {H : Type} : List (DataW H) → Nat
  | [] => 0
  | d :: r => uptoBulk d + uptoBulkAll r
def uptoBulkEntries {H : Type} : List (Lit × DataW H) → Nat
  | [] => 0
  | x :: r => uptoBulkEntry x + uptoBulkEntries r
def uptoBulkEntry {H : Type} : Lit × DataW H → Nat
  | (.string bytes, d) => bytes.length + uptoBulk d + 1
  | (_, d) => uptoBulk d + 1
 end
def uptoSmall : (H : Type) → List (DataW H) → Bool := fun _ ds => decide (uptoBulkAll ds ≤ 1048576)
def OpenSpec.upto (s : _root_.Go.ChangeSpec) : _root_.Go.OpenSpec := { _root_.Go.OpenSpec.ofChange s with cond := some uptoSmall }

/-- 'chancerykeep3.ShapeTurnKeepsSides', WHERE WHAT IT READS IS OF BULK AT MOST 1048576: true; the input reads as it did. -/
def shapeTurnKeepsSidesUptoRow : OpenClaim := { program := "ytnmikhmbnpiadaadoor", sum := "ddaef7418fdeecb4614e5da838722b3e971c94302b07e01159bade26d1c0da17", func := "chancery/chancerykeep3.ShapeTurnKeepsSides", spec := "shapeTurnKeepsSides", unfollowed := true, recurses := true, named := ["chancery/shape.quarter"], apart := false, laid := [("chancery/shape.quarter", laid_chancery_shape_quarter)], narrowed := true }
def ShapeTurnKeepsSidesUptoSaid : Prop := shapeTurnKeepsSidesUptoRow.holds Tryd.pinned (OpenSpec.upto shapeTurnKeepsSidesSpec)

/-- 'chancerykeep3.ShapeQuarterTurns', WHERE WHAT IT READS IS OF BULK AT MOST 1048576: true; the input reads as it did. -/
def shapeQuarterTurnsUptoRow : OpenClaim := { program := "ytnmikhmbnpiadaadoor", sum := "ddaef7418fdeecb4614e5da838722b3e971c94302b07e01159bade26d1c0da17", func := "chancery/chancerykeep3.ShapeQuarterTurns", spec := "shapeQuarterTurns", unfollowed := true, recurses := true, named := ["chancery/shape.quarter"], apart := false, laid := [("chancery/shape.quarter", laid_chancery_shape_quarter)], narrowed := true }
def ShapeQuarterTurnsUptoSaid : Prop := shapeQuarterTurnsUptoRow.holds Tryd.pinned (OpenSpec.upto shapeQuarterTurnsSpec)

/-- 'chancerykeep3.ShapeHitMiddle', WHERE WHAT IT READS IS OF BULK AT MOST 1048576: true; the input reads as it did. -/
def shapeHitMiddleUptoRow : OpenClaim := { program := "ytnmikhmbnpiadaadoor", sum := "ddaef7418fdeecb4614e5da838722b3e971c94302b07e01159bade26d1c0da17", func := "chancery/chancerykeep3.ShapeHitMiddle", spec := "shapeHitMiddle", unfollowed := true, recurses := true, named := ["chancery/shape.quarter"], apart := false, laid := [("chancery/shape.quarter", laid_chancery_shape_quarter)], narrowed := true }
def ShapeHitMiddleUptoSaid : Prop := shapeHitMiddleUptoRow.holds Tryd.pinned (OpenSpec.upto shapeHitMiddleSpec)

/-- 'chancerykeep3.ShapeUngroupTurned', WHERE WHAT IT READS IS OF BULK AT MOST 1048576: true; the input reads as it did. -/
def shapeUngroupTurnedUptoRow : OpenClaim := { program := "ytnmikhmbnpiadaadoor", sum := "ddaef7418fdeecb4614e5da838722b3e971c94302b07e01159bade26d1c0da17", func := "chancery/chancerykeep3.ShapeUngroupTurned", spec := "shapeUngroupTurned", unfollowed := true, recurses := true, named := ["chancery/shape.quarter"], apart := false, laid := [("chancery/shape.quarter", laid_chancery_shape_quarter)], narrowed := true }
def ShapeUngroupTurnedUptoSaid : Prop := shapeUngroupTurnedUptoRow.holds Tryd.pinned (OpenSpec.upto shapeUngroupTurnedSpec)

/-- 'chancerykeep3.ShapeAlignedTwice', WHERE WHAT IT READS IS OF BULK AT MOST 1048576: true; the input reads as it did. -/
def shapeAlignedTwiceUptoRow : OpenClaim := { program := "ytnmikhmbnpiadaadoor", sum := "ddaef7418fdeecb4614e5da838722b3e971c94302b07e01159bade26d1c0da17", func := "chancery/chancerykeep3.ShapeAlignedTwice", spec := "shapeAlignedTwice", unfollowed := true, recurses := true, named := ["chancery/shape.quarter"], apart := false, laid := [("chancery/shape.quarter", laid_chancery_shape_quarter)], narrowed := true }
def ShapeAlignedTwiceUptoSaid : Prop := shapeAlignedTwiceUptoRow.holds Tryd.pinned (OpenSpec.upto shapeAlignedTwiceSpec)

/-- 'chancerykeep3.ShapeGroupStays', WHERE WHAT IT READS IS OF BULK AT MOST 1048576: true; the input reads as it did. -/
def shapeGroupStaysUptoRow : OpenClaim := { program := "ytnmikhmbnpiadaadoor", sum := "ddaef7418fdeecb4614e5da838722b3e971c94302b07e01159bade26d1c0da17", func := "chancery/chancerykeep3.ShapeGroupStays", spec := "shapeGroupStays", unfollowed := true, recurses := true, named := ["chancery/shape.quarter"], apart := false, laid := [("chancery/shape.quarter", laid_chancery_shape_quarter)], narrowed := true }
def ShapeGroupStaysUptoSaid : Prop := shapeGroupStaysUptoRow.holds Tryd.pinned (OpenSpec.upto shapeGroupStaysSpec)

end Rows
end Go.Proofs.YtnmikhmbnpiadaaDoor
