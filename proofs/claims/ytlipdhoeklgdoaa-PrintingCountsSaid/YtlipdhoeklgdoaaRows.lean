/-
  No cell of these rows narrows 'for every input' (looked for: loops, veiled, ifaces, maps, wideKeys, modest, calm, conditions, laid).
  DERIVED. THE GIVEN ROWS OF THIS SEAT. 4 by the template 'for every input the law returns true; each argument reads behind the call as it read before'; 0 by the template 'total and deterministic' (their statements: YtlipdhoeklgdoaaTotals.lean).
  GIVEN WITH THE SEED: the statements are not yours to turn. If you find one false, say at which input.
  Laid BY PROGRAM, IN A SANDBOX (cutbox-rows.mjs): the forced cells as the released guide's own fill.sh prints them over the translation fc1493c0c97fb9ca… (all of the seat's roots in one cut). By AI agents, Wed Nov 11 2026. No macro, syntax, notation, axiom, sorry.
-/
import Derived.Test.YtlipdhoeklgdoaaChecked
import GoSem.Claim
import GoSem.ClaimJoined
import GoSem.ClaimMapViews
import Derived.JoinedTies
import Derived.KernelRfl
namespace Go.Proofs.Ytlipdhoeklgdoaa
/- THE CELL 'sum', in the pinned program and in every row, IS THE sha256 OF THE DUMP (.gsa) THAT YtlipdhoeklgdoaaProg.lean LOADS. Nothing in Lean hashes anything: it is a label: what it is worth is what the hold of that sum in a sandbox is worth. -/
noncomputable def Try.pinned : Pinned := { name := "ytlipdhoeklgdoaa", sum := "fc1493c0c97fb9ca477cdc605bbd5937892f14397b06c4c83acd9e525af7bd48", checked := Try.checked }
namespace Rows
def none {H : Type} : Left H := { results := [], args := [] }

/-- 'chancerykeep3.PrintingCounts': WHATEVER THE INPUT: true; the input reads as it did. -/
def printingCountsSpec : ChangeSpec := { name := "printingCounts", fn := fun _ => fun
  | [d1, d2, d3, d4, d5, d6] => { results := [.lit (.bool true)], args := [d1, d2, d3, d4, d5, d6] }
  | _ => none }
def printingCountsRow : OpenClaim := { program := "ytlipdhoeklgdoaa", sum := "fc1493c0c97fb9ca477cdc605bbd5937892f14397b06c4c83acd9e525af7bd48", func := "chancery/chancerykeep3.PrintingCounts", spec := "printingCounts", recurses := true, apart := false }
def PrintingCountsSaid : Prop := printingCountsRow.holds Try.pinned (OpenSpec.ofChange printingCountsSpec)

/-- ITS FALSE NEIGHBOUR: 'it returns false'. Refute it at one input. -/
def printingCountsWrong : ChangeSpec := { name := "printingCounts", fn := fun _ => fun
  | [d1, d2, d3, d4, d5, d6] => { results := [.lit (.bool false)], args := [d1, d2, d3, d4, d5, d6] }
  | _ => none }
def PrintingCountsWrongFalsely : Prop := printingCountsRow.holds Try.pinned (OpenSpec.ofChange printingCountsWrong)

/-- 'chancerykeep3.TimelineOverAtEnd': WHATEVER THE INPUT: true; the input reads as it did. -/
def timelineOverAtEndSpec : ChangeSpec := { name := "timelineOverAtEnd", fn := fun _ => fun
  | [d1, d2, d3] => { results := [.lit (.bool true)], args := [d1, d2, d3] }
  | _ => none }
def timelineOverAtEndRow : OpenClaim := { program := "ytlipdhoeklgdoaa", sum := "fc1493c0c97fb9ca477cdc605bbd5937892f14397b06c4c83acd9e525af7bd48", func := "chancery/chancerykeep3.TimelineOverAtEnd", spec := "timelineOverAtEnd", unfollowed := true, recurses := true, apart := false }
def TimelineOverAtEndSaid : Prop := timelineOverAtEndRow.holds Try.pinned (OpenSpec.ofChange timelineOverAtEndSpec)

/-- ITS FALSE NEIGHBOUR: 'it returns false'. Refute it at one input. -/
def timelineOverAtEndWrong : ChangeSpec := { name := "timelineOverAtEnd", fn := fun _ => fun
  | [d1, d2, d3] => { results := [.lit (.bool false)], args := [d1, d2, d3] }
  | _ => none }
def TimelineOverAtEndWrongFalsely : Prop := timelineOverAtEndRow.holds Try.pinned (OpenSpec.ofChange timelineOverAtEndWrong)

/-- 'chancerykeep3.TimelineLastPicture': WHATEVER THE INPUT: true; the input reads as it did. -/
def timelineLastPictureSpec : ChangeSpec := { name := "timelineLastPicture", fn := fun _ => fun
  | [d] => { results := [.lit (.bool true)], args := [d] }
  | _ => none }
def timelineLastPictureRow : OpenClaim := { program := "ytlipdhoeklgdoaa", sum := "fc1493c0c97fb9ca477cdc605bbd5937892f14397b06c4c83acd9e525af7bd48", func := "chancery/chancerykeep3.TimelineLastPicture", spec := "timelineLastPicture", unfollowed := true, recurses := true, apart := false }
def TimelineLastPictureSaid : Prop := timelineLastPictureRow.holds Try.pinned (OpenSpec.ofChange timelineLastPictureSpec)

/-- ITS FALSE NEIGHBOUR: 'it returns false'. Refute it at one input. -/
def timelineLastPictureWrong : ChangeSpec := { name := "timelineLastPicture", fn := fun _ => fun
  | [d] => { results := [.lit (.bool false)], args := [d] }
  | _ => none }
def TimelineLastPictureWrongFalsely : Prop := timelineLastPictureRow.holds Try.pinned (OpenSpec.ofChange timelineLastPictureWrong)

/-- 'chancerykeep3.TimelineForthAndBack': WHATEVER THE INPUT: true; the input reads as it did. -/
def timelineForthAndBackSpec : ChangeSpec := { name := "timelineForthAndBack", fn := fun _ => fun
  | [d1, d2] => { results := [.lit (.bool true)], args := [d1, d2] }
  | _ => none }
def timelineForthAndBackRow : OpenClaim := { program := "ytlipdhoeklgdoaa", sum := "fc1493c0c97fb9ca477cdc605bbd5937892f14397b06c4c83acd9e525af7bd48", func := "chancery/chancerykeep3.TimelineForthAndBack", spec := "timelineForthAndBack", unfollowed := true, recurses := true, apart := false }
def TimelineForthAndBackSaid : Prop := timelineForthAndBackRow.holds Try.pinned (OpenSpec.ofChange timelineForthAndBackSpec)

/-- ITS FALSE NEIGHBOUR: 'it returns false'. Refute it at one input. -/
def timelineForthAndBackWrong : ChangeSpec := { name := "timelineForthAndBack", fn := fun _ => fun
  | [d1, d2] => { results := [.lit (.bool false)], args := [d1, d2] }
  | _ => none }
def TimelineForthAndBackWrongFalsely : Prop := timelineForthAndBackRow.holds Try.pinned (OpenSpec.ofChange timelineForthAndBackWrong)

/- THE SECOND FORM. 'bulk': how many values and letters a reading holds, each counted each time it is reached (what is shared counts as often as it is met; a slice's spare places count too). A statement '..UptoSaid' is the law's where the arguments, and the package variables that the reading takes, are together of bulk at most 1048576: NARROWER than '..Said'. Prove '..Said' where nothing that the law and all that it calls make is longer than what came in: it says more and counts as full. Else prove '..UptoSaid'. A law counts once. -/
mutual
def uptoBulk {H : Type} : DataW H → Nat
  | .lit (.string bytes) => bytes.length + 1
  | .lit _ => 1
  | .nil => 1
  | .ptr d => uptoBulk d + 1
  | .slice elems spare => uptoBulkAll elems + uptoBulkAll spare + 1
  | .agg parts => uptoBulkAll parts + 1
  | .iface _ d => uptoBulk d + 1
  | .map entries => uptoBulkEntries entries + 1
  | .held _ => 1
def uptoBulkAll {H : Type} : List (DataW H) → Nat
  | [] => 0
  | d :: r => uptoBulk d + uptoBulkAll r
def uptoBulkEntries {H : Type} : List (Lit × DataW H) → Nat
  | [] => 0
  | x :: r => uptoBulkEntry x + uptoBulkEntries r
def uptoBulkEntry {H : Type} : Lit × DataW H → Nat
  | (.string bytes, d) => bytes.length + uptoBulk d + 1
  | (_, d) => uptoBulk d + 1
 end
def uptoSmall : (H : Type) → List (DataW H) → Bool := fun _ ds => decide (uptoBulkAll ds ≤ 1048576)
def OpenSpec.upto (s : _root_.Go.ChangeSpec) : _root_.Go.OpenSpec := { _root_.Go.OpenSpec.ofChange s with cond := some uptoSmall }

/-- 'chancerykeep3.PrintingCounts', WHERE WHAT IT READS IS OF BULK AT MOST 1048576: true; the input reads as it did. -/
def printingCountsUptoRow : OpenClaim := { program := "ytlipdhoeklgdoaa", sum := "fc1493c0c97fb9ca477cdc605bbd5937892f14397b06c4c83acd9e525af7bd48", func := "chancery/chancerykeep3.PrintingCounts", spec := "printingCounts", recurses := true, apart := false, narrowed := true }
def PrintingCountsUptoSaid : Prop := printingCountsUptoRow.holds Try.pinned (OpenSpec.upto printingCountsSpec)

/-- 'chancerykeep3.TimelineOverAtEnd', WHERE WHAT IT READS IS OF BULK AT MOST 1048576: true; the input reads as it did. -/
def timelineOverAtEndUptoRow : OpenClaim := { program := "ytlipdhoeklgdoaa", sum := "fc1493c0c97fb9ca477cdc605bbd5937892f14397b06c4c83acd9e525af7bd48", func := "chancery/chancerykeep3.TimelineOverAtEnd", spec := "timelineOverAtEnd", unfollowed := true, recurses := true, apart := false, narrowed := true }
def TimelineOverAtEndUptoSaid : Prop := timelineOverAtEndUptoRow.holds Try.pinned (OpenSpec.upto timelineOverAtEndSpec)

/-- 'chancerykeep3.TimelineLastPicture', WHERE WHAT IT READS IS OF BULK AT MOST 1048576: true; the input reads as it did. -/
def timelineLastPictureUptoRow : OpenClaim := { program := "ytlipdhoeklgdoaa", sum := "fc1493c0c97fb9ca477cdc605bbd5937892f14397b06c4c83acd9e525af7bd48", func := "chancery/chancerykeep3.TimelineLastPicture", spec := "timelineLastPicture", unfollowed := true, recurses := true, apart := false, narrowed := true }
def TimelineLastPictureUptoSaid : Prop := timelineLastPictureUptoRow.holds Try.pinned (OpenSpec.upto timelineLastPictureSpec)

/-- 'chancerykeep3.TimelineForthAndBack', WHERE WHAT IT READS IS OF BULK AT MOST 1048576: true; the input reads as it did. -/
def timelineForthAndBackUptoRow : OpenClaim := { program := "ytlipdhoeklgdoaa", sum := "fc1493c0c97fb9ca477cdc605bbd5937892f14397b06c4c83acd9e525af7bd48", func := "chancery/chancerykeep3.TimelineForthAndBack", spec := "timelineForthAndBack", unfollowed := true, recurses := true, apart := false, narrowed := true }
def TimelineForthAndBackUptoSaid : Prop := timelineForthAndBackUptoRow.holds Try.pinned (OpenSpec.upto timelineForthAndBackSpec)

end Rows
end Go.Proofs.Ytlipdhoeklgdoaa
