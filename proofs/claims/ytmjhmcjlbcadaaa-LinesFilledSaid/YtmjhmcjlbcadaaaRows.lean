/-
  No cell of these rows narrows 'for every input' (looked for: loops, veiled, ifaces, maps, wideKeys, modest, calm, conditions, laid).
  DERIVED. THE GIVEN ROWS OF THIS SEAT. 3 by the template 'for every input the law returns true; each argument reads behind the call as it read before'; 0 by the template 'total and deterministic' (their statements: YtmjhmcjlbcadaaaTotals.lean).
  GIVEN WITH THE SEED: the statements are not yours to turn. If you find one false, say at which input.
  Laid BY PROGRAM, IN A SANDBOX (cutbox-rows.mjs): the forced cells as the released guide's own fill.sh prints them over the translation 42f1e07a40132003… (all of the seat's roots in one cut). By AI agents, Wed Nov 11 2026. No macro, syntax, notation, axiom, sorry.
-/
import Derived.Test.YtmjhmcjlbcadaaaChecked
import GoSem.Claim
import GoSem.ClaimJoined
import GoSem.ClaimMapViews
import Derived.JoinedTies
import Derived.KernelRfl
namespace Go.Proofs.Ytmjhmcjlbcadaaa
/- THE CELL 'sum', in the pinned program and in every row, IS THE sha256 OF THE DUMP (.gsa) THAT YtmjhmcjlbcadaaaProg.lean LOADS. Nothing in Lean hashes anything: it is a label: what it is worth is what the hold of that sum in a sandbox is worth. -/
noncomputable def Try.pinned : Pinned := { name := "ytmjhmcjlbcadaaa", sum := "42f1e07a40132003683b7785d685737ac8baa128bc49cb1598c42aee0ceeba45", checked := Try.checked }
namespace Rows
def none {H : Type} : Left H := { results := [], args := [] }

/-- 'chancerykeep3.LinesNeverWorse': WHATEVER THE INPUT: true; the input reads as it did. -/
def linesNeverWorseSpec : ChangeSpec := { name := "linesNeverWorse", fn := fun _ => fun
  | [d1, d2] => { results := [.lit (.bool true)], args := [d1, d2] }
  | _ => none }
def linesNeverWorseRow : OpenClaim := { program := "ytmjhmcjlbcadaaa", sum := "42f1e07a40132003683b7785d685737ac8baa128bc49cb1598c42aee0ceeba45", func := "chancery/chancerykeep3.LinesNeverWorse", spec := "linesNeverWorse", recurses := true, apart := false }
def LinesNeverWorseSaid : Prop := linesNeverWorseRow.holds Try.pinned (OpenSpec.ofChange linesNeverWorseSpec)

/-- ITS FALSE NEIGHBOUR: 'it returns false'. Refute it at one input. -/
def linesNeverWorseWrong : ChangeSpec := { name := "linesNeverWorse", fn := fun _ => fun
  | [d1, d2] => { results := [.lit (.bool false)], args := [d1, d2] }
  | _ => none }
def LinesNeverWorseWrongFalsely : Prop := linesNeverWorseRow.holds Try.pinned (OpenSpec.ofChange linesNeverWorseWrong)

/-- 'chancerykeep3.LinesPrefixStays': WHATEVER THE INPUT: true; the input reads as it did. -/
def linesPrefixStaysSpec : ChangeSpec := { name := "linesPrefixStays", fn := fun _ => fun
  | [d1, d2, d3] => { results := [.lit (.bool true)], args := [d1, d2, d3] }
  | _ => none }
def linesPrefixStaysRow : OpenClaim := { program := "ytmjhmcjlbcadaaa", sum := "42f1e07a40132003683b7785d685737ac8baa128bc49cb1598c42aee0ceeba45", func := "chancery/chancerykeep3.LinesPrefixStays", spec := "linesPrefixStays", recurses := true, apart := false }
def LinesPrefixStaysSaid : Prop := linesPrefixStaysRow.holds Try.pinned (OpenSpec.ofChange linesPrefixStaysSpec)

/-- ITS FALSE NEIGHBOUR: 'it returns false'. Refute it at one input. -/
def linesPrefixStaysWrong : ChangeSpec := { name := "linesPrefixStays", fn := fun _ => fun
  | [d1, d2, d3] => { results := [.lit (.bool false)], args := [d1, d2, d3] }
  | _ => none }
def LinesPrefixStaysWrongFalsely : Prop := linesPrefixStaysRow.holds Try.pinned (OpenSpec.ofChange linesPrefixStaysWrong)

/-- 'chancerykeep3.LinesFilled': WHATEVER THE INPUT: true; the input reads as it did. -/
def linesFilledSpec : ChangeSpec := { name := "linesFilled", fn := fun _ => fun
  | [d1, d2, d3] => { results := [.lit (.bool true)], args := [d1, d2, d3] }
  | _ => none }
def linesFilledRow : OpenClaim := { program := "ytmjhmcjlbcadaaa", sum := "42f1e07a40132003683b7785d685737ac8baa128bc49cb1598c42aee0ceeba45", func := "chancery/chancerykeep3.LinesFilled", spec := "linesFilled", recurses := true, apart := false }
def LinesFilledSaid : Prop := linesFilledRow.holds Try.pinned (OpenSpec.ofChange linesFilledSpec)

/-- ITS FALSE NEIGHBOUR: 'it returns false'. Refute it at one input. -/
def linesFilledWrong : ChangeSpec := { name := "linesFilled", fn := fun _ => fun
  | [d1, d2, d3] => { results := [.lit (.bool false)], args := [d1, d2, d3] }
  | _ => none }
def LinesFilledWrongFalsely : Prop := linesFilledRow.holds Try.pinned (OpenSpec.ofChange linesFilledWrong)

/- THE SECOND FORM. 'bulk': how many values and letters a reading holds, each counted each time it is reached (what is shared counts as often as it is met; a slice's spare places count too). A statement '..UptoSaid' is the law's where the arguments, and the package variables that the reading takes, are together of bulk at most 1048576: NARROWER than '..Said'. Prove '..Said' where nothing that the law and all that it calls make is longer than what came in: it says more and counts as full. Else prove '..UptoSaid'. A law counts once. -/
mutual
def uptoBulk {H : Type} : DataW H → Nat
  | .lit (.string bytes) => bytes.length + 1
  | .lit _ => 1
  | .nil => 1
  | .ptr d => uptoBulk d + 1
  | .slice elems spare => uptoBulkAll elems + uptoBulkAll spare + 1
  | .agg parts => uptoBulkAll parts + 1
  | .iface _ d => uptoBulk d + 1
  | .map entries => uptoBulkEntries entries + 1
  | .held _ => 1
def uptoBulkAll {H : Type} : List (DataW H) → Nat
  | [] => 0
  | d :: r => uptoBulk d + uptoBulkAll r
def uptoBulkEntries {H : Type} : List (Lit × DataW H) → Nat
  | [] => 0
  | x :: r => uptoBulkEntry x + uptoBulkEntries r
def uptoBulkEntry {H : Type} : Lit × DataW H → Nat
  | (.string bytes, d) => bytes.length + uptoBulk d + 1
  | (_, d) => uptoBulk d + 1
 end
def uptoSmall : (H : Type) → List (DataW H) → Bool := fun _ ds => decide (uptoBulkAll ds ≤ 1048576)
def OpenSpec.upto (s : _root_.Go.ChangeSpec) : _root_.Go.OpenSpec := { _root_.Go.OpenSpec.ofChange s with cond := some uptoSmall }

/-- 'chancerykeep3.LinesNeverWorse', WHERE WHAT IT READS IS OF BULK AT MOST 1048576: true; the input reads as it did. -/
def linesNeverWorseUptoRow : OpenClaim := { program := "ytmjhmcjlbcadaaa", sum := "42f1e07a40132003683b7785d685737ac8baa128bc49cb1598c42aee0ceeba45", func := "chancery/chancerykeep3.LinesNeverWorse", spec := "linesNeverWorse", recurses := true, apart := false, narrowed := true }
def LinesNeverWorseUptoSaid : Prop := linesNeverWorseUptoRow.holds Try.pinned (OpenSpec.upto linesNeverWorseSpec)

/-- 'chancerykeep3.LinesPrefixStays', WHERE WHAT IT READS IS OF BULK AT MOST 1048576: true; the input reads as it did. -/
def linesPrefixStaysUptoRow : OpenClaim := { program := "ytmjhmcjlbcadaaa", sum := "42f1e07a40132003683b7785d685737ac8baa128bc49cb1598c42aee0ceeba45", func := "chancery/chancerykeep3.LinesPrefixStays", spec := "linesPrefixStays", recurses := true, apart := false, narrowed := true }
def LinesPrefixStaysUptoSaid : Prop := linesPrefixStaysUptoRow.holds Try.pinned (OpenSpec.upto linesPrefixStaysSpec)

/-- 'chancerykeep3.LinesFilled', WHERE WHAT IT READS IS OF BULK AT MOST 1048576: true; the input reads as it did. -/
def linesFilledUptoRow : OpenClaim := { program := "ytmjhmcjlbcadaaa", sum := "42f1e07a40132003683b7785d685737ac8baa128bc49cb1598c42aee0ceeba45", func := "chancery/chancerykeep3.LinesFilled", spec := "linesFilled", recurses := true, apart := false, narrowed := true }
def LinesFilledUptoSaid : Prop := linesFilledUptoRow.holds Try.pinned (OpenSpec.upto linesFilledSpec)

end Rows
end Go.Proofs.Ytmjhmcjlbcadaaa
