/-
  DERIVED. GIVEN WITH THE SEED: THE PROGRAM's TIES (one call each: nine closed facts by the kernel) AND EACH ROW's TIE, after the 31st guide's Derived/Test/Toyas{Tie, Card}.lean. No idea stands in it: it is a product of the set-up. Laid BY PROGRAM, IN A SANDBOX (cutbox-door.mjs). By AI agents, Wed Nov 11 2026. No macro, syntax, notation, axiom, sorry.
-/
import Derived.Test.YtdikfldogmbeaaaDoorRows
import Derived.LaidByTextLater
import Derived.SevenTiedAt
import Derived.LaidSub
import Derived.LaidOnce
namespace Go.Proofs.YtdikfldogmbeaaaDoor
open Go
set_option maxRecDepth 100000
theorem seatTie1 : Tryd.prog.laidByTextLater [("chancery/bidi.table", Rows.laid_chancery_bidi_table), ("chancery/bidi.brackets", Rows.laid_chancery_bidi_brackets)] [.data, .widerDeep] true :=
  Program.laidByTextLater_by_one 91 8 196 (by kernel_rfl) (by kernel_rfl) (by kernel_rfl) (by kernel_rfl) (by kernel_rfl) (by kernel_rfl) (fun _ _ => by kernel_rfl)
theorem noOwnUnsafe : Tryd.pinned.checked.prog.headLifts.contains "ownunsafe" = false := by kernel_rfl
theorem tie : Tryd.prog.laidByTextLater [("chancery/bidi.table", Rows.laid_chancery_bidi_table), ("chancery/bidi.brackets", Rows.laid_chancery_bidi_brackets)] [.data, .widerDeep] true :=
  Program.laidByTextLater.sub seatTie1 ["chancery/bidi.table", "chancery/bidi.brackets"] (by kernel_rfl) (by kernel_rfl)
theorem bidiIsolated_row_tie : Rows.bidiIsolatedRow.laidByTextAt .later Tryd.pinned [.data, .widerDeep] true :=
  OpenClaim.laidByTextAt_later rfl rfl tie noOwnUnsafe
theorem bidiOneDirection_row_tie : Rows.bidiOneDirectionRow.laidByTextAt .later Tryd.pinned [.data, .widerDeep] true :=
  OpenClaim.laidByTextAt_later rfl rfl tie noOwnUnsafe
theorem bidiOrderIsPermutation_row_tie : Rows.bidiOrderIsPermutationRow.laidByTextAt .later Tryd.pinned [.data, .widerDeep] true :=
  OpenClaim.laidByTextAt_later rfl rfl tie noOwnUnsafe
theorem bidiIsolatedUpto_row_tie : Rows.bidiIsolatedUptoRow.laidByTextAt .later Tryd.pinned [.data, .widerDeep] true :=
  OpenClaim.laidByTextAt_later rfl rfl tie noOwnUnsafe
theorem bidiOneDirectionUpto_row_tie : Rows.bidiOneDirectionUptoRow.laidByTextAt .later Tryd.pinned [.data, .widerDeep] true :=
  OpenClaim.laidByTextAt_later rfl rfl tie noOwnUnsafe
theorem bidiOrderIsPermutationUpto_row_tie : Rows.bidiOrderIsPermutationUptoRow.laidByTextAt .later Tryd.pinned [.data, .widerDeep] true :=
  OpenClaim.laidByTextAt_later rfl rfl tie noOwnUnsafe
end Go.Proofs.YtdikfldogmbeaaaDoor
