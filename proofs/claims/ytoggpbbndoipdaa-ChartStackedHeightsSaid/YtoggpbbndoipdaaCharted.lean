/- The contract of chancerykeep3.charted. -/
import Derived.Test.YtoggpbbndoipdaaSectors
namespace Go.Proofs.Ytoggpbbndoipdaa.Chr
open Go.RowKit Go.Frm

set_option maxRecDepth 100000 in
set_option maxHeartbeats 2000000 in
theorem charted_ok (w : World) : Calls Try.prog 5 #[] w fun e w' => e = .returned (.bool true) ∧ Below w.heap.size w w' := by
  go_enter Try.func5, Try.ntmps5
  go_wp2_with fail
  have hbel : Below w.heap.size w (((w.alloc (.cells #[.string ⟨#[97]⟩, .string ⟨#[98]⟩] 9)).alloc (.cells #[.int .i64 1, .int .i64 3] 3)).alloc (.cells #[.slice (some ⟨w.heap.size + 1, 0, none⟩) 2 2] 42)) :=
    (((Below.refl _ _).alloc (Nat.le_refl _) _).alloc (by simp) _).alloc (by simp; omega) _
  have hr1 : RdI ((w.alloc (.cells #[.string ⟨#[97]⟩, .string ⟨#[98]⟩] 9)).alloc (.cells #[.int .i64 1, .int .i64 3] 3)) (some ⟨w.heap.size + 1, 0, none⟩) [1, 3] := by
    exact rdI_lit _ _ _ [1, 3] (by simp) (by decide)
  have hr2 := hr1.alloc (.cells #[.slice (some ⟨w.heap.size + 1, 0, none⟩) 2 2] 42)
  have hm : RdM (((w.alloc (.cells #[.string ⟨#[97]⟩, .string ⟨#[98]⟩] 9)).alloc (.cells #[.int .i64 1, .int .i64 3] 3)).alloc (.cells #[.slice (some ⟨w.heap.size + 1, 0, none⟩) 2 2] 42)) (some ⟨w.heap.size + 1 + 1, 0, none⟩) 1 (fun _ => [1, 3]) := by
    refine .inr ⟨_, _, rfl, fun i hi => ⟨some ⟨w.heap.size + 1, 0, none⟩, 2, ?_, hr2⟩⟩
    obtain rfl : i = 0 := by omega
    exact (World.cell?_alloc_at _ _ _ _ (by simp)).trans rfl
  generalize ((w.alloc (.cells #[.string ⟨#[97]⟩, .string ⟨#[98]⟩] 9)).alloc (.cells #[.int .i64 1, .int .i64 3] 3)).alloc (.cells #[.slice (some ⟨w.heap.size + 1, 0, none⟩) 2 2] 42) = w0 at *
  clear hr1 hr2
  refine (sectors_ok _ _ 2 _ _ (fun _ => [1, 3]) _ ⟨by omega, by omega, by omega, by omega, by omega, by omega, fun _ => rfl, fun _ _ => rfl, fun i j _ hj => by
    match j, hj with
    | 0, _ => decide
    | 1, _ => decide⟩ hm).mono ?_
  rintro e w1 ⟨A, c, rfl, hown, hbel1⟩
  obtain ⟨b, off, rfl, hc⟩ := (RdF.of_own hown).at_ (show 1 < 2 by omega)
  have k0 : w1.cell? ⟨b, off + 3, none⟩ = some (.int .i64 1) := hc 0 (by omega)
  have k1 : w1.cell? ⟨b, off + 3 + 1, none⟩ = some (.int .i64 900) := hc 1 (by omega)
  have k2 : w1.cell? ⟨b, off + 3 + 2, none⟩ = some (.int .i64 3600) := hc 2 (by omega)
  clear hc hown
  go_wp2_with fail
  go_ret
  exact ⟨rfl, hbel.trans (hbel1.mono hbel.size)⟩

end Go.Proofs.Ytoggpbbndoipdaa.Chr
