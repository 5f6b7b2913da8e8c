/- The contract of chancerykeep3.broken: paragraphs are broken. -/
import Derived.Test.YtmjhmcjlbcadaaaLnGreedy
namespace Go.Proofs.Ytmjhmcjlbcadaaa.Ln
open Go.RowKit Go.Frm

/-- the parts that 'broken' takes -/
def P0 : Pts where
  n := 2
  kd i := if i = 1 then 2 else 0
  wd i := if i = 0 then 30 else 0
  st _ := 0
  sh _ := 0
  co i := if i = 1 then -10000 else 0
  fl _ := false
theorem P0_ok : VP P0 where
  few := by decide
  kind i hi := by
    have : i < 2 := hi
    rcases (show i = 0 ∨ i = 1 by omega) with rfl | rfl <;> decide
  wide i hi := by
    have : i < 2 := hi
    rcases (show i = 0 ∨ i = 1 by omega) with rfl | rfl <;> decide
  str i hi := by
    have : i < 2 := hi
    rcases (show i = 0 ∨ i = 1 by omega) with rfl | rfl <;> decide
  shr i hi := by
    have : i < 2 := hi
    rcases (show i = 0 ∨ i = 1 by omega) with rfl | rfl <;> decide
  cost i hi := by
    have : i < 2 := hi
    rcases (show i = 0 ∨ i = 1 by omega) with rfl | rfl <;> decide
  glue i hi := by
    have : i < 2 := hi
    rcases (show i = 0 ∨ i = 1 by omega) with rfl | rfl <;> decide
  pen i hi := by
    have : i < 2 := hi
    rcases (show i = 0 ∨ i = 1 by omega) with rfl | rfl <;> decide
theorem greedy0 : greedy P0 [30] (P0.n + 1) (bg P0 0) 0 = [⟨0, 1, 30, 0, 0, 30⟩] := by kernel_rfl
theorem gcost0 : gcost P0 [30] 0 (P0.n + 1) (bg P0 0) 0 false = 100 := by kernel_rfl
theorem vs0 : VS [30] 0 := ⟨by decide, by decide, by simp, by decide⟩
theorem greedy0_ok (Ap : Option Addr) (Aw : Option Addr) (cp cw : Nat) (w : World) (hr : RdF w Ap 2 6 (ptV P0)) (hw : RdI w Aw [30]) :
    Calls Try.prog 10 #[.slice Ap 2 cp, .agg #[.slice Aw 1 cw, .int .i64 0]] w fun e w' => ∃ g c, e = .returned (.tuple #[.slice (some ⟨g, 0, none⟩) 1 c, .int .i64 100, .int .i64 0]) ∧ w'.cell? ⟨g, 2, none⟩ = some (.int .i64 30) ∧ Below w.heap.size w w' := by
  have h := Greedy_ok Ap P0 cp Aw [30] 0 cw w hr P0_ok hw vs0
  rw [greedy0, gcost0] at h
  refine h.mono ?_
  rintro e w' ⟨A, c, rfl, hown, hb⟩
  obtain ⟨g, rfl, _⟩ := own_at hown (by decide)
  exact ⟨g, c, rfl, (row_get hown (i := 0) (by decide) rfl).2.2.1, hb⟩
theorem row0 (w : World) : RdF (w.alloc (.cells #[.int .i64 0, .int .i64 30, .int .i64 0, .int .i64 0, .int .i64 0, .bool false, .int .i64 2, .int .i64 0, .int .i64 0, .int .i64 0, .int .i64 (-10000), .bool false] 39)) (some ⟨w.heap.size, 0, none⟩) 2 6 (ptV P0) := by
  have h := World.ownsRow_lit (base := w.heap.size) (e := 39) (size := 6) w #[.int .i64 0, .int .i64 30, .int .i64 0, .int .i64 0, .int .i64 0, .bool false, .int .i64 2, .int .i64 0, .int .i64 0, .int .i64 0, .int .i64 (-10000), .bool false] 2 (Nat.le_refl _) (by decide) rfl
  exact RdF.of_own h
set_option maxRecDepth 100000 in
set_option maxHeartbeats 4000000 in
theorem broken_ok (w : World) : Calls Try.prog 6 #[] w fun e w' => e = .returned (.bool true) ∧ Below w.heap.size w w' := by
  go_enter Try.func6, Try.ntmps6
  have hb2 := ((Below.refl w.heap.size w).alloc (Nat.le_refl _) (.cells #[.int .i64 0, .int .i64 30, .int .i64 0, .int .i64 0, .int .i64 0, .bool false, .int .i64 2, .int .i64 0, .int .i64 0, .int .i64 0, .int .i64 (-10000), .bool false] 39)).alloc (by simp) (.cells #[.int .i64 30] 3)
  go_wp2_with (go_at_call 10; refine (greedy0_ok _ _ _ _ _ ((row0 w).alloc _) (rdI_lit (w.alloc (.cells #[.int .i64 0, .int .i64 30, .int .i64 0, .int .i64 0, .int .i64 0, .bool false, .int .i64 2, .int .i64 0, .int .i64 0, .int .i64 0, .int .i64 (-10000), .bool false] 39)) 3 _ [30] (by simp) (by decide))).mono ?_; rintro e w1 ⟨g, c, rfl, g2, hb⟩)
  go_ret
  exact ⟨rfl, hb2.trans (hb.mono hb2.size)⟩
end Go.Proofs.Ytmjhmcjlbcadaaa.Ln
