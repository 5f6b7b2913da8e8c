/- The contract of chancerykeep3.ways. -/
import Derived.Test.YtegmokdhfmgdgaaRtLenPlain
import Derived.Test.YtegmokdhfmgdgaaRtEqual
namespace Go.Proofs.Ytegmokdhfmgdgaa.Rt
open Go.RowKit Go.Frm Go.Frm.Rt

def twoP (i : Nat) : Pt := if i = 0 then (0, 0) else (30, 0)
theorem rdF_two (w : World) : RdF (w.alloc (.cells #[.int .i64 0, .int .i64 0, .int .i64 30, .int .i64 0] 24)) (some ⟨w.heap.size, 0, none⟩) 2 2 (ptF twoP) := by
  have hB := Blk.new w 24 #[.int .i64 0, .int .i64 0, .int .i64 30, .int .i64 0]
  refine .inr ⟨w.heap.size, 0, rfl, fun i j hi hj => ?_⟩
  rw [hB.cell]
  rcases (show i = 0 ∨ i = 1 by omega) with rfl | rfl <;> rcases (show j = 0 ∨ j = 1 by omega) with rfl | rfl <;> rfl
set_option maxRecDepth 100000 in
set_option maxHeartbeats 8000000 in
theorem ways_ok (w : World) : Calls Try.prog 6 #[] w fun e w' => e = .returned (.bool true) ∧ Below w.heap.size w w' := by
  have hF := hide (find_way_ok (w := w) (A := none) (n := 0) (c := 0) (fs := fun _ => ⟨0, 0, 0, 0⟩) (.inl rfl) (by omega) (fun i hi => by omega) (0, 0) (30, 0) (by unfold okR; simp) (by unfold okR; simp) (-1) (-1) (by decide) (by decide))
  unfold ptV at hF
  dsimp only at hF
  go_enter Try.func6, Try.ntmps6
  go_wp2_with fail
  refine hF.out.mono ?_
  rintro e1 w1 ⟨A, m, c, Q, gap, rfl, ⟨hown, _⟩, hb, hpost⟩
  obtain ⟨rfl, hl⟩ := free_straight hpost
  have hm : m = 2 := by
    have := congrArg List.length hl
    simpa using this
  subst hm
  have hQ0 : Q 0 = (0, 0) := by have := congrArg (fun l => l.getD 0 (0, 0)) hl; simpa using this
  have hQ1 : Q 1 = (30, 0) := by have := congrArg (fun l => l.getD 1 (0, 0)) hl; simpa using this
  have hr1 : RdF w1 A 2 2 (ptF twoP) := by
    have h := RdF.of_own hown
    rcases h with h | ⟨b, off, e, hc⟩
    · omega
    · refine .inr ⟨b, off, e, fun i j hi hj => ?_⟩
      rw [hc i j hi hj]
      rcases (show i = 0 ∨ i = 1 by omega) with rfl | rfl
      · unfold ptF twoP; rw [hQ0]; rfl
      · unfold ptF twoP; rw [hQ1]; rfl
  have HE := hide (equal_ok (c := c) (c2 := 2) (hr1.alloc (.cells #[.int .i64 0, .int .i64 0, .int .i64 30, .int .i64 0] 24)) (rdF_two w1) (by omega))
  have hb1 := hide (hb.alloc hb.size (.cells #[.int .i64 0, .int .i64 0, .int .i64 30, .int .i64 0] 24))
  clear hown hb hpost hl hQ0 hQ1 hr1 hF
  go_wp2_with fail
  refine HE.out.mono ?_
  rintro e2 w2 ⟨rfl, q, rfl⟩
  have hb2 := hide (below_drewN hb1.out q)
  go_wp2_with fail
  go_ret
  exact ⟨rfl, hb2.out⟩
end Go.Proofs.Ytegmokdhfmgdgaa.Rt
