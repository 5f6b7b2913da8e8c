/- PROVED HERE: whatever the look, chancerykeep3.MetricHeights returns true, and its argument reads behind the call as before. No condition beside those of the given row. -/
import Derived.Test.YtmnbcpinlgklpaaRows
import Derived.Test.YtmnbcpinlgklpaaBase
namespace Go.Proofs.Ytmnbcpinlgklpaa.MetricHeightsDone
open Go.RowKit Go.Frm Go.ChangeShapes Go.WideShapes Go.ChangeAt

theorem round_any (a b : Int) (w : World) (ha : 0 ≤ a) (ha2 : a ≤ 4000000000) (hb : 1 ≤ b) (hb2 : b ≤ 1000000) :
    Calls Try.prog 30 #[.int .i64 a, .int .i64 b] w fun e w' => e = .returned (.int .i64 ((2*a+b)/(2*b))) ∧ w = w' := by
  have h1 : (b == 0) = false := by simp; omega
  go_enter Try.func30, Try.ntmps30
  go_wp2
  go_ret
  exact ⟨rfl, rfl⟩

def chk (s : Int) : Int := if 40 ≤ s ∧ s ≤ 4000 then 0 else 2
set_option maxHeartbeats 400000 in
theorem check_any (s : Int) (b f : Bool) (w : World) :
    Calls Try.prog 11 #[.agg #[.int .i64 s, .bool b, .bool f]] w fun e w' => e = .returned (.int .i64 (chk s)) ∧ Below w.heap.size w w' := by
  go_enter Try.func11, Try.ntmps11
  go_wp2
  all_goals
    go_ret
    exact ⟨ret_int (by unfold chk; split <;> omega), (Below.refl _ _).alloc (Nat.le_refl _) _⟩

set_option maxHeartbeats 400000 in
theorem height_ok (s : Int) (b f : Bool) (w : World) (h1 : 40 ≤ s) (h2 : s ≤ 4000) :
    Calls Try.prog 10 #[.agg #[.int .i64 s, .bool b, .bool f]] w fun e w' => e = .returned (.tuple #[.int .i64 ((2*(4*s)+5)/10), .int .i64 (s - (2*(4*s)+5)/10), .int .i64 0]) ∧ Below w.heap.size w w' := by
  have hc : chk s = 0 := by unfold chk; rw [if_pos ⟨h1, h2⟩]
  go_enter Try.func10, Try.ntmps10
  go_wp2_with (go_at_call 11; refine (check_any s b f _).mono ?_; rw [hc]; rintro e w' ⟨rfl, hb⟩)
  obtain ⟨hc1, hf1⟩ := bcell hb
  go_quiet ((go_at_call 30; exact quiet_left (round_any _ _ _ (by omega) (by omega) (by omega) (by omega))))
  go_wp2
  go_ret3
  exact ⟨rfl, below_drewN (((Below.refl _ _).alloc (Nat.le_refl _) _).trans (hb.mono (by simp))) _⟩

set_option maxHeartbeats 400000 in
theorem height_no (s : Int) (b f : Bool) (w : World) (h1 : chk s = 2) :
    Calls Try.prog 10 #[.agg #[.int .i64 s, .bool b, .bool f]] w fun e w' => e = .returned (.tuple #[.int .i64 0, .int .i64 0, .int .i64 2]) ∧ Below w.heap.size w w' := by
  go_enter Try.func10, Try.ntmps10
  go_wp2_with (go_at_call 11; refine (check_any s b f _).mono ?_; rw [h1]; rintro e w' ⟨rfl, hb⟩)
  go_ret3
  exact ⟨rfl, (((Below.refl _ _).alloc (Nat.le_refl _) _).trans (hb.mono (by simp)))⟩

set_option maxHeartbeats 1000000 in
theorem walk (s : Int) (b f : Bool) (w : World) :
    Calls Try.prog 3 #[.agg #[.int .i64 s, .bool b, .bool f]] w fun e w' => e = .returned (.bool true) ∧ Below w.heap.size w w' := by
  by_cases hok : 40 ≤ s ∧ s ≤ 4000
  · obtain ⟨h1, h2⟩ := hok
    have hc : chk s = 0 := by unfold chk; rw [if_pos ⟨h1, h2⟩]
    go_enter Try.func3, Try.ntmps3
    go_wp2_with fail
    refine (height_ok 240 _ _ _ (by omega) (by omega)).mono ?_
    rintro e w1 ⟨rfl, hb1⟩
    obtain ⟨hc1, hf1⟩ := bcell hb1
    go_wp2_with fail
    refine (height_ok s _ _ _ (by omega) (by omega)).mono ?_
    rintro e w2 ⟨rfl, hb2⟩
    obtain ⟨hc2, hf2⟩ := bcell hb2
    have := hb1.size
    have hz : w.heap.size < w1.heap.size := by simp at this; omega
    go_wp2_with fail
    refine (check_any s _ _ _).mono ?_
    rw [hc]
    rintro e w3 ⟨rfl, hb3⟩
    obtain ⟨hc3, hf3⟩ := bcell hb3
    have := hb2.size
    have hz2 : w.heap.size < w2.heap.size := by omega
    go_wp2
    all_goals go_ret
    exact ⟨ret_bool (by simp; omega), (((Below.refl _ _).alloc (Nat.le_refl _) _).trans (hb1.mono (by simp))).trans ((hb2.mono (by omega)).trans (hb3.mono (by omega)))⟩
  · have hc : chk s = 2 := by unfold chk; rw [if_neg hok]
    go_enter Try.func3, Try.ntmps3
    go_wp2_with fail
    refine (height_ok 240 _ _ _ (by omega) (by omega)).mono ?_
    rintro e w1 ⟨rfl, hb1⟩
    obtain ⟨hc1, hf1⟩ := bcell hb1
    go_wp2_with fail
    refine (height_no s _ _ _ hc).mono ?_
    rintro e w2 ⟨rfl, hb2⟩
    obtain ⟨hc2, hf2⟩ := bcell hb2
    have := hb1.size
    have hz : w.heap.size < w1.heap.size := by simp at this; omega
    go_wp2_with fail
    refine (check_any s _ _ _).mono ?_
    rw [hc]
    rintro e w3 ⟨rfl, hb3⟩
    have := hb2.size
    go_wp2
    go_ret
    exact ⟨ret_bool (by simp), (((Below.refl _ _).alloc (Nat.le_refl _) _).trans (hb1.mono (by simp))).trans ((hb2.mono (by omega)).trans (hb3.mono (by omega)))⟩

theorem walked : Walked Try.checked.prog 3 Try.f3 := by
  intro H enc W args ds ps hval hA
  rw [Try.params3] at hA hval
  obtain ⟨v0, d0, hargs, rfl, h0⟩ := trodAll_one hA
  obtain rfl : args = #[v0] := by cases args; simp_all
  obtain ⟨c0, c1, c2, y0, y1, y2, m, rfl, rfl, rfl, hy0, hy1, hy2⟩ := Go.Joins.open_agg3 Try.underlying23 (by kernel_rfl) (by kernel_rfl) (hval 0 _ _ rfl rfl) h0
  obtain ⟨n, e0, rfl, _⟩ := DataW.trod_int Try.underlying3 hy0
  obtain ⟨b, e1, rfl⟩ := DataW.trod_bool Try.underlying4 hy1
  obtain ⟨f, e2, rfl⟩ := DataW.trod_bool Try.underlying4 hy2
  simp at e0 e1 e2
  subst e0 e1 e2
  exact walk n b f W

theorem lifted (os : Os) (started : os.Started) (H : Type) (enc : TypeId × Value → H) :
    ReturnsInHanded {} Try.checked os 3 .any (Rows.metricHeightsSpec.pre6 enc Try.prog Try.f3 Rows.metricHeightsRow.domain false) (Rows.metricHeightsSpec.post enc Try.prog Try.f3 false true false false) :=
  law_lift (C := Try.checked) (tb := 4) (by kernel_rfl) started (by kernel_rfl) Try.func3 rfl
    (fun ds h => match ds, h with | [_], _ => rfl) rfl Try.underlying4 (by kernel_rfl) (by kernel_rfl)
    (ChangeSpec.witness6 (enc := enc) (C := Try.checked) false ⟨#[], #[.agg #[.int .i64 0, .bool false, .bool false]], []⟩ 8 (by kernel_rfl) (by kernel_rfl) (by kernel_rfl) (by kernel_rfl))
    walked

/-- THE STATEMENT -/
theorem proved : Rows.MetricHeightsSaid :=
  OpenClaim.holds_of_wide 3 Try.f3 rfl rfl rfl rfl rfl rfl rfl ⟨rfl, rfl, rfl, rfl, rfl⟩ rfl rfl rfl rfl rfl (by kernel_rfl) Try.func3 (by kernel_rfl)
    (of_decide_eq_true (by kernel_rfl)) (by unfold Func.isWrapper; first | (rw [if_pos (by decide +kernel)]; kernel_rfl) | (rw [if_neg (by decide +kernel)]; exact ⟨rfl, rfl⟩))
    (fun os started H enc _ => lifted os started H enc)
#print axioms proved
end Go.Proofs.Ytmnbcpinlgklpaa.MetricHeightsDone
