/- Contracts of package scale. -/
import Derived.Test.YtoggpbbndoipdaaProg
import Derived.Test.YtoggpbbndoipdaaSlices
namespace Go.Proofs.Ytoggpbbndoipdaa.Scl
open Go.RowKit Go.Frm

theorem tdiv_bd (a b : Int) (hb : 0 < b) : (0 ≤ a → 0 ≤ a.tdiv b ∧ a.tdiv b ≤ a) ∧ (a ≤ 0 → a ≤ a.tdiv b ∧ a.tdiv b ≤ 0) := by
  refine ⟨fun h => ?_, fun h => ?_⟩
  · rw [Int.tdiv_eq_ediv_of_nonneg h]
    exact ⟨Int.ediv_nonneg h (by omega), Int.ediv_le_self _ h⟩
  · have h1 : a.tdiv b = -((-a) / b) := by
      rw [← Int.tdiv_eq_ediv_of_nonneg (show 0 ≤ -a by omega), Int.neg_tdiv, Int.neg_neg]
    have h2 := Int.ediv_nonneg (show 0 ≤ -a by omega) (show 0 ≤ b by omega)
    have h3 := Int.ediv_le_self b (show 0 ≤ -a by omega)
    omega
theorem floor_lt (a b : Int) (hb : 0 < b) (h : a.tmod b < 0) : a.tdiv b - 1 = a / b := by
  have h1 := Int.mul_tdiv_add_tmod a b
  have h2 := Int.lt_tmod_of_pos a hb
  symm
  rw [Int.ediv_eq_iff_of_pos hb]
  constructor
  · rw [Int.sub_mul, Int.mul_comm]; omega
  · rw [Int.sub_mul, Int.mul_comm]; omega
theorem floor_ge (a b : Int) (hb : 0 < b) (h : ¬ a.tmod b < 0) : a.tdiv b = a / b := by
  have h1 := Int.mul_tdiv_add_tmod a b
  have h2 := Int.tmod_lt_of_pos a hb
  symm
  rw [Int.ediv_eq_iff_of_pos hb]
  constructor
  · rw [Int.mul_comm]; omega
  · rw [Int.mul_comm]; omega

set_option maxHeartbeats 400000 in
theorem floor_any (a b : Int) (w : World) (hb : 0 < b) (h1 : -9000000000000000000 ≤ a) (h2 : a ≤ 9000000000000000000) :
    Calls Try.prog 14 #[.int .i64 a, .int .i64 b] w fun e w' => e = .returned (.int .i64 (a / b)) ∧ w = w' := by
  obtain ⟨t1, t2⟩ := tdiv_bd a b hb
  have t3 : -9000000000000000000 ≤ a.tdiv b ∧ a.tdiv b ≤ 9000000000000000000 := by omega
  obtain ⟨t3, t4⟩ := t3
  clear t1 t2
  have hn : ((b : Int) == 0) = false := by simp; omega
  by_cases h : a.tmod b < 0
  · have he := hide (floor_lt a b hb h)
    go_enter Try.func14, Try.ntmps14
    go_wp2
    go_ret
    exact ⟨ret_int he.out, rfl⟩
  · have he := hide (floor_ge a b hb h)
    go_enter Try.func14, Try.ntmps14
    go_wp2
    go_ret
    exact ⟨ret_int he.out, rfl⟩

/-- what makes a scale valid -/
structure Sc (lo hi st : Int) : Prop where
  a1 : -4000000000000 ≤ lo
  a2 : lo ≤ 4000000000000
  b1 : -4000000000000 ≤ hi
  b2 : hi ≤ 4000000000000
  c1 : 1 ≤ st
  c2 : st ≤ 4000000000000
  lt : lo < hi
  md : (hi - lo) % st = 0
  fl : lo / st * st = lo
  few : (hi - lo) / st ≤ 500

set_option maxHeartbeats 800000 in
theorem check_ok (lo hi st : Int) (w : World) (h : Sc lo hi st) :
    Calls Try.prog 15 #[.agg #[.int .i64 lo, .int .i64 hi, .int .i64 st]] w fun e w' => e = .returned (.int .i64 0) ∧ Below w.heap.size w w' := by
  obtain ⟨a1, a2, b1, b2, c1, c2, lt, md, fl, few⟩ := h
  have hn : ((st : Int) == 0) = false := by simp; omega
  have few0 : 0 ≤ (hi - lo) / st := Int.ediv_nonneg (by omega) (by omega)
  go_enter Try.func15, Try.ntmps15
  go_wp2_with fail
  go_quiet ((go_at_call 14; exact quiet_left (floor_any _ _ _ (by omega) (by omega) (by omega))))
  go_wp2
  go_ret
  exact ⟨rfl, below_drewN ((Below.refl _ _).alloc (Nat.le_refl _) _) _⟩

set_option maxHeartbeats 800000 in
theorem place_ok (lo hi st v long : Int) (w : World) (h : Sc lo hi st) (l1 : 0 ≤ long) (l2 : long ≤ 100000) (v1 : lo ≤ v) (v2 : v ≤ hi) :
    Calls Try.prog 11 #[.agg #[.int .i64 lo, .int .i64 hi, .int .i64 st], .int .i64 v, .int .i64 long] w fun e w' =>
      e = .returned (.tuple #[.int .i64 ((2 * (v - lo) * long + (hi - lo)) / (2 * (hi - lo))), .int .i64 0]) ∧ Below w.heap.size w w' := by
  have H := hide h
  obtain ⟨a1, a2, b1, b2, c1, c2, lt, _, _, _⟩ := h
  have p1 : 0 ≤ 2 * (v - lo) * long := Int.mul_nonneg (by omega) l1
  have p2 : 2 * (v - lo) * long ≤ 16000000000000 * 100000 := Int.mul_le_mul (by omega) l2 l1 (by omega)
  go_enter Try.func11, Try.ntmps11
  go_wp2_with fail
  refine (check_ok lo hi st _ H.out).mono ?_
  rintro e w1 ⟨rfl, hb1⟩
  obtain ⟨hc1, hf1⟩ := bcell hb1
  go_wp2_with fail
  go_quiet (fail)
  go_wp2_with (go_at_call 14; refine (floor_any _ _ _ (by omega) (by omega) (by omega)).mono ?_; rintro e w2 ⟨rfl, rfl⟩)
  go_ret2
  exact ⟨rfl, below_drewN (((Below.refl _ _).alloc (Nat.le_refl _) _).trans (hb1.mono (by simp))) _⟩

end Go.Proofs.Ytoggpbbndoipdaa.Scl
