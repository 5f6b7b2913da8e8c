/- Contracts of package shape: round, turned. -/
import Derived.Test.YtnmikhmbnpiadaaDoorShapeSine
namespace Go.Proofs.YtnmikhmbnpiadaaDoor.Shp
open Go.RowKit Go.Frm

theorem fl_lt (a b : Int) (hb : 0 < b) (h : a.tmod b < 0) : a.tdiv b - 1 = a / b := by
  have h1 := Int.mul_tdiv_add_tmod a b
  have h2 := Int.lt_tmod_of_pos a hb
  symm
  rw [Int.ediv_eq_iff_of_pos hb]
  constructor
  · rw [Int.sub_mul, Int.mul_comm]; omega
  · rw [Int.sub_mul, Int.mul_comm]; omega
theorem fl_ge (a b : Int) (hb : 0 < b) (h : ¬ a.tmod b < 0) : a.tdiv b = a / b := by
  have h1 := Int.mul_tdiv_add_tmod a b
  have h2 := Int.tmod_lt_of_pos a hb
  symm
  rw [Int.ediv_eq_iff_of_pos hb]
  constructor
  · rw [Int.mul_comm]; omega
  · rw [Int.mul_comm]; omega
theorem tdiv_in (a b : Int) (hb : 0 < b) (A : Int) (h1 : -A ≤ a) (h2 : a ≤ A) : -A ≤ a.tdiv b ∧ a.tdiv b ≤ A := by
  by_cases h : 0 ≤ a
  · rw [Int.tdiv_eq_ediv_of_nonneg h]
    have x1 := Int.ediv_nonneg h (show 0 ≤ b by omega)
    have x2 := Int.ediv_le_self b h
    omega
  · have e : a.tdiv b = -((-a) / b) := by rw [← Int.tdiv_eq_ediv_of_nonneg (show 0 ≤ -a by omega), Int.neg_tdiv, Int.neg_neg]
    have x1 := Int.ediv_nonneg (show 0 ≤ -a by omega) (show 0 ≤ b by omega)
    have x2 := Int.ediv_le_self b (show 0 ≤ -a by omega)
    omega
theorem mul_in {a b : Int} {A B : Nat} (h1 : a.natAbs ≤ A) (h2 : b.natAbs ≤ B) : (a * b).natAbs ≤ A * B := by rw [Int.natAbs_mul]; exact Nat.mul_le_mul h1 h2

/-- a quotient, rounded half up -/
def rdu (a b : Int) : Int := (2 * a + b) / (2 * b)
set_option maxRecDepth 100000 in
set_option maxHeartbeats 1000000 in
theorem round_ok (a b : Int) (w : World) (h1 : -1000000000000000 ≤ a) (h2 : a ≤ 1000000000000000) (b1 : 1 ≤ b) (b2 : b ≤ 100000000) :
    Calls Tryd.prog 28 #[.int .i64 a, .int .i64 b] w fun e w' => e = .returned (.int .i64 (rdu a b)) ∧ w = w' := by
  have hz : ((b * 2 : Int) == 0) = false := by simp; omega
  have e0 : b * 2 = 2 * b := Int.mul_comm _ _
  have t3 := tdiv_in (2 * a + b) (b * 2) (by omega) 4000000000000000 (by omega) (by omega)
  have hr : rdu a b = (2 * a + b) / (b * 2) := by unfold rdu; rw [e0]
  have t4 := Int.lt_tmod_of_pos (2 * a + b) (show (0 : Int) < b * 2 by omega)
  have t5 := Int.tmod_lt_of_pos (2 * a + b) (show (0 : Int) < b * 2 by omega)
  by_cases h : (2 * a + b).tmod (b * 2) < 0
  · have he := hide (fl_lt (2 * a + b) (b * 2) (by omega) h)
    have Hr := hide hr
    clear hr e0
    go_enter Tryd.func28, Tryd.ntmps28
    go_wp2_with fail
    go_ret
    exact ⟨ret_int (by rw [Hr.out, he.out]), rfl⟩
  · have he := hide (fl_ge (2 * a + b) (b * 2) (by omega) h)
    have Hr := hide hr
    clear hr e0
    go_enter Tryd.func28, Tryd.ntmps28
    go_wp2_with fail
    go_ret
    exact ⟨ret_int (by rw [Hr.out, he.out]), rfl⟩

/-- where a point is that is turned -/
def tuX (x y cx cy t : Int) : Int := rdu (cx * 65536 + (2 * x - cx) * sn (t + 900) - (2 * y - cy) * sn t) 131072
def tuY (x y cx cy t : Int) : Int := rdu (cy * 65536 + (2 * x - cx) * sn t + (2 * y - cy) * sn (t + 900)) 131072
set_option maxRecDepth 100000 in
set_option maxHeartbeats 1000000 in
theorem turned_ok (x y cx cy t : Int) (w : World) (hq : TabQ w) (x1 : x.natAbs ≤ 1000000000) (y1 : y.natAbs ≤ 1000000000) (cx1 : cx.natAbs ≤ 1000000000) (cy1 : cy.natAbs ≤ 1000000000) (t1 : t.natAbs ≤ 100000) :
    Calls Tryd.prog 27 #[.int .i64 x, .int .i64 y, .int .i64 cx, .int .i64 cy, .int .i64 t] w fun e w' => e = .returned (.tuple #[.int .i64 (tuX x y cx cy t), .int .i64 (tuY x y cx cy t)]) ∧ ∃ d, w' = w.drewN d := by
  have hs := fun wx hqx => sine_ok t wx hqx
  have hc := fun wx hqx => sine_ok (t + 900) wx hqx
  have bs := sn_bd t
  have bc := sn_bd (t + 900)
  have hX : tuX x y cx cy t = rdu (cx * 65536 + (2 * x - cx) * sn (t + 900) - (2 * y - cy) * sn t) 131072 := rfl
  have hY : tuY x y cx cy t = rdu (cy * 65536 + (2 * x - cx) * sn t + (2 * y - cy) * sn (t + 900)) 131072 := rfl
  generalize sn (t + 900) = c at *
  generalize sn t = s at *
  have m1 := mul_in (a := 2 * x - cx) (b := c) (A := 3000000000) (B := 65537) (by omega) (by omega)
  have m2 := mul_in (a := 2 * y - cy) (b := s) (A := 3000000000) (B := 65537) (by omega) (by omega)
  have m3 := mul_in (a := 2 * x - cx) (b := s) (A := 3000000000) (B := 65537) (by omega) (by omega)
  have m4 := mul_in (a := 2 * y - cy) (b := c) (A := 3000000000) (B := 65537) (by omega) (by omega)
  have HX := hide hX
  have HY := hide hY
  have Hs := hide hs
  have Hc := hide hc
  have Hq := hide hq
  clear hX hY hs hc hq
  have n1 : -200000000000000 ≤ (2 * x - cx) * c ∧ (2 * x - cx) * c ≤ 200000000000000 := by omega
  have n2 : -200000000000000 ≤ (2 * y - cy) * s ∧ (2 * y - cy) * s ≤ 200000000000000 := by omega
  have n3 : -200000000000000 ≤ (2 * x - cx) * s ∧ (2 * x - cx) * s ≤ 200000000000000 := by omega
  have n4 : -200000000000000 ≤ (2 * y - cy) * c ∧ (2 * y - cy) * c ≤ 200000000000000 := by omega
  clear m1 m2 m3 m4
  go_enter Tryd.func27, Tryd.ntmps27
  go_wp2_with fail
  refine (Hs.out w Hq.out).mono ?_
  rintro e w1 ⟨rfl, d1, rfl⟩
  go_wp2_with fail
  refine (Hc.out _ (Hq.out.drewN d1)).mono ?_
  rintro e w2 ⟨rfl, d2, rfl⟩
  go_wp2_with (go_at_call 28; refine (round_ok _ _ _ (by omega) (by omega) (by omega) (by omega)).mono ?_; rintro e w3 ⟨rfl, rfl⟩)
  go_ret2
  exact ⟨by rw [HX.out, HY.out]; rfl, _, rfl⟩
end Go.Proofs.YtnmikhmbnpiadaaDoor.Shp
