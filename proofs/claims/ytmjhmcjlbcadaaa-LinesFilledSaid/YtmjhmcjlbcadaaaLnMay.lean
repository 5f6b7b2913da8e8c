/- Contracts of package lines: may, full, badness. -/
import Derived.Test.YtmjhmcjlbcadaaaLnBasics
namespace Go.Proofs.Ytmjhmcjlbcadaaa.Ln
open Go.RowKit Go.Frm
section
variable {w : World} {b : Nat} {P : Pts} {ws : List Int} {D : Int} {Ap Aw A2 A3 A4 A5 : Option Addr} {cp cw c2 c3 c4 c5 : Nat}
set_option maxHeartbeats 2000000 in
theorem may_ok (h : Mk w b P ws D Ap Aw A2 A3 A4 A5 cp cw c2 c3 c4 c5) (hn : P.n ≤ 1000) {i : Nat} (hi : i ≤ P.n) :
    Calls Try.prog 27 #[.pointer (some ⟨b, 0, none⟩), .int .i64 i] w fun e w' => e = .returned (.bool (may P i)) ∧ Below w.heap.size w w' := by
  have c0 := h.c0
  have hb := h.blk.lt
  by_cases he : i = P.n
  · have ha := hide (show may P i = true from if_pos he)
    have e1 : ((i : Int) == (P.n : Int)) = true := by rw [beq_iff_eq]; omega
    clear h he
    generalize may P i = my at *
    go_enter Try.func27, Try.ntmps27
    go_wp2_with fail
    go_ret
    exact ⟨ret_bool ha.out.symm, Below.refl _ _⟩
  · have e1 : ((i : Int) == (P.n : Int)) = false := by rw [beq_eq_false_iff_ne]; omega
    have hlt : i < P.n := by omega
    obtain ⟨bp, off, rfl, k0, k1, k2, k3, k4, k5⟩ := h.cells6 hlt
    have i1 : (i : Int) < (P.n : Int) := by omega
    have i0 : (0 : Int) ≤ (i : Int) := by omega
    have hm0 : may P i = if P.kd i = 1 then decide (0 < i) && P.kd (i - 1) == 0 else if P.kd i = 2 then decide (P.co i < 10000) else false := if_neg he
    by_cases h1 : P.kd i = 1
    · have d1 : (P.kd i == 1) = true := by simpa using h1
      have hm1 := hm0.trans (if_pos h1)
      by_cases hz : 0 < i
      · have dz : decide ((i : Int) > 0) = true := by simp; omega
        obtain ⟨bq, offq, hq, l0, _⟩ := h.cells6 (show i - 1 < P.n by omega)
        injection hq with hq
        injection hq with hq1 hq2
        subst hq1 hq2
        have j1 : wrap64 ((i : Int) - 1) = ((i - 1 : Nat) : Int) := by rw [IntWalk.wrap64_in _ ⟨by omega, by omega⟩]; omega
        have j3 : (i : Int) - 1 = ((i - 1 : Nat) : Int) := by omega
        have j2 : ((i - 1 : Nat) : Int) < (P.n : Int) := by omega
        have hm2 := hide (hm1.trans (by rw [decide_eq_true hz, Bool.true_and] : _ = (P.kd (i - 1) == 0)))
        clear h he hm0 hm1 h1
        generalize may P i = my at *
        generalize hkq : P.kd (i - 1) = kq at *
        clear hkq
        generalize i - 1 = q at *
        generalize P.n = n at *
        go_enter Try.func27, Try.ntmps27
        go_upto_region 4 with fail
        have hbl : Below w.heap.size w (w.alloc (.cells #[.int .i64 (P.kd i), .int .i64 (P.wd i), .int .i64 (P.st i), .int .i64 (P.sh i), .int .i64 (P.co i), .bool (P.fl i)] 39)) := (Below.refl _ _).alloc (Nat.le_refl _) _
        have f0 := Blk.new w 39 #[.int .i64 (P.kd i), .int .i64 (P.wd i), .int .i64 (P.st i), .int .i64 (P.sh i), .int .i64 (P.co i), .bool (P.fl i)]
        have l0' := (hbl.cell (World.block_lt_of_cell? _ _ l0)).trans l0
        have c0' := (hbl.cell (World.block_lt_of_cell? _ _ c0)).trans c0
        clear k0 k1 k2 k3 k4 k5 l0 c0
        generalize w.alloc (.cells #[.int .i64 (P.kd i), .int .i64 (P.wd i), .int .i64 (P.st i), .int .i64 (P.sh i), .int .i64 (P.co i), .bool (P.fl i)] 39) = w1 at *
        have x0 : w1.cell? ⟨w.heap.size, 0, none⟩ = some (.int .i64 (P.kd i)) := f0.cell 0
        go_wp2_with fail
        go_ret
        exact ⟨ret_bool hm2.out.symm, hbl⟩
      · have dz : decide ((i : Int) > 0) = false := by simp; omega
        have dz2 : decide (0 < i) = false := by simpa using hz
        have hm2 := hide (hm1.trans (by rw [decide_eq_false hz, Bool.false_and] : _ = false))
        clear h he hm0 hm1 h1
        generalize may P i = my at *
        generalize P.n = n at *
        go_enter Try.func27, Try.ntmps27
        go_wp2_with fail
        go_ret
        exact ⟨ret_bool hm2.out.symm, (Below.refl _ _).alloc (Nat.le_refl _) _⟩
    · have d1 : (P.kd i == 1) = false := by simpa using h1
      by_cases h2 : P.kd i = 2
      · have d2 : (P.kd i == 2) = true := by simpa using h2
        have hm2 := hide (hm0.trans ((if_neg h1).trans (if_pos h2)))
        clear h he hm0 h1 h2
        generalize may P i = my at *
        generalize P.n = n at *
        go_enter Try.func27, Try.ntmps27
        go_wp2_with fail
        go_ret
        exact ⟨ret_bool hm2.out.symm, (Below.refl _ _).alloc (Nat.le_refl _) _⟩
      · have d2 : (P.kd i == 2) = false := by simpa using h2
        have hm2 := hide (hm0.trans ((if_neg h1).trans (if_neg h2)))
        clear h he hm0 h1 h2
        generalize may P i = my at *
        generalize P.n = n at *
        go_enter Try.func27, Try.ntmps27
        go_wp2_with fail
        go_ret
        exact ⟨ret_bool hm2.out.symm, (Below.refl _ _).alloc (Nat.le_refl _) _⟩

set_option maxHeartbeats 1000000 in
theorem full_ok (a b' nat str shr wid ad : Int) (w : World) (h1 : nat.natAbs ≤ 1000000) (h2 : shr.natAbs ≤ 1000000) (h3 : ad.natAbs ≤ 1000000) :
    Calls Try.prog 29 #[.agg #[.int .i64 a, .int .i64 b', .int .i64 nat, .int .i64 str, .int .i64 shr, .int .i64 wid], .int .i64 ad] w fun e w' => e = .returned (.tuple #[.bool (decide (nat - shr > wid)), .bool (decide (nat - ad - shr > wid))]) ∧ Below w.heap.size w w' := by
  go_enter Try.func29, Try.ntmps29
  go_wp2_with fail
  go_quiet (fail)
  go_wp2_with fail
  go_ret2
  exact ⟨rfl, below_drewN ((Below.refl _ _).alloc (Nat.le_refl _) _) _⟩

theorem min_bd {q : Int} (h : 0 ≤ q) : 0 ≤ min q 5000 ∧ min q 5000 ≤ 5000 := by omega
set_option maxHeartbeats 1000000 in
theorem badness_ok (x c : Int) (w : World) (h0 : 0 ≤ x) (h1 : x ≤ 1000000) (c0 : 0 ≤ c) (c1 : c ≤ 1000000) :
    Calls Try.prog 31 #[.int .i64 x, .int .i64 c] w fun e w' => e = .returned (.int .i64 (bad x c)) ∧ w = w' := by
  by_cases hx : x = 0
  · have ha := hide (show bad x c = 0 from if_pos hx)
    have d0 : (x == 0) = true := by simpa using hx
    clear hx
    go_enter Try.func31, Try.ntmps31
    go_wp2_with fail
    go_ret
    exact ⟨ret_int ha.out.symm, rfl⟩
  · have d0 : (x == 0) = false := by simpa using hx
    by_cases hc : c = 0
    · have ha := hide (show bad x c = 10000 from (if_neg hx).trans (if_pos hc))
      have d1 : (c == 0) = true := by simpa using hc
      clear hx hc
      go_enter Try.func31, Try.ntmps31
      go_wp2_with fail
      go_ret
      exact ⟨ret_int ha.out.symm, rfl⟩
    · have d1 : (c == 0) = false := by simpa using hc
      have ha := hide (show bad x c = min ((min ((1000 * x).tdiv c) 5000 * min ((1000 * x).tdiv c) 5000 * min ((1000 * x).tdiv c) 5000).tdiv 10000000) 10000 from (if_neg hx).trans (if_neg hc))
      have q0 : 0 ≤ (1000 * x).tdiv c := Int.tdiv_nonneg (by omega) c0
      have q1 : (1000 * x).tdiv c ≤ 1000000000 := by
        have := Int.tdiv_le_self c (show 0 ≤ 1000 * x by omega)
        omega
      clear hx
      obtain ⟨r, hr⟩ : ∃ r, r = min ((1000 * x).tdiv c) 5000 := ⟨_, rfl⟩
      have m0 : 0 ≤ r := by omega
      have m1 : r ≤ 5000 := by omega
      rw [← hr] at ha
      have hif : (if 5000 < (1000 * x).tdiv c then 5000 else (1000 * x).tdiv c) = r := by rw [hr]; split <;> omega
      have Hif := hide hif
      clear hr hif
      have r2 : 0 ≤ r * r ∧ r * r ≤ 25000000 := ⟨Int.mul_nonneg m0 m0, Int.mul_le_mul m1 m1 m0 (by omega)⟩
      have r3 : 0 ≤ r * r * r ∧ r * r * r ≤ 125000000000 := ⟨Int.mul_nonneg r2.1 m0, Int.mul_le_mul r2.2 m1 m0 (by omega)⟩
      obtain ⟨a0, a1⟩ := r2
      obtain ⟨b0, b1⟩ := r3
      have hba := hide (ha.out)
      have t0 : 0 ≤ (r * r * r).tdiv 10000000 := Int.tdiv_nonneg b0 (by omega)
      have t1 : (r * r * r).tdiv 10000000 ≤ 125000000000 := by
        have := Int.tdiv_le_self 10000000 b0
        omega
      clear ha
      have w1 : wrap64 (r * r) = r * r := IntWalk.wrap64_in _ ⟨by omega, by omega⟩
      have w2 : wrap64 (r * r * r) = r * r * r := IntWalk.wrap64_in _ ⟨by omega, by omega⟩
      have w3 : wrap64 ((r * r * r).tdiv 10000000) = (r * r * r).tdiv 10000000 := IntWalk.wrap64_in _ ⟨by omega, by omega⟩
      go_enter Try.func31, Try.ntmps31
      go_upto_region 6 with fail
      rw [Hif.out]
      go_wp2_with fail
      all_goals
        go_ret
        exact ⟨ret_int (by rw [hba.out]; omega), rfl⟩
end
end Go.Proofs.Ytmjhmcjlbcadaaa.Ln
