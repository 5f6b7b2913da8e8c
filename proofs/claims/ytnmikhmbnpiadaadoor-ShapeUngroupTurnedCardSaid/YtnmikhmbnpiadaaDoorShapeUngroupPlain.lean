/- Plain laws: sines of sums, and where a shape stays whose turned group is taken away. Nothing here speaks of a program. -/
import Derived.Test.YtnmikhmbnpiadaaDoorShapeTurn
namespace Go.Proofs.YtnmikhmbnpiadaaDoor.Shp
open Go.RowKit Go.Frm

theorem sn_mod (t : Int) : sn (t % 3600) = sn t := by unfold sn; rw [Int.emod_emod_of_dvd t (by omega)]
theorem sn_add_mod (t u : Int) : sn (t % 3600 + u) = sn (t + u) := by
  unfold sn
  rw [show (t % 3600 + u) % 3600 = (t + u) % 3600 by omega]
theorem sn_half (t : Int) : sn (t + 1800) = -sn t := by
  have h0 : snQ 0 = 0 := by decide
  unfold sn
  obtain ⟨u, hu⟩ : ∃ u, u = t % 3600 := ⟨_, rfl⟩
  have u0 := Int.emod_nonneg t (show (3600 : Int) ≠ 0 by omega)
  have u1 := Int.emod_lt_of_pos t (show (0 : Int) < 3600 by omega)
  by_cases h : u < 1800
  · rw [show (t + 1800) % 3600 = u + 1800 by omega, ← hu]
    by_cases c1 : 900 < u
    · rw [if_pos (by omega), if_neg (by omega), if_neg (by omega), if_pos c1]
      rw [show (3600 - (u + 1800)) = 1800 - u by omega]
    · rw [if_neg (show ¬ 2700 < u + 1800 by omega), if_neg (show ¬ 2700 < u by omega), if_neg (show ¬ 1800 < u by omega), if_neg c1]
      by_cases c0 : u = 0
      · rw [if_neg (by omega), if_pos (by omega), c0]
        simp [h0]
      · rw [if_pos (by omega)]
        rw [show u + 1800 - 1800 = u by omega]
  · rw [show (t + 1800) % 3600 = u - 1800 by omega, ← hu]
    rw [if_neg (show ¬ 2700 < u - 1800 by omega), if_neg (show ¬ 1800 < u - 1800 by omega)]
    by_cases c1 : 2700 < u
    · rw [if_pos (show 900 < u - 1800 by omega), if_pos c1, show 1800 - (u - 1800) = 3600 - u by omega]
      omega
    · rw [if_neg (show ¬ 900 < u - 1800 by omega), if_neg c1]
      by_cases c0 : u = 1800
      · rw [if_neg (by omega), if_pos (by omega), c0]
        simp [h0]
      · rw [if_pos (by omega)]
        omega

theorem sn_congr {t u : Int} (h : t % 3600 = u % 3600) : sn t = sn u := by unfold sn; rw [h]

/-- between whole degrees the sine is that of the straight line -/
def lineB (t : Nat) : Bool := decide ((10 * sn t - ((10 - (t % 10 : Nat)) * sn (t / 10 * 10 : Nat) + (t % 10 : Nat) * sn (t / 10 * 10 + 10 : Nat))).natAbs ≤ 5)
theorem line_all : (List.range 7200).all lineB = true := by decide +kernel
theorem line_at (d r : Nat) (hd : d < 720) (hr : r < 10) : (10 * sn (10 * d + r : Nat) - ((10 - (r : Int)) * sn (10 * d : Nat) + r * sn (10 * d + 10 : Nat))).natAbs ≤ 5 := by
  have h := List.all_eq_true.1 line_all (10 * d + r) (List.mem_range.2 (by omega))
  unfold lineB at h
  have e1 : (10 * d + r) % 10 = r := by omega
  have e2 : (10 * d + r) / 10 * 10 = 10 * d := by omega
  rw [e1, e2] at h
  exact of_decide_eq_true h
/-- second differences are small -/
def bendB (d : Nat) : Bool := decide ((sn (10 * d : Nat) - 2 * sn (10 * d + 10 : Nat) + sn (10 * d + 20 : Nat)).natAbs ≤ 22)
theorem bend_all : (List.range 720).all bendB = true := by decide +kernel
theorem bend_at (d : Nat) (hd : d < 720) : (sn (10 * d : Nat) - 2 * sn (10 * d + 10 : Nat) + sn (10 * d + 20 : Nat)).natAbs ≤ 22 := of_decide_eq_true (List.all_eq_true.1 bend_all d (List.mem_range.2 hd))
/-- the sines of sums of whole degrees -/
def SumAt (d e : Nat) : Prop := (65536 * sn (10 * d + 10 * e : Nat) - (sn (10 * d : Nat) * sn (10 * e + 900 : Nat) + sn (10 * d + 900 : Nat) * sn (10 * e : Nat))).natAbs ≤ 131072
def sumB (d e : Nat) : Bool := decide ((65536 * sn (10 * d + 10 * e : Nat) - (sn (10 * d : Nat) * sn (10 * e + 900 : Nat) + sn (10 * d + 900 : Nat) * sn (10 * e : Nat))).natAbs ≤ 131072)
theorem sum_all : (List.range 180).all (fun d => (List.range 90).all (sumB d)) = true := by decide +kernel
theorem sum_low (d e : Nat) (hd : d < 180) (he : e < 90) : SumAt d e := by
  have h := List.all_eq_true.1 (List.all_eq_true.1 sum_all d (List.mem_range.2 hd)) e (List.mem_range.2 he)
  unfold sumB at h
  unfold SumAt
  exact of_decide_eq_true h
theorem sum_half {d e : Nat} (h : SumAt d e) : SumAt (d + 180) e := by
  unfold SumAt at h ⊢
  have h1 : sn ((10 * (d + 180) + 10 * e : Nat) : Int) = -sn ((10 * d + 10 * e : Nat) : Int) := by rw [← sn_half]; exact sn_congr (by omega)
  have h2 : sn ((10 * (d + 180) : Nat) : Int) = -sn ((10 * d : Nat) : Int) := by rw [← sn_half]; exact sn_congr (by omega)
  have h3 : sn ((10 * (d + 180) + 900 : Nat) : Int) = -sn ((10 * d + 900 : Nat) : Int) := by rw [← sn_half]; exact sn_congr (by omega)
  rw [h1, h2, h3, Int.neg_mul, Int.neg_mul]
  omega
theorem sum_quarter {d e : Nat} (h : SumAt (d + 90) e) : SumAt d (e + 90) := by
  unfold SumAt at h ⊢
  have h1 : sn ((10 * (d + 90) + 10 * e : Nat) : Int) = sn ((10 * d + 10 * (e + 90) : Nat) : Int) := sn_congr (by omega)
  have h2 : sn ((10 * (d + 90) : Nat) : Int) = sn ((10 * d + 900 : Nat) : Int) := sn_congr (by omega)
  have h3 : sn ((10 * (d + 90) + 900 : Nat) : Int) = -sn ((10 * d : Nat) : Int) := by rw [← sn_half]; exact sn_congr (by omega)
  have h4 : sn ((10 * (e + 90) + 900 : Nat) : Int) = -sn ((10 * e : Nat) : Int) := by rw [← sn_half]; exact sn_congr (by omega)
  have h5 : sn ((10 * (e + 90) : Nat) : Int) = sn ((10 * e + 900 : Nat) : Int) := sn_congr (by omega)
  rw [h1, h2, h3, Int.neg_mul] at h
  rw [h4, h5, Int.mul_neg]
  omega
theorem sum_lowE (e : Nat) (he : e < 90) : ∀ (k d : Nat), d < 180 * (k + 1) → SumAt d e
  | 0, d, h => sum_low d e (by omega) he
  | k + 1, d, h => by
    by_cases hd : d < 180
    · exact sum_low d e hd he
    · have := sum_half (sum_lowE e he k (d - 180) (by omega))
      rwa [show d - 180 + 180 = d by omega] at this
theorem sum_deg : ∀ (k d e : Nat), e < 90 * (k + 1) → SumAt d e
  | 0, d, e, h => sum_lowE e (by omega) d d (by omega)
  | k + 1, d, e, h => by
    by_cases he : e < 90
    · exact sum_lowE e he d d (by omega)
    · have := sum_quarter (d := d) (e := e - 90) (sum_deg k (d + 90) (e - 90) (by omega))
      rwa [show e - 90 + 90 = e by omega] at this
theorem sum_at (d e : Nat) : SumAt d e := sum_deg e d e (by omega)

theorem mul_bd (x w B : Int) (hw : 0 ≤ w) (h : (x.natAbs : Int) ≤ B) : -(w * B) ≤ w * x ∧ w * x ≤ w * B := by
  have h1 := Int.mul_le_mul_of_nonneg_left (show x ≤ B by omega) hw
  have h2 := Int.mul_le_mul_of_nonneg_left (show -B ≤ x by omega) hw
  rw [Int.mul_neg] at h2
  exact ⟨h2, h1⟩

theorem abs2 {x : Int} {N : Nat} (h : x.natAbs ≤ N) : -(N : Int) ≤ x ∧ x ≤ N := by omega
theorem abs2' {x : Int} {N : Nat} (h : -(N : Int) ≤ x ∧ x ≤ N) : x.natAbs ≤ N := by omega
theorem cast_le {x : Int} (h : x.natAbs ≤ 131072) : (x.natAbs : Int) ≤ 131072 := by omega
theorem small_w {w x : Int} (h0 : 0 ≤ w) (h1 : w ≤ 100) (hx : x.natAbs ≤ 22) : -2200 ≤ w * x ∧ w * x ≤ 2200 := by
  have := mul_in (a := w) (b := x) (A := 100) (B := 22) (by omega) hx
  omega
theorem combV (T0 T1 T2 sab r q : Int) (r0 : 0 ≤ r) (r1 : r ≤ 9) (q0 : 0 ≤ q) (q1 : q ≤ 9) (hbend : (T0 - 2 * T1 + T2).natAbs ≤ 22)
    (hs : (r + q ≤ 9 ∧ (10 * sab - ((10 - (r + q)) * T0 + (r + q) * T1)).natAbs ≤ 5) ∨ (10 ≤ r + q ∧ (10 * sab - ((20 - (r + q)) * T1 + (r + q - 10) * T2)).natAbs ≤ 5)) :
    -2250 ≤ 100 * sab - ((10 - r) * (10 - q) * T0 + (r * (10 - q) + (10 - r) * q) * T1 + r * q * T2) ∧ 100 * sab - ((10 - r) * (10 - q) * T0 + (r * (10 - q) + (10 - r) * q) * T1 + r * q * T2) ≤ 2250 := by
  rcases hs with ⟨hl, h⟩ | ⟨hl, h⟩
  · have hw0 : 0 ≤ r * q := Int.mul_nonneg r0 q0
    have hw1 : r * q ≤ 9 * 9 := Int.mul_le_mul r1 q1 q0 (by omega)
    have hb2 := small_w hw0 (by omega) hbend
    have key : 100 * sab - ((10 - r) * (10 - q) * T0 + (r * (10 - q) + (10 - r) * q) * T1 + r * q * T2) = 10 * (10 * sab - ((10 - (r + q)) * T0 + (r + q) * T1)) - r * q * (T0 - 2 * T1 + T2) := by grind
    rw [key]
    generalize r * q * (T0 - 2 * T1 + T2) = z at *
    generalize 10 * sab - ((10 - (r + q)) * T0 + (r + q) * T1) = y at *
    clear key hbend hw0 hw1
    omega
  · have hw0 : 0 ≤ (10 - r) * (10 - q) := Int.mul_nonneg (by omega) (by omega)
    have hw1 : (10 - r) * (10 - q) ≤ 10 * 10 := Int.mul_le_mul (by omega) (by omega) (by omega) (by omega)
    have hb2 := small_w hw0 (by omega) hbend
    have key : 100 * sab - ((10 - r) * (10 - q) * T0 + (r * (10 - q) + (10 - r) * q) * T1 + r * q * T2) = 10 * (10 * sab - ((20 - (r + q)) * T1 + (r + q - 10) * T2)) - (10 - r) * (10 - q) * (T0 - 2 * T1 + T2) := by grind
    rw [key]
    generalize (10 - r) * (10 - q) * (T0 - 2 * T1 + T2) = z at *
    generalize 10 * sab - ((20 - (r + q)) * T1 + (r + q - 10) * T2) = y at *
    clear key hbend hw0 hw1
    omega
/-- a product of two that are nearly known -/
theorem combP {sa cb u v : Int} (e1 : (10 * sa - u).natAbs ≤ 5) (e2 : (10 * cb - v).natAbs ≤ 5) (ha : sa.natAbs ≤ 65537) (hb : cb.natAbs ≤ 65537) : -6553730 ≤ 100 * (sa * cb) - u * v ∧ 100 * (sa * cb) - u * v ≤ 6553730 := by
  have f1 := mul_in (a := 10 * sa - u) (b := 10 * cb) (A := 5) (B := 655370) e1 (by omega)
  have f2 := mul_in (a := u) (b := 10 * cb - v) (A := 655375) (B := 5) (by omega) e2
  have g1 : 100 * (sa * cb) = u * v + ((10 * sa - u) * (10 * cb) + u * (10 * cb - v)) := by grind
  rw [g1]
  generalize (10 * sa - u) * (10 * cb) = y1 at *
  generalize u * (10 * cb - v) = y2 at *
  clear e1 e2 ha hb g1
  omega
/-- four sums of whole degrees, weighted -/
theorem combW (Sd Sd1 Cd Cd1 Se Se1 Ce Ce1 T0 T1 T2 r q : Int) (r0 : 0 ≤ r) (r1 : r ≤ 9) (q0 : 0 ≤ q) (q1 : q ≤ 9)
    (d0 : (65536 * T0 - (Sd * Ce + Cd * Se)).natAbs ≤ 131072) (d1 : (65536 * T1 - (Sd1 * Ce + Cd1 * Se)).natAbs ≤ 131072)
    (d2 : (65536 * T1 - (Sd * Ce1 + Cd * Se1)).natAbs ≤ 131072) (d3 : (65536 * T2 - (Sd1 * Ce1 + Cd1 * Se1)).natAbs ≤ 131072) :
    -13107200 ≤ 65536 * ((10 - r) * (10 - q) * T0 + (r * (10 - q) + (10 - r) * q) * T1 + r * q * T2) - (((10 - r) * Sd + r * Sd1) * ((10 - q) * Ce + q * Ce1) + ((10 - r) * Cd + r * Cd1) * ((10 - q) * Se + q * Se1)) ∧
    65536 * ((10 - r) * (10 - q) * T0 + (r * (10 - q) + (10 - r) * q) * T1 + r * q * T2) - (((10 - r) * Sd + r * Sd1) * ((10 - q) * Ce + q * Ce1) + ((10 - r) * Cd + r * Cd1) * ((10 - q) * Se + q * Se1)) ≤ 13107200 := by
  have w0 : 0 ≤ (10 - r) * (10 - q) := Int.mul_nonneg (by omega) (by omega)
  have w1 : 0 ≤ r * (10 - q) := Int.mul_nonneg (by omega) (by omega)
  have w2 : 0 ≤ (10 - r) * q := Int.mul_nonneg (by omega) (by omega)
  have w3 : 0 ≤ r * q := Int.mul_nonneg (by omega) (by omega)
  have hw : (10 - r) * (10 - q) + r * (10 - q) + (10 - r) * q + r * q = 100 := by grind
  have b0 := mul_bd _ _ 131072 w0 (cast_le d0)
  have b1 := mul_bd _ _ 131072 w1 (cast_le d1)
  have b2 := mul_bd _ _ 131072 w2 (cast_le d2)
  have b3 := mul_bd _ _ 131072 w3 (cast_le d3)
  have key : 65536 * ((10 - r) * (10 - q) * T0 + (r * (10 - q) + (10 - r) * q) * T1 + r * q * T2) - (((10 - r) * Sd + r * Sd1) * ((10 - q) * Ce + q * Ce1) + ((10 - r) * Cd + r * Cd1) * ((10 - q) * Se + q * Se1)) =
      (10 - r) * (10 - q) * (65536 * T0 - (Sd * Ce + Cd * Se)) + r * (10 - q) * (65536 * T1 - (Sd1 * Ce + Cd1 * Se)) + (10 - r) * q * (65536 * T1 - (Sd * Ce1 + Cd * Se1)) + r * q * (65536 * T2 - (Sd1 * Ce1 + Cd1 * Se1)) := by grind
  rw [key]
  clear key d0 d1 d2 d3
  generalize (10 - r) * (10 - q) * (65536 * T0 - (Sd * Ce + Cd * Se)) = z0 at *
  generalize r * (10 - q) * (65536 * T1 - (Sd1 * Ce + Cd1 * Se)) = z1 at *
  generalize (10 - r) * q * (65536 * T1 - (Sd * Ce1 + Cd * Se1)) = z2 at *
  generalize r * q * (65536 * T2 - (Sd1 * Ce1 + Cd1 * Se1)) = z3 at *
  generalize (10 - r) * (10 - q) = v0 at *
  generalize r * (10 - q) = v1 at *
  generalize (10 - r) * q = v2 at *
  generalize r * q = v3 at *
  omega
/-- out of whole degrees, by straight lines -/
theorem comb (Sd Sd1 Cd Cd1 Se Se1 Ce Ce1 T0 T1 T2 sa ca sb cb sab r q : Int) (r0 : 0 ≤ r) (r1 : r ≤ 9) (q0 : 0 ≤ q) (q1 : q ≤ 9)
    (ha : sa.natAbs ≤ 65537) (hca : ca.natAbs ≤ 65537) (hb : sb.natAbs ≤ 65537) (hcb : cb.natAbs ≤ 65537)
    (e1 : (10 * sa - ((10 - r) * Sd + r * Sd1)).natAbs ≤ 5) (e2 : (10 * ca - ((10 - r) * Cd + r * Cd1)).natAbs ≤ 5)
    (e3 : (10 * sb - ((10 - q) * Se + q * Se1)).natAbs ≤ 5) (e4 : (10 * cb - ((10 - q) * Ce + q * Ce1)).natAbs ≤ 5)
    (d0 : (65536 * T0 - (Sd * Ce + Cd * Se)).natAbs ≤ 131072) (d1 : (65536 * T1 - (Sd1 * Ce + Cd1 * Se)).natAbs ≤ 131072)
    (d2 : (65536 * T1 - (Sd * Ce1 + Cd * Se1)).natAbs ≤ 131072) (d3 : (65536 * T2 - (Sd1 * Ce1 + Cd1 * Se1)).natAbs ≤ 131072)
    (hbend : (T0 - 2 * T1 + T2).natAbs ≤ 22)
    (hs : (r + q ≤ 9 ∧ (10 * sab - ((10 - (r + q)) * T0 + (r + q) * T1)).natAbs ≤ 5) ∨ (10 ≤ r + q ∧ (10 * sab - ((20 - (r + q)) * T1 + (r + q - 10) * T2)).natAbs ≤ 5)) :
    (65536 * sab - (sa * cb + ca * sb)).natAbs ≤ 30 * 65536 := by
  have hV := combV T0 T1 T2 sab r q r0 r1 q0 q1 hbend hs
  have hP := combP e1 e4 ha hcb
  have hQ := combP e2 e3 hca hb
  have hW := combW Sd Sd1 Cd Cd1 Se Se1 Ce Ce1 T0 T1 T2 r q r0 r1 q0 q1 d0 d1 d2 d3
  clear ha hca hb hcb e1 e2 e3 e4 d0 d1 d2 d3 hbend hs
  generalize (10 - r) * (10 - q) * T0 + (r * (10 - q) + (10 - r) * q) * T1 + r * q * T2 = V at *
  generalize ((10 - r) * Sd + r * Sd1) * ((10 - q) * Ce + q * Ce1) = p1 at *
  generalize ((10 - r) * Cd + r * Cd1) * ((10 - q) * Se + q * Se1) = p2 at *
  generalize sa * cb = m1 at *
  generalize ca * sb = m2 at *
  refine abs2' ?_
  omega

/-- the sine of a sum -/
theorem sn_sumN (d r e q : Nat) (hd : d < 360) (hr : r < 10) (he : e < 360) (hq : q < 10) :
    (65536 * sn ((10 * d + r : Nat) + (10 * e + q : Nat)) - (sn (10 * d + r : Nat) * sn ((10 * e + q : Nat) + 900) + sn ((10 * d + r : Nat) + 900) * sn (10 * e + q : Nat))).natAbs ≤ 30 * 65536 := by
  have bd := fun t => show (sn t).natAbs ≤ 65537 by have := sn_bd t; omega
  have c1 := line_at (d + 90) r (by omega) hr
  have c2 := line_at (e + 90) q (by omega) hq
  have s1 := sum_at d e
  have s2 := sum_at (d + 1) e
  have s3 := sum_at d (e + 1)
  have s4 := sum_at (d + 1) (e + 1)
  unfold SumAt at s1 s2 s3 s4
  refine comb (sn (10 * d : Nat)) (sn (10 * d + 10 : Nat)) (sn (10 * d + 900 : Nat)) (sn (10 * d + 910 : Nat)) (sn (10 * e : Nat)) (sn (10 * e + 10 : Nat)) (sn (10 * e + 900 : Nat)) (sn (10 * e + 910 : Nat))
    (sn (10 * (d + e) : Nat)) (sn (10 * (d + e) + 10 : Nat)) (sn (10 * (d + e) + 20 : Nat)) _ _ _ _ _ r q (by omega) (by omega) (by omega) (by omega) (bd _) (bd _) (bd _) (bd _) (line_at d r (by omega) hr) ?_ (line_at e q (by omega) hq) ?_ ?_ ?_ ?_ ?_ (bend_at (d + e) (by omega)) ?_
  · rw [show 10 * (d + 90) + r = 10 * d + r + 900 by omega, show 10 * (d + 90) = 10 * d + 900 by omega] at c1
    exact c1
  · rw [show 10 * (e + 90) + q = 10 * e + q + 900 by omega, show 10 * (e + 90) = 10 * e + 900 by omega] at c2
    exact c2
  · rw [show 10 * d + 10 * e = 10 * (d + e) by omega] at s1
    exact s1
  · rw [show 10 * (d + 1) + 10 * e = 10 * (d + e) + 10 by omega, show 10 * (d + 1) = 10 * d + 10 by omega] at s2
    exact s2
  · rw [show 10 * d + 10 * (e + 1) = 10 * (d + e) + 10 by omega, show 10 * (e + 1) = 10 * e + 10 by omega] at s3
    exact s3
  · rw [show 10 * (d + 1) + 10 * (e + 1) = 10 * (d + e) + 20 by omega, show 10 * (d + 1) = 10 * d + 10 by omega, show 10 * (e + 1) = 10 * e + 10 by omega] at s4
    exact s4
  · by_cases h : r + q ≤ 9
    · refine .inl ⟨by omega, ?_⟩
      have := line_at (d + e) (r + q) (by omega) (by omega)
      rw [show 10 * (d + e) + (r + q) = 10 * d + r + (10 * e + q) by omega] at this
      rw [← Int.natCast_add, ← Int.natCast_add]
      exact this
    · refine .inr ⟨by omega, ?_⟩
      have := line_at (d + e + 1) (r + q - 10) (by omega) (by omega)
      rw [show 10 * (d + e + 1) + (r + q - 10) = 10 * d + r + (10 * e + q) by omega, show 10 * (d + e + 1) = 10 * (d + e) + 10 by omega, show ((r + q - 10 : Nat) : Int) = (r : Int) + q - 10 by omega, show (10 : Int) - (r + q - 10) = 20 - (r + q) by omega] at this
      rw [← Int.natCast_add]
      exact this
theorem sn_sum (a b : Int) : (65536 * sn (a + b) - (sn a * sn (b + 900) + sn (a + 900) * sn b)).natAbs ≤ 30 * 65536 := by
  obtain ⟨u, hu⟩ : ∃ u : Nat, (u : Int) = a % 3600 := ⟨(a % 3600).toNat, by omega⟩
  obtain ⟨v, hv⟩ : ∃ v : Nat, (v : Int) = b % 3600 := ⟨(b % 3600).toNat, by omega⟩
  have h := sn_sumN (u / 10) (u % 10) (v / 10) (v % 10) (by omega) (by omega) (by omega) (by omega)
  rw [show 10 * (u / 10) + u % 10 = u by omega, show 10 * (v / 10) + v % 10 = v by omega, hu, hv] at h
  rw [show sn (a % 3600 + b % 3600) = sn (a + b) from sn_congr (by omega), show sn (a % 3600) = sn a from sn_congr (by omega), show sn (b % 3600 + 900) = sn (b + 900) from sn_congr (by omega),
    show sn (a % 3600 + 900) = sn (a + 900) from sn_congr (by omega), show sn (b % 3600) = sn b from sn_congr (by omega)] at h
  exact h
theorem sn_cos (a b : Int) : (65536 * sn (a + b + 900) - (sn (a + 900) * sn (b + 900) - sn a * sn b)).natAbs ≤ 30 * 65536 := by
  have h := sn_sum (a + 900) b
  rw [show a + 900 + b = a + b + 900 by omega, show a + 900 + 900 = a + 1800 by omega, sn_half, Int.neg_mul] at h
  omega

theorem rdu_near (N : Int) : (131072 * rdu N 131072 - N).natAbs ≤ 65536 := by
  unfold rdu
  omega
theorem rdu_two (N : Int) : 2 * rdu N 2 = N ∨ 2 * rdu N 2 = N + 1 := by
  unfold rdu
  omega
theorem stay_core (dx dy ca sa cb sb c s A1 B1 P Q Gx x D x2 x3 : Int) (hdx : dx.natAbs ≤ 1500) (hdy : dy.natAbs ≤ 1500) (hcb : cb.natAbs ≤ 65537) (hsb : sb.natAbs ≤ 65537)
    (h1 : (65536 * A1 - (dx * ca - dy * sa)).natAbs ≤ 65536) (h2 : (65536 * B1 - (dx * sa + dy * ca)).natAbs ≤ 65536)
    (h3 : (65536 * (2 * x2 - Gx) - ((A1 + P) * cb - (B1 + Q) * sb)).natAbs ≤ 65536) (h4 : (131072 * (x - Gx) - 2 * (P * cb - Q * sb)).natAbs ≤ 65536)
    (h5 : D = x ∨ D = x + 1) (h6 : (65536 * (2 * x3 - D) - (dx * c - dy * s)).natAbs ≤ 65536)
    (k1 : (65536 * c - (ca * cb - sa * sb)).natAbs ≤ 30 * 65536) (k2 : (65536 * s - (sa * cb + ca * sb)).natAbs ≤ 30 * 65536) : -6 ≤ x2 - x3 ∧ x2 - x3 ≤ 6 := by
  have m1 := mul_in (a := dx) (b := 65536 * c - (ca * cb - sa * sb)) (A := 1500) (B := 30 * 65536) hdx k1
  have m2 := mul_in (a := dy) (b := 65536 * s - (sa * cb + ca * sb)) (A := 1500) (B := 30 * 65536) hdy k2
  have m3 := mul_in (a := 65536 * A1 - (dx * ca - dy * sa)) (b := cb) (A := 65536) (B := 65537) h1 hcb
  have m4 := mul_in (a := 65536 * B1 - (dx * sa + dy * ca)) (b := sb) (A := 65536) (B := 65537) h2 hsb
  have key : 65536 * (A1 * cb - B1 * sb - (dx * c - dy * s)) = (65536 * A1 - (dx * ca - dy * sa)) * cb - (65536 * B1 - (dx * sa + dy * ca)) * sb - dx * (65536 * c - (ca * cb - sa * sb)) + dy * (65536 * s - (sa * cb + ca * sb)) := by grind
  have e1 : (A1 + P) * cb - (B1 + Q) * sb = A1 * cb - B1 * sb + (P * cb - Q * sb) := by grind
  rw [e1] at h3
  generalize dx * (65536 * c - (ca * cb - sa * sb)) = z1 at *
  generalize dy * (65536 * s - (sa * cb + ca * sb)) = z2 at *
  generalize (65536 * A1 - (dx * ca - dy * sa)) * cb = z3 at *
  generalize (65536 * B1 - (dx * sa + dy * ca)) * sb = z4 at *
  generalize A1 * cb - B1 * sb = z5 at *
  generalize P * cb - Q * sb = z6 at *
  generalize dx * c - dy * s = z7 at *
  clear h1 h2 k1 k2 e1
  omega

theorem stay_coreY (dx dy ca sa cb sb c s A1 B1 P Q Gy y D y2 y3 : Int) (hdx : dx.natAbs ≤ 1500) (hdy : dy.natAbs ≤ 1500) (hcb : cb.natAbs ≤ 65537) (hsb : sb.natAbs ≤ 65537)
    (h1 : (65536 * A1 - (dx * ca - dy * sa)).natAbs ≤ 65536) (h2 : (65536 * B1 - (dx * sa + dy * ca)).natAbs ≤ 65536)
    (h3 : (65536 * (2 * y2 - Gy) - ((A1 + P) * sb + (B1 + Q) * cb)).natAbs ≤ 65536) (h4 : (131072 * (y - Gy) - 2 * (P * sb + Q * cb)).natAbs ≤ 65536)
    (h5 : D = y ∨ D = y + 1) (h6 : (65536 * (2 * y3 - D) - (dx * s + dy * c)).natAbs ≤ 65536)
    (k1 : (65536 * c - (ca * cb - sa * sb)).natAbs ≤ 30 * 65536) (k2 : (65536 * s - (sa * cb + ca * sb)).natAbs ≤ 30 * 65536) : -6 ≤ y2 - y3 ∧ y2 - y3 ≤ 6 := by
  refine stay_core dx dy ca sa sb (-cb) s (-c) A1 B1 P Q Gy y D y2 y3 hdx hdy hsb (by rwa [Int.natAbs_neg]) h1 h2 (by rwa [Int.mul_neg, Int.sub_neg]) (by rwa [Int.mul_neg, Int.sub_neg]) h5 (by rwa [Int.mul_neg, Int.sub_neg]) (by rwa [Int.mul_neg, Int.sub_neg, Int.add_comm (ca * sb)]) ?_
  rw [Int.mul_neg, Int.mul_neg]
  generalize ca * cb = m1 at *
  generalize sa * sb = m2 at *
  clear h1 h2 h3 h4 h6 k2
  omega
theorem near_sub {x C p q : Int} (h : (131072 * x - (C * 65536 + p - q)).natAbs ≤ 65536) : (65536 * (2 * x - C) - (p - q)).natAbs ≤ 65536 := by omega
theorem near_add {x C p q : Int} (h : (131072 * x - (C * 65536 + p + q)).natAbs ≤ 65536) : (65536 * (2 * x - C) - (p + q)).natAbs ≤ 65536 := by omega
theorem near_sub2 {x C p q : Int} (h : (131072 * x - (2 * C * 65536 + 2 * p - 2 * q)).natAbs ≤ 65536) : (131072 * (x - C) - 2 * (p - q)).natAbs ≤ 65536 := by omega
theorem near_add2 {x C p q : Int} (h : (131072 * x - (2 * C * 65536 + 2 * p + 2 * q)).natAbs ≤ 65536) : (131072 * (x - C) - 2 * (p + q)).natAbs ≤ 65536 := by omega
theorem tuX_near (x y cx cy t : Int) : (131072 * tuX x y cx cy t - (cx * 65536 + (2 * x - cx) * sn (t + 900) - (2 * y - cy) * sn t)).natAbs ≤ 65536 := rdu_near _
theorem tuY_near (x y cx cy t : Int) : (131072 * tuY x y cx cy t - (cy * 65536 + (2 * x - cx) * sn t + (2 * y - cy) * sn (t + 900))).natAbs ≤ 65536 := rdu_near _
theorem two_half {x W U : Int} (h : 2 * U = x - W ∨ 2 * U = x - W + 1) : 2 * U + W = x ∨ 2 * U + W = x + 1 := by omega

/-- where a corner stays whose turned group is taken away -/
theorem stay (px py X Y W H gX gY gW gH a b U V t px' py' : Int) (hdx : (2 * px - (2 * X + W)).natAbs ≤ 1500) (hdy : (2 * py - (2 * Y + H)).natAbs ≤ 1500)
    (hU : U = rdu (tuX (2 * (X + gX) + W) (2 * (Y + gY) + H) (2 * (2 * gX + gW)) (2 * (2 * gY + gH)) b - W) 2) (hV : V = rdu (tuY (2 * (X + gX) + W) (2 * (Y + gY) + H) (2 * (2 * gX + gW)) (2 * (2 * gY + gH)) b - H) 2)
    (ht : t % 3600 = (a + b) % 3600) (hpx : px' = px - X + U) (hpy : py' = py - Y + V) :
    (-6 ≤ tuX (tuX px py (2 * X + W) (2 * Y + H) a + gX) (tuY px py (2 * X + W) (2 * Y + H) a + gY) (2 * gX + gW) (2 * gY + gH) b - tuX px' py' (2 * U + W) (2 * V + H) t ∧
      tuX (tuX px py (2 * X + W) (2 * Y + H) a + gX) (tuY px py (2 * X + W) (2 * Y + H) a + gY) (2 * gX + gW) (2 * gY + gH) b - tuX px' py' (2 * U + W) (2 * V + H) t ≤ 6) ∧
    (-6 ≤ tuY (tuX px py (2 * X + W) (2 * Y + H) a + gX) (tuY px py (2 * X + W) (2 * Y + H) a + gY) (2 * gX + gW) (2 * gY + gH) b - tuY px' py' (2 * U + W) (2 * V + H) t ∧
      tuY (tuX px py (2 * X + W) (2 * Y + H) a + gX) (tuY px py (2 * X + W) (2 * Y + H) a + gY) (2 * gX + gW) (2 * gY + gH) b - tuY px' py' (2 * U + W) (2 * V + H) t ≤ 6) := by
  have hsum := sn_sum a b
  have hcos := sn_cos a b
  have hb1 : (sn b).natAbs ≤ 65537 := by have := sn_bd b; omega
  have hb2 : (sn (b + 900)).natAbs ≤ 65537 := by have := sn_bd (b + 900); omega
  have hst : sn t = sn (a + b) := sn_congr ht
  have hct : sn (t + 900) = sn (a + b + 900) := sn_congr (by omega)
  have n1 := near_sub (tuX_near px py (2 * X + W) (2 * Y + H) a)
  have n2 := near_add (tuY_near px py (2 * X + W) (2 * Y + H) a)
  generalize tuX px py (2 * X + W) (2 * Y + H) a = x1 at *
  generalize tuY px py (2 * X + W) (2 * Y + H) a = y1 at *
  have n3 := near_sub (tuX_near (x1 + gX) (y1 + gY) (2 * gX + gW) (2 * gY + gH) b)
  have n4 := near_add (tuY_near (x1 + gX) (y1 + gY) (2 * gX + gW) (2 * gY + gH) b)
  have n5 := tuX_near (2 * (X + gX) + W) (2 * (Y + gY) + H) (2 * (2 * gX + gW)) (2 * (2 * gY + gH)) b
  have n6 := tuY_near (2 * (X + gX) + W) (2 * (Y + gY) + H) (2 * (2 * gX + gW)) (2 * (2 * gY + gH)) b
  have n7 := near_sub (tuX_near px' py' (2 * U + W) (2 * V + H) t)
  have n8 := near_add (tuY_near px' py' (2 * U + W) (2 * V + H) t)
  have kU := two_half (hU ▸ rdu_two (tuX (2 * (X + gX) + W) (2 * (Y + gY) + H) (2 * (2 * gX + gW)) (2 * (2 * gY + gH)) b - W))
  have kV := two_half (hV ▸ rdu_two (tuY (2 * (X + gX) + W) (2 * (Y + gY) + H) (2 * (2 * gX + gW)) (2 * (2 * gY + gH)) b - H))
  clear hU hV
  generalize tuX (2 * (X + gX) + W) (2 * (Y + gY) + H) (2 * (2 * gX + gW)) (2 * (2 * gY + gH)) b = x at *
  generalize tuY (2 * (X + gX) + W) (2 * (Y + gY) + H) (2 * (2 * gX + gW)) (2 * (2 * gY + gH)) b = y at *
  have e7 : 2 * px' - (2 * U + W) = 2 * px - (2 * X + W) := by clear hsum hcos hb1 hb2 n1 n2 n3 n4 n5 n6 n7 n8 kU kV hdx hdy; omega
  have e8 : 2 * py' - (2 * V + H) = 2 * py - (2 * Y + H) := by clear hsum hcos hb1 hb2 n1 n2 n3 n4 n5 n6 n7 n8 kU kV hdx hdy; omega
  have e3 : 2 * (x1 + gX) - (2 * gX + gW) = (2 * x1 - (2 * X + W)) + (2 * X + W - gW) := by clear hsum hcos hb1 hb2 n1 n2 n3 n4 n5 n6 n7 n8 kU kV hdx hdy; omega
  have e4 : 2 * (y1 + gY) - (2 * gY + gH) = (2 * y1 - (2 * Y + H)) + (2 * Y + H - gH) := by clear hsum hcos hb1 hb2 n1 n2 n3 n4 n5 n6 n7 n8 kU kV hdx hdy; omega
  have e5 : 2 * (2 * (X + gX) + W) - (2 * (2 * gX + gW)) = 2 * (2 * X + W - gW) := by clear hsum hcos hb1 hb2 n1 n2 n3 n4 n5 n6 n7 n8 kU kV hdx hdy; omega
  have e6 : 2 * (2 * (Y + gY) + H) - (2 * (2 * gY + gH)) = 2 * (2 * Y + H - gH) := by clear hsum hcos hb1 hb2 n1 n2 n3 n4 n5 n6 n7 n8 kU kV hdx hdy; omega
  rw [hst, hct, e7, e8] at n7 n8
  rw [e3, e4] at n3 n4
  rw [e5, e6, Int.mul_assoc 2 (2 * X + W - gW), Int.mul_assoc 2 (2 * Y + H - gH)] at n5 n6
  have m5 := near_sub2 n5
  have m6 := near_add2 n6
  exact ⟨stay_core _ _ _ _ _ _ _ _ _ _ _ _ _ _ _ _ _ hdx hdy hb2 hb1 n1 n2 n3 m5 kU n7 hcos hsum, stay_coreY _ _ _ _ _ _ _ _ _ _ _ _ _ _ _ _ _ hdx hdy hb2 hb1 n1 n2 n4 m6 kV n8 hcos hsum⟩

/-- where a corner stays whose group without a turn is taken away -/
theorem stay0 (px py X Y W H gX gY gW gH a px' py' : Int) (hpx : px' = px + gX) (hpy : py' = py + gY) :
    tuX (tuX px py (2 * X + W) (2 * Y + H) a + gX) (tuY px py (2 * X + W) (2 * Y + H) a + gY) (2 * gX + gW) (2 * gY + gH) 0 = tuX px' py' (2 * (X + gX) + W) (2 * (Y + gY) + H) a ∧
    tuY (tuX px py (2 * X + W) (2 * Y + H) a + gX) (tuY px py (2 * X + W) (2 * Y + H) a + gY) (2 * gX + gW) (2 * gY + gH) 0 = tuY px' py' (2 * (X + gX) + W) (2 * (Y + gY) + H) a := by
  have s0 : sn 0 = 0 := by decide
  have s9 : sn (0 + 900) = 65536 := by decide
  subst hpx hpy
  unfold tuX tuY
  rw [s0, s9]
  rw [show 2 * (px + gX) - (2 * (X + gX) + W) = 2 * px - (2 * X + W) by omega, show 2 * (py + gY) - (2 * (Y + gY) + H) = 2 * py - (2 * Y + H) by omega]
  generalize (2 * px - (2 * X + W)) * sn (a + 900) = m1
  generalize (2 * px - (2 * X + W)) * sn a = m2
  generalize (2 * py - (2 * Y + H)) * sn (a + 900) = m3
  generalize (2 * py - (2 * Y + H)) * sn a = m4
  unfold rdu
  omega
end Go.Proofs.YtnmikhmbnpiadaaDoor.Shp
