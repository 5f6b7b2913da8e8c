/- Plain laws: a side that is turned keeps its length, up to rounding. Nothing here speaks of a program. -/
import Derived.Test.YtnmikhmbnpiadaaDoorShapeTurn
namespace Go.Proofs.YtnmikhmbnpiadaaDoor.Shp
open Go.RowKit Go.Frm

def circleB (t : Nat) : Bool := decide (-430000 ≤ sn t * sn t + sn (t + 900 : Nat) * sn (t + 900 : Nat) - 4294967296 ∧ sn t * sn t + sn (t + 900 : Nat) * sn (t + 900 : Nat) - 4294967296 ≤ 430000 ∧ ((sn t).natAbs + (sn (t + 900 : Nat)).natAbs ≤ 92690))
theorem circle_all : (List.range 3600).all circleB = true := by decide +kernel
theorem circle (t : Int) (h0 : 0 ≤ t) (h1 : t < 3600) : -430000 ≤ sn t * sn t + sn (t + 900) * sn (t + 900) - 4294967296 ∧ sn t * sn t + sn (t + 900) * sn (t + 900) - 4294967296 ≤ 430000 ∧ (sn t).natAbs + (sn (t + 900)).natAbs ≤ 92690 := by
  have h := List.all_eq_true.1 circle_all t.toNat (List.mem_range.2 (by omega))
  unfold circleB at h
  have e1 : ((t.toNat : Nat) : Int) = t := by omega
  have e2 : ((t.toNat + 900 : Nat) : Int) = t + 900 := by omega
  rw [e2, e1] at h
  exact of_decide_eq_true h

/-- a side of length L along (c, s) -/
theorem side_ok (L c s dx dy : Int) (hL : 0 ≤ L) (hL2 : L ≤ 1500) (n1 : -430000 ≤ c * c + s * s - 4294967296) (n2 : c * c + s * s - 4294967296 ≤ 430000) (hs : c.natAbs + s.natAbs ≤ 92690)
    (hx : (65536 * dx - L * c).natAbs ≤ 65536) (hy : (65536 * dy - L * s).natAbs ≤ 65536) :
    dx * dx + dy * dy ≤ (L + 3) * (L + 3) ∧ (3 ≤ L → (L - 3) * (L - 3) ≤ dx * dx + dy * dy) := by
  obtain ⟨r, hr⟩ : ∃ r, r = 65536 * dx - L * c := ⟨_, rfl⟩
  obtain ⟨q, hq⟩ : ∃ q, q = 65536 * dy - L * s := ⟨_, rfl⟩
  rw [← hr] at hx
  rw [← hq] at hy
  have ex : 65536 * dx = L * c + r := by omega
  have ey : 65536 * dy = L * s + q := by omega
  have key : 4294967296 * (dx * dx + dy * dy) = L * L * (c * c + s * s) + 2 * (L * (c * r + s * q)) + (r * r + q * q) := by
    have : (65536 * dx) * (65536 * dx) + (65536 * dy) * (65536 * dy) = (L * c + r) * (L * c + r) + (L * s + q) * (L * s + q) := by rw [ex, ey]
    grind
  have m1 : (c * r + s * q).natAbs ≤ 92690 * 65536 := by
    have a1 : (c * r).natAbs ≤ c.natAbs * 65536 := by rw [Int.natAbs_mul]; exact Nat.mul_le_mul_left _ hx
    have a2 : (s * q).natAbs ≤ s.natAbs * 65536 := by rw [Int.natAbs_mul]; exact Nat.mul_le_mul_left _ hy
    omega
  generalize c * r + s * q = m at *
  have rr : 0 ≤ r * r ∧ r * r ≤ 4294967296 := by
    have : (r * r).natAbs ≤ 65536 * 65536 := by rw [Int.natAbs_mul]; exact Nat.mul_le_mul hx hx
    have : 0 ≤ r * r := by rw [← Int.natAbs_mul_self]; omega
    omega
  have qq : 0 ≤ q * q ∧ q * q ≤ 4294967296 := by
    have : (q * q).natAbs ≤ 65536 * 65536 := by rw [Int.natAbs_mul]; exact Nat.mul_le_mul hy hy
    have : 0 ≤ q * q := by rw [← Int.natAbs_mul_self]; omega
    omega
  generalize r * r = R at *
  generalize q * q = Q at *
  have hN : ∃ d, c * c + s * s = 4294967296 + d ∧ -430000 ≤ d ∧ d ≤ 430000 := ⟨c * c + s * s - 4294967296, by omega, by omega, by omega⟩
  obtain ⟨d, hd, d1, d2⟩ := hN
  rw [hd] at key
  have l1 : 0 ≤ L * L := Int.mul_nonneg hL hL
  have l2 : L * L ≤ 1500 * L := Int.mul_le_mul_of_nonneg_right hL2 hL
  have ld1 : L * L * d ≤ 1500 * L * 430000 := by
    have := Int.mul_le_mul_of_nonneg_left d2 l1
    omega
  have ld2 : -(1500 * L * 430000) ≤ L * L * d := by
    have := Int.mul_le_mul_of_nonneg_left d1 l1
    omega
  have lm1 : L * m ≤ L * 6074531840 := Int.mul_le_mul_of_nonneg_left (by omega) hL
  have lm2 : L * (-6074531840) ≤ L * m := Int.mul_le_mul_of_nonneg_left (by omega) hL
  have e1 : L * L * (4294967296 + d) = 4294967296 * (L * L) + L * L * d := by grind
  have e2 : (L + 3) * (L + 3) = L * L + 6 * L + 9 := by grind
  have e3 : (L - 3) * (L - 3) = L * L - 6 * L + 9 := by grind
  rw [e2, e3]
  rw [e1] at key
  generalize L * L * d = Z at *
  generalize L * L = LL at *
  generalize dx * dx + dy * dy = D at *
  generalize L * m = M at *
  constructor
  · omega
  · intro h3
    omega
end Go.Proofs.YtnmikhmbnpiadaaDoor.Shp
