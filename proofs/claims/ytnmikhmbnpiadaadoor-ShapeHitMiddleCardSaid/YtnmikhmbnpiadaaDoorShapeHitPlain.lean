/- Plain laws: the middle of a shape that is not turned is in it; what lies far hits nothing. -/
import Derived.Test.YtnmikhmbnpiadaaDoorShapeHit
namespace Go.Proofs.YtnmikhmbnpiadaaDoor.Shp
open Go.RowKit Go.Frm

theorem mv_small {G : Nat → Nat → Int} {n : Nat} (hs : ∀ i, i < n → (G i 3).natAbs ≤ 2000 ∧ (G i 4).natAbs ≤ 2000) {k : Nat} {dx dy : Int} (h : Mv G k dx dy) (hk : k < n) : dx.natAbs ≤ 2000 * k ∧ dy.natAbs ≤ 2000 * k := by
  induction h with
  | top k h => simp
  | within k p dx dy hp hg hne h ih =>
    have h1 := ih (by omega)
    have h2 := hs p (by omega)
    omega
theorem mv_out {G : Nat → Nat → Int} {n : Nat} (ho : ShOk G n) (hz : ∀ i, i < n → G i 7 = 0) {k : Nat} {dx dy : Int} (h : Mv G k dx dy) (hk : k < n) : ∀ x y : Int, x.natAbs + 1100000 * k ≤ 900000000 → y.natAbs + 1100000 * k ≤ 900000000 → Out G n k (G k 1) x y (x + dx) (y + dy) := by
  induction h with
  | top k h =>
    intro x y _ _
    rw [h, Int.add_zero, Int.add_zero]
    exact OutTo.done k x y
  | within k p dx dy hp hg hne h ih =>
    intro x y hx hy
    obtain ⟨⟨x1, x2⟩, ⟨y1, y2⟩⟩ := ho.xy p (by omega)
    have hs := ih (by omega) (x + G p 3) (y + G p 4) (by omega) (by omega)
    have h3 := OutTo.step (G := G) (n := n) k p x y (x + (dx + G p 3)) (y + (dy + G p 4)) hp (by omega) (by rw [hg]; exact hne) (by omega) (by omega) (by
      rw [hz p (by omega), (tu_zero _ _ _ _).1, (tu_zero _ _ _ _).2]
      have e1 : x + (dx + G p 3) = x + G p 3 + dx := by omega
      have e2 : y + (dy + G p 4) = y + G p 4 + dy := by omega
      rw [e1, e2]
      exact hs)
    rw [hg] at h3
    exact h3
theorem ov_mid (X W : Int) (h0 : 2 ≤ W) (h1 : W ≤ 1500) : (ovU (X + W / 2) X W).natAbs ≤ 512 := by
  unfold ovU rdu
  have e : 2 * (X + W / 2) - 2 * X - W = 0 ∨ (2 * (X + W / 2) - 2 * X - W = -1 ∧ 3 ≤ W) := by omega
  rcases e with e | ⟨e, h3⟩
  · rw [e]
    have : (2 * (1024 * (0 : Int)) + W) / (2 * W) = 0 := Int.ediv_eq_zero_of_lt (by omega) (by omega)
    omega
  · rw [e]
    have l : -342 ≤ (2 * (1024 * (-1 : Int)) + W) / (2 * W) := by rw [Int.le_ediv_iff_mul_le (by omega)]; omega
    have u : (2 * (1024 * (-1 : Int)) + W) / (2 * W) < 1 := by rw [Int.ediv_lt_iff_lt_mul (by omega)]; omega
    omega
theorem mid_in (G : Nat → Nat → Int) (k : Nat) (hw : 0 ≤ G k 5 ∧ G k 5 ≤ 1500) (hh : 0 ≤ G k 6 ∧ G k 6 ≤ 1500) (ho : G k 2 = 1 → G k 5 ≠ 1 ∧ G k 6 ≠ 1) : insB G k (G k 3 + G k 5 / 2) (G k 4 + G k 6 / 2) = true := by
  unfold insB
  rw [if_neg (by omega)]
  by_cases c : G k 2 ≠ 1 ∨ G k 5 = 0 ∨ G k 6 = 0
  · rw [if_pos c]
  · rw [if_neg c]
    have h1 : G k 2 = 1 := by omega
    obtain ⟨h2, h3⟩ := ho h1
    have b1 := ov_mid (G k 3) (G k 5) (by omega) hw.2
    have b2 := ov_mid (G k 4) (G k 6) (by omega) hh.2
    have m1 := mul_in b1 b1
    have m2 := mul_in b2 b2
    rw [decide_eq_true_eq]
    omega
theorem far_out (G : Nat → Nat → Int) (k : Nat) (x y : Int) (h : x < G k 3) : insB G k x y = false := by
  unfold insB
  rw [if_pos (.inl h)]
theorem mid_bounds (G : Nat → Nat → Int) (k : Nat) (dx dy : Int) (hw : 0 ≤ G k 5) (hh : 0 ≤ G k 6) : mnU (fun i => crX G k i + dx) 4 = G k 3 + dx ∧ mnU (fun i => crY G k i + dy) 4 = G k 4 + dy ∧ mxU (fun i => crX G k i + dx) 4 = G k 3 + G k 5 + dx ∧ mxU (fun i => crY G k i + dy) 4 = G k 4 + G k 6 + dy := by
  simp only [mnU, mxU, crX, crY]
  refine ⟨?_, ?_, ?_, ?_⟩ <;> simp <;> (repeat' split) <;> omega
end Go.Proofs.YtnmikhmbnpiadaaDoor.Shp
