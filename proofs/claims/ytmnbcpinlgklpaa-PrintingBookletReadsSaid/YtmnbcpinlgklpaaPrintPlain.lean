/- What is read of a booklet, in plain Lean. -/
import Derived.Test.YtmnbcpinlgklpaaPrinting
import Derived.Test.YtmnbcpinlgklpaaWithin
namespace Go.Proofs.Ytmnbcpinlgklpaa.Prn
open Go.RowKit Go.Frm Wi

theorem o1_ix (f : Nat → Nat → Int) : ∀ k j, j < 2 * k → ix (o1 f k) j = if j % 2 = 0 then f (j / 2) 1 else f (j / 2) 2 := by
  intro k
  induction k with
  | zero => intro j h; omega
  | succ k ih =>
    intro j h
    rw [o1_succ]
    by_cases hj : j < 2 * k
    · rw [ix_append_left (by rw [o1_length]; exact hj)]
      exact ih j hj
    · rw [ix_append_right (by rw [o1_length]; omega), o1_length]
      have : j = 2 * k ∨ j = 2 * k + 1 := by omega
      rcases this with rfl | rfl
      · rw [if_pos (by omega), Nat.sub_self, show 2 * k / 2 = k by omega]; rfl
      · rw [if_neg (by omega), show 2 * k + 1 - 2 * k = 1 by omega, show (2 * k + 1) / 2 = k by omega]; rfl
theorem o2_ix (f : Nat → Nat → Int) (m : Nat) : ∀ k j, j < 2 * k → ix (o2 f m k) j = if j % 2 = 0 then f (m - 1 - j / 2) 3 else f (m - 1 - j / 2) 0 := by
  intro k
  induction k with
  | zero => intro j h; omega
  | succ k ih =>
    intro j h
    rw [o2_succ]
    by_cases hj : j < 2 * k
    · rw [ix_append_left (by rw [o2_length]; exact hj)]
      exact ih j hj
    · rw [ix_append_right (by rw [o2_length]; omega), o2_length]
      have : j = 2 * k ∨ j = 2 * k + 1 := by omega
      rcases this with rfl | rfl
      · rw [if_pos (by omega), Nat.sub_self, show 2 * k / 2 = k by omega]; rfl
      · rw [if_neg (by omega), show 2 * k + 1 - 2 * k = 1 by omega, show (2 * k + 1) / 2 = k by omega]; rfl
theorem read_sheets (zs : List Int) (m j : Nat) (hj : j < 4 * m) : ix (o1 (sh zs m) m ++ o2 (sh zs m) m m) j = ix zs j := by
  by_cases h : j < 2 * m
  · rw [ix_append_left (by rw [o1_length]; exact h), o1_ix _ _ _ h]
    split
    · show ix zs (2 * (j / 2)) = _; congr 1; omega
    · show ix zs (2 * (j / 2) + 1) = _; congr 1; omega
  · rw [ix_append_right (by rw [o1_length]; omega), o1_length, o2_ix _ _ _ _ (by omega)]
    split
    · show ix zs (4 * m - 1 - 2 * (m - 1 - (j - 2 * m) / 2) - 1) = _; congr 1; omega
    · show ix zs (4 * m - 1 - 2 * (m - 1 - (j - 2 * m) / 2)) = _; congr 1; omega

/-- the first k numbers, brought into the range -/
def own (zs : List Int) (k : Nat) : List Int := (List.range k).map fun j => wi (ix zs j) 0 500
theorem own_succ (zs : List Int) (k : Nat) : own zs (k + 1) = own zs k ++ [wi (ix zs k) 0 500] := by simp [own, List.range_succ]
theorem own_length (zs : List Int) (k : Nat) : (own zs k).length = k := by simp [own]
theorem own_bd (zs : List Int) (k j : Nat) : 0 ≤ ix (own zs k) j ∧ ix (own zs k) j ≤ 500 := by
  by_cases h : j < k
  · have : ix (own zs k) j = wi (ix zs j) 0 500 := by simp [ix, own, h]
    rw [this]
    exact wi_bd _ (by omega)
  · have : ix (own zs k) j = 0 := by simp [ix, own, h]
    omega
theorem own_out (zs : List Int) (k j : Nat) (h : k ≤ j) : ix (own zs k) j = 0 := by
  unfold ix
  rw [List.getD_eq_getElem?_getD, List.getElem?_eq_none (by rw [own_length]; exact h)]
  rfl
end Go.Proofs.Ytmnbcpinlgklpaa.Prn
