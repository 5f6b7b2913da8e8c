/- What a way keeps clear of, point by point. Nothing here speaks of a program. -/
import Derived.Test.YtegmokdhfmgdgaaRtRow
namespace Go.Proofs.Ytegmokdhfmgdgaa.Rt
open Go.RowKit Go.Frm Go.Frm.Rt

theorem rev_row (Q : Nat → Pt) {m i : Nat} (hi : i < m) : ((List.range m).map Q).reverse.getD i (0, 0) = Q (m - 1 - i) := by
  rw [List.getD_eq_getElem?_getD, List.getElem?_reverse (by simpa using hi)]
  simp [show m - 1 - i < m by omega]
theorem keep_plain {p q : Pt} {first last : Int} (h1 : -1 ≤ first ∧ first ≤ 3) (h2 : -1 ≤ last ∧ last ≤ 3) {fs : Nat → Fr} {n : Nat} (hf : ∀ i, i < n → okF (fs i)) {g : Int} {m : Nat} {Q : Nat → Pt} (h : FPost p q first last fs n g ((List.range m).map Q)) :
    (g = 100 ∨ g = 0 ∨ g = -1) ∧ 0 < m ∧ Q 0 = p ∧ Q (m - 1) = q ∧ ∀ j, j + 1 < m →
      Q j ≠ Q (j + 1) ∧ ((Q j).1 = (Q (j + 1)).1 ∨ (Q j).2 = (Q (j + 1)).2) ∧ (0 < j → ((Q (j - 1)).1 = (Q j).1 ↔ ¬ (Q j).1 = (Q (j + 1)).1)) ∧
      (g ≠ -1 → ∀ k, k < n → insB (widF (fs k) g) p = false → insB (widF (fs k) g) q = false → (widF (fs k) g).x0 ≠ (widF (fs k) g).x1 → (widF (fs k) g).y0 ≠ (widF (fs k) g).y1 → hitB (widF (fs k) g) (Q j) (Q (j + 1)) = false) := by
  obtain ⟨hg, hh, hl, hr⟩ := find_good h1 h2 h
  have hm : 0 < m := by
    rcases Nat.eq_zero_or_pos m with e | e
    · subst e
      cases hh
    · exact e
  refine ⟨hg, hm, ?_, ?_, fun j hj => ?_⟩
  · rw [List.head?_eq_getElem?] at hh
    simp [hm] at hh
    exact hh
  · rw [List.getLast?_eq_getElem?] at hl
    rw [List.length_map, List.length_range, List.getElem?_map, List.getElem?_range (by omega)] at hl
    exact Option.some.inj hl
  · have hlen : ((List.range m).map Q).reverse.length = m := by simp
    have hg2 := rev_get _ hr (m - 2 - j) (by rw [hlen]; omega)
    rw [hlen, rev_row Q (show m - 2 - j + 1 < m by omega), rev_row Q (show m - 2 - j < m by omega), show m - 1 - (m - 2 - j + 1) = j by omega, show m - 1 - (m - 2 - j) = j + 1 by omega] at hg2
    obtain ⟨a1, a2, a3, a4⟩ := hg2
    refine ⟨a1, a2, fun h0 => ?_, fun hg1 k hk i1 i2 x1 y1 => ?_⟩
    · have a5 := a4 (by omega)
      rw [rev_row Q (show m - 2 - j + 2 < m by omega), show m - 1 - (m - 2 - j + 2) = j - 1 by omega] at a5
      exact a5
    · rw [if_neg hg1] at a3
      have h9 := clear_obs (show 0 ≤ g by omega) a3 hk (hf k hk).2.2.2.2.1 (hf k hk).2.2.2.2.2 i1 i2 x1 y1
      cases hb : hitB (widF (fs k) g) (Q j) (Q (j + 1)) with
      | false => rfl
      | true => exact absurd ((hitB_iff _ _ _).1 hb) h9
end Go.Proofs.Ytegmokdhfmgdgaa.Rt
