/- The widths of the glue of a filled line, as a plain list. No program in sight. -/
import Derived.Test.YtmjhmcjlbcadaaaLnNwPlain
namespace Go.Proofs.Ytmjhmcjlbcadaaa.Ln
open Go.RowKit Go.Frm

/-- how a line is filled: by what, of what, and whether it shrinks -/
def fBy (x : Lin) : Int := if x.wid - x.nat < 0 then min (-(x.wid - x.nat)) x.shr else if x.str = 0 then 0 else x.wid - x.nat
def fCan (x : Lin) : Int := if x.wid - x.nat < 0 then x.shr else x.str
def fSg (x : Lin) : Int := if x.wid - x.nat < 0 then -1 else 1
def fS (P : Pts) (x : Lin) (i : Nat) : Int := if x.wid - x.nat < 0 then sY P i else sG P i
/-- what is done ahead of a part, and what one gets -/
def fDone (P : Pts) (x : Lin) (j : Nat) : Int := if 0 < fCan x then fS P x (x.fr + j) - fS P x x.fr else 0
def fShare (P : Pts) (x : Lin) (j : Nat) : Int := if 0 < fCan x then (fBy x * fDone P x (j + 1)).tdiv (fCan x) - (fBy x * fDone P x j).tdiv (fCan x) else 0
def fOut (P : Pts) (x : Lin) : Nat → List Int
  | 0 => []
  | j + 1 => fOut P x j ++ if P.kd (x.fr + j) = 1 then [P.wd (x.fr + j) + fSg x * fShare P x j] else []
/-- a line of these parts -/
structure IsLine (P : Pts) (x : Lin) : Prop where
  fr : x.fr ≤ x.en
  en : x.en ≤ P.n
  nat : x.nat = sW P x.en - sW P x.fr + added P x.en
  str : x.str = sG P x.en - sG P x.fr
  shr : x.shr = sY P x.en - sY P x.fr
  wid : 1 ≤ x.wid ∧ x.wid ≤ 100000
theorem line_is {P : Pts} {ws : List Int} {fr en k : Nat} (h : fr ≤ en) (he : en ≤ P.n) (hw : 1 ≤ wAt ws k ∧ wAt ws k ≤ 100000) : IsLine P (line P ws fr en k) := by
  have e : min fr en = fr := by omega
  refine ⟨by rw [line_fr h]; exact h, he, ?_, ?_, ?_, hw⟩
  · show _ - sW P (min fr en) + _ = _ - sW P (min fr en) + _; rfl
  · show _ - sG P (min fr en) = _ - sG P (min fr en); rfl
  · show _ - sY P (min fr en) = _ - sY P (min fr en); rfl
section
variable {P : Pts} {x : Lin}
theorem IsLine.bd (h : IsLine P x) (hv : VP P) : 0 ≤ x.nat ∧ x.nat ≤ 400000 ∧ 0 ≤ x.str ∧ x.str ≤ 400000 ∧ 0 ≤ x.shr ∧ x.shr ≤ 400000 := by
  have a := added_bd hv x.en
  have f := hv.few
  have n := h.en
  have m := h.fr
  have w1 := sW_mono hv m n
  have w2 := sW_bd hv x.en n
  have w3 := sW_bd hv x.fr (by omega)
  have g1 := sG_mono hv m n
  have g2 := sG_bd hv x.en n
  have g3 := sG_bd hv x.fr (by omega)
  have y1 := sY_mono hv m n
  have y2 := sY_bd hv x.en n
  have y3 := sY_bd hv x.fr (by omega)
  rw [h.nat, h.str, h.shr]
  omega
theorem fS_mono (hv : VP P) {a b : Nat} (hab : a ≤ b) (hb : b ≤ P.n) : fS P x a ≤ fS P x b := by
  unfold fS
  split
  · exact sY_mono hv hab hb
  · exact sG_mono hv hab hb
theorem fS_step (i : Nat) : fS P x (i + 1) = fS P x i + if x.wid - x.nat < 0 then P.sh i else P.st i := by
  unfold fS
  split <;> rfl
theorem fCan_eq (h : IsLine P x) : fCan x = fS P x x.en - fS P x x.fr := by
  unfold fCan fS
  split
  · exact h.shr
  · exact h.str
theorem fCan_bd (h : IsLine P x) (hv : VP P) : 0 ≤ fCan x ∧ fCan x ≤ 400000 := by
  have := h.bd hv
  unfold fCan
  split <;> omega
theorem fBy_bd (h : IsLine P x) (hv : VP P) : 0 ≤ fBy x ∧ fBy x ≤ 400000 ∧ (x.wid - x.nat < 0 → fBy x ≤ fCan x) := by
  have := h.bd hv
  have := h.wid
  unfold fBy fCan
  split
  · refine ⟨by omega, by omega, fun _ => by omega⟩
  · split
    · refine ⟨by omega, by omega, fun hh => by omega⟩
    · refine ⟨by omega, by omega, fun hh => by omega⟩
theorem fDone_bd (h : IsLine P x) (hv : VP P) {j : Nat} (hj : x.fr + j ≤ x.en) : 0 ≤ fDone P x j ∧ fDone P x j ≤ fCan x := by
  have hc := fCan_bd h hv
  have he := h.en
  unfold fDone
  split
  · have h1 := fS_mono (x := x) hv (show x.fr ≤ x.fr + j by omega) (by omega)
    have h2 := fS_mono (x := x) hv hj he
    have h3 := fCan_eq h
    omega
  · omega
theorem fDone_step (h : 0 < fCan x) (j : Nat) : fDone P x (j + 1) = fDone P x j + if x.wid - x.nat < 0 then P.sh (x.fr + j) else P.st (x.fr + j) := by
  unfold fDone
  rw [if_pos h, if_pos h, ← Nat.add_assoc, fS_step]
  omega
theorem fDone_other (hv : VP P) {j : Nat} (hj : x.fr + j < P.n) (hk : P.kd (x.fr + j) ≠ 1) : fDone P x (j + 1) = fDone P x j := by
  obtain ⟨h1, h2⟩ := hv.glue _ hj hk
  unfold fDone
  split
  · rw [← Nat.add_assoc, fS_step, h1, h2]
    split <;> omega
  · rfl
theorem share_bd (h : IsLine P x) (hv : VP P) {j : Nat} (hj : x.fr + j < x.en) : 0 ≤ fShare P x j ∧ fShare P x j ≤ 400000 ∧ (x.wid - x.nat < 0 → fShare P x j ≤ P.sh (x.fr + j)) := by
  have he := h.en
  have hb := fBy_bd h hv
  have hc := fCan_bd h hv
  have hs := hv.shr (x.fr + j) (by omega)
  have hw := hv.wide (x.fr + j) (by omega)
  unfold fShare
  split
  · rename_i h0
    have d1 := fDone_bd h hv (show x.fr + j ≤ x.en by omega)
    have d2 := fDone_bd h hv (show x.fr + (j + 1) ≤ x.en by omega)
    have hst := fDone_step (P := P) h0 j
    generalize fDone P x (j + 1) = b at *
    generalize fDone P x j = a at *
    generalize fBy x = y at *
    generalize fCan x = c at *
    have n1 : 0 ≤ y * a := Int.mul_nonneg hb.1 d1.1
    have n2 : 0 ≤ y * b := Int.mul_nonneg hb.1 d2.1
    rw [Int.tdiv_eq_ediv_of_nonneg n1, Int.tdiv_eq_ediv_of_nonneg n2]
    have hab : a ≤ b := by
      have := hv.str (x.fr + j) (by omega)
      split at hst <;> omega
    have m1 : y * a ≤ y * b := Int.mul_le_mul_of_nonneg_left hab hb.1
    have q1 : y * a / c ≤ y * b / c := Int.ediv_le_ediv h0 m1
    have q0 : 0 ≤ y * a / c := Int.ediv_nonneg n1 (by omega)
    have m2 : y * b ≤ y * c := Int.mul_le_mul_of_nonneg_left d2.2 hb.1
    have q2 : y * b / c ≤ y := by
      have := Int.ediv_le_ediv h0 m2
      rwa [Int.mul_ediv_cancel _ (by omega)] at this
    refine ⟨by omega, by omega, fun hneg => ?_⟩
    rw [if_pos hneg] at hst
    have hyc := hb.2.2 hneg
    have m3 : y * b ≤ y * a + P.sh (x.fr + j) * c := by
      rw [hst, Int.mul_add]
      have := Int.mul_le_mul_of_nonneg_left hyc hs.1
      rw [Int.mul_comm y (P.sh _)]
      omega
    have q3 := Int.ediv_le_ediv h0 m3
    rw [Int.add_mul_ediv_right _ _ (show c ≠ 0 by omega)] at q3
    omega
  · omega
/-- what boxes and glue are together -/
def fSum (P : Pts) (x : Lin) (j : Nat) : Int := sW P (x.fr + j) - sW P x.fr + fSg x * (if 0 < fCan x then (fBy x * fDone P x j).tdiv (fCan x) else 0)
theorem fSum_zero : fSum P x 0 = 0 := by
  have : fDone P x 0 = 0 := by
    unfold fDone
    split
    · rw [Nat.add_zero]; omega
    · rfl
  unfold fSum
  rw [this, Nat.add_zero, Int.mul_zero]
  split <;> simp
theorem fSum_box (hv : VP P) {j : Nat} (hj : x.fr + j < P.n) (hk : P.kd (x.fr + j) = 0) : fSum P x (j + 1) = fSum P x j + P.wd (x.fr + j) := by
  have h1 := fDone_other (x := x) hv hj (by omega)
  unfold fSum
  rw [h1, ← Nat.add_assoc]
  show sW P (x.fr + j) + (if P.kd (x.fr + j) = 2 then 0 else P.wd (x.fr + j)) - _ + _ = _
  rw [if_neg (by omega)]
  omega
theorem fSum_pen (hv : VP P) {j : Nat} (hj : x.fr + j < P.n) (hk : P.kd (x.fr + j) = 2) : fSum P x (j + 1) = fSum P x j := by
  have h1 := fDone_other (x := x) hv hj (by omega)
  unfold fSum
  rw [h1, ← Nat.add_assoc]
  show sW P (x.fr + j) + (if P.kd (x.fr + j) = 2 then 0 else P.wd (x.fr + j)) - _ + _ = _
  rw [if_pos hk]
  omega
theorem fSum_glue {j : Nat} (hk : P.kd (x.fr + j) = 1) : fSum P x (j + 1) = fSum P x j + (P.wd (x.fr + j) + fSg x * fShare P x j) := by
  unfold fSum fShare
  rw [← Nat.add_assoc]
  show sW P (x.fr + j) + (if P.kd (x.fr + j) = 2 then 0 else P.wd (x.fr + j)) - _ + _ = _
  rw [if_neg (by omega)]
  split
  · rw [Int.mul_sub]; omega
  · simp
    omega
theorem fSum_all (h : IsLine P x) (hv : VP P) : fSum P x (x.en - x.fr) + added P x.en = if x.nat - x.shr > x.wid then x.nat - x.shr else if x.nat > x.wid ∨ x.str > 0 then x.wid else x.nat := by
  have hfr := h.fr
  have hb := h.bd hv
  have hw := h.wid
  have hn := h.nat
  have e : x.fr + (x.en - x.fr) = x.en := by omega
  have hd : 0 < fCan x → fDone P x (x.en - x.fr) = fCan x := fun h0 => by
    unfold fDone
    rw [if_pos h0, e, fCan_eq h]
  have ht : (if 0 < fCan x then (fBy x * fDone P x (x.en - x.fr)).tdiv (fCan x) else 0) = if 0 < fCan x then fBy x else 0 := by
    by_cases h0 : 0 < fCan x
    · rw [if_pos h0, if_pos h0, hd h0, Int.mul_tdiv_cancel _ (by omega)]
    · rw [if_neg h0, if_neg h0]
  unfold fSum
  rw [ht, e]
  unfold fSg fBy fCan
  by_cases h1 : x.wid - x.nat < 0
  · simp only [if_pos h1]
    by_cases h2 : x.nat - x.shr > x.wid
    · rw [if_pos h2]
      split <;> omega
    · rw [if_neg h2, if_pos (show 0 < x.shr by omega), if_pos (.inl (by omega))]
      omega
  · simp only [if_neg h1]
    rw [if_neg (show ¬ x.nat - x.shr > x.wid by omega)]
    by_cases h3 : x.str = 0
    · rw [if_neg (show ¬ 0 < x.str by omega), if_neg (by omega)]
      omega
    · rw [if_pos (show 0 < x.str by omega), if_neg h3, if_pos (.inr (by omega))]
      omega
theorem fOut_len (j : Nat) : (fOut P x j).length ≤ j := by
  induction j with
  | zero => exact Nat.le_refl _
  | succ j ih =>
    show (fOut P x j ++ _).length ≤ _
    rw [List.length_append]
    split
    · simp; omega
    · simp; omega
theorem fOut_pre {a b : Nat} (h : a ≤ b) : ∃ t, fOut P x b = fOut P x a ++ t := by
  induction b with
  | zero => obtain rfl : a = 0 := by omega
            exact ⟨[], by simp⟩
  | succ b ih =>
    by_cases e : a = b + 1
    · subst e; exact ⟨[], by simp⟩
    · obtain ⟨t, ht⟩ := ih (by omega)
      exact ⟨t ++ _, by show fOut P x b ++ _ = _; rw [ht, List.append_assoc]⟩
/-- the widths are met one by one -/
theorem fOut_at {j m : Nat} (hj : j < m) (hk : P.kd (x.fr + j) = 1) : (fOut P x j).length < (fOut P x m).length ∧ ix (fOut P x m) (fOut P x j).length = P.wd (x.fr + j) + fSg x * fShare P x j ∧ (fOut P x (j + 1)).length = (fOut P x j).length + 1 := by
  obtain ⟨t, ht⟩ := fOut_pre (P := P) (x := x) (show j + 1 ≤ m by omega)
  have h1 : fOut P x (j + 1) = fOut P x j ++ [P.wd (x.fr + j) + fSg x * fShare P x j] := by
    show fOut P x j ++ _ = _
    rw [if_pos hk]
  rw [h1] at ht
  refine ⟨by rw [ht]; simp, ?_, by rw [h1]; simp⟩
  rw [ht, ix_append_left (by simp), ix_append_right (Nat.le_refl _), Nat.sub_self]
  rfl
theorem fOut_not {j : Nat} (hk : P.kd (x.fr + j) ≠ 1) : fOut P x (j + 1) = fOut P x j := by
  show fOut P x j ++ _ = _
  rw [if_neg hk, List.append_nil]
theorem glue_bd (h : IsLine P x) (hv : VP P) {j : Nat} (hj : x.fr + j < x.en) : P.wd (x.fr + j) - P.sh (x.fr + j) ≤ P.wd (x.fr + j) + fSg x * fShare P x j ∧ -400000 ≤ fSg x * fShare P x j ∧ fSg x * fShare P x j ≤ 400000 := by
  have hs := share_bd h hv hj
  have := hv.shr (x.fr + j) (by have := h.en; omega)
  unfold fSg
  split
  · rename_i hn
    have := hs.2.2 hn
    omega
  · omega
end
end Go.Proofs.Ytmjhmcjlbcadaaa.Ln
