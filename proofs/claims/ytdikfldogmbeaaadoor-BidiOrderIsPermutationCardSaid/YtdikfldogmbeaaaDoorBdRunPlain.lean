/- Runs and sequences in plain Lean. -/
import Derived.Test.YtdikfldogmbeaaaDoorBdPlain
namespace Go.Proofs.YtdikfldogmbeaaaDoor.Bd
open Go.RowKit Go.Frm

/-- what is true of the runs of the first i places -/
structure RnOk (O : Nat → Bool) (L : Nat → Int) (i : Nat) (r : Rn) : Prop where
  mi : r.m ≤ i
  len : ∀ k, k < r.m → 1 ≤ r.len k ∧ r.len k ≤ i
  lt : ∀ k j, k < r.m → j < r.len k → r.R k j < i
  inc : ∀ k j, k < r.m → j + 1 < r.len k → r.R k j < r.R k (j + 1)
  nxt : ∀ k, k + 1 < r.m → lastOf r k < r.R (k + 1) 0
  out : ∀ k j, k < r.m → j < r.len k → O (r.R k j) = false
  lv : ∀ k j, k < r.m → j < r.len k → L (r.R k j) = L (r.R k 0)
  cov : ∀ x, x < i → O x = false → ∃ k j, k < r.m ∧ j < r.len k ∧ r.R k j = x
theorem rn_ok (O : Nat → Bool) (L : Nat → Int) : ∀ i, RnOk O L i (rn O L i)
  | 0 => ⟨Nat.le_refl _, fun k hk => absurd hk (by simp [rn]), fun k j hk => absurd hk (by simp [rn]), fun k j hk => absurd hk (by simp [rn]), fun k hk => absurd hk (by simp [rn]), fun k j hk => absurd hk (by simp [rn]), fun k j hk => absurd hk (by simp [rn]), fun x hx => by omega⟩
  | i + 1 => by
    have h := rn_ok O L i
    show RnOk O L (i + 1) (rnStep O L i (rn O L i))
    generalize rn O L i = r at h
    unfold rnStep
    by_cases hO : O i = true
    · rw [if_pos hO]
      refine ⟨by have := h.mi; omega, fun k hk => by have := h.len k hk; omega, fun k j hk hj => by have := h.lt k j hk hj; omega, h.inc, h.nxt, h.out, h.lv, fun x hx hx0 => ?_⟩
      by_cases hxi : x = i
      · rw [hxi, hO] at hx0; cases hx0
      · exact h.cov x (by omega) hx0
    · have hOf : O i = false := by simpa using hO
      rw [if_neg hO]
      by_cases hc : (decide (0 < r.m) && L (r.R (r.m - 1) 0) == L i) = true
      · rw [if_pos hc]
        simp only [Bool.and_eq_true, decide_eq_true_eq, beq_iff_eq] at hc
        obtain ⟨hm, hL⟩ := hc
        have hl := h.len (r.m - 1) (by omega)
        have eR : ∀ k, k ≠ r.m - 1 → upd r.R (r.m - 1) (upd (r.R (r.m - 1)) (r.len (r.m - 1)) i) k = r.R k := fun k hk => upd_other _ _ hk
        have eR2 : upd r.R (r.m - 1) (upd (r.R (r.m - 1)) (r.len (r.m - 1)) i) (r.m - 1) = upd (r.R (r.m - 1)) (r.len (r.m - 1)) i := upd_same _ _ _
        have el : ∀ k, k ≠ r.m - 1 → upd r.len (r.m - 1) (r.len (r.m - 1) + 1) k = r.len k := fun k hk => upd_other _ _ hk
        have el2 : upd r.len (r.m - 1) (r.len (r.m - 1) + 1) (r.m - 1) = r.len (r.m - 1) + 1 := upd_same _ _ _
        refine ⟨by show r.m ≤ i + 1; have := h.mi; omega, fun k hk => ?_, fun k j hk hj => ?_, fun k j hk hj => ?_, fun k hk => ?_, fun k j hk hj => ?_, fun k j hk hj => ?_, fun x hx hx0 => ?_⟩
        · show 1 ≤ upd r.len _ _ k ∧ upd r.len _ _ k ≤ i + 1
          replace hk : k < r.m := hk
          by_cases e : k = r.m - 1
          · rw [e, el2]; omega
          · rw [el k e]; have := h.len k hk; omega
        · replace hk : k < r.m := hk
          show upd r.R _ _ k j < i + 1
          by_cases e : k = r.m - 1
          · subst e
            rw [eR2]
            unfold upd
            split
            · omega
            · have hj' : j < r.len (r.m - 1) + 1 := by rw [← el2]; exact hj
              have := h.lt (r.m - 1) j hk (by omega); omega
          · rw [eR k e]
            have hj' : j < r.len k := by rw [← el k e]; exact hj
            have := h.lt k j hk hj'; omega
        · replace hk : k < r.m := hk
          show upd r.R _ _ k j < upd r.R _ _ k (j + 1)
          by_cases e : k = r.m - 1
          · subst e
            rw [eR2]
            have hj' : j + 1 < r.len (r.m - 1) + 1 := by rw [← el2]; exact hj
            rw [upd_other _ _ (show j ≠ r.len (r.m - 1) by omega)]
            unfold upd
            split
            · exact h.lt (r.m - 1) j hk (by omega)
            · exact h.inc (r.m - 1) j hk (by omega)
          · rw [eR k e]
            exact h.inc k j hk (by rw [← el k e]; exact hj)
        · replace hk : k + 1 < r.m := hk
          have hn := h.nxt k hk
          unfold lastOf at hn ⊢
          show upd r.R _ _ k (upd r.len _ _ k - 1) < upd r.R _ _ (k + 1) 0
          rw [eR k (by omega), el k (by omega)]
          by_cases e : k + 1 = r.m - 1
          · rw [e, eR2, upd_other _ _ (by omega), ← e]; exact hn
          · rw [eR (k + 1) e]; exact hn
        · replace hk : k < r.m := hk
          show O (upd r.R _ _ k j) = false
          by_cases e : k = r.m - 1
          · subst e
            rw [eR2]
            unfold upd
            split
            · exact hOf
            · have hj' : j < r.len (r.m - 1) + 1 := by rw [← el2]; exact hj
              exact h.out (r.m - 1) j hk (by omega)
          · rw [eR k e]
            exact h.out k j hk (by rw [← el k e]; exact hj)
        · replace hk : k < r.m := hk
          show L (upd r.R _ _ k j) = L (upd r.R _ _ k 0)
          by_cases e : k = r.m - 1
          · subst e
            rw [eR2, upd_other (r.R (r.m - 1)) (i := 0) (j := r.len (r.m - 1)) i (by omega)]
            unfold upd
            split
            · exact hL.symm
            · have hj' : j < r.len (r.m - 1) + 1 := by rw [← el2]; exact hj
              exact h.lv (r.m - 1) j hk (by omega)
          · rw [eR k e]
            exact h.lv k j hk (by rw [← el k e]; exact hj)
        · show ∃ k j, k < r.m ∧ j < upd r.len _ _ k ∧ upd r.R _ _ k j = x
          by_cases hxi : x = i
          · exact ⟨r.m - 1, r.len (r.m - 1), by omega, by rw [el2]; omega, by rw [eR2, upd_same]; exact hxi.symm⟩
          · obtain ⟨k, j, h1, h2, h3⟩ := h.cov x (by omega) hx0
            by_cases e : k = r.m - 1
            · subst e
              exact ⟨r.m - 1, j, h1, by rw [el2]; omega, by rw [eR2, upd_other _ _ (by omega)]; exact h3⟩
            · exact ⟨k, j, h1, by rw [el k e]; exact h2, by rw [eR k e]; exact h3⟩
      · rw [if_neg hc]
        have eR : ∀ k, k ≠ r.m → upd r.R r.m (fun _ => i) k = r.R k := fun k hk => upd_other _ _ hk
        have eR2 : upd r.R r.m (fun _ => i) r.m = fun _ => i := upd_same _ _ _
        have el : ∀ k, k ≠ r.m → upd r.len r.m 1 k = r.len k := fun k hk => upd_other _ _ hk
        have el2 : upd r.len r.m 1 r.m = 1 := upd_same _ _ _
        refine ⟨by show r.m + 1 ≤ i + 1; have := h.mi; omega, fun k hk => ?_, fun k j hk hj => ?_, fun k j hk hj => ?_, fun k hk => ?_, fun k j hk hj => ?_, fun k j hk hj => ?_, fun x hx hx0 => ?_⟩
        · show 1 ≤ upd r.len _ _ k ∧ upd r.len _ _ k ≤ i + 1
          replace hk : k < r.m + 1 := hk
          by_cases e : k = r.m
          · rw [e, el2]; omega
          · rw [el k e]; have := h.len k (by omega); omega
        · show upd r.R _ _ k j < i + 1
          replace hk : k < r.m + 1 := hk
          by_cases e : k = r.m
          · rw [e, eR2]; show i < i + 1; omega
          · rw [eR k e]; have := h.lt k j (by omega) (by rw [← el k e]; exact hj); omega
        · show upd r.R _ _ k j < upd r.R _ _ k (j + 1)
          replace hk : k < r.m + 1 := hk
          by_cases e : k = r.m
          · have hj2 : j + 1 < upd r.len r.m 1 k := hj
            rw [e, el2] at hj2
            omega
          · rw [eR k e]; exact h.inc k j (by omega) (by rw [← el k e]; exact hj)
        · replace hk : k + 1 < r.m + 1 := hk
          unfold lastOf
          show upd r.R _ _ k (upd r.len _ _ k - 1) < upd r.R _ _ (k + 1) 0
          rw [eR k (by omega), el k (by omega)]
          by_cases e : k + 1 = r.m
          · rw [e, eR2]
            have := h.len k (by omega)
            exact h.lt k _ (by omega) (by omega)
          · rw [eR (k + 1) e]; exact h.nxt k (by omega)
        · show O (upd r.R _ _ k j) = false
          replace hk : k < r.m + 1 := hk
          by_cases e : k = r.m
          · rw [e, eR2]; exact hOf
          · rw [eR k e]; exact h.out k j (by omega) (by rw [← el k e]; exact hj)
        · show L (upd r.R _ _ k j) = L (upd r.R _ _ k 0)
          replace hk : k < r.m + 1 := hk
          by_cases e : k = r.m
          · rw [e, eR2]
          · rw [eR k e]; exact h.lv k j (by omega) (by rw [← el k e]; exact hj)
        · show ∃ k j, k < r.m + 1 ∧ j < upd r.len _ _ k ∧ upd r.R _ _ k j = x
          by_cases hxi : x = i
          · exact ⟨r.m, 0, by omega, by rw [el2]; omega, by rw [eR2]; exact hxi.symm⟩
          · obtain ⟨k, j, h1, h2, h3⟩ := h.cov x (by omega) hx0
            exact ⟨k, j, by omega, by rw [el k (by omega)]; exact h2, by rw [eR k (by omega)]; exact h3⟩
section
variable {O : Nat → Bool} {L : Nat → Int} {i : Nat} {r : Rn}
theorem RnOk.head_last (h : RnOk O L i r) {k : Nat} (hk : k < r.m) : ∀ j, j < r.len k → r.R k 0 ≤ r.R k j
  | 0, _ => Nat.le_refl _
  | j + 1, hj => by
    have h1 := h.head_last hk j (by omega)
    have h2 := h.inc k j hk hj
    omega
/-- the heads grow -/
theorem RnOk.heads (h : RnOk O L i r) {k : Nat} : ∀ l, k < l → l < r.m → lastOf r k < r.R l 0
  | 0, h1, _ => by omega
  | l + 1, h1, h2 => by
    have h3 := h.nxt l h2
    by_cases e : k = l
    · rw [e]; exact h3
    · have h4 := h.heads (k := k) l (by omega) (by omega)
      have h5 := h.head_last (k := l) (by omega) (r.len l - 1) (by have := h.len l (by omega); omega)
      unfold lastOf at h3
      unfold lastOf at h4 ⊢
      omega
theorem RnOk.heads_ne (h : RnOk O L i r) {k l : Nat} (hk : k < r.m) (hl : l < r.m) (hkl : k ≠ l) : r.R k 0 ≠ r.R l 0 := by
  rcases Nat.lt_or_ge k l with h1 | h1
  · have h2 := h.heads l h1 hl
    have h3 := h.head_last hk (r.len k - 1) (by have := h.len k hk; omega)
    unfold lastOf at h2
    omega
  · have h2 := h.heads k (by omega) hk (k := l)
    have h3 := h.head_last hl (r.len l - 1) (by have := h.len l hl; omega)
    unfold lastOf at h2
    omega
theorem RnOk.last_lt (h : RnOk O L i r) {k : Nat} (hk : k < r.m) : lastOf r k < i := h.lt k _ hk (by have := h.len k hk; omega)
end
theorem runAt_spec (r : Rn) : ∀ k x, runAt r k x ≤ k ∧ (0 < runAt r k x → r.R (runAt r k x - 1) 0 = x)
  | 0, x => by simp [runAt]
  | k + 1, x => by
    have h := runAt_spec r k x
    show upd (runAt r k) (r.R k 0) (k + 1) x ≤ k + 1 ∧ (0 < upd (runAt r k) (r.R k 0) (k + 1) x → r.R (upd (runAt r k) (r.R k 0) (k + 1) x - 1) 0 = x)
    unfold upd
    split
    · rename_i e
      exact ⟨Nat.le_refl _, fun _ => e.symm⟩
    · exact ⟨by omega, h.2⟩
/-- ends of isolates lie behind their beginnings -/
def MOk (M : Nat → Int) (n : Nat) : Prop := ∀ i, i < n → M i < 0 ∨ ((i : Int) < M i ∧ M i < n)
theorem nextRun_spec {O : Nat → Bool} {L M : Nat → Int} {n k : Nat} {r : Rn} (h : RnOk O L n r) (hM : MOk M n) (hk : k < r.m) : nextRun M r k ≤ r.m ∧ (0 < nextRun M r k → k + 1 < nextRun M r k ∧ lastOf r k < r.R (nextRun M r k - 1) 0) := by
  unfold nextRun
  split
  · exact ⟨Nat.zero_le _, fun h => by omega⟩
  · have hl := h.last_lt hk
    have hm := hM _ hl
    obtain ⟨h1, h2⟩ := runAt_spec r r.m (M (lastOf r k)).toNat
    refine ⟨h1, fun h3 => ?_⟩
    have h4 := h2 h3
    have h5 : lastOf r k < r.R (runAt r r.m (M (lastOf r k)).toNat - 1) 0 := by rw [h4]; omega
    refine ⟨?_, h5⟩
    generalize runAt r r.m (M (lastOf r k)).toNat = v at *
    rcases Nat.lt_or_ge (k + 1) v with h6 | h6
    · exact h6
    · exfalso
      have h7 := h.head_last hk (r.len k - 1) (by have := h.len k hk; omega)
      rcases Nat.lt_or_ge (v - 1) k with h8 | h8
      · have h9 := h.heads k h8 hk
        have h10 := h.head_last (k := v - 1) (by omega) (r.len (v - 1) - 1) (by have := h.len (v - 1) (by omega); omega)
        unfold lastOf at *
        omega
      · obtain rfl : k = v - 1 := by omega
        unfold lastOf at *
        omega
/-- places grow, below a bound -/
structure AtOk (a : At) (bd : Nat) : Prop where
  inc : ∀ j, j + 1 < a.n → a.A j < a.A (j + 1)
  lt : ∀ j, j < a.n → a.A j < bd
theorem AtOk.le {a : At} {bd : Nat} (h : AtOk a bd) : ∀ j, j < a.n → j ≤ a.A j
  | 0, _ => Nat.zero_le _
  | j + 1, hj => by
    have h1 := h.le j (by omega)
    have h2 := h.inc j hj
    omega
theorem AtOk.cnt {a : At} {bd : Nat} (h : AtOk a bd) : a.n ≤ bd := by
  rcases Nat.eq_zero_or_pos a.n with h0 | h0
  · omega
  · have h1 := h.le (a.n - 1) (by omega)
    have h2 := h.lt (a.n - 1) (by omega)
    omega
theorem AtOk.mono {a : At} {b b' : Nat} (h : AtOk a b) (hb : b ≤ b') : AtOk a b' := ⟨h.inc, fun j hj => Nat.lt_of_lt_of_le (h.lt j hj) hb⟩
theorem RnOk.run_lt {O : Nat → Bool} {L : Nat → Int} {i k : Nat} {r : Rn} (h : RnOk O L i r) (hk : k < r.m) : ∀ d j, j + d = r.len k - 1 → r.R k j ≤ lastOf r k
  | 0, j, hj => by unfold lastOf; rw [← hj]; exact Nat.le_refl _
  | d + 1, j, hj => by
    have h1 := h.run_lt hk d (j + 1) (by omega)
    have h2 := h.inc k j hk (by omega)
    omega
theorem AtOk.add {O : Nat → Bool} {L : Nat → Int} {i k : Nat} {r : Rn} {a : At} (h : AtOk a (r.R k 0)) (hr : RnOk O L i r) (hk : k < r.m) : AtOk (atAdd r k a) (lastOf r k + 1) := by
  have hl := hr.len k hk
  constructor
  · intro j hj
    replace hj : j + 1 < a.n + r.len k := hj
    show (if j < a.n then a.A j else r.R k (j - a.n)) < (if j + 1 < a.n then a.A (j + 1) else r.R k (j + 1 - a.n))
    by_cases h1 : j + 1 < a.n
    · rw [if_pos h1, if_pos (by omega)]; exact h.inc j h1
    · rw [if_neg h1]
      by_cases h2 : j < a.n
      · rw [if_pos h2, show j + 1 - a.n = 0 by omega]
        exact h.lt j h2
      · rw [if_neg h2, show j + 1 - a.n = (j - a.n) + 1 by omega]
        exact hr.inc k _ hk (by omega)
  · intro j hj
    replace hj : j < a.n + r.len k := hj
    show (if j < a.n then a.A j else r.R k (j - a.n)) < lastOf r k + 1
    have h3 := hr.run_lt hk (r.len k - 1) 0 (by omega)
    by_cases h2 : j < a.n
    · rw [if_pos h2]
      have := h.lt j h2
      omega
    · rw [if_neg h2]
      have := hr.run_lt hk (r.len k - 1 - (j - a.n)) (j - a.n) (by omega)
      omega
/-- the sequence of a run -/
def sqOf (M : Nat → Int) (r : Rn) (W L : Nat → Int) (k : Nat) : Sq := ⟨(seqAt M r k).A, (seqAt M r k).n, W, L (r.R k 0), 0, 0⟩
/-- the runs that begin sequences -/
def begs (M : Nat → Int) (r : Rn) (k : Nat) : List Nat := (List.range k).filter fun j => !folS M r r.m j
theorem begs_lt {M : Nat → Int} {r : Rn} {k j : Nat} (h : j ∈ begs M r k) : j < k := by
  simp [begs] at h
  exact h.1
theorem begs_skip {M : Nat → Int} {r : Rn} {k : Nat} (h : folS M r r.m k = true) : begs M r (k + 1) = begs M r k := by
  simp [begs, List.range_succ, List.filter_append, h]
theorem begs_take {M : Nat → Int} {r : Rn} {k : Nat} (h : folS M r r.m k = false) : begs M r (k + 1) = begs M r k ++ [k] := by
  simp [begs, List.range_succ, List.filter_append, h]
end Go.Proofs.YtdikfldogmbeaaaDoor.Bd
