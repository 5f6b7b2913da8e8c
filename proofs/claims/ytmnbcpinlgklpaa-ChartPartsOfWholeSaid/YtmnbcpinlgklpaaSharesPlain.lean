/- What Shares does, in plain Lean. -/
import Derived.Test.YtmnbcpinlgklpaaSectors
namespace Go.Proofs.Ytmnbcpinlgklpaa.Chr
open Go.RowKit Go.Frm

theorem psum_fsum (zs : List Int) : ∀ n, psum zs n = fsum (ix zs) n
  | 0 => rfl
  | n + 1 => by rw [psum_succ, fsum_succ, psum_fsum zs n]
def quo (zs : List Int) (all : Int) (i : Nat) : Int := 1000 * ix zs i / all
def rmd (zs : List Int) (all : Int) (i : Nat) : Int := 1000 * ix zs i % all
def b2i (b : Bool) : Int := if b then 1 else 0
/-- how many are up -/
def cnt (U : Nat → Bool) (n : Nat) : Int := fsum (fun i => b2i (U i)) n
/-- what is left after the rounding down -/
def left0 (zs : List Int) (all : Int) (n : Nat) : Int := 1000 - fsum (quo zs all) n
theorem left_facts (zs : List Int) (n : Nat) (hn : 1 ≤ n) (all : Int) (hall : psum zs n = all) (hpos : 0 < all) : 0 ≤ left0 zs all n ∧ left0 zs all n < n := by
  have h1 : fsum (fun i => all * quo zs all i + rmd zs all i) n = 1000 * all := by
    rw [← hall, psum_fsum, ← fsum_mul]
    refine fsum_congr fun i _ => ?_
    rw [← psum_fsum, hall]
    exact Int.mul_ediv_add_emod _ _
  rw [fsum_add, fsum_mul] at h1
  have h2 : 0 ≤ fsum (rmd zs all) n := fsum_nonneg fun i _ => Int.emod_nonneg _ (by omega)
  have h3 : fsum (rmd zs all) n ≤ fsum (fun _ => all - 1) n := fsum_le fun i _ => by
    have := Int.emod_lt_of_pos (1000 * ix zs i) hpos
    unfold rmd
    omega
  rw [fsum_const] at h3
  have h4 : all * left0 zs all n = fsum (rmd zs all) n := by
    unfold left0
    rw [Int.mul_sub]
    omega
  have h5 : (n : Int) * (all - 1) = all * n - n := by rw [Int.mul_sub, Int.mul_comm]; simp
  constructor
  · refine Int.le_of_mul_le_mul_left (a := all) ?_ hpos
    rw [h4]
    simpa using h2
  · refine Int.lt_of_mul_lt_mul_left (a := all) ?_ (by omega)
    rw [h4]
    omega
theorem b2i_bd (b : Bool) : 0 ≤ b2i b ∧ b2i b ≤ 1 := by cases b <;> decide
theorem cnt_all (U : Nat → Bool) : ∀ n, (∀ k, k < n → U k = true) → cnt U n = n
  | 0, _ => rfl
  | n + 1, h => by
    unfold cnt
    rw [fsum_succ, h n (by omega)]
    have := cnt_all U n (fun k hk => h k (by omega))
    unfold cnt at this
    rw [this]
    simp [b2i]
theorem cnt_nonneg (U : Nat → Bool) (n : Nat) : 0 ≤ cnt U n := fsum_nonneg fun _ _ => (b2i_bd _).1
theorem cnt_upd {U : Nat → Bool} {b n : Nat} (hb : b < n) (hu : U b = false) : cnt (upd U b true) n = cnt U n + 1 := by
  have h1 : (fun i => b2i (upd U b true i)) = upd (fun i => b2i (U i)) b 1 := by
    funext i
    unfold upd
    split <;> rfl
  unfold cnt
  rw [h1, fsum_upd _ _ hb, hu]
  simp [b2i]
/-- the rounded up ones have no smaller remainders than the others -/
def Inv (zs : List Int) (all : Int) (n : Nat) (U : Nat → Bool) : Prop := ∀ i, i < n → U i = true → ∀ k, k < n → U k = false → rmd zs all k ≤ rmd zs all i
theorem inv_start (zs : List Int) (all : Int) (n : Nat) : Inv zs all n (fun _ => false) := fun _ _ h => by cases h
/-- the best of the first i -/
def BestTo (zs : List Int) (all : Int) (U : Nat → Bool) (i : Nat) (best : Int) : Prop :=
  (best = -1 ∧ ∀ k, k < i → U k = true) ∨ ∃ b : Nat, b < i ∧ best = b ∧ U b = false ∧ ∀ k, k < i → U k = false → rmd zs all k ≤ rmd zs all b
theorem best_start (zs : List Int) (all : Int) (U : Nat → Bool) : BestTo zs all U 0 (-1) := .inl ⟨rfl, fun k hk => by omega⟩
theorem best_up {zs : List Int} {all : Int} {U : Nat → Bool} {i : Nat} {best : Int} (h : BestTo zs all U i best) (hu : U i = true) : BestTo zs all U (i + 1) best := by
  rcases h with ⟨h1, h2⟩ | ⟨b, h1, h2, h3, h4⟩
  · refine .inl ⟨h1, fun k hk => ?_⟩
    by_cases hki : k = i
    · rw [hki]; exact hu
    · exact h2 k (by omega)
  · refine .inr ⟨b, by omega, h2, h3, fun k hk hku => ?_⟩
    by_cases hki : k = i
    · rw [hki, hu] at hku; cases hku
    · exact h4 k (by omega) hku
theorem best_first {zs : List Int} {all : Int} {U : Nat → Bool} {i : Nat} (h : BestTo zs all U i (-1)) (hu : U i = false) : BestTo zs all U (i + 1) i := by
  rcases h with ⟨h1, h2⟩ | ⟨b, h1, h2, h3, h4⟩
  · refine .inr ⟨i, by omega, rfl, hu, fun k hk hku => ?_⟩
    by_cases hki : k = i
    · rw [hki]; omega
    · rw [h2 k (by omega)] at hku; cases hku
  · omega
theorem best_new {zs : List Int} {all : Int} {U : Nat → Bool} {i b : Nat} (h : BestTo zs all U i b) (hu : U i = false) (hr : rmd zs all b < rmd zs all i) : BestTo zs all U (i + 1) i := by
  rcases h with ⟨h1, h2⟩ | ⟨b', h1, h2, h3, h4⟩
  · omega
  · obtain rfl : b = b' := by omega
    refine .inr ⟨i, by omega, rfl, hu, fun k hk hku => ?_⟩
    by_cases hki : k = i
    · rw [hki]; omega
    · have := h4 k (by omega) hku
      omega
theorem best_old {zs : List Int} {all : Int} {U : Nat → Bool} {i b : Nat} (h : BestTo zs all U i b) (_hu : U i = false) (hr : ¬ rmd zs all b < rmd zs all i) : BestTo zs all U (i + 1) b := by
  rcases h with ⟨h1, h2⟩ | ⟨b', h1, h2, h3, h4⟩
  · omega
  · obtain rfl : b = b' := by omega
    refine .inr ⟨b, by omega, rfl, h3, fun k hk hku => ?_⟩
    by_cases hki : k = i
    · rw [hki]; omega
    · exact h4 k (by omega) hku
theorem best_end {zs : List Int} {all : Int} {U : Nat → Bool} {n : Nat} {best : Int} (h : BestTo zs all U n best) (hc : cnt U n < n) : ∃ b : Nat, b < n ∧ best = b ∧ U b = false ∧ ∀ k, k < n → U k = false → rmd zs all k ≤ rmd zs all b := by
  rcases h with ⟨h1, h2⟩ | h
  · have := cnt_all U n h2
    omega
  · exact h
theorem inv_next {zs : List Int} {all : Int} {U : Nat → Bool} {n b : Nat} (h : Inv zs all n U) (hm : ∀ k, k < n → U k = false → rmd zs all k ≤ rmd zs all b) : Inv zs all n (upd U b true) := by
  intro i hi hu k hk hku
  have hkb : k ≠ b := fun e => by rw [e, upd_same] at hku; cases hku
  rw [upd_other _ _ hkb] at hku
  by_cases hib : i = b
  · rw [hib]; exact hm k hk hku
  · rw [upd_other _ _ hib] at hu
    exact h i hi hu k hk hku
/-- what is known of shares -/
structure Shared (zs : List Int) (n : Nat) (x : Nat → Int) : Prop where
  bd : ∀ i, i < n → 0 ≤ x i ∧ x i ≤ 1001
  zero : psum zs n = 0 → fsum x n = 0
  all : psum zs n ≠ 0 → fsum x n = 1000
  mono : ∀ i k, i < n → k < n → ix zs i < ix zs k → x i ≤ x k
theorem shared_end {zs : List Int} {n : Nat} {all : Int} (hall : psum zs n = all) (hpos : 0 < all) (hv : ∀ j, j < n → 0 ≤ ix zs j) {U : Nat → Bool} (hi : Inv zs all n U) (hc : left0 zs all n = cnt U n) :
    Shared zs n (fun i => quo zs all i + b2i (U i)) := by
  have hq : ∀ j, j < n → ix zs j ≤ all := fun j hj => by
    rw [← hall, psum_fsum]
    have h1 : fsum (upd (ix zs) j 0) n = fsum (ix zs) n + (0 - ix zs j) := fsum_upd (ix zs) 0 hj
    have h2 : 0 ≤ fsum (upd (ix zs) j 0) n := fsum_nonneg fun i hi => by
      unfold upd
      split
      · omega
      · exact hv i hi
    omega
  refine ⟨fun i hi => ?_, fun h => by omega, fun _ => ?_, fun i k hi' hk hik => ?_⟩
  · have h1 := hv i hi
    have h2 := hq i hi
    have h3 : 0 ≤ quo zs all i := Int.ediv_nonneg (by omega) (by omega)
    have h4 : quo zs all i ≤ 1000 := by
      unfold quo
      rw [Int.ediv_le_iff_le_mul hpos]
      have : 1000 * ix zs i ≤ 1000 * all := by omega
      omega
    have := b2i_bd (U i)
    omega
  · rw [fsum_add]
    unfold left0 cnt at hc
    omega
  · have e1 := Int.mul_ediv_add_emod (1000 * ix zs i) all
    have e2 := Int.mul_ediv_add_emod (1000 * ix zs k) all
    have hmono : quo zs all i ≤ quo zs all k := Int.ediv_le_ediv hpos (by omega)
    have b1 := b2i_bd (U i)
    have b2 := b2i_bd (U k)
    by_cases hlt : quo zs all i < quo zs all k
    · show quo zs all i + b2i (U i) ≤ quo zs all k + b2i (U k)
      omega
    · have heq : quo zs all i = quo zs all k := by omega
      show quo zs all i + b2i (U i) ≤ quo zs all k + b2i (U k)
      rw [heq]
      have hr : rmd zs all i < rmd zs all k := by
        unfold quo at heq
        unfold rmd
        rw [heq] at e1
        omega
      cases hui : U i with
      | false => simp [b2i]; split <;> omega
      | true =>
        cases huk : U k with
        | true => omega
        | false => have := hi i hi' hui k hk huk; omega
end Go.Proofs.Ytmnbcpinlgklpaa.Chr
