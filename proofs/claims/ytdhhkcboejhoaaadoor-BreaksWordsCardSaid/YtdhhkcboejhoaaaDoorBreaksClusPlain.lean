/- Clusters of a text, in plain Lean. -/
import Derived.Test.YtdhhkcboejhoaaaDoorBreaksPlain
namespace Go.Proofs.YtdhhkcboejhoaaaDoor.Bre
open Go.RowKit Go.Frm Mtr

/-- a cluster ends ahead of place i -/
def bnd (C : Nat → Int) (N i : Nat) : Bool := i == N || !((cls (C i) == 10 || C (i - 1) == 8205) && C (i - 1) != 10)
/-- where the cluster of place k begins -/
def frm (C : Nat → Int) (N : Nat) : Nat → Nat
  | 0 => 0
  | k + 1 => if bnd C N (k + 1) = true then k + 1 else frm C N k
/-- the clusters that end at place k or ahead of it -/
def clus (C : Nat → Int) (N : Nat) : Nat → List (Nat × Nat)
  | 0 => []
  | k + 1 => if bnd C N (k + 1) = true then clus C N k ++ [(frm C N k, k + 1)] else clus C N k
theorem frm_le (C : Nat → Int) (N : Nat) : ∀ k, frm C N k ≤ k
  | 0 => Nat.le_refl _
  | k + 1 => by
    have := frm_le C N k
    unfold frm
    split <;> omega
theorem clus_yes {C : Nat → Int} {N k : Nat} (h : bnd C N (k + 1) = true) : clus C N (k + 1) = clus C N k ++ [(frm C N k, k + 1)] ∧ frm C N (k + 1) = k + 1 := by
  show (if bnd C N (k + 1) = true then clus C N k ++ [(frm C N k, k + 1)] else clus C N k) = _ ∧ (if bnd C N (k + 1) = true then k + 1 else frm C N k) = _
  rw [if_pos h, if_pos h]
  exact ⟨rfl, rfl⟩
theorem clus_no {C : Nat → Int} {N k : Nat} (h : bnd C N (k + 1) = false) : clus C N (k + 1) = clus C N k ∧ frm C N (k + 1) = frm C N k := by
  have h' : ¬ bnd C N (k + 1) = true := by rw [h]; decide
  show (if bnd C N (k + 1) = true then clus C N k ++ [(frm C N k, k + 1)] else clus C N k) = _ ∧ (if bnd C N (k + 1) = true then k + 1 else frm C N k) = _
  rw [if_neg h', if_neg h']
  exact ⟨rfl, rfl⟩
theorem clus_len (C : Nat → Int) (N : Nat) : ∀ k, (clus C N k).length ≤ k
  | 0 => Nat.le_refl _
  | k + 1 => by
    have := clus_len C N k
    unfold clus
    split
    · rw [List.length_append, List.length_singleton]; omega
    · omega
theorem clus_prefix (C : Nat → Int) (N : Nat) : ∀ (d k : Nat), clus C N k <+: clus C N (k + d)
  | 0, k => List.prefix_refl _
  | d + 1, k => by
    refine (clus_prefix C N d k).trans ?_
    rw [show k + (d + 1) = (k + d) + 1 by omega]
    conv => rhs; unfold clus
    split
    · exact List.prefix_append _ _
    · exact List.prefix_refl _

/-- the test of the law: each begins where the one before ended -/
def chk (N : Nat) (l : List (Nat × Nat)) : Option Nat := l.foldl (fun o x => o.bind fun a => if x.1 = a ∧ a < x.2 ∧ x.2 ≤ N then some x.2 else none) (some 0)
theorem chk_snoc (N : Nat) (l : List (Nat × Nat)) (x : Nat × Nat) : chk N (l ++ [x]) = (chk N l).bind fun a => if x.1 = a ∧ a < x.2 ∧ x.2 ≤ N then some x.2 else none := by
  unfold chk
  rw [List.foldl_append]
  rfl
theorem chk_none (N : Nat) (l : List (Nat × Nat)) (h : chk N l = none) : ∀ t : List (Nat × Nat), chk N (l ++ t) = none := by
  intro t
  unfold chk at h ⊢
  rw [List.foldl_append, h]
  induction t with
  | nil => rfl
  | cons x t ih => exact ih
theorem chk_clus (C : Nat → Int) (N : Nat) : ∀ k, k ≤ N → chk N (clus C N k) = some (frm C N k)
  | 0, _ => rfl
  | k + 1, h => by
    have ih := chk_clus C N k (by omega)
    have hf := frm_le C N k
    cases hb : bnd C N (k + 1) with
    | true =>
      rw [(clus_yes hb).1, (clus_yes hb).2, chk_snoc, ih]
      show (if _ ∧ _ ∧ _ then _ else _) = _
      rw [if_pos ⟨rfl, by omega, h⟩]
    | false => rw [(clus_no hb).1, (clus_no hb).2, ih]
theorem frm_all (C : Nat → Int) (N : Nat) : frm C N N = N := by
  cases N with
  | zero => rfl
  | succ N => exact (clus_yes (by simp [bnd])).2
/-- a cluster begins at j -/
def bgs (l : List (Nat × Nat)) (j : Nat) : Bool := l.any fun x => x.1 == j
theorem bgs_snoc (l : List (Nat × Nat)) (x : Nat × Nat) (j : Nat) : bgs (l ++ [x]) j = if j = x.1 then true else bgs l j := by
  unfold bgs
  rw [List.any_append]
  by_cases h : j = x.1
  · rw [if_pos h]
    simp [h]
  · rw [if_neg h]
    have : (x.1 == j) = false := by simpa using fun hh => h hh.symm
    simp [this]
theorem begun (C : Nat → Int) (N : Nat) : ∀ k, k ≤ N → ∀ j, 1 ≤ j → j ≤ k → bnd C N j = true → bgs (clus C N k) j = true ∨ frm C N k = j
  | 0, _, j, h1, h2, _ => by omega
  | k + 1, hk, j, h1, h2, hb => by
    by_cases hj : j = k + 1
    · subst hj
      exact .inr (clus_yes hb).2
    · have ih := begun C N k (by omega) j h1 (by omega) hb
      cases hb2 : bnd C N (k + 1) with
      | true =>
        left
        rw [(clus_yes hb2).1, bgs_snoc]
        split
        · rfl
        · rename_i hne
          rcases ih with h | h
          · exact h
          · exact absurd h.symm hne
      | false =>
        rw [(clus_no hb2).1, (clus_no hb2).2]
        exact ih
/-- where a line can end, a cluster ends, or it is behind a newline -/
theorem places_begin (C : Nat → Int) (N : Nat) {p : Int × Int} (h : p ∈ plcs C N) : ∃ i : Nat, p.1 = (i : Int) ∧ 0 < i ∧ i < N ∧ (bgs (clus C N N) i = true ∨ C (i - 1) = 10) := by
  obtain ⟨i, h1, h2, h3, h4⟩ := (plcs_mem C p N).1 h
  refine ⟨i, by rw [h4], h1, h2, ?_⟩
  have hb := base_newline C (i - 1)
  have hj := joined_eq C (i - 1)
  rw [show i - 1 + 1 = i by omega] at hb hj
  by_cases h10 : C (i - 1) = 10
  · exact .inr h10
  · left
    have hne : (stK C i).base ≠ 1 := fun h => h10 (hb.1 h)
    have hm := ((mayF_spec (stK C i) (cls (C i))).2 hne).2 h3
    rw [hj] at hm
    have hbd : bnd C N i = true := by
      unfold bnd
      have e1 : (cls (C i) == 10) = false := by simpa using hm.2
      rw [e1, hm.1]
      simp
    rcases begun C N N (Nat.le_refl _) i (by omega) (by omega) hbd with h | h
    · exact h
    · rw [frm_all] at h
      omega
/-- the place ahead -/
def pv (l : List (Int × Int)) : Nat → Int
  | 0 => 0
  | t + 1 => (l.getD t (0, 0)).1
theorem plcs_lt (C : Nat → Int) (N : Nat) {p : Int × Int} (h : p ∈ plcs C N) : 0 < p.1 ∧ p.1 < N := by
  obtain ⟨i, h1, h2, h3, _⟩ := places_begin C N h
  omega
theorem plcs_inc (C : Nat → Int) : ∀ N t, t < (plcs C N).length → pv (plcs C N) t < ((plcs C N).getD t (0, 0)).1
  | 0, t, h => by simp [plcs] at h
  | N + 1, t, h => by
    have ih := plcs_inc C N
    have hlt : ∀ p ∈ plcs C N, 0 < p.1 ∧ p.1 < (N : Int) := fun p hp => plcs_lt C N hp
    unfold plcs at h ⊢
    split at h
    · rename_i hc
      rw [if_pos hc]
      rw [List.length_append, List.length_singleton] at h
      generalize plcs C N = l at *
      have hpos : 0 < N := of_decide_eq_true hc.1
      have hpv : ∀ t, t ≤ l.length → pv (l ++ [((N : Int), (mayF (stK C N) (cls (C N))).1)]) t = pv l t := fun t ht => by
        cases t with
        | zero => rfl
        | succ t => simp [pv, List.getElem?_append_left (show t < l.length by omega)]
      rw [hpv t (by omega)]
      by_cases htl : t < l.length
      · rw [show (l ++ [((N : Int), (mayF (stK C N) (cls (C N))).1)]).getD t (0, 0) = l.getD t (0, 0) by simp [List.getElem?_append_left htl]]
        exact ih t htl
      · obtain rfl : t = l.length := by omega
        have : (l ++ [((N : Int), (mayF (stK C N) (cls (C N))).1)]).getD l.length (0, 0) = ((N : Int), (mayF (stK C N) (cls (C N))).1) := by simp
        rw [this]
        cases l with
        | nil => show (0 : Int) < N; omega
        | cons x l =>
          show ((x :: l).getD l.length (0, 0)).1 < (N : Int)
          rw [List.getD_eq_getElem?_getD, List.getElem?_eq_getElem (show l.length < (x :: l).length by simp)]
          exact (hlt _ (List.getElem_mem _)).2
    · rename_i hc
      rw [if_neg hc, List.append_nil]
      rw [List.append_nil] at h
      exact ih t h
end Go.Proofs.YtdhhkcboejhoaaaDoor.Bre
