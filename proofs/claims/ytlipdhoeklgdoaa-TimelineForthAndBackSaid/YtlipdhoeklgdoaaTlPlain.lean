/- What package timeline computes, as plain functions. No program in sight. -/
import Derived.Test.YtlipdhoeklgdoaaSlices
namespace Go.Proofs.Ytlipdhoeklgdoaa.Tl
open Go.RowKit Go.Frm

/-- valid effects: item, kind, start, delay, takes, x, y -/
structure VF (F : Nat → Nat → Int) (n : Nat) : Prop where
  few : n ≤ 12
  item : ∀ i, i < n → 1 ≤ F i 0 ∧ F i 0 ≤ 4
  kind : ∀ i, i < n → 0 ≤ F i 1 ∧ F i 1 ≤ 2
  start : ∀ i, i < n → 0 ≤ F i 2 ∧ F i 2 ≤ 2
  delay : ∀ i, i < n → 0 ≤ F i 3 ∧ F i 3 ≤ 500
  takes : ∀ i, i < n → 0 ≤ F i 4 ∧ F i 4 ≤ 500
  xs : ∀ i, i < n → -500 ≤ F i 5 ∧ F i 5 ≤ 500
  ys : ∀ i, i < n → -500 ≤ F i 6 ∧ F i 6 ≤ 500
  form : ∀ i, i < n → F i 1 ≠ 2 → F i 5 = 0 ∧ F i 6 = 0
theorem VF.take {F : Nat → Nat → Int} {n k : Nat} (h : VF F n) (hk : k ≤ n) : VF F k :=
  ⟨Nat.le_trans hk h.few, fun i hi => h.item i (by omega), fun i hi => h.kind i (by omega), fun i hi => h.start i (by omega), fun i hi => h.delay i (by omega), fun i hi => h.takes i (by omega), fun i hi => h.xs i (by omega), fun i hi => h.ys i (by omega), fun i hi => h.form i (by omega)⟩
def efV (F : Nat → Nat → Int) (i j : Nat) : Value := .int .i64 (F i j)

/-- clicks ahead of effect i -/
def ck (F : Nat → Nat → Int) : Nat → Int
  | 0 => 0
  | i + 1 => if F i 2 = 0 then ck F i + 1 else ck F i
def nb (F : Nat → Nat → Int) (i : Nat) (b e : Int) : Int := if F i 2 = 0 then 0 else if F i 2 = 2 then e else b
def ne (F : Nat → Nat → Int) (i : Nat) (b e : Int) : Int :=
  if (if F i 2 = 0 then 0 else e) < nb F i b e + F i 3 + F i 4 then nb F i b e + F i 3 + F i 4 else (if F i 2 = 0 then 0 else e)
/-- base and end ahead of effect i -/
def be (F : Nat → Nat → Int) : Nat → Int × Int
  | 0 => (0, 0)
  | i + 1 => (nb F i (be F i).1 (be F i).2, ne F i (be F i).1 (be F i).2)
def bs (F : Nat → Nat → Int) (i : Nat) : Int := (be F i).1
def en (F : Nat → Nat → Int) (i : Nat) : Int := (be F i).2
def frm (F : Nat → Nat → Int) (i : Nat) : Int := bs F (i + 1) + F i 3
def til (F : Nat → Nat → Int) (i : Nat) : Int := bs F (i + 1) + F i 3 + F i 4
def tmF (F : Nat → Nat → Int) (i : Nat) : Nat → Int
  | 0 => ck F (i + 1)
  | 1 => frm F i
  | _ => til F i
def tmV (F : Nat → Nat → Int) (i j : Nat) : Value := .int .i64 (tmF F i j)

theorem ck_bd (F : Nat → Nat → Int) : ∀ i : Nat, 0 ≤ ck F i ∧ ck F i ≤ i
  | 0 => by simp [ck]
  | i + 1 => by have := ck_bd F i; unfold ck; split <;> omega
theorem ck_mono (F : Nat → Nat → Int) (i : Nat) : ck F i ≤ ck F (i + 1) := by
  show ck F i ≤ if F i 2 = 0 then ck F i + 1 else ck F i
  split <;> omega
theorem ck_le (F : Nat → Nat → Int) {i j : Nat} (h : i ≤ j) : ck F i ≤ ck F j := by
  induction j with
  | zero => obtain rfl : i = 0 := by omega
            exact Int.le_refl _
  | succ j ih =>
    rcases Nat.lt_or_ge i (j + 1) with h1 | h1
    · exact Int.le_trans (ih (by omega)) (ck_mono F j)
    · obtain rfl : i = j + 1 := by omega
      exact Int.le_refl _
theorem be_bd {F : Nat → Nat → Int} {n : Nat} (h : VF F n) : ∀ i : Nat, i ≤ n → 0 ≤ bs F i ∧ bs F i ≤ en F i ∧ en F i ≤ 1000 * i
  | 0, _ => by simp [bs, en, be]
  | i + 1, hi => by
    have h1 := be_bd h i (by omega)
    have h2 := h.delay i (by omega)
    have h3 := h.takes i (by omega)
    unfold bs en at h1 ⊢
    simp only [be, nb, ne]
    generalize be F i = p at h1 ⊢
    obtain ⟨b, e⟩ := p
    simp only at h1 ⊢
    by_cases c0 : F i 2 = 0
    · simp only [if_pos c0]
      split <;> omega
    · simp only [if_neg c0]
      by_cases c2 : F i 2 = 2
      · simp only [if_pos c2]
        split <;> omega
      · simp only [if_neg c2]
        split <;> omega
theorem frm_bd {F : Nat → Nat → Int} {n : Nat} (h : VF F n) {i : Nat} (hi : i < n) : 0 ≤ frm F i ∧ frm F i ≤ til F i ∧ til F i ≤ 13000 := by
  have h1 := be_bd h (i + 1) (by omega)
  have h2 := h.delay i hi
  have h3 := h.takes i hi
  have h4 := h.few
  unfold frm til
  omega
theorem til_le_en {F : Nat → Nat → Int} (i : Nat) : til F i ≤ en F (i + 1) := by
  unfold til en bs
  simp only [be, nb, ne]
  split <;> omega

/-- how much of an effect has happened -/
def pg (c f t click at_ : Int) : Int := if c < click ∨ (c = click ∧ t ≤ at_) then 1000 else if click < c ∨ at_ ≤ f then 0 else 1000 * (at_ - f) / (t - f)
theorem pg_bd {c f t click at_ : Int} : 0 ≤ pg c f t click at_ ∧ pg c f t click at_ ≤ 1000 := by
  unfold pg
  split
  · omega
  · split
    · omega
    · have h1 : 0 < t - f := by omega
      have h2 : 1000 * (at_ - f) ≤ 1000 * (t - f) := by omega
      refine ⟨Int.ediv_nonneg (by omega) (by omega), ?_⟩
      rw [Int.ediv_le_iff_le_mul h1]
      omega
def pF (F : Nat → Nat → Int) (click at_ : Int) (i : Nat) : Int := pg (ck F (i + 1)) (frm F i) (til F i) click at_

def pt (n p : Int) : Int := (n * p).tdiv 1000
theorem pt_all (n : Int) : pt n 1000 = n := by unfold pt; exact Int.mul_tdiv_cancel _ (by omega)
theorem pt_none (n : Int) : pt n 0 = 0 := by unfold pt; simp
theorem pt_bd {n p : Int} (h1 : -500 ≤ n) (h2 : n ≤ 500) (h3 : 0 ≤ p) (h4 : p ≤ 1000) : -500 ≤ pt n p ∧ pt n p ≤ 500 ∧ -500000 ≤ n * p ∧ n * p ≤ 500000 := by
  have a1 : -500 * p ≤ n * p := Int.mul_le_mul_of_nonneg_right h1 h3
  have a2 : n * p ≤ 500 * p := Int.mul_le_mul_of_nonneg_right h2 h3
  unfold pt
  generalize n * p = q at *
  have : -500000 ≤ q ∧ q ≤ 500000 := by omega
  by_cases h0 : 0 ≤ q
  · rw [Int.tdiv_eq_ediv_of_nonneg h0]; omega
  · have e : q.tdiv 1000 = -((-q) / 1000) := by rw [← Int.tdiv_eq_ediv_of_nonneg (show 0 ≤ -q by omega), Int.neg_tdiv, Int.neg_neg]
    omega

/-- how far an item has moved (column j) behind i effects -/
def xA (F : Nat → Nat → Int) (p : Nat → Int) (j : Nat) (z : Int) : Nat → Int
  | 0 => 0
  | i + 1 => if F i 0 = z ∧ F i 1 = 2 then xA F p j z i + pt (F i j) (p i) else xA F p j z i
/-- whether an effect that makes an item appear or disappear is among i effects -/
def kn (F : Nat → Nat → Int) (z : Int) : Nat → Bool
  | 0 => false
  | i + 1 => kn F z i || (F i 0 == z && F i 1 != 2)
/-- how far an item is seen -/
def sn (F : Nat → Nat → Int) (p : Nat → Int) (z : Int) : Nat → Int
  | 0 => 1000
  | i + 1 =>
    if F i 0 = z ∧ F i 1 ≠ 2 then
      if F i 1 = 0 then
        if 0 < p i then (if (if kn F z i = false then 0 else sn F p z i) < p i then p i else (if kn F z i = false then 0 else sn F p z i)) else (if kn F z i = false then 0 else sn F p z i)
      else if 0 < p i then (if 1000 - p i < sn F p z i then 1000 - p i else sn F p z i) else sn F p z i
    else sn F p z i
/-- the items, by their first effects -/
def D (F : Nat → Nat → Int) : Nat → List Int
  | 0 => []
  | i + 1 => if F i 0 ∈ D F i then D F i else D F i ++ [F i 0]
theorem D_succ (F : Nat → Nat → Int) (i : Nat) : D F (i + 1) = if F i 0 ∈ D F i then D F i else D F i ++ [F i 0] := rfl
theorem D_mem {F : Nat → Nat → Int} {z : Int} : ∀ i, z ∈ D F i ↔ ∃ j, j < i ∧ F j 0 = z
  | 0 => by simp [D]
  | i + 1 => by
    have ih := D_mem (F := F) (z := z) i
    have key : z ∈ D F (i + 1) ↔ z ∈ D F i ∨ F i 0 = z := by
      rw [D_succ]
      split
      · rename_i h
        constructor
        · exact Or.inl
        · rintro (h1 | rfl)
          · exact h1
          · exact h
      · rw [List.mem_append, List.mem_singleton]
        constructor
        · rintro (h1 | h1)
          · exact .inl h1
          · exact .inr h1.symm
        · rintro (h1 | h1)
          · exact .inl h1
          · exact .inr h1.symm
    rw [key, ih]
    constructor
    · rintro (⟨j, h1, h2⟩ | h)
      · exact ⟨j, by omega, h2⟩
      · exact ⟨i, by omega, h⟩
    · rintro ⟨j, h1, h2⟩
      by_cases hj : j = i
      · subst hj; exact .inr h2
      · exact .inl ⟨j, by omega, h2⟩
theorem D_nodup (F : Nat → Nat → Int) : ∀ i, (D F i).Nodup
  | 0 => by simp [D]
  | i + 1 => by
    have ih := D_nodup F i
    rw [D_succ]
    split
    · exact ih
    · rename_i h
      rw [List.nodup_append]
      refine ⟨ih, by simp, fun a ha b hb => ?_⟩
      simp at hb
      subst hb
      rintro rfl
      exact h ha
theorem D_len (F : Nat → Nat → Int) : ∀ i, (D F i).length ≤ i
  | 0 => by simp [D]
  | i + 1 => by
    have ih := D_len F i
    rw [D_succ]
    split
    · omega
    · simp; omega
theorem fresh {F : Nat → Nat → Int} {p : Nat → Int} {z : Int} : ∀ i, z ∉ D F i → kn F z i = false ∧ sn F p z i = 1000 ∧ ∀ j, xA F p j z i = 0
  | 0, _ => ⟨rfl, rfl, fun _ => rfl⟩
  | i + 1, h => by
    rw [D_mem] at h
    have hne : F i 0 ≠ z := fun e => h ⟨i, by omega, e⟩
    have h1 : z ∉ D F i := by
      rw [D_mem]
      rintro ⟨j, h1, h2⟩
      exact h ⟨j, by omega, h2⟩
    obtain ⟨a, b, c⟩ := fresh (p := p) i h1
    refine ⟨?_, ?_, fun j => ?_⟩
    · simp [kn, a, hne]
    · simp only [sn]
      rw [if_neg (by simp [hne]), b]
    · simp only [xA]
      rw [if_neg (by simp [hne]), c]
theorem sn_bd {F : Nat → Nat → Int} {p : Nat → Int} (hp : ∀ i, 0 ≤ p i ∧ p i ≤ 1000) (z : Int) : ∀ i, 0 ≤ sn F p z i ∧ sn F p z i ≤ 1000
  | 0 => by simp [sn]
  | i + 1 => by
    have ih := sn_bd (F := F) hp z i
    have hpi := hp i
    simp only [sn]
    generalize sn F p z i = s at *
    generalize p i = q at *
    repeat' split
    all_goals omega
theorem xA_bd {F : Nat → Nat → Int} {p : Nat → Int} {n : Nat} {j : Nat} (hx : ∀ i, i < n → -500 ≤ F i j ∧ F i j ≤ 500) (hp : ∀ i, 0 ≤ p i ∧ p i ≤ 1000) (z : Int) : ∀ i : Nat, i ≤ n → -500 * (i : Int) ≤ xA F p j z i ∧ xA F p j z i ≤ 500 * i
  | 0, _ => by simp [xA]
  | i + 1, hi => by
    have ih := xA_bd hx hp z i (by omega)
    have h1 := hx i (by omega)
    have h2 := pt_bd h1.1 h1.2 (hp i).1 (hp i).2
    simp only [xA]
    split <;> omega
/-- what is shown of item z behind i effects -/
def stE (F : Nat → Nat → Int) (p : Nat → Int) (i : Nat) (z : Int) : List Value := [.int .i64 z, .int .i64 (sn F p z i), .int .i64 (xA F p 5 z i), .int .i64 (xA F p 6 z i)]
def stF (F : Nat → Nat → Int) (p : Nat → Int) (i : Nat) (z : Int) : Nat → Int
  | 0 => z
  | 1 => sn F p z i
  | 2 => xA F p 5 z i
  | _ => xA F p 6 z i
def stV (F : Nat → Nat → Int) (p : Nat → Int) (i : Nat) (L : List Int) (k j : Nat) : Value := .int .i64 (stF F p i (ix L k) j)
/-- the items in their order -/
def sD (F : Nat → Nat → Int) (n : Nat) : List Int := (D F n).mergeSort fun x y => decide (x ≤ y)
theorem sD_mem {F : Nat → Nat → Int} {z : Int} {n : Nat} : z ∈ sD F n ↔ ∃ j, j < n ∧ F j 0 = z := by
  unfold sD
  rw [(List.mergeSort_perm _ _).mem_iff, D_mem]
theorem sD_len (F : Nat → Nat → Int) (n : Nat) : (sD F n).length = (D F n).length := by unfold sD; rw [List.length_mergeSort]
theorem sD_nodup (F : Nat → Nat → Int) (n : Nat) : (sD F n).Nodup := by
  unfold sD
  rw [(List.mergeSort_perm _ _).nodup_iff]
  exact D_nodup F n
end Go.Proofs.Ytlipdhoeklgdoaa.Tl
