/- A heap in plain Lean. Nothing here speaks of a program. -/
import Derived.Test.YtegmokdhfmgdgaaRtDijkstra
namespace Go.Frm.Rt
open Go.RowKit Go.Frm

def par (i : Nat) : Nat := (i - 1) / 2
def HP (n : Nat) (f : Nat → St) : Prop := ∀ i, 0 < i → i < n → ¬ Co.lt (f i).co (f (par i)).co
def Mem (n : Nat) (f : Nat → St) (s : St) : Prop := ∃ i, i < n ∧ f i = s
def swp (f : Nat → St) (a b : Nat) (i : Nat) : St := if i = a then f b else if i = b then f a else f i
theorem swp_a (f : Nat → St) (a b : Nat) : swp f a b a = f b := if_pos rfl
theorem swp_b (f : Nat → St) {a b : Nat} (h : b ≠ a) : swp f a b b = f a := by unfold swp; rw [if_neg h, if_pos rfl]
theorem swp_o (f : Nat → St) {a b i : Nat} (h1 : i ≠ a) (h2 : i ≠ b) : swp f a b i = f i := by unfold swp; rw [if_neg h1, if_neg h2]
theorem mem_swp {n : Nat} {f : Nat → St} {a b : Nat} (ha : a < n) (hb : b < n) (s : St) : Mem n (swp f a b) s ↔ Mem n f s := by
  constructor
  · rintro ⟨i, hi, e⟩
    unfold swp at e
    split at e
    · exact ⟨b, hb, e⟩
    · split at e
      · exact ⟨a, ha, e⟩
      · exact ⟨i, hi, e⟩
  · rintro ⟨i, hi, e⟩
    by_cases h1 : i = a
    · subst h1
      by_cases h2 : b = i
      · subst h2
        exact ⟨b, hb, by rw [swp_a]; exact e⟩
      · exact ⟨b, hb, by rw [swp_b f h2]; exact e⟩
    · by_cases h2 : i = b
      · subst h2
        exact ⟨a, ha, by rw [swp_a]; exact e⟩
      · exact ⟨i, hi, by rw [swp_o f h1 h2]; exact e⟩
theorem HP.root {n : Nat} {f : Nat → St} (h : HP n f) : ∀ i, i < n → ¬ Co.lt (f i).co (f 0).co := by
  intro i
  induction i using Nat.strongRecOn with
  | ind i ih =>
    intro hi
    rcases Nat.eq_zero_or_pos i with h0 | h0
    · subst h0; exact not_lt_refl _
    · have hp : par i < i := by unfold par; omega
      exact not_lt_trans (ih (par i) hp (by omega)) (h i h0 hi)
/-- all is well but at k, upwards -/
def Up (n : Nat) (f : Nat → St) (k : Nat) : Prop := k < n ∧ (∀ i, 0 < i → i < n → i ≠ k → ¬ Co.lt (f i).co (f (par i)).co) ∧ ∀ i, 0 < i → i < n → par i = k → 0 < k → ¬ Co.lt (f i).co (f (par k)).co
theorem Up.done {n k : Nat} {f : Nat → St} (h : Up n f k) (hk : k = 0 ∨ ¬ Co.lt (f k).co (f (par k)).co) : HP n f := fun i h0 hi => by
  by_cases e : i = k
  · subst e
    rcases hk with hk | hk
    · omega
    · exact hk
  · exact h.2.1 i h0 hi e
theorem Up.step {n k : Nat} {f : Nat → St} (h : Up n f k) (hk : 0 < k) (hlt : Co.lt (f k).co (f (par k)).co) : Up n (swp f k (par k)) (par k) := by
  obtain ⟨h1, h2, h3⟩ := h
  have hp : par k < k := by unfold par; omega
  refine ⟨by omega, fun i h0 hi hne => ?_, fun i h0 hi hpi hpp => ?_⟩
  · by_cases e : i = k
    · subst e
      rw [swp_a, swp_b f (by omega)]
      exact lt_asymm hlt
    · rw [swp_o f e hne]
      by_cases e2 : par i = k
      · rw [e2, swp_a]
        exact h3 i h0 hi e2 hk
      · by_cases e3 : par i = par k
        · rw [e3, swp_b f (by omega)]
          have h4 := h2 i h0 hi e
          rw [e3] at h4
          exact not_lt_trans (lt_asymm hlt) h4
        · rw [swp_o f e2 e3]
          exact h2 i h0 hi e
  · have hpp2 : par (par k) < par k := by unfold par at *; omega
    rw [swp_o f (show par (par k) ≠ k by omega) (show par (par k) ≠ par k by omega)]
    have h5 := h2 (par k) hpp (by omega) (by omega)
    by_cases e : i = k
    · subst e
      rw [swp_a]
      exact h5
    · have hne : i ≠ par k := fun e2 => by
        rw [e2] at hpi
        omega
      rw [swp_o f e hne]
      have h4 := h2 i h0 hi e
      rw [hpi] at h4
      exact not_lt_trans h5 h4
theorem Up.start {n : Nat} {f : Nat → St} (h : HP n f) (s : St) : Up (n + 1) (upd f n s) n := by
  refine ⟨by omega, fun i h0 hi hne => ?_, fun i h0 hi hpi hn => ?_⟩
  · have hp : par i < i := by unfold par; omega
    rw [upd_other _ _ hne, upd_other _ _ (by omega)]
    exact h i h0 (by omega)
  · exfalso
    unfold par at hpi
    omega
theorem mem_push {n : Nat} {f : Nat → St} {s : St} (t : St) : Mem (n + 1) (upd f n s) t ↔ Mem n f t ∨ t = s := by
  constructor
  · rintro ⟨i, hi, e⟩
    by_cases h : i = n
    · subst h
      rw [upd_same] at e
      exact .inr e.symm
    · rw [upd_other _ _ h] at e
      exact .inl ⟨i, by omega, e⟩
  · rintro (⟨i, hi, e⟩ | rfl)
    · exact ⟨i, by omega, by rw [upd_other _ _ (by omega)]; exact e⟩
    · exact ⟨n, by omega, upd_same _ _ _⟩
/-- all is well but below k -/
def Dn (n : Nat) (f : Nat → St) (k : Nat) : Prop := (∀ i, 0 < i → i < n → par i ≠ k → ¬ Co.lt (f i).co (f (par i)).co) ∧ ∀ i, 0 < i → i < n → par i = k → 0 < k → ¬ Co.lt (f i).co (f (par k)).co
theorem Dn.done {n k : Nat} {f : Nat → St} (h : Dn n f k) (hk : ∀ i, 0 < i → i < n → par i = k → ¬ Co.lt (f i).co (f k).co) : HP n f := fun i h0 hi => by
  by_cases e : par i = k
  · rw [e]
    exact hk i h0 hi e
  · exact h.1 i h0 hi e
theorem Dn.step {n k m : Nat} {f : Nat → St} (h : Dn n f k) (hm0 : 0 < m) (hm : m < n) (hpm : par m = k) (hbest : ∀ i, 0 < i → i < n → par i = k → ¬ Co.lt (f i).co (f m).co) (hlt : Co.lt (f m).co (f k).co) : Dn n (swp f k m) m := by
  obtain ⟨h1, h2⟩ := h
  have hkm : k < m := by unfold par at hpm; omega
  refine ⟨fun i h0 hi hne => ?_, fun i h0 hi hpi hmm => ?_⟩
  · by_cases e : par i = k
    · rw [e, swp_a]
      by_cases e2 : i = m
      · subst e2
        rw [swp_b f (by omega)]
        exact lt_asymm hlt
      · have hik : i ≠ k := by unfold par at e; omega
        rw [swp_o f hik e2]
        exact hbest i h0 hi e
    · by_cases e2 : i = k
      · subst e2
        rw [swp_a, swp_o f e hne]
        exact h2 m hm0 hm hpm h0
      · have him : i ≠ m := fun e3 => by rw [e3] at e; exact e hpm
        rw [swp_o f e2 him, swp_o f e hne]
        exact h1 i h0 hi e
  · rw [hpm, swp_a]
    have hik : i ≠ k := by unfold par at hpi; omega
    have him : i ≠ m := by unfold par at hpi; omega
    rw [swp_o f hik him]
    have h4 := h1 i h0 hi (by omega)
    rw [hpi] at h4
    exact h4
theorem Dn.start {n : Nat} {f : Nat → St} (h : HP (n + 1) f) : Dn n (upd f 0 (f n)) 0 := by
  refine ⟨fun i h0 hi hne => ?_, fun i _ _ _ h0 => by omega⟩
  rw [upd_other _ _ (by omega), upd_other _ _ hne]
  exact h i h0 (by omega)
theorem mem_pop {n : Nat} {f : Nat → St} : (∀ t, Mem n (upd f 0 (f n)) t → Mem (n + 1) f t) ∧ ∀ t, Mem (n + 1) f t → Mem n (upd f 0 (f n)) t ∨ t = f 0 := by
  constructor
  · rintro t ⟨i, hi, e⟩
    by_cases h : i = 0
    · subst h
      rw [upd_same] at e
      exact ⟨n, by omega, e⟩
    · rw [upd_other _ _ h] at e
      exact ⟨i, by omega, e⟩
  · rintro t ⟨i, hi, e⟩
    by_cases h : i = 0
    · subst h
      exact .inr e.symm
    · by_cases h2 : i = n
      · subst h2
        exact .inl ⟨0, by omega, by rw [upd_same]; exact e⟩
      · exact .inl ⟨i, by omega, by rw [upd_other _ _ h]; exact e⟩
theorem par_cases {i k : Nat} (h0 : 0 < i) (h : par i = k) : i = 2 * k + 1 ∨ i = 2 * k + 2 := by unfold par at h; omega
end Go.Frm.Rt
