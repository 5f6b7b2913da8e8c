/- What chart.Range and the bars are, in plain Lean. -/
import Derived.Test.YtoggpbbndoipdaaSlices
namespace Go.Proofs.Ytoggpbbndoipdaa.Chr
open Go.RowKit Go.Frm

/-- low and high after s series of column i -/
def colR (k : Int) (V : Nat → Nat → Int) (i : Nat) (p : Int × Int) : Nat → Int × Int
  | 0 => p
  | s + 1 => if k = 1 then colR k V i p s else (min (colR k V i p s).1 (V s i), max (colR k V i p s).2 (V s i))
def endR (k : Int) (V : Nat → Nat → Int) (m i : Nat) (p : Int × Int) : Int × Int :=
  if k = 1 then ((colR k V i p m).1, max (colR k V i p m).2 (fsum (fun s => V s i) m)) else colR k V i p m
def rngR (k : Int) (V : Nat → Nat → Int) (m : Nat) : Nat → Int × Int
  | 0 => if k = 2 then (V 0 0, V 0 0) else (0, 0)
  | i + 1 => endR k V m i (rngR k V m i)

theorem colR_wide (k : Int) (V : Nat → Nat → Int) (i : Nat) (p : Int × Int) : ∀ s, (colR k V i p s).1 ≤ p.1 ∧ p.2 ≤ (colR k V i p s).2
  | 0 => ⟨Int.le_refl _, Int.le_refl _⟩
  | s + 1 => by
    have h := colR_wide k V i p s
    unfold colR
    split
    · exact h
    · show min _ _ ≤ _ ∧ _ ≤ max _ _
      omega
theorem colR_has {k : Int} (hk : k ≠ 1) (V : Nat → Nat → Int) (i : Nat) (p : Int × Int) : ∀ s j, j < s → (colR k V i p s).1 ≤ V j i ∧ V j i ≤ (colR k V i p s).2
  | s + 1, j, hj => by
    unfold colR
    rw [if_neg hk]
    show min _ _ ≤ _ ∧ _ ≤ max _ _
    by_cases h : j = s
    · subst h; omega
    · have := colR_has hk V i p s j (by omega)
      omega
theorem colR_bd {k : Int} {V : Nat → Nat → Int} {i m : Nat} {p : Int × Int} {a b : Int} (hV : ∀ s, s < m → a ≤ V s i ∧ V s i ≤ b) (hp : a ≤ p.1 ∧ p.2 ≤ b) : ∀ s, s ≤ m → a ≤ (colR k V i p s).1 ∧ (colR k V i p s).2 ≤ b
  | 0, _ => hp
  | s + 1, hs => by
    have h := colR_bd (k := k) hV hp s (by omega)
    have h2 := hV s (by omega)
    unfold colR
    split
    · exact h
    · show a ≤ min _ _ ∧ max _ _ ≤ b
      omega
theorem endR_wide (k : Int) (V : Nat → Nat → Int) (m i : Nat) (p : Int × Int) : (endR k V m i p).1 ≤ p.1 ∧ p.2 ≤ (endR k V m i p).2 := by
  have h := colR_wide k V i p m
  unfold endR
  split
  · show _ ≤ _ ∧ _ ≤ max _ _
    omega
  · exact h
theorem rngR_wide (k : Int) (V : Nat → Nat → Int) (m n : Nat) : ∀ d, (rngR k V m (n + d)).1 ≤ (rngR k V m n).1 ∧ (rngR k V m n).2 ≤ (rngR k V m (n + d)).2
  | 0 => ⟨Int.le_refl _, Int.le_refl _⟩
  | d + 1 => by
    have h := rngR_wide k V m n d
    have h2 := endR_wide k V m (n + d) (rngR k V m (n + d))
    show (endR k V m (n + d) (rngR k V m (n + d))).1 ≤ _ ∧ _ ≤ (endR k V m (n + d) (rngR k V m (n + d))).2
    omega
theorem rngR_has {k : Int} (hk : k ≠ 1) {V : Nat → Nat → Int} {m n s i : Nat} (hi : i < n) (hs : s < m) : (rngR k V m n).1 ≤ V s i ∧ V s i ≤ (rngR k V m n).2 := by
  have h := colR_has hk V i (rngR k V m i) m s hs
  have h2 := rngR_wide k V m (i + 1) (n - (i + 1))
  rw [show i + 1 + (n - (i + 1)) = n by omega] at h2
  have h3 : rngR k V m (i + 1) = colR k V i (rngR k V m i) m := by show endR k V m i _ = _; unfold endR; rw [if_neg hk]
  rw [h3] at h2
  omega
theorem rngR_sum {V : Nat → Nat → Int} {m n i : Nat} (hi : i < n) : fsum (fun s => V s i) m ≤ (rngR 1 V m n).2 := by
  have h2 := rngR_wide 1 V m (i + 1) (n - (i + 1))
  rw [show i + 1 + (n - (i + 1)) = n by omega] at h2
  have h3 : (rngR 1 V m (i + 1)).2 = max (colR 1 V i (rngR 1 V m i) m).2 (fsum (fun s => V s i) m) := by show (endR 1 V m i _).2 = _; unfold endR; rw [if_pos rfl]
  omega
theorem rngR_zero {k : Int} (hk : k ≠ 2) (V : Nat → Nat → Int) (m n : Nat) : (rngR k V m n).1 ≤ 0 ∧ 0 ≤ (rngR k V m n).2 := by
  have h := rngR_wide k V m 0 n
  rw [Nat.zero_add] at h
  have h0 : rngR k V m 0 = (0, 0) := by show (if k = 2 then _ else _) = _; rw [if_neg hk]
  rw [h0] at h
  exact h
theorem rngR_le {k : Int} (V : Nat → Nat → Int) (m n : Nat) : (rngR k V m n).1 ≤ (rngR k V m n).2 := by
  have h := rngR_wide k V m 0 n
  rw [Nat.zero_add] at h
  have h0 : (rngR k V m 0).1 ≤ (rngR k V m 0).2 := by
    show (if k = 2 then _ else _ : Int × Int).1 ≤ (if k = 2 then _ else _ : Int × Int).2
    split <;> exact Int.le_refl _
  omega
theorem rngR_bd {k : Int} {V : Nat → Nat → Int} {m n : Nat} (m4 : m ≤ 4) (m1 : 1 ≤ m) (hn : 1 ≤ n) (hV : ∀ s i, s < m → i < n → -1000 ≤ V s i ∧ V s i ≤ 1000) : ∀ i, i ≤ n → -1000 ≤ (rngR k V m i).1 ∧ (rngR k V m i).2 ≤ 4000
  | 0, _ => by
    have := hV 0 0 (by omega) (by omega)
    show -1000 ≤ (if k = 2 then _ else _ : Int × Int).1 ∧ (if k = 2 then _ else _ : Int × Int).2 ≤ 4000
    split
    · show -1000 ≤ V 0 0 ∧ V 0 0 ≤ 4000; omega
    · show (-1000 : Int) ≤ 0 ∧ (0 : Int) ≤ 4000; omega
  | i + 1, hi => by
    have h := rngR_bd (k := k) m4 m1 hn hV i (by omega)
    have h2 := colR_bd (k := k) (V := V) (i := i) (m := m) (a := -1000) (b := 4000) (fun s hs => by have := hV s i hs (by omega); omega) h m (Nat.le_refl _)
    have h3 : fsum (fun s => V s i) m ≤ m * 1000 := by rw [← fsum_const]; exact fsum_le fun s hs => (hV s i hs (by omega)).2
    show -1000 ≤ (endR k V m i _).1 ∧ (endR k V m i _).2 ≤ 4000
    unfold endR
    split
    · show -1000 ≤ _ ∧ max _ _ ≤ 4000
      omega
    · exact h2
end Go.Proofs.Ytoggpbbndoipdaa.Chr
