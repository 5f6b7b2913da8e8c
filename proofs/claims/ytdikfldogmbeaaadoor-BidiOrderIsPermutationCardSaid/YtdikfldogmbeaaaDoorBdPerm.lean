/- The order of characters is a permutation. -/
import Derived.Test.YtdikfldogmbeaaaDoorBdOrder
namespace Go.Proofs.YtdikfldogmbeaaaDoor.Bd
open Go.RowKit Go.Frm

/-- a permutation of the first n numbers -/
def Pm (n : Nat) (o : Nat → Nat) : Prop := ∃ o' : Nat → Nat, (∀ j, j < n → o j < n ∧ o' (o j) = j) ∧ ∀ x, x < n → o' x < n ∧ o (o' x) = x
theorem pm_id (n : Nat) : Pm n fun j => j := ⟨fun j => j, fun _ h => ⟨h, rfl⟩, fun _ h => ⟨h, rfl⟩⟩
theorem pm_rev {n i tz : Nat} {o : Nat → Nat} (h : Pm n o) (_hi : i ≤ tz) (hn : tz ≤ n) : Pm n (rev i tz o) := by
  obtain ⟨o', h1, h2⟩ := h
  have hr : ∀ j, rev i tz o j = o (if i ≤ j ∧ j < tz then i + tz - 1 - j else j) := fun j => by
    unfold rev
    split <;> rfl
  refine ⟨fun x => if i ≤ o' x ∧ o' x < tz then i + tz - 1 - o' x else o' x, fun j hj => ?_, fun x hx => ?_⟩
  · rw [hr]
    by_cases hc : i ≤ j ∧ j < tz
    · rw [if_pos hc]
      have := h1 (i + tz - 1 - j) (by omega)
      refine ⟨this.1, ?_⟩
      simp only [this.2]
      rw [if_pos (by omega)]
      omega
    · rw [if_neg hc]
      have := h1 j hj
      refine ⟨this.1, ?_⟩
      simp only [this.2]
      rw [if_neg hc]
  · have h3 := h2 x hx
    constructor
    · show (if i ≤ o' x ∧ o' x < tz then i + tz - 1 - o' x else o' x) < n
      split <;> omega
    · rw [hr]
      by_cases hc : i ≤ o' x ∧ o' x < tz
      · simp only [if_pos hc]
        rw [if_pos (by omega), show i + tz - 1 - (i + tz - 1 - o' x) = o' x by omega]
        exact h3.2
      · simp only [if_neg hc]
        exact h3.2
theorem revs_pm (L : Nat → Int) (n : Nat) (x : Int) : ∀ f i o, Pm n o → Pm n (revs L n x f i o)
  | 0, _, _, h => h
  | f + 1, i, o, h => by
    unfold revs
    split
    · exact h
    · split
      · exact revs_pm L n x f (i + 1) o h
      · have hb := segEnd_bd L x (n - i) i
        exact revs_pm L n x f _ _ (pm_rev h hb.1 (by omega))
theorem ordS_pm (L : Nat → Int) (n : Nat) : ∀ x o, Pm n o → Pm n (ordS L n x o)
  | 0, _, h => h
  | x + 1, o, h => ordS_pm L n x _ (revs_pm L n _ n 0 o h)
theorem order_pm (L : Nat → Int) (n : Nat) : Pm n (order L n) := ordS_pm L n _ _ (pm_id n)
end Go.Proofs.YtdikfldogmbeaaaDoor.Bd
