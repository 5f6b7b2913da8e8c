/- slices.Sort on a row of ints that the call has made; slices.Clone on ints that are read. -/
import Derived.Test.YtdikfldogmbeaaaDoorBdShelf
import Derived.Test.YtdikfldogmbeaaaDoorSlices
import Derived.Sort.OwnSortedInts
namespace Go.Proofs.YtdikfldogmbeaaaDoor.Bd
open Go.RowKit Go.Frm

theorem below_of_grown {w w' : World} {base : Nat} {row : Option Nat} (hg : w.grownBy w' row) (hb : base ≤ w.heap.size) (hr : ∀ k, row = some k → base ≤ k) : Below base w w' :=
  ⟨hg.os, hg.tape, hg.output, hg.size, fun k hk => hg.block k (by omega) (fun e => by have := hr k e.symm; omega)⟩
theorem sort_own {w : World} {base n : Nat} {v : Value} {xs : List Int} (hxl : xs.length = n) (hv : w.ownsRow base 3 1 v n (xs.map (Value.int .i64))) (hb : base ≤ w.heap.size) (hl : xs.length ≤ 100000) :
    Calls Tryd.prog 16 #[v] w fun e w' => e = .returned (.tuple #[]) ∧ w'.ownsRow base 3 1 v n ((xs.mergeSort fun x y => decide (x ≤ y)).map (Value.int .i64)) ∧ Below base w w' := by
  subst hxl
  rcases hv.2 with ⟨rfl, h0⟩ | ⟨g, cap, cur, rfl, hg, hc, hn, hcap, hsz, ht⟩
  · have hx : xs = [] := List.eq_nil_of_length_eq_zero h0
    subst hx
    refine (Tryd.slices_Sort_int_none none 0 w).mono ?_
    rintro e w' ⟨rfl, rfl⟩
    exact ⟨rfl, by simpa using hv, Below.refl _ _⟩
  · have hlt : g < w.heap.size := (Array.getElem?_eq_some_iff.1 hc).1
    rw [Nat.mul_one] at ht
    refine (Tryd.slices_Sort_int g 0 cap xs w (holds_of_blockI hc ht) hlt (by omega)).mono ?_
    rintro e w' ⟨rfl, m, os, rfl⟩
    exact ⟨rfl, ownsRow_sortedI (by simp) hg hc hn hcap hsz, below_of_grown (grownBy_sortedI _) hb (fun k hk => by cases hk; exact hg)⟩
theorem clone_rd {w : World} {g c : Nat} {zs : List Int} (hr : RdI w (some ⟨g, 0, none⟩) zs) (hl : zs.length ≤ 100000) :
    Calls Tryd.prog 15 #[.slice (some ⟨g, 0, none⟩) zs.length c] w fun e w' => ∃ A c', e = .returned (.slice A zs.length c') ∧ w'.ownsRow w.heap.size 3 1 (.slice A zs.length c') zs.length (zs.map (Value.int .i64)) ∧ Below w.heap.size w w' := by
  refine (Tryd.slices_Clone_int g 0 zs.length c zs w (Nat.le_refl _) (by omega) (fun j hj => hr.get hj)).mono ?_
  rintro e w' ⟨v', rfl, hown, _, hbl⟩
  rw [List.take_length] at hown
  obtain ⟨A, c', rfl⟩ := own_form hown
  exact ⟨A, c', rfl, hown, hbl⟩
/-- a row of different numbers, sorted -/
theorem sorted_range {n from_ : Nat} {o o' : Nat → Nat} (h1 : ∀ j, j < n → o j < n ∧ o' (o j) = j) (h2 : ∀ x, x < n → o' x < n ∧ o (o' x) = x) :
    ((tab n fun j => ((from_ + o j : Nat) : Int)).mergeSort fun x y => decide (x ≤ y)) = tab n fun j => ((from_ + j : Nat) : Int) := by
  have hnd : ∀ (f : Nat → Nat), (∀ i j, i < n → j < n → f i = f j → i = j) → (tab n fun j => ((from_ + f j : Nat) : Int)).Nodup := fun f hf => by
    unfold tab
    rw [List.nodup_iff_pairwise_ne, List.pairwise_map]
    have hr : (List.range n).Pairwise (· < ·) := List.pairwise_lt_range
    refine List.Pairwise.imp_of_mem (fun {a b} ha hb hab e => ?_) hr
    have ha' := List.mem_range.1 ha
    have hb' := List.mem_range.1 hb
    have := hf a b ha' hb' (by omega)
    omega
  have hp : (tab n fun j => ((from_ + o j : Nat) : Int)).Perm (tab n fun j => ((from_ + j : Nat) : Int)) := by
    rw [List.perm_ext_iff_of_nodup (hnd o (fun i j hi hj e => by rw [← (h1 i hi).2, ← (h1 j hj).2, e])) (hnd (fun j => j) (fun i j _ _ e => e))]
    intro x
    unfold tab
    rw [List.mem_map, List.mem_map]
    constructor
    · rintro ⟨j, hj, rfl⟩
      exact ⟨o j, List.mem_range.2 (h1 j (List.mem_range.1 hj)).1, rfl⟩
    · rintro ⟨j, hj, rfl⟩
      have := h2 j (List.mem_range.1 hj)
      exact ⟨o' j, List.mem_range.2 this.1, by rw [this.2]⟩
  refine List.Perm.eq_of_pairwise (le := fun a b : Int => a ≤ b) (fun a b _ _ h3 h4 => Int.le_antisymm h3 h4) ?_ ?_ ((List.mergeSort_perm _ _).trans hp)
  · have := List.pairwise_mergeSort (le := fun x y : Int => decide (x ≤ y)) (fun a b c => by simp; omega) (fun a b => by simp; omega) (tab n fun j => ((from_ + o j : Nat) : Int))
    exact this.imp (fun h => by simpa using h)
  · unfold tab
    rw [List.pairwise_map]
    exact List.Pairwise.imp (fun {a b} (h : a < b) => by omega) List.pairwise_lt_range
end Go.Proofs.YtdikfldogmbeaaaDoor.Bd
