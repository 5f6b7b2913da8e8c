/- slices.Sort on a row of ints that the call has made: the same row, sorted. -/
import Derived.Test.YtlipdhoeklgdoaaPcShelf
import Derived.Test.YtlipdhoeklgdoaaSlices
import Derived.Sort.OwnSortedInts
namespace Go.Proofs.Ytlipdhoeklgdoaa.Pc
open Go.RowKit Go.Frm

theorem below_of_grown {w w' : World} {base : Nat} {row : Option Nat} (hg : w.grownBy w' row) (hb : base ≤ w.heap.size) (hr : ∀ k, row = some k → base ≤ k) : Below base w w' :=
  ⟨hg.os, hg.tape, hg.output, hg.size, fun k hk => hg.block k (by omega) (fun e => by have := hr k e.symm; omega)⟩
theorem sort_own {w : World} {base n : Nat} {v : Value} {xs : List Int} (hxl : xs.length = n) (hv : w.ownsRow base 3 1 v n (xs.map (Value.int .i64))) (hl : xs.length ≤ 100000) :
    Calls Try.prog 11 #[v] w fun e w' => e = .returned (.tuple #[]) ∧ w'.ownsRow base 3 1 v n ((xs.mergeSort fun x y => decide (x ≤ y)).map (Value.int .i64)) ∧ w.grownBy w' v.ownBlock := by
  subst hxl
  rcases hv.2 with ⟨rfl, h0⟩ | ⟨g, cap, cur, rfl, hg, hc, hn, hcap, hsz, ht⟩
  · have hx : xs = [] := List.eq_nil_of_length_eq_zero h0
    subst hx
    refine (Try.slices_Sort_int_none none 0 w).mono ?_
    rintro e w' ⟨rfl, rfl⟩
    exact ⟨rfl, by simpa using hv, ⟨rfl, rfl, rfl, Nat.le_refl _, fun _ _ _ => rfl⟩⟩
  · have hlt : g < w.heap.size := (Array.getElem?_eq_some_iff.1 hc).1
    rw [Nat.mul_one] at ht
    refine (Try.slices_Sort_int g 0 cap xs w (holds_of_blockI hc ht) hlt (by omega)).mono ?_
    rintro e w' ⟨rfl, m, os, rfl⟩
    exact ⟨rfl, ownsRow_sortedI (by simp) hg hc hn hcap hsz, grownBy_sortedI _⟩
/-- two rows of which one was made before the other have not one block -/
theorem own_apart {w0 w : World} {b1 b2 n1 n2 s1 s2 : Nat} {e1 e2 : TypeId} {v1 v2 : Value} {xs ys : List Value} (h0 : w0.ownsRow b1 e1 s1 v1 n1 xs) (h2 : w.ownsRow b2 e2 s2 v2 n2 ys) (hb : w0.heap.size ≤ b2) : (v1.ownBlock = none ∨ v1.ownBlock ≠ v2.ownBlock) ∧ (v2.ownBlock = none ∨ v2.ownBlock ≠ v1.ownBlock) := by
  rcases h0.2 with ⟨rfl, _⟩ | ⟨g1, c1, cu1, rfl, _, hc1, _⟩
  · refine ⟨.inl rfl, ?_⟩
    rcases h2.2 with ⟨rfl, _⟩ | ⟨g2, c2, cu2, rfl, _⟩
    · exact .inl rfl
    · right; intro h; cases h
  · have h1 : g1 < w0.heap.size := (Array.getElem?_eq_some_iff.1 hc1).1
    rcases h2.2 with ⟨rfl, _⟩ | ⟨g2, c2, cu2, rfl, hg2, _⟩
    · exact ⟨.inr (fun h => by cases h), .inl rfl⟩
    · have hne : g1 ≠ g2 := by omega
      exact ⟨.inr (fun h => hne (by simpa [Value.ownBlock] using h)), .inr (fun h => hne (by simpa [Value.ownBlock] using h.symm))⟩
end Go.Proofs.Ytlipdhoeklgdoaa.Pc
