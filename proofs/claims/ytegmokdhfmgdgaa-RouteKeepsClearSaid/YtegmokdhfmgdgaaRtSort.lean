/- slices.Sort and slices.Compact on a row of ints that the call has made; what they leave. -/
import Derived.Test.YtegmokdhfmgdgaaRtShelf
import Derived.Test.YtegmokdhfmgdgaaSlices
import Derived.Sort.OwnSortedInts
namespace Go.Proofs.Ytegmokdhfmgdgaa.Rt
open Go.RowKit Go.Frm

theorem below_of_grown {w w' : World} {base : Nat} {row : Option Nat} (hg : w.grownBy w' row) (hb : base ≤ w.heap.size) (hr : ∀ k, row = some k → base ≤ k) : Below base w w' :=
  ⟨hg.os, hg.tape, hg.output, hg.size, fun k hk => hg.block k (by omega) (fun e => by have := hr k e.symm; omega)⟩
def srt (xs : List Int) : List Int := xs.mergeSort fun x y => decide (x ≤ y)
theorem sort_own {w : World} {base n g c : Nat} {xs : List Int} (hxl : xs.length = n) (hv : w.ownsRow base 3 1 (.slice (some ⟨g, 0, none⟩) n c) n (xs.map (Value.int .i64))) (hb : base ≤ w.heap.size) (hl : n ≤ 100000) :
    Calls Try.prog 29 #[.slice (some ⟨g, 0, none⟩) n c] w fun e w' => e = .returned (.tuple #[]) ∧ w'.ownsRow base 3 1 (.slice (some ⟨g, 0, none⟩) n c) n ((srt xs).map (Value.int .i64)) ∧ w.grownBy w' (some g) := by
  subst hxl
  rcases hv.2 with ⟨h0, _⟩ | ⟨g', cap, cur, h1, hg, hc, hn, hcap, hsz, ht⟩
  · cases h0
  · injection h1 with h1 _ h2
    injection h1 with h1
    injection h1 with h1
    subst h1 h2
    have hlt : g < w.heap.size := (Array.getElem?_eq_some_iff.1 hc).1
    rw [Nat.mul_one] at ht
    refine (Try.slices_Sort_int g 0 c xs w (holds_of_blockI hc ht) hlt (by omega)).mono ?_
    rintro e w' ⟨rfl, m, os, rfl⟩
    exact ⟨rfl, ownsRow_sortedI (by simp) hg hc hn hcap hsz, grownBy_sortedI _⟩
theorem below_setCells {B b : Nat} {a : World} (hb : B ≤ b) : ∀ (vs : List Value) (o : Nat) (w : World), Below B a w → Below B a (w.setCells b o vs)
  | [], _, _, h => h
  | v :: vs, o, w, h => below_setCells hb vs (o + 1) _ (h.setCell (p := ⟨b, o, none⟩) hb v)
theorem grown_setCells {b : Nat} {row : Option Nat} (hr : row = some b) : ∀ (vs : List Value) (o : Nat) (a w : World), a.grownBy w row → a.grownBy (w.setCells b o vs) row
  | [], _, _, _, h => h
  | v :: vs, o, a, w, h => grown_setCells hr vs (o + 1) a _ ⟨h.os, h.tape, h.output, by simpa [World.setCell] using h.size, fun k hk hne => (Below.heap_setCell w ⟨b, o, none⟩ v k (fun e => hne (by rw [hr, e]))).trans (h.block k hk hne)⟩
theorem compact_own {w : World} {base n g c : Nat} {xs : List Int} (hxl : xs.length = n) (hv : w.ownsRow base 3 1 (.slice (some ⟨g, 0, none⟩) n c) n (xs.map (Value.int .i64))) (hl : n ≤ 100000) :
    Calls Try.prog 30 #[.slice (some ⟨g, 0, none⟩) n c] w fun e w' => e = .returned (.slice (some ⟨g, 0, none⟩) (Lib.compact xs).length c) ∧ RdI w' (some ⟨g, 0, none⟩) (Lib.compact xs) ∧ w.grownBy w' (some g) := by
  subst hxl
  have hcell : ∀ j, j < xs.length → w.cell? ⟨g, 0 + j, none⟩ = some (.int .i64 (xs.getD j 0)) := fun j hj => by
    have := RdI.of_own hv
    have h1 := this.get hj
    exact h1
  have hcap := own_cap hv
  have h := Try.slices_Compact_int_cells g 0 xs.length c xs w (Nat.le_refl _) (by omega) hcap.1 hcell (fun j hj => World.ownsRow.frozenAt hv (0 + j))
  rw [List.take_length] at h
  refine h.mono ?_
  rintro e w' ⟨rfl, q, rfl⟩
  refine ⟨rfl, ?_, grown_setCells rfl _ _ _ _ ⟨rfl, rfl, rfl, Nat.le_refl _, fun _ _ _ => rfl⟩⟩
  refine .inr ⟨g, 0, rfl, fun j hj => ?_⟩
  have hle : (Lib.compact xs).length ≤ xs.length := by
    unfold Lib.compact Lib.compactUpTo
    rw [List.length_map]
    exact Nat.le_trans (List.length_filter_le _ _) (by simp)
  have h2 := World.cell?_setCells_in g ((Lib.compact xs ++ List.replicate (xs.length - (Lib.compact xs).length) 0).map (Value.int .i64)) 0 (w.drewN q) (fun i hi => by
    have hi' : i < xs.length := by
      rw [List.length_map, List.length_append, List.length_replicate] at hi
      omega
    have := hcell i hi'
    show (w.cell? ⟨g, 0 + i, none⟩).isSome = true
    rw [this]
    rfl) j (by rw [List.length_map, List.length_append]; omega)
  rw [h2, List.getElem_map, List.getElem_append_left hj, ix_eq hj]
/-- strictly increasing -/
def Inc (l : List Int) : Prop := l.Pairwise (· < ·)
theorem inc_uniq {l l' : List Int} (h : Inc l) (h' : Inc l') (hm : ∀ x, x ∈ l ↔ x ∈ l') : l = l' := by
  have n1 : l.Nodup := h.imp (fun h => Int.ne_of_lt h)
  have n2 : l'.Nodup := h'.imp (fun h => Int.ne_of_lt h)
  have hp : l.Perm l' := (List.perm_ext_iff_of_nodup n1 n2).2 hm
  exact List.Perm.eq_of_pairwise (le := fun a b : Int => a ≤ b) (fun a b _ _ h3 h4 => Int.le_antisymm h3 h4) (h.imp fun h => Int.le_of_lt h) (h'.imp fun h => Int.le_of_lt h) hp
theorem compactUpTo_inc {d : Array Int} (hs : ∀ i j, i ≤ j → j < d.size → d[i]! ≤ d[j]!) : ∀ m, 0 < m → m ≤ d.size → Inc (Lib.compactUpTo d m) ∧ (∀ x, x ∈ Lib.compactUpTo d m → x ≤ d[m - 1]!) ∧ ∀ j, j < m → d[j]! ∈ Lib.compactUpTo d m
  | 0, h, _ => by omega
  | 1, _, h1 => by
    rw [Lib.compactUpTo_succ, Lib.keeps_lt_one d 0 (by omega)]
    refine ⟨by unfold Inc Lib.compactUpTo; simp, fun x hx => ?_, fun j hj => ?_⟩
    · have : x = d[0]! := by simpa [Lib.compactUpTo] using hx
      rw [this]
      exact Int.le_refl _
    · obtain rfl : j = 0 := by omega
      simp [Lib.compactUpTo]
  | m + 2, _, h1 => by
    obtain ⟨i1, i2, i3⟩ := compactUpTo_inc hs (m + 1) (by omega) (by omega)
    rw [Lib.compactUpTo_succ]
    have hle := hs m (m + 1) (by omega) (by omega)
    by_cases hk : d[m + 1]! = d[m]!
    · rw [Lib.keeps_neg (by omega) (by simpa using hk), if_neg (by decide), List.append_nil]
      refine ⟨i1, fun x hx => ?_, fun j hj => ?_⟩
      · have := i2 x hx
        simp only [Nat.add_sub_cancel] at this
        show x ≤ d[m + 1]!
        omega
      · by_cases e : j = m + 1
        · subst e
          rw [hk]
          exact i3 m (by omega)
        · exact i3 j (by omega)
    · rw [Lib.keeps_pos (by simpa using hk), if_pos rfl]
      refine ⟨?_, fun x hx => ?_, fun j hj => ?_⟩
      · unfold Inc
        rw [List.pairwise_append]
        refine ⟨i1, by simp, fun a ha b hb => ?_⟩
        have hb' : b = d[m + 1]! := by simpa using hb
        have := i2 a ha
        simp only [Nat.add_sub_cancel] at this
        omega
      · show x ≤ d[m + 1]!
        rcases List.mem_append.1 hx with h2 | h2
        · have := i2 x h2
          simp only [Nat.add_sub_cancel] at this
          omega
        · have hb' : x = d[m + 1]! := by simpa using h2
          omega
      · by_cases e : j = m + 1
        · subst e
          exact List.mem_append.2 (.inr (by simp))
        · exact List.mem_append.2 (.inl (i3 j (by omega)))
theorem srt_mem (xs : List Int) (x : Int) : x ∈ srt xs ↔ x ∈ xs := List.mem_mergeSort
theorem srt_len (xs : List Int) : (srt xs).length = xs.length := List.length_mergeSort _
theorem compact_mem (xs : List Int) (x : Int) (h : x ∈ Lib.compact xs) : x ∈ xs := by
  unfold Lib.compact Lib.compactUpTo at h
  obtain ⟨j, hj, rfl⟩ := List.mem_map.1 h
  have hj2 : j < xs.length := by have := (List.mem_filter.1 hj).1; simpa using this
  rw [getElem!_pos xs.toArray j (by simpa using hj2)]
  simp
theorem compact_srt {xs : List Int} : Inc (Lib.compact (srt xs)) ∧ ∀ x, x ∈ Lib.compact (srt xs) ↔ x ∈ xs := by
  rcases Nat.eq_zero_or_pos xs.length with h0 | h0
  · have hx : xs = [] := List.eq_nil_of_length_eq_zero h0
    subst hx
    have : srt [] = [] := by simp [srt]
    rw [this]
    exact ⟨List.Pairwise.nil, fun x => Iff.rfl⟩
  · have hsp : (srt xs).Pairwise (· ≤ ·) := by
      have := List.pairwise_mergeSort (le := fun x y : Int => decide (x ≤ y)) (fun a b c => by simp; omega) (fun a b => by simp; omega) xs
      exact this.imp (fun h => by simpa using h)
    have hs : ∀ i j, i ≤ j → j < (srt xs).toArray.size → (srt xs).toArray[i]! ≤ (srt xs).toArray[j]! := fun i j hij hj => by
      have hj' : j < (srt xs).length := by simpa using hj
      rw [getElem!_pos _ i (by simp; omega), getElem!_pos _ j hj]
      rcases Nat.lt_or_eq_of_le hij with h1 | h1
      · have := List.pairwise_iff_getElem.1 hsp i j (by omega) hj' h1
        simpa using this
      · subst h1
        exact Int.le_refl _
    obtain ⟨h1, _, h3⟩ := compactUpTo_inc hs (srt xs).length (by rw [srt_len]; exact h0) (by simp)
    refine ⟨h1, fun x => ⟨fun h => (srt_mem xs x).1 (compact_mem _ _ h), fun h => ?_⟩⟩
    obtain ⟨j, hj, e⟩ := List.getElem_of_mem ((srt_mem xs x).2 h)
    have := h3 j hj
    rw [getElem!_pos _ j (by simpa using hj)] at this
    simp only [List.getElem_toArray] at this
    rw [e] at this
    exact this
end Go.Proofs.Ytegmokdhfmgdgaa.Rt
