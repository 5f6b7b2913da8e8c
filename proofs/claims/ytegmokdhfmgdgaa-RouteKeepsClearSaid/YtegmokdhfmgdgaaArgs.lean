/- What is known of arguments that read as data. -/
import Derived.Test.YtegmokdhfmgdgaaSlices
namespace Go.Frm
open Go.RowKit Go.ChangeShapes Go.WideShapes Go.ChangeAt Go.Deep

section
variable {H : Type} {enc : TypeId × Value → H} {P : Program} {w : World} {base : Nat} {spare : Nat → Bool} {held : Bool}

/-- a value that reads as []int -/
theorem ints_trod {t e : TypeId} {fuel : Nat} {v : Value} {x : DataW H × List MemPlace} (ht : P.underlying t = some (.slice e)) (he : P.underlying e = some (.int .i64)) (hC : P.cellsOf e = 1)
    (h : DataW.trod enc P w base spare held fuel t [v] = some x) :
    ∃ (A : Option Addr) (c : Nat) (zs : List Int), v = .slice A zs.length c ∧ RdI w A zs ∧ zs.length ≤ 9223372036854775807 ∧ ∀ j, j < zs.length → (Lit.int .i64 (ix zs j)).wf = true := by
  rcases open_ints ht he hC h with ⟨hcs, _⟩ | ⟨x, len, cap, zs, hcs, _, hl, hm, hz, _, hcell, hwz⟩
  · simp at hcs
    subst hcs
    exact ⟨none, 0, [], rfl, .inl rfl, by simp, by simp⟩
  · simp at hcs
    subst hcs
    have hll : len ≤ zs.length := by
      have h1 : zs.length = if spare x.block then cap else len := by simpa using hz
      split at h1 <;> omega
    refine ⟨some x, cap, zs.take len, by rw [List.length_take, Nat.min_eq_left hll], ?_, by rw [List.length_take]; simp only [maxLen] at hm; omega, ?_⟩
    · by_cases h0 : len = 0
      · left; subst h0; rfl
      · right
        obtain ⟨b, off, spot⟩ := x
        have h1 := hcell 0 (by omega)
        have hspot : spot = none := by simpa [Addr.add] using World.cell?_spot h1
        subst hspot
        refine ⟨b, off, rfl, fun j hj => ?_⟩
        rw [List.length_take] at hj
        have h2 := hcell j (by omega)
        rw [Addr.add_lit] at h2
        rw [h2]
        have : j < len := by omega
        simp [ix, this]
    · intro j hj
      rw [List.length_take] at hj
      refine hwz _ ?_
      have : j < len := by omega
      have h3 : j < zs.length := by omega
      simp [ix, this, h3]

/-- a value that reads as a slice: its shape, and what its elements read as -/
theorem slice_trod {t e : TypeId} {fuel : Nat} {v : Value} {x : DataW H × List MemPlace} (ht : P.underlying t = some (.slice e)) (h : DataW.trod enc P w base spare held fuel t [v] = some x) :
    ∃ (A : Option Addr) (n c : Nat), v = .slice A n c ∧ n ≤ 9223372036854775807 ∧ (n = 0 ∨ ∃ (a : Addr), A = some a ∧ ∀ i, i < n → ∃ (cs' : List Value) (m : Nat) (y : DataW H × List MemPlace),
      cs'.length = P.cellsOf e ∧ (∀ j, j < P.cellsOf e → w.cell? ((a.add (i * P.cellsOf e)).add j) = cs'[j]?) ∧ DataW.trod enc P w base spare held m e cs' = some y) := by
  rcases open_slice ht h with ⟨hcs, _⟩ | ⟨a, len, cap, m, n, D, Pl, hcs, hb, hl, hm, hmm, hx, hi⟩
  · simp at hcs
    subst hcs
    exact ⟨none, 0, 0, rfl, by omega, .inl rfl⟩
  · simp at hcs
    subst hcs
    refine ⟨some a, len, cap, rfl, by simp only [maxLen] at hm; omega, .inr ⟨a, rfl, fun i hil => ?_⟩⟩
    have him : i < m := by
      rw [hmm]
      split <;> omega
    obtain ⟨cs', hc, ht'⟩ := hi i him
    obtain ⟨_, hcl, hat⟩ := World.cells?_some hc
    exact ⟨cs', n, _, hcl, hat, ht'⟩
theorem spot_none {a : Addr} {u : Value} {k : Nat} (h : w.cell? (a.add k) = some u) : a.spot = none ∨ k ≠ 0 := by
  by_cases hk : k = 0
  · subst hk
    left
    simpa [Addr.add] using World.cell?_spot h
  · exact .inr hk

/-- a value that reads as [][]int -/
theorem ints2_trod {t e i : TypeId} {fuel : Nat} {v : Value} {x : DataW H × List MemPlace} (ht : P.underlying t = some (.slice e)) (he : P.underlying e = some (.slice i)) (hi : P.underlying i = some (.int .i64)) (hCe : P.cellsOf e = 1) (hCi : P.cellsOf i = 1)
    (h : DataW.trod enc P w base spare held fuel t [v] = some x) :
    ∃ (A : Option Addr) (m c : Nat) (rows : Nat → List Int), v = .slice A m c ∧ RdM w A m rows ∧ m ≤ 9223372036854775807 ∧ (∀ i, i < m → (rows i).length ≤ 9223372036854775807) ∧
      ∀ i j, i < m → j < (rows i).length → (Lit.int .i64 (ix (rows i) j)).wf = true := by
  obtain ⟨A, n, c, rfl, hn, hel⟩ := slice_trod ht h
  rcases hel with rfl | ⟨a, rfl, hel⟩
  · exact ⟨A, 0, c, fun _ => [], rfl, .inl rfl, by omega, fun i hi => by omega, fun i j hi => by omega⟩
  · rw [hCe] at hel
    have hrow : ∀ k, ∃ zs : List Int, k < n → (∃ Ak ck, w.cell? (a.add k) = some (.slice Ak zs.length ck) ∧ RdI w Ak zs) ∧ zs.length ≤ 9223372036854775807 ∧ ∀ j, j < zs.length → (Lit.int .i64 (ix zs j)).wf = true := by
      intro k
      by_cases hk : k < n
      · obtain ⟨cs', m, y, hl, hat, ht'⟩ := hel k hk
        match cs', hl with
        | [u], _ =>
          obtain ⟨Ak, ck, zs, rfl, h1, h2, h3⟩ := ints_trod he hi hCi ht'
          have := hat 0 (by omega)
          refine ⟨zs, fun _ => ⟨⟨Ak, ck, ?_, h1⟩, h2, h3⟩⟩
          simpa [Addr.add] using this
      · exact ⟨[], fun h => absurd h hk⟩
    have hrow' := Classical.skolem.1 hrow
    obtain ⟨rows, hrows⟩ := hrow'
    refine ⟨some a, n, c, rows, rfl, ?_, hn, fun i hi => (hrows i hi).2.1, fun i j hi hj => (hrows i hi).2.2 j hj⟩
    by_cases hn0 : n = 0
    · exact .inl hn0
    · right
      obtain ⟨Ak, ck, h0, _⟩ := (hrows 0 (by omega)).1
      obtain ⟨b, off, spot⟩ := a
      have hspot : spot = none := by simpa [Addr.add] using World.cell?_spot h0
      subst hspot
      refine ⟨b, off, rfl, fun i hi => ?_⟩
      obtain ⟨Ak, ck, h1, h2⟩ := (hrows i hi).1
      rw [Addr.add_lit] at h1
      exact ⟨Ak, ck, h1, h2⟩

/-- a value that reads as a slice of structs of one-cell fields: each cell, and what it reads as -/
theorem structs_trod {t e : TypeId} {fs : Array Field} {fuel : Nat} {v : Value} {x : DataW H × List MemPlace} (ht : P.underlying t = some (.slice e)) (he : P.underlying e = some (.struct fs))
    (hone : oneCellFields P fs = true) (hC : P.cellsOf e = fs.size) (h0f : 0 < fs.size) (h : DataW.trod enc P w base spare held fuel t [v] = some x) :
    ∃ (A : Option Addr) (n c : Nat) (F : Nat → Nat → Value), v = .slice A n c ∧ n ≤ 9223372036854775807 ∧ RdF w A n fs.size F ∧
      ∀ (i j : Nat) (f : Field), i < n → fs[j]? = some f → ∃ (m : Nat) (y : DataW H × List MemPlace), DataW.trod enc P w base spare held m f.type [F i j] = some y := by
  obtain ⟨A, n, c, rfl, hn, hel⟩ := slice_trod ht h
  rcases hel with rfl | ⟨a, rfl, hel⟩
  · exact ⟨A, 0, c, fun _ _ => undef, rfl, by omega, .inl rfl, fun i j f hi => by omega⟩
  · rw [hC] at hel
    have hF : ∀ i, ∃ cs : List Value, i < n → (∀ j, j < fs.size → w.cell? ((a.add (i * fs.size)).add j) = cs[j]?) ∧ cs.length = fs.size ∧
        ∀ j f, fs[j]? = some f → ∃ (m : Nat) (y : DataW H × List MemPlace), DataW.trod enc P w base spare held m f.type [cs.getD j undef] = some y := by
      intro i
      by_cases hi : i < n
      · obtain ⟨cs, m, y, hl, hat, ht'⟩ := hel i hi
        refine ⟨cs, fun _ => ⟨hat, hl, fun j f hj => ?_⟩⟩
        obtain ⟨ys, m', _, hy, hlen, hyl, hf⟩ := DataW.trod_struct he ht'
        obtain ⟨ho, hk⟩ := hone_of hone j f hj
        have hjl : j < fs.size := (Array.getElem?_eq_some_iff.1 hj).1
        have h1 := hf j f hj
        rw [ho, hk] at h1
        have hd : (cs.drop j).take 1 = [cs.getD j undef] := by
          have hjc : j < cs.length := by omega
          rw [List.drop_eq_getElem_cons hjc]
          show [cs[j]] = [cs.getD j undef]
          rw [List.getD_eq_getElem?_getD, List.getElem?_eq_getElem hjc]
          rfl
        rw [hd, List.getElem?_eq_getElem (by omega)] at h1
        exact ⟨m', _, h1⟩
      · exact ⟨[], fun h => absurd h hi⟩
    obtain ⟨cs, hcs⟩ := Classical.skolem.1 hF
    refine ⟨some a, n, c, fun i j => (cs i).getD j undef, rfl, hn, ?_, fun i j f hi hj => (hcs i hi).2.2 j f hj⟩
    by_cases hn0 : n = 0
    · exact .inl hn0
    · right
      have h0 := (hcs 0 (by omega)).1 0 (by omega)
      have hl0 := (hcs 0 (by omega)).2.1
      rw [List.getElem?_eq_getElem (by omega)] at h0
      obtain ⟨b, off, spot⟩ := a
      have hspot : spot = none := by
        have := World.cell?_spot h0
        simpa [Addr.add] using this
      subst hspot
      refine ⟨b, off, rfl, fun i j hi hj => ?_⟩
      have h1 := (hcs i hi).1 j hj
      have hl := (hcs i hi).2.1
      rw [Addr.add_lit, Addr.add_lit, List.getElem?_eq_getElem (by omega)] at h1
      rw [h1]
      simp [show j < (cs i).length by omega]

/-- the same where every field is an int -/
theorem int_structs_trod {t e : TypeId} {fs : Array Field} {fuel : Nat} {v : Value} {x : DataW H × List MemPlace} (ht : P.underlying t = some (.slice e)) (he : P.underlying e = some (.struct fs))
    (hone : oneCellFields P fs = true) (hC : P.cellsOf e = fs.size) (h0f : 0 < fs.size) (hint : ∀ (j : Nat) (f : Field), fs[j]? = some f → P.underlying f.type = some (.int .i64)) (h : DataW.trod enc P w base spare held fuel t [v] = some x) :
    ∃ (A : Option Addr) (n c : Nat) (F : Nat → Nat → Int), v = .slice A n c ∧ n ≤ 9223372036854775807 ∧ RdF w A n fs.size (fun i j => .int .i64 (F i j)) ∧
      ∀ i j, i < n → j < fs.size → (Lit.int .i64 (F i j)).wf = true := by
  obtain ⟨A, n, c, F, rfl, hn, hr, hf⟩ := structs_trod ht he hone hC h0f h
  have hG : ∀ i j, ∃ z : Int, i < n → j < fs.size → F i j = .int .i64 z ∧ (Lit.int .i64 z).wf = true := by
    intro i j
    by_cases hij : i < n ∧ j < fs.size
    · obtain ⟨m, y, hy⟩ := hf i j fs[j] hij.1 (Array.getElem?_eq_getElem hij.2)
      obtain ⟨z, hz, _, hw⟩ := DataW.trod_int (hint j _ (Array.getElem?_eq_getElem hij.2)) hy
      simp at hz
      exact ⟨z, fun _ _ => ⟨hz, hw⟩⟩
    · exact ⟨0, fun h1 h2 => absurd ⟨h1, h2⟩ hij⟩
  have hG' := fun i => Classical.skolem.1 (hG i)
  obtain ⟨G, hGG⟩ := Classical.skolem.1 hG'
  refine ⟨A, n, c, G, rfl, hn, ?_, fun i j hi hj => (hGG i j hi hj).2⟩
  rcases hr with h0 | ⟨b, off, rfl, hc⟩
  · exact .inl h0
  · exact .inr ⟨b, off, rfl, fun i j hi hj => by rw [hc i j hi hj, (hGG i j hi hj).1]⟩
end
end Go.Frm
