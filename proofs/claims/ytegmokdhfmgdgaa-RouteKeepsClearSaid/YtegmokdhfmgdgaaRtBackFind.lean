/- Find backwards: the gap and the measure are the same. Nothing here speaks of a program. -/
import Derived.Test.YtegmokdhfmgdgaaRtBackPlain
namespace Go.Proofs.Ytegmokdhfmgdgaa.Rt
open Go.RowKit Go.Frm Go.Frm.Rt

theorem inc_ix {l : List Int} (h : Inc l) : ∀ i j, i < j → j < l.length → ix l i < ix l j := fun i j hij hj => by
  rw [ix_eq (show i < l.length by omega), ix_eq hj]
  exact List.pairwise_iff_getElem.1 h i j (by omega) hj hij
theorem crd_congr {a b : Int} {p p' : Nat → List Int} {n : Nat} (h : ∀ i, i < n → p i = p' i) : crd a b p n = crd a b p' n := by
  unfold crd
  congr 1
  induction n with
  | zero => rfl
  | succ n ih => rw [List.range_succ, List.flatMap_append, List.flatMap_append, ih (fun i hi => h i (by omega))]; simp [h n (by omega)]
theorem hitsB_congr {fs gs : Nat → Fr} {n : Nat} (h : ∀ i, i < n → fs i = gs i) (a b : Pt) : hitsB fs n a b = hitsB gs n a b := by
  cases h1 : hitsB gs n a b with
  | false =>
    refine hitsB_false (fun i hi => ?_)
    rw [h i hi]
    cases h2 : hitB (gs i) a b with
    | false => rfl
    | true => rw [hitsB_true hi h2] at h1; cases h1
  | true =>
    unfold hitsB at h1
    rw [List.any_eq_true] at h1
    obtain ⟨i, hi, h2⟩ := h1
    exact hitsB_true (List.mem_range.1 hi) (by rw [h i (List.mem_range.1 hi)]; exact h2)
theorem gE_congr {X Y : Nat → Int} {nx ny n : Nat} {fs gs : Nat → Fr} (h : ∀ i, i < n → fs i = gs i) : gE X Y nx ny n fs = gE X Y nx ny n gs := by
  funext x y d
  unfold gE
  rw [hitsB_congr h]
theorem spost_congr {p q : Pt} {first last : Int} {fs gs : Nat → Fr} {n : Nat} {is : Bool} {l : List Pt} (h : ∀ i, i < n → fs i = gs i) (hs : SPost p q first last fs n is l) : SPost p q first last gs n is l := by
  have e1 : axX p q fs n = axX p q gs n := by unfold axX; rw [crd_congr (p := frP fs) (p' := frP gs) (fun i hi => by unfold frP; rw [h i hi])]
  have e2 : axY p q fs n = axY p q gs n := by unfold axY; rw [crd_congr (p := frQ fs) (p' := frQ gs) (fun i hi => by unfold frQ; rw [h i hi])]
  have e3 : netOf p q fs n = netOf p q gs n := by unfold netOf; rw [e1, e2, gE_congr h]
  unfold SPost at *
  rw [e1, e2, e3] at hs
  exact hs
theorem spx_at {p q : Pt} {first last : Int} {L : List Fr} {is : Bool} {l : List Pt} (h : SPx p q first last L is l) : SPost p q first last (fun i => L.getD i ⟨0, 0, 0, 0⟩) L.length is l := by
  obtain ⟨gs, m, rfl, hs⟩ := h
  rw [List.length_map, List.length_range]
  refine spost_congr (fun i hi => ?_) hs
  simp [hi]
theorem short_back {p q : Pt} {first last : Int} (h1 : -1 ≤ first ∧ first ≤ 3) (h2 : -1 ≤ last ∧ last ≤ 3) : Short p q first last ↔ Short q p (opZ last) (opZ first) := by
  unfold Short opZ
  constructor
  · rintro ⟨rfl, h⟩
    refine ⟨rfl, ?_⟩
    split <;> split <;> omega
  · rintro ⟨rfl, h⟩
    refine ⟨rfl, ?_⟩
    split at h <;> split at h <;> omega
theorem axX_mem (p q : Pt) (fs : Nat → Fr) (n : Nat) : Inc (axX p q fs n) ∧ p.1 ∈ axX p q fs n ∧ q.1 ∈ axX p q fs n :=
  ⟨(axis_spec _).1, ((axis_spec _).2 _).2 (by unfold crd; simp), ((axis_spec _).2 _).2 (by unfold crd; simp)⟩
theorem axY_mem (p q : Pt) (fs : Nat → Fr) (n : Nat) : Inc (axY p q fs n) ∧ p.2 ∈ axY p q fs n ∧ q.2 ∈ axY p q fs n :=
  ⟨(axis_spec _).1, ((axis_spec _).2 _).2 (by unfold crd; simp), ((axis_spec _).2 _).2 (by unfold crd; simp)⟩
theorem spost_back {p q : Pt} {first last : Int} (h1 : -1 ≤ first ∧ first ≤ 3) (h2 : -1 ≤ last ∧ last ≤ 3) {fs : Nat → Fr} {n : Nat} {is is' : Bool} {l l' : List Pt} (h : SPost p q first last fs n is l) (h' : SPost q p (opZ last) (opZ first) fs n is' l') :
    is = is' ∧ (is = true → l.length = l'.length ∧ lenP l.reverse = lenP l'.reverse) := by
  obtain ⟨ix1, px, qx⟩ := axX_mem p q fs n
  obtain ⟨iy1, py, qy⟩ := axY_mem p q fs n
  have eX : axX q p fs n = axX p q fs n := crd_swap _ _ _ _
  have eY : axY q p fs n = axY p q fs n := crd_swap _ _ _ _
  have eN : netOf q p fs n = netOf p q fs n := by unfold netOf; rw [eX, eY]
  unfold SPost at h'
  rw [eX, eY, eN, ← short_back h1 h2] at h'
  have a1 := (inc_pos ix1 px).1
  have a2 := (inc_pos ix1 qx).1
  have a3 := (inc_pos iy1 py).1
  have a4 := (inc_pos iy1 qy).1
  rcases h with ⟨hs, rfl, rfl⟩ | ⟨hs, ⟨rfl, hf⟩ | ⟨rfl, hf⟩⟩ <;> rcases h' with ⟨hs', rfl, rfl⟩ | ⟨hs', ⟨rfl, hf'⟩ | ⟨rfl, hf'⟩⟩
  · exact ⟨rfl, fun _ => ⟨rfl, rfl⟩⟩
  · exact absurd hs hs'
  · exact absurd hs hs'
  · exact absurd hs' hs
  · exact ⟨rfl, fun _ => found_back h1 h2 (inc_ix ix1) (inc_ix iy1) a1 a3 a2 a4 hf hf'⟩
  · exact (found_lost h1 h2 a1 a3 hf hf').elim
  · exact absurd hs' hs
  · exfalso
    obtain ⟨b1, b2⟩ := opZ_bd h1
    obtain ⟨b3, b4⟩ := opZ_bd h2
    refine found_lost b3 b1 a2 a4 hf' ?_
    rw [b2, b4]
    exact hf
  · exact ⟨rfl, fun h => by cases h⟩
theorem fpost_back {p q : Pt} {first last : Int} (h1 : -1 ≤ first ∧ first ≤ 3) (h2 : -1 ≤ last ∧ last ≤ 3) {fs : Nat → Fr} {n : Nat} {g g' : Int} {l l' : List Pt} (h : FPost p q first last fs n g l) (h' : FPost q p (opZ last) (opZ first) fs n g' l')
    (hfree : ∀ is l, SPx p q first last [] is l → is = true) : g = g' ∧ l.length = l'.length ∧ lenP l.reverse = lenP l'.reverse := by
  have K : ∀ L is is' k k', SPx p q first last L is k → SPx q p (opZ last) (opZ first) L is' k' → is = is' ∧ (is = true → k.length = k'.length ∧ lenP k.reverse = lenP k'.reverse) := fun L is is' k k' e1 e2 => spost_back h1 h2 (spx_at e1) (spx_at e2)
  unfold FPost at h h'
  rw [obs_swap fs n p q 100, obs_swap fs n p q 0] at h'
  rcases h with ⟨rfl, a1⟩ | ⟨rfl, ⟨k1, a1⟩, a2⟩ | ⟨rfl, ⟨k1, a1⟩, ⟨k2, a2⟩, is, a3⟩ <;> rcases h' with ⟨rfl, b1⟩ | ⟨rfl, ⟨j1, b1⟩, b2⟩ | ⟨rfl, ⟨j1, b1⟩, ⟨j2, b2⟩, is', b3⟩
  · exact ⟨rfl, (K _ _ _ _ _ a1 b1).2 rfl⟩
  · exact absurd (K _ _ _ _ _ a1 b1).1 (by decide)
  · exact absurd (K _ _ _ _ _ a1 b1).1 (by decide)
  · exact absurd (K _ _ _ _ _ a1 b1).1 (by decide)
  · exact ⟨rfl, (K _ _ _ _ _ a2 b2).2 rfl⟩
  · exact absurd (K _ _ _ _ _ a2 b2).1 (by decide)
  · exact absurd (K _ _ _ _ _ a1 b1).1 (by decide)
  · exact absurd (K _ _ _ _ _ a2 b2).1 (by decide)
  · exact ⟨rfl, (K _ _ _ _ _ a3 b3).2 (hfree _ _ a3)⟩
end Go.Proofs.Ytegmokdhfmgdgaa.Rt
