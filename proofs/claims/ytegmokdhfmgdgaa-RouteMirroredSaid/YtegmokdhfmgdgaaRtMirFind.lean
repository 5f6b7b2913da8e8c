/- Find in a mirrored drawing: the gap and the measure are the same. Nothing here speaks of a program. -/
import Derived.Test.YtegmokdhfmgdgaaRtMirAxis
import Derived.Test.YtegmokdhfmgdgaaRtLenPlain
namespace Go.Proofs.Ytegmokdhfmgdgaa.Rt
open Go.RowKit Go.Frm Go.Frm.Rt

/-- a direction, mirrored -/
def mirD (d : Nat) : Nat := (6 - d) % 4
def mirX (nx : Nat) (p : Nat × Nat) : Nat × Nat := (nx - 1 - p.1, p.2)
section
variable {X X' Y : Nat → Int} {nx ny n : Nat} {fs fs' : Nat → Fr}
theorem gE_mir (hX : ∀ i, i < nx → X' i = -X (nx - 1 - i)) (hf : ∀ i, i < n → fs' i = mirF (fs i)) {x y d x' y' : Nat} {w : Int} (hx : x < nx) (hd : d < 4) (h : gE X Y nx ny n fs x y d = some (x', y', w)) :
    gE X' Y nx ny n fs' (nx - 1 - x) y (mirD d) = some (nx - 1 - x', y', w) := by
  obtain ⟨h1, h2, h3, h4, h5, h6, h7⟩ := gE_some h
  have e1 : mvX (mirD d) ((nx - 1 - x : Nat) : Int) = ((nx - 1 - x' : Nat) : Int) := by
    unfold mvX at h2
    unfold mvX mirD
    rcases (show d = 0 ∨ d = 1 ∨ d = 2 ∨ d = 3 by omega) with rfl | rfl | rfl | rfl <;> simp at h2 ⊢ <;> omega
  have e2 : mvY (mirD d) (y : Int) = (y' : Int) := by
    rw [← h3]
    unfold mvY mirD
    rcases (show d = 0 ∨ d = 1 ∨ d = 2 ∨ d = 3 by omega) with rfl | rfl | rfl | rfl <;> simp
  have e3 : X' (nx - 1 - x) = -X x := by rw [hX _ (by omega), show nx - 1 - (nx - 1 - x) = x by omega]
  have e4 : X' (nx - 1 - x') = -X x' := by rw [hX _ (by omega), show nx - 1 - (nx - 1 - x') = x' by omega]
  have e5 : hitsB fs' n (-X x, Y y) (-X x', Y y') = false := by rw [hitsB_congr hf, ← h6]; exact hitsB_mir fs n (X x, Y y) (X x', Y y')
  have e6 : dist (-X x, Y y) (-X x', Y y') = w := by rw [h7]; exact dist_mir (X x, Y y) (X x', Y y')
  unfold gE
  rw [e1, e2, Int.toNat_natCast, Int.toNat_natCast, e3, e4, e5, e6]
  have h8 : inB nx ny ((nx - 1 - x' : Nat) : Int) (y' : Nat) = true := by unfold inB; simp; omega
  rw [if_pos h8, if_neg (by decide)]
theorem pth_mir (hX : ∀ i, i < nx → X' i = -X (nx - 1 - i)) (hf : ∀ i, i < n → fs' i = mirF (fs i)) {sx sy tx ty : Nat} (hx : sx < nx) (hy : sy < ny) {ds : List Nat} {ps : List (Nat × Nat)} {d : Nat} {c : Co} (h : Pth (gE X Y nx ny n fs) (-1) sx sy ds ps tx ty d c) :
    ∃ ds' ps' d', Pth (gE X' Y nx ny n fs') (-1) (nx - 1 - sx) sy ds' ps' (nx - 1 - tx) ty d' c := by
  obtain ⟨g1, _, _⟩ := pth_gR hx hy h
  have hw := wd_map (E := gR X Y nx ny n fs) (E' := gR X' Y nx ny n fs') (mirX nx) mirD (fun d _ => by unfold mirD; omega) (fun a b ha hb e => by unfold mirD at e; omega) (fun a ha => by unfold mirD opp; omega)
    (fun p d q w hd hE => by
      obtain ⟨b1, b2, b3⟩ := gR_some hE
      exact gR_of (show nx - 1 - p.1 < nx by omega) (show p.2 < ny from b2) (gE_mir hX hf b1 hd b3)) (first := -1) (first' := -1) (fun d _ _ => .inl rfl) (wd_of_pth g1)
  obtain ⟨ds1, ps1, hp⟩ := pth_of_wd hw
  exact ⟨ds1, ps1, mirD d, pth_gE hp⟩
theorem mir_symX (hX : ∀ i, i < nx → X' i = -X (nx - 1 - i)) : ∀ i, i < nx → X i = -X' (nx - 1 - i) := fun i hi => by
  rw [hX _ (by omega), show nx - 1 - (nx - 1 - i) = i by omega, Int.neg_neg]
theorem mirF_mirF (f : Fr) : mirF (mirF f) = f := by
  unfold mirF
  simp
theorem mir_symF (hf : ∀ i, i < n → fs' i = mirF (fs i)) : ∀ i, i < n → fs i = mirF (fs' i) := fun i hi => by rw [hf i hi, mirF_mirF]
theorem lost_mir (hX : ∀ i, i < nx → X' i = -X (nx - 1 - i)) (hf : ∀ i, i < n → fs' i = mirF (fs i)) {sx sy tx ty : Nat} (hx : sx < nx) (hy : sy < ny) (hx' : tx < nx) {l : List Pt}
    (h : Found (gE X Y nx ny n fs) (-1) (-1) sx sy tx ty X Y l) (h' : Lost (gE X' Y nx ny n fs') (-1) (-1) (nx - 1 - sx) sy (nx - 1 - tx) ty) : False := by
  obtain ⟨ds, ps, d, c, hp, hl, hm, _⟩ := h
  obtain ⟨_, _, _, g1⟩ := pth_mir hX hf hx hy hp
  exact h' _ _ _ _ g1 (.inl rfl)
theorem found_mir (hX : ∀ i, i < nx → X' i = -X (nx - 1 - i)) (hf : ∀ i, i < n → fs' i = mirF (fs i)) (hi : ∀ i j, i < j → j < nx → X i < X j) (hi' : ∀ i j, i < j → j < nx → X' i < X' j) (hY : ∀ i j, i < j → j < ny → Y i < Y j) {sx sy tx ty : Nat} (hx : sx < nx) (hy : sy < ny) (hx' : tx < nx) {l l' : List Pt}
    (h : Found (gE X Y nx ny n fs) (-1) (-1) sx sy tx ty X Y l) (h' : Found (gE X' Y nx ny n fs') (-1) (-1) (nx - 1 - sx) sy (nx - 1 - tx) ty X' Y l') : l.length = l'.length ∧ lenP l.reverse = lenP l'.reverse := by
  obtain ⟨ds, ps, d, c, hp, hl, hm, e1, e2⟩ := found_meas hi hY hx hy h
  obtain ⟨ds', ps', d', c', hp', hl', hm', e1', e2'⟩ := found_meas hi' hY (show nx - 1 - sx < nx by omega) hy h'
  obtain ⟨_, _, _, g1⟩ := pth_mir hX hf hx hy hp
  obtain ⟨_, _, _, k1⟩ := pth_mir (mir_symX hX) (mir_symF hf) (show nx - 1 - sx < nx by omega) hy hp'
  rw [show nx - 1 - (nx - 1 - sx) = sx by omega, show nx - 1 - (nx - 1 - tx) = tx by omega] at k1
  have := co_eq (hm' _ _ _ _ g1 (.inl rfl)) (hm _ _ _ _ k1 (.inl rfl))
  omega
end
theorem short_mir {p q : Pt} : Short p q (-1) (-1) ↔ Short (mirP p) (mirP q) (-1) (-1) := by
  unfold Short mirP
  constructor
  · rintro ⟨rfl, _⟩
    exact ⟨rfl, .inl rfl⟩
  · rintro ⟨h, _⟩
    have h1 := congrArg Prod.fst h
    have h2 := congrArg Prod.snd h
    dsimp only at h1 h2
    exact ⟨Prod.ext (by omega) h2, .inl rfl⟩
theorem spost_mir {p q : Pt} {fs : Nat → Fr} {n : Nat} {is is' : Bool} {l l' : List Pt} (h : SPost p q (-1) (-1) fs n is l) (h' : SPost (mirP p) (mirP q) (-1) (-1) (fun i => mirF (fs i)) n is' l') :
    is = is' ∧ (is = true → l.length = l'.length ∧ lenP l.reverse = lenP l'.reverse) := by
  obtain ⟨ix1, px, qx⟩ := axX_mem p q fs n
  obtain ⟨iy1, py, qy⟩ := axY_mem p q fs n
  obtain ⟨ix2, _, _⟩ := axX_mem (mirP p) (mirP q) (fun i => mirF (fs i)) n
  have eX := axX_mir p q fs n
  have eY := axY_mir p q fs n
  have eL : (axX (mirP p) (mirP q) (fun i => mirF (fs i)) n).length = (axX p q fs n).length := by rw [eX]; simp
  have p1 : pos (axX (mirP p) (mirP q) (fun i => mirF (fs i)) n) (mirP p).1 = (axX p q fs n).length - 1 - pos (axX p q fs n) p.1 := by rw [eX]; exact pos_mir ix1 px
  have p2 : pos (axX (mirP p) (mirP q) (fun i => mirF (fs i)) n) (mirP q).1 = (axX p q fs n).length - 1 - pos (axX p q fs n) q.1 := by rw [eX]; exact pos_mir ix1 qx
  have hX : ∀ i, i < (axX p q fs n).length → ix (axX (mirP p) (mirP q) (fun i => mirF (fs i)) n) i = -ix (axX p q fs n) ((axX p q fs n).length - 1 - i) := fun i hi => by rw [eX]; exact ix_mir hi
  have hI := inc_ix ix1
  have hI' := inc_ix ix2
  have hY := inc_ix iy1
  unfold SPost netOf at h'
  rw [← short_mir, p1, p2, eY] at h'
  rw [eL] at h' hI'
  have a1 := (inc_pos ix1 px).1
  have a2 := (inc_pos ix1 qx).1
  have a3 := (inc_pos iy1 py).1
  have a4 := (inc_pos iy1 qy).1
  clear eX eL p1 p2 ix2
  generalize ix (axX (mirP p) (mirP q) (fun i => mirF (fs i)) n) = X' at h' hX hI'
  unfold SPost netOf at h
  rcases h with ⟨hs, rfl, rfl⟩ | ⟨hs, ⟨rfl, hf⟩ | ⟨rfl, hf⟩⟩ <;> rcases h' with ⟨hs', rfl, rfl⟩ | ⟨hs', ⟨rfl, hf'⟩ | ⟨rfl, hf'⟩⟩
  · exact ⟨rfl, fun _ => ⟨rfl, rfl⟩⟩
  · exact absurd hs hs'
  · exact absurd hs hs'
  · exact absurd hs' hs
  · exact ⟨rfl, fun _ => found_mir hX (fun i _ => rfl) hI hI' hY a1 a3 a2 hf hf'⟩
  · exact (lost_mir hX (fun i _ => rfl) a1 a3 a2 hf hf').elim
  · exact absurd hs' hs
  · exfalso
    refine lost_mir (mir_symX hX) (mir_symF (fs' := fun i => mirF (fs i)) (fun i _ => rfl)) (show (axX p q fs n).length - 1 - pos (axX p q fs n) p.1 < _ by omega) a3 (show (axX p q fs n).length - 1 - pos (axX p q fs n) q.1 < _ by omega) hf' ?_
    rw [show (axX p q fs n).length - 1 - ((axX p q fs n).length - 1 - pos (axX p q fs n) p.1) = pos (axX p q fs n) p.1 by omega, show (axX p q fs n).length - 1 - ((axX p q fs n).length - 1 - pos (axX p q fs n) q.1) = pos (axX p q fs n) q.1 by omega]
    exact hf
  · exact ⟨rfl, fun h => by cases h⟩
theorem spx_mir {p q : Pt} {L : List Fr} {is is' : Bool} {l l' : List Pt} (h : SPx p q (-1) (-1) L is l) (h' : SPx (mirP p) (mirP q) (-1) (-1) (L.map mirF) is' l') :
    is = is' ∧ (is = true → l.length = l'.length ∧ lenP l.reverse = lenP l'.reverse) := by
  have h1 := spx_at h
  have h2 := spx_at h'
  rw [List.length_map] at h2
  refine spost_mir h1 (spost_congr (fun i hi => ?_) h2)
  simp [hi]
theorem fpost_mir {p q : Pt} {fs : Nat → Fr} {n : Nat} {g g' : Int} {l l' : List Pt} (h : FPost p q (-1) (-1) fs n g l) (h' : FPost (mirP p) (mirP q) (-1) (-1) (fun i => mirF (fs i)) n g' l') :
    g = g' ∧ l.length = l'.length ∧ lenP l.reverse = lenP l'.reverse := by
  unfold FPost at h h'
  rw [obs_mir, obs_mir] at h'
  rcases h with ⟨rfl, a1⟩ | ⟨rfl, ⟨k1, a1⟩, a2⟩ | ⟨rfl, ⟨k1, a1⟩, ⟨k2, a2⟩, is, a3⟩ <;> rcases h' with ⟨rfl, b1⟩ | ⟨rfl, ⟨j1, b1⟩, b2⟩ | ⟨rfl, ⟨j1, b1⟩, ⟨j2, b2⟩, is', b3⟩
  · exact ⟨rfl, (spx_mir a1 b1).2 rfl⟩
  · exact absurd (spx_mir a1 b1).1 (by decide)
  · exact absurd (spx_mir a1 b1).1 (by decide)
  · exact absurd (spx_mir a1 b1).1 (by decide)
  · exact ⟨rfl, (spx_mir a2 b2).2 rfl⟩
  · exact absurd (spx_mir a2 b2).1 (by decide)
  · exact absurd (spx_mir a1 b1).1 (by decide)
  · exact absurd (spx_mir a2 b2).1 (by decide)
  · exact ⟨rfl, (spx_mir (L := []) a3 b3).2 (spx_free (by decide) (by decide) _ _ a3)⟩
/-- a drawing and its mirrored one, as the rows tell it -/
theorem rows_mir {p q : Pt} {fs fs' : Nat → Fr} {n : Nat} (hf : ∀ i, i < n → fs' i = mirF (fs i)) {g g' : Int} {m m' : Nat} {Q Q' : Nat → Pt} (h : FPost p q (-1) (-1) fs n g ((List.range m).map Q)) (h' : FPost (mirP p) (mirP q) (-1) (-1) fs' n g' ((List.range m').map Q')) :
    g = g' ∧ m = m' ∧ lenF Q m = lenF Q' m' := by
  have e : ∀ (p q : Pt) g, obs fs' n p q g = obs (fun i => mirF (fs i)) n p q g := fun p q g => by
    unfold obs
    rw [List.flatMap_def, List.flatMap_def]
    congr 1
    exact List.map_congr_left (fun i hi => by rw [hf i (List.mem_range.1 hi)])
  unfold FPost at h'
  rw [e, e] at h'
  obtain ⟨a1, a2, a3⟩ := fpost_mir h h'
  rw [List.length_map, List.length_map, List.length_range, List.length_range] at a2
  exact ⟨a1, a2, by rw [lenF_lenP, lenF_lenP, a3]⟩
end Go.Proofs.Ytegmokdhfmgdgaa.Rt
