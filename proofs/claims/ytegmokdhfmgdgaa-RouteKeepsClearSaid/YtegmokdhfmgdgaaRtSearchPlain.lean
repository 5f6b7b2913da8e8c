/- A search in plain Lean: what is kept from round to round, and what its end tells. Nothing here speaks of a program. -/
import Derived.Test.YtegmokdhfmgdgaaRtStepPlain
namespace Go.Proofs.Ytegmokdhfmgdgaa.Rt
open Go.RowKit Go.Frm Go.Frm.Rt

def dn3 (dn : Nat → Bool) (nx ny x y d : Nat) : Bool := decide (x < nx ∧ y < ny ∧ d < 4) && dn (ixN nx x y d)
/-- those that are done, by place and direction -/
def dnI' (dn : Nat → Bool) (nx x y d : Nat) : Bool := dn (ixN nx x y d)
def acc (last : Int) (tx ty : Nat) (s : St) : Prop := s.x = tx ∧ s.y = ty ∧ dirOk last s.d
def cntB (dn : Nat → Bool) : Nat → Nat
  | 0 => 0
  | n + 1 => cntB dn n + if dn n = true then 1 else 0
theorem cntB_le (dn : Nat → Bool) : ∀ n, cntB dn n ≤ n
  | 0 => Nat.le_refl _
  | n + 1 => by
    have := cntB_le dn n
    show cntB dn n + (if dn n = true then 1 else 0) ≤ n + 1
    split <;> omega
theorem cntB_none : ∀ n, cntB (fun _ => false) n = 0
  | 0 => rfl
  | n + 1 => by
    show cntB (fun _ => false) n + (if false = true then 1 else 0) = 0
    rw [cntB_none n]
    rfl
theorem cntB_congr {dn dn' : Nat → Bool} : ∀ n, (∀ i, i < n → dn i = dn' i) → cntB dn n = cntB dn' n
  | 0, _ => rfl
  | n + 1, h => by
    show cntB dn n + (if dn n = true then 1 else 0) = cntB dn' n + (if dn' n = true then 1 else 0)
    rw [cntB_congr n (fun i hi => h i (by omega)), h n (by omega)]
theorem cntB_upd {dn : Nat → Bool} {j : Nat} (hj : dn j = false) : ∀ n, j < n → cntB (upd dn j true) n = cntB dn n + 1
  | 0, h => by omega
  | n + 1, h => by
    show cntB (upd dn j true) n + (if upd dn j true n = true then 1 else 0) = cntB dn n + (if dn n = true then 1 else 0) + 1
    by_cases e : j = n
    · subst e
      rw [upd_same, hj, cntB_congr j (fun i hi => upd_other dn true (show i ≠ j by omega))]
      rfl
    · rw [cntB_upd hj n (by omega), upd_other dn true (show n ≠ j by omega)]
      omega
theorem dist_nn (a b : Pt) : 0 ≤ dist a b := by
  unfold dist mxI
  split <;> split <;> omega
theorem gE_some {X Y : Nat → Int} {nx ny nl : Nat} {fs : Nat → Fr} {x y d x' y' : Nat} {w : Int} (h : gE X Y nx ny nl fs x y d = some (x', y', w)) :
    inB nx ny (mvX d x) (mvY d y) = true ∧ mvX d x = x' ∧ mvY d y = y' ∧ x' < nx ∧ y' < ny ∧ hitsB fs nl (X x, Y y) (X x', Y y') = false ∧ w = dist (X x, Y y) (X x', Y y') := by
  unfold gE at h
  split at h
  · rename_i h1
    split at h
    · cases h
    · rename_i h2
      injection h with h
      injection h with e1 h
      injection h with e2 e3
      subst e1 e2 e3
      have h3 := h1
      unfold inB at h3
      simp only [Bool.and_eq_true, decide_eq_true_eq] at h3
      refine ⟨h1, by omega, by omega, by omega, by omega, by simpa using h2, rfl⟩
  · cases h
theorem gE_nn {X Y : Nat → Int} {nx ny nl : Nat} {fs : Nat → Fr} (x y d x' y' : Nat) (w : Int) (h : gE X Y nx ny nl fs x y d = some (x', y', w)) : 0 ≤ w := by
  rw [(gE_some h).2.2.2.2.2.2]
  exact dist_nn _ _
theorem gE_le {X Y : Nat → Int} {nx ny nl : Nat} {fs : Nat → Fr} (hX : ∀ i, i < nx → -1000000 ≤ X i ∧ X i ≤ 1000000) (hY : ∀ i, i < ny → -1000000 ≤ Y i ∧ Y i ≤ 1000000) {x y d x' y' : Nat} {w : Int} (hx : x < nx) (hy : y < ny) (h : gE X Y nx ny nl fs x y d = some (x', y', w)) : w ≤ 4000000 := by
  obtain ⟨_, _, _, h1, h2, _, h3⟩ := gE_some h
  have a1 := hX x hx
  have a2 := hX x' h1
  have a3 := hY y hy
  have a4 := hY y' h2
  rw [h3]
  unfold dist mxI
  dsimp only
  split <;> split <;> omega
structure SI (E : Net) (first last : Int) (nx ny sx sy tx ty N : Nat) (dn : Nat → Bool) (m : Nat) (cl : Nat → St) (qn : Nat) (f : Nat → St) : Prop where
  dj : Dj E first sx sy cl m (dn3 dn nx ny) (Mem qn f)
  cnt : cntB dn N + 1 = m
  q : qn ≤ 4 * m
  acc : ∀ i, 1 ≤ i → i < m → ¬ acc last tx ty (cl i)
section
variable {X Y : Nat → Int} {nx ny nl : Nat} {fs : Nat → Fr} {first last : Int} {sx sy tx ty N : Nat} {dn : Nat → Bool} {m : Nat} {cl : Nat → St} {qn : Nat} {f : Nat → St}
theorem fol_range {p s : St} (h : Follows (gE X Y nx ny nl fs) first p s) : s.x < nx ∧ s.y < ny ∧ s.d < 4 := by
  obtain ⟨hd, h | h⟩ := h
  · obtain ⟨_, _, w, hE, _⟩ := h
    have := gE_some hE
    exact ⟨this.2.2.2.1, this.2.2.2.2.1, hd⟩
  · obtain ⟨_, _, w, hE, _⟩ := h
    have := gE_some hE
    exact ⟨this.2.2.2.1, this.2.2.2.2.1, hd⟩
theorem cl_range {Q : St → Prop} {dn' : Nat → Nat → Nat → Bool} (h : Dj (gE X Y nx ny nl fs) first sx sy cl m dn' Q) (hx : sx < nx) (hy : sy < ny) {i : Nat} (hi : i < m) : (cl i).x < nx ∧ (cl i).y < ny ∧ (cl i).d < 4 := by
  rcases Nat.eq_zero_or_pos i with h0 | h0
  · subst h0
    rw [h.st]
    exact ⟨hx, hy, show 0 < 4 by decide⟩
  · obtain ⟨k, _, _, hf⟩ := h.cok i h0 hi
    exact fol_range hf
theorem q_range {Q : St → Prop} {dn' : Nat → Nat → Nat → Bool} (h : Dj (gE X Y nx ny nl fs) first sx sy cl m dn' Q) {s : St} (hs : Q s) : s.x < nx ∧ s.y < ny ∧ s.d < 4 := by
  obtain ⟨k, _, _, hf⟩ := h.qok s hs
  exact fol_range hf
theorem fol_cost (hX : ∀ i, i < nx → -1000000 ≤ X i ∧ X i ≤ 1000000) (hY : ∀ i, i < ny → -1000000 ≤ Y i ∧ Y i ≤ 1000000) {p s : St} (hp : p.x < nx ∧ p.y < ny) (h : Follows (gE X Y nx ny nl fs) first p s) {i : Nat}
    (hc : 0 ≤ p.co.b ∧ p.co.b ≤ i ∧ 0 ≤ p.co.l ∧ p.co.l ≤ 4000000 * (i : Int)) : 0 ≤ s.co.b ∧ s.co.b ≤ (i + 1 : Nat) ∧ 0 ≤ s.co.l ∧ s.co.l ≤ 4000000 * ((i + 1 : Nat) : Int) := by
  obtain ⟨hd, h | h⟩ := h
  · obtain ⟨_, _, w, hE, hco⟩ := h
    have h1 := gE_nn _ _ _ _ _ _ hE
    have h2 := gE_le hX hY hp.1 hp.2 hE
    rw [hco]
    unfold Co.add
    dsimp only
    omega
  · obtain ⟨_, _, w, hE, hco⟩ := h
    have h1 := gE_nn _ _ _ _ _ _ hE
    have h2 := gE_le hX hY hp.1 hp.2 hE
    have h3 := bend_nn p.d s.d
    have h4 : bend p.d s.d ≤ 1 := by unfold bend; split <;> omega
    rw [hco]
    unfold Co.add
    dsimp only
    omega
theorem cl_cost {Q : St → Prop} {dn' : Nat → Nat → Nat → Bool} (hX : ∀ i, i < nx → -1000000 ≤ X i ∧ X i ≤ 1000000) (hY : ∀ i, i < ny → -1000000 ≤ Y i ∧ Y i ≤ 1000000) (h : Dj (gE X Y nx ny nl fs) first sx sy cl m dn' Q) (hx : sx < nx) (hy : sy < ny) (i : Nat) :
    i < m → 0 ≤ (cl i).co.b ∧ (cl i).co.b ≤ i ∧ 0 ≤ (cl i).co.l ∧ (cl i).co.l ≤ 4000000 * (i : Int) := by
  induction i using Nat.strongRecOn with
  | ind i ih =>
    intro hi
    rcases Nat.eq_zero_or_pos i with h0 | h0
    · subst h0
      rw [h.st]
      simp
    · obtain ⟨k, hk, hlt, hf⟩ := h.cok i h0 hi
      have hr := cl_range h hx hy (show k < m by omega)
      have := fol_cost hX hY ⟨hr.1, hr.2.1⟩ hf (ih k hlt (by omega))
      omega
theorem q_cost {Q : St → Prop} {dn' : Nat → Nat → Nat → Bool} (hX : ∀ i, i < nx → -1000000 ≤ X i ∧ X i ≤ 1000000) (hY : ∀ i, i < ny → -1000000 ≤ Y i ∧ Y i ≤ 1000000) (h : Dj (gE X Y nx ny nl fs) first sx sy cl m dn' Q) (hx : sx < nx) (hy : sy < ny) {s : St} (hs : Q s) :
    0 ≤ s.co.b ∧ s.co.b ≤ m ∧ 0 ≤ s.co.l ∧ s.co.l ≤ 4000000 * (m : Int) := by
  obtain ⟨k, hk, hlt, hf⟩ := h.qok s hs
  have hr := cl_range h hx hy hlt
  have := fol_cost hX hY ⟨hr.1, hr.2.1⟩ hf (cl_cost hX hY h hx hy k hlt)
  omega
theorem dn3_upd {s : St} (hs : s.x < nx ∧ s.y < ny ∧ s.d < 4) (x y d : Nat) : dn3 (upd dn (ixN nx s.x s.y s.d) true) nx ny x y d = true ↔ dn3 dn nx ny x y d = true ∨ (x = s.x ∧ y = s.y ∧ d = s.d) := by
  unfold dn3
  rw [Bool.and_eq_true, Bool.and_eq_true, decide_eq_true_eq]
  by_cases e : x = s.x ∧ y = s.y ∧ d = s.d
  · obtain ⟨e1, e2, e3⟩ := e
    subst e1 e2 e3
    rw [upd_same]
    exact ⟨fun _ => .inr ⟨rfl, rfl, rfl⟩, fun _ => ⟨hs, rfl⟩⟩
  · constructor
    · rintro ⟨h1, h2⟩
      by_cases e2 : ixN nx x y d = ixN nx s.x s.y s.d
      · exact absurd (ixN_inj h1.1 hs.1 h1.2.2 hs.2.2 e2) e
      · rw [upd_other _ _ e2] at h2
        exact .inl ⟨h1, h2⟩
    · rintro (⟨h1, h2⟩ | h1)
      · refine ⟨h1, ?_⟩
        by_cases e2 : ixN nx x y d = ixN nx s.x s.y s.d
        · exact absurd (ixN_inj h1.1 hs.1 h1.2.2 hs.2.2 e2) e
        · rw [upd_other _ _ e2]
          exact h2
      · exact absurd h1 e
/-- the way of least cost -/
def Found (E : Net) (first last : Int) (sx sy tx ty : Nat) (X Y : Nat → Int) (l : List Pt) : Prop :=
  ∃ ds ps d c, Pth E first sx sy ds ps tx ty d c ∧ dirOk last d ∧ (∀ ds' ps' d' c', Pth E first sx sy ds' ps' tx ty d' c' → dirOk last d' → ¬ Co.lt c' c) ∧ l = short (ptOf X Y ps) ps.length
def Lost (E : Net) (first last : Int) (sx sy tx ty : Nat) : Prop := ∀ ds ps d c, Pth E first sx sy ds ps tx ty d c → ¬ dirOk last d
theorem SI.start {qn' : Nat} {f' : Nat → St} (hc : cl 0 = ⟨sx, sy, 0, ⟨0, 0⟩, -1⟩) (h : Stp (gE X Y nx ny nl fs) first (cl 0) 0 (dnI' (fun _ => false) nx) 0 f 4 qn' f') : SI (gE X Y nx ny nl fs) first last nx ny sx sy tx ty N (fun _ => false) 1 cl qn' f' := by
  refine ⟨?_, by rw [cntB_none], by have := h.le; omega, fun i h1 h2 => by omega⟩
  have h0 := Dj.begin (E := (gE X Y nx ny nl fs)) (first := first) (Q' := Mem qn' f') (cl' := cl) hc (fun t ht => ?_) (fun d x y w hd hm hE => ?_)
  · have e : (dn3 (fun _ => false) nx ny) = fun _ _ _ => false := by
      funext x y d
      unfold dn3
      simp
    rw [e]
    exact h0
  · rcases h.q1 t ht with ⟨i, hi, _⟩ | ⟨d, x, y, w, h1, h2, h3, h4⟩
    · omega
    · rw [hc] at h3
      exact ⟨d, x, y, w, h1, h2, h3, h4⟩
  · rcases h.q3 d x y w hd hm (by rw [hc]; exact hE) with h1 | h1
    · cases h1
    · exact h1
theorem SI.drop (h : SI (gE X Y nx ny nl fs) first last nx ny sx sy tx ty N dn m cl (qn + 1) f) (hd : dn3 dn nx ny (f 0).x (f 0).y (f 0).d = true) {f' : Nat → St} (h1 : ∀ t, Mem qn f' t → Mem (qn + 1) f t) (h2 : ∀ t, Mem (qn + 1) f t → Mem qn f' t ∨ t = f 0) : SI (gE X Y nx ny nl fs) first last nx ny sx sy tx ty N dn m cl qn f' :=
  ⟨h.dj.drop ⟨0, by omega, rfl⟩ hd h1 h2, h.cnt, by have := h.q; omega, h.acc⟩
theorem SI.settle (h : SI (gE X Y nx ny nl fs) first last nx ny sx sy tx ty N dn m cl (qn + 1) f) (hN : N = 4 * nx * ny) (hh : HP (qn + 1) f) (hd : dn (ixN nx (f 0).x (f 0).y (f 0).d) = false) (ha : ¬ Rt.acc last tx ty (f 0)) {f1 : Nat → St} (h1 : ∀ t, Mem qn f1 t → Mem (qn + 1) f t) (h2 : ∀ t, Mem (qn + 1) f t → Mem qn f1 t ∨ t = f 0)
    {cl' : Nat → St} (hc1 : ∀ i, i < m → cl' i = cl i) (hc2 : cl' m = f 0) {qn' : Nat} {f' : Nat → St} (hs : Stp (gE X Y nx ny nl fs) first (f 0) m (dnI' (upd dn (ixN nx (f 0).x (f 0).y (f 0).d) true) nx) qn f1 4 qn' f') : SI (gE X Y nx ny nl fs) first last nx ny sx sy tx ty N (upd dn (ixN nx (f 0).x (f 0).y (f 0).d) true) (m + 1) cl' qn' f' := by
  have hm0 : Mem (qn + 1) f (f 0) := ⟨0, by omega, rfl⟩
  have hr := q_range h.dj hm0
  refine ⟨?_, ?_, by have := hs.le; have := h.q; omega, fun i g1 g2 => ?_⟩
  · refine h.dj.settle gE_nn hm0 (fun t ht => ?_) hc1 hc2 (dn3_upd hr) (fun t ht => ?_) (fun t ht => ?_) (fun d x y w hd2 hm hE => ?_)
    · obtain ⟨i, hi, e⟩ := ht
      rw [← e]
      exact hh.root i hi
    · rcases hs.q1 t ht with g1 | ⟨d, x, y, w, g1, g2, g3, g4⟩
      · exact .inl (h1 t g1)
      · exact .inr ⟨d, x, y, w, g1, g2, g3, g4⟩
    · rcases h2 t ht with g1 | g1
      · exact .inl (hs.q2 t g1)
      · exact .inr g1
    · rcases hs.q3 d x y w hd2 hm hE with g1 | g1
      · left
        have g2 := gE_some hE
        unfold dn3
        rw [Bool.and_eq_true, decide_eq_true_eq]
        exact ⟨⟨g2.2.2.2.1, g2.2.2.2.2.1, hd2⟩, g1⟩
      · exact .inr g1
  · rw [cntB_upd hd N (by rw [hN]; exact ixN_lt hr.1 hr.2.1 hr.2.2)]
    have := h.cnt
    omega
  · by_cases e : i = m
    · subst e
      rw [hc2]
      exact ha
    · rw [hc1 i (by omega)]
      exact h.acc i g1 (by omega)
theorem SI.lost (h : SI (gE X Y nx ny nl fs) first last nx ny sx sy tx ty N dn m cl 0 f) : Lost (gE X Y nx ny nl fs) first last sx sy tx ty := fun ds ps d c hp ha => by
  rcases h.dj.front gE_nn hp with ⟨j, g1, g2, g3, g4, g5, _⟩ | ⟨s, ⟨i, hi, _⟩, _⟩
  · exact h.acc j g1 g2 ⟨g3, g4, by rw [g5]; exact ha⟩
  · omega
theorem SI.found (h : SI (gE X Y nx ny nl fs) first last nx ny sx sy tx ty N dn m cl (qn + 1) f) (hh : HP (qn + 1) f) (ha : Rt.acc last tx ty (f 0)) {cl' : Nat → St} (hc1 : ∀ i, i < m → cl' i = cl i) (hc2 : cl' m = f 0) :
    Found (gE X Y nx ny nl fs) first last sx sy tx ty X Y (short (ptOf X Y (backs cl' m m).reverse) (backs cl' m m).length) := by
  have hm0 : Mem (qn + 1) f (f 0) := ⟨0, by omega, rfl⟩
  have hr := q_range h.dj hm0
  have hmin : ∀ t, Mem (qn + 1) f t → ¬ Co.lt t.co (f 0).co := fun t ht => by
    obtain ⟨i, hi, e⟩ := ht
    rw [← e]
    exact hh.root i hi
  have hdj := h.dj.settle gE_nn hm0 hmin (cl' := cl') (Q' := fun t => Mem (qn + 1) f t ∨ ∃ d x y w, d < 4 ∧ may first (f 0) d ∧ (gE X Y nx ny nl fs) (f 0).x (f 0).y d = some (x, y, w) ∧ t = succS (f 0) m d x y w) hc1 hc2 (dn3_upd (dn := dn) hr) (fun t ht => ht) (fun t ht => .inl (.inl ht)) (fun d x y w g1 g2 g3 => .inr (.inr ⟨d, x, y, w, g1, g2, g3, rfl⟩))
  have hm1 := h.dj.m1
  obtain ⟨ds, hp⟩ := hdj.way m m hm1 (by omega) (Nat.le_refl _)
  rw [hc2] at hp
  obtain ⟨a1, a2, a3⟩ := ha
  rw [a1, a2] at hp
  refine ⟨ds, _, _, _, hp, a3, fun ds' ps' d' c' hp' hl => ?_, by rw [List.length_reverse]⟩
  rcases h.dj.front gE_nn hp' with ⟨j, g1, g2, g3, g4, g5, _⟩ | ⟨s, g1, g2⟩
  · exact absurd ⟨g3, g4, by rw [g5]; exact hl⟩ (h.acc j g1 g2)
  · exact not_lt_trans (hmin s g1) g2
end
end Go.Proofs.Ytegmokdhfmgdgaa.Rt
