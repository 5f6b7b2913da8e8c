/- Letters of one direction alone: their levels, and their order. -/
import Derived.Test.YtdikfldogmbeaaaDoorBdLevPlain
import Derived.Test.YtdikfldogmbeaaaDoorBdOrder
import Derived.Test.YtdikfldogmbeaaaDoorBdEnds
import Derived.Test.YtdikfldogmbeaaaDoorBdImplicit
namespace Go.Proofs.YtdikfldogmbeaaaDoor.Bd
open Go.RowKit Go.Frm

/-- a class that nothing changes, and its level -/
def Calm (c : Int) : Prop := c = 0 ∨ c = 1
section
variable {c : Int} {W : Nat → Int} {n : Nat}
theorem ex_calm (hc : Calm c) (hW : ∀ i, i < n → W i = c) (base : Int) : ∀ i, i ≤ n → (ex W n base i).C = W ∧ (ex W n base i).O = (fun _ => false) ∧ (ex W n base i).m = 1 ∧ (ex W n base i).sl 0 = base ∧ (ex W n base i).so 0 = -1 ∧ ∀ j, j < i → (ex W n base i).L j = base
  | 0, _ => ⟨rfl, rfl, rfl, rfl, rfl, fun j hj => absurd hj (Nat.not_lt_zero j)⟩
  | i + 1, hi => by
    obtain ⟨h1, h2, h3, h4, h5, h6⟩ := ex_calm hc hW base i (by omega)
    have hWi := hW i (by omega)
    have hst : ex W n base (i + 1) = { ex W n base i with L := upd (ex W n base i).L i ((ex W n base i).sl ((ex W n base i).m - 1)), C := ovr (ex W n base i).C i ((ex W n base i).so ((ex W n base i).m - 1)) } := by
      show exStep n base i (ex W n base i) = _
      unfold exStep
      simp only
      rw [h1, hWi]
      rcases hc with rfl | rfl <;> rfl
    rw [hst]
    refine ⟨?_, h2, h3, h4, h5, fun j hj => ?_⟩
    · show ovr (ex W n base i).C i ((ex W n base i).so ((ex W n base i).m - 1)) = W
      rw [h3, show (1 : Nat) - 1 = 0 from rfl, h5, h1]
      unfold ovr
      rw [if_neg (by decide)]
    · show upd (ex W n base i).L i ((ex W n base i).sl ((ex W n base i).m - 1)) j = base
      by_cases e : j = i
      · rw [e, upd_same, h3]; exact h4
      · rw [upd_other _ _ e]; exact h6 j (by omega)
theorem pr_calm (hc : Calm c) (hW : ∀ i, i < n → W i = c) : ∀ i, i ≤ n → ∀ j, j < i → (pr W i).M j = -1
  | 0, _, j, hj => absurd hj (Nat.not_lt_zero j)
  | i + 1, hi, j, hj => by
    have ih := pr_calm hc hW i (by omega)
    have hst : pr W (i + 1) = ⟨upd (pr W i).M i (-1), (pr W i).S, (pr W i).m⟩ := by
      show prStep W i (pr W i) = _
      unfold prStep
      rw [hW i (by omega)]
      rcases hc with rfl | rfl <;> rfl
    rw [hst]
    show upd (pr W i).M i (-1) j = -1
    by_cases e : j = i
    · rw [e, upd_same]
    · rw [upd_other _ _ e]; exact ih j (by omega)
theorem rn_calm {L : Nat → Int} {base : Int} (hL : ∀ i, i < n → L i = base) : ∀ i, i + 1 ≤ n → (rn (fun _ => false) L (i + 1)).m = 1 ∧ (rn (fun _ => false) L (i + 1)).len 0 = i + 1 ∧ ∀ j, j < i + 1 → (rn (fun _ => false) L (i + 1)).R 0 j = j
  | 0, _ => ⟨rfl, rfl, fun j hj => by
    have e : j = 0 := by omega
    subst e
    rfl⟩
  | i + 1, hi => by
    obtain ⟨h1, h2, h3⟩ := rn_calm hL i (by omega)
    have hst : rn (fun _ => false) L (i + 1 + 1) = ⟨upd (rn (fun _ => false) L (i + 1)).R 0 (upd ((rn (fun _ => false) L (i + 1)).R 0) (i + 1) (i + 1)), upd (rn (fun _ => false) L (i + 1)).len 0 (i + 1 + 1), 1⟩ := by
      show rnStep (fun _ => false) L (i + 1) (rn (fun _ => false) L (i + 1)) = _
      generalize rn (fun _ => false) L (i + 1) = r at *
      unfold rnStep
      rw [if_neg (show ¬ (false = true) by decide), if_pos (by
        rw [h1, show (1 : Nat) - 1 = 0 from rfl, h3 0 (by omega), hL 0 (by omega), hL (i + 1) (by omega)]
        simp)]
      rw [h1, show (1 : Nat) - 1 = 0 from rfl, h2]
    rw [hst]
    refine ⟨rfl, (show upd (rn (fun _ => false) L (i + 1)).len 0 (i + 1 + 1) 0 = i + 1 + 1 from upd_same _ _ _), fun j hj => ?_⟩
    show (upd (rn (fun _ => false) L (i + 1)).R 0 (upd ((rn (fun _ => false) L (i + 1)).R 0) (i + 1) (i + 1))) 0 j = j
    rw [upd_same]
    by_cases e : j = i + 1
    · rw [e, upd_same]
    · rw [upd_other _ _ e]; exact h3 j (by omega)
end
section
variable {q : Sq} {c : Int} {C : Nat → Int}
theorem get_calm (hC : ∀ k, k < q.n → C (q.A k) = c) (he : q.en = c) (k : Nat) : q.get C k = c := by
  unfold Sq.get
  split
  · rename_i h; exact hC k h
  · exact he
theorem rounds_calm {f : Nat → (Nat → Int) → Nat → Int} (h : ∀ k, f k C = C) : ∀ k, rounds f k C = C
  | 0 => rfl
  | k + 1 => by rw [rounds_lim, rounds_calm h k]; exact h k
variable (hc : Calm c) (hC : ∀ k, k < q.n → C (q.A k) = c) (he : q.en = c)
include hc hC he
theorem ends_calm : ∀ f k, q.ends f k C = C
  | 0, _ => rfl
  | f + 1, k => by
    unfold Sq.ends
    split
    · rfl
    · rw [get_calm hC he, if_neg (by rcases hc with rfl | rfl <;> decide)]
      exact ends_calm f (k + 1)
theorem neutral_calm : ∀ f k, q.neutral f k C = C
  | 0, _ => rfl
  | f + 1, k => by
    unfold Sq.neutral
    split
    · rfl
    · rw [get_calm hC he, if_neg (by rcases hc with rfl | rfl <;> decide)]
      exact neutral_calm f (k + 1)
theorem weak_calm : q.weak C = C := by
  have hg := get_calm hC he
  unfold Sq.weak Sq.endsAll
  rw [rounds_calm (f := q.w1) (fun k => by unfold Sq.w1; rw [hg, if_neg (by rcases hc with rfl | rfl <;> decide)]),
    rounds_calm (f := q.w2) (fun k => by unfold Sq.w2; rw [hg, if_neg (by rcases hc with rfl | rfl <;> simp)]),
    rounds_calm (f := q.w3) (fun k => by unfold Sq.w3; rw [hg, if_neg (by rcases hc with rfl | rfl <;> decide)]),
    rounds_calm (f := q.w4) (fun k => by unfold Sq.w4; rw [hg, hg, hg, if_neg (by rcases hc with rfl | rfl <;> decide)]),
    ends_calm hc hC he,
    rounds_calm (f := q.e2) (fun k => by unfold Sq.e2; rw [hg, if_neg (by rcases hc with rfl | rfl <;> decide)]),
    rounds_calm (f := q.w5) (fun k => by unfold Sq.w5; rw [hg, if_neg (by rcases hc with rfl | rfl <;> simp)])]
theorem bks_calm (b : Nat → Nat → Int) (X : Nat → Int) : ∀ k, q.bks b X C k = some bk0
  | 0 => rfl
  | k + 1 => by
    rw [bks_next (bks_calm b X k), get_calm hC he, if_neg (by rcases hc with rfl | rfl <;> decide)]
theorem cls_calm (b : Nat → Nat → Int) (X : Nat → Int) : q.cls b X C = C := by
  unfold Sq.cls
  rw [weak_calm hc hC he]
  have hb : q.brackets b X C = C := by
    unfold Sq.brackets
    rw [bks_calm hc hC he]
    rfl
  rw [hb]
  exact neutral_calm hc hC he _ _
theorem lev_calm (hl : q.lv = c) (L : Nat → Int) : ∀ k, q.lev C L k = L
  | 0 => rfl
  | k + 1 => by
    rw [lev_succ, lev_calm hl L k]
    unfold Sq.imp
    rw [get_calm hC he, hl]
    rcases hc with rfl | rfl <;> simp
end
theorem tailL_calm (L : Nat → Int) (base : Int) : ∀ i, tailL (fun _ => false) L base i = L
  | 0 => rfl
  | i + 1 => by
    unfold tailL
    rw [if_neg (by decide)]
    exact tailL_calm L base i
theorem blanks_calm {c : Int} {W : Nat → Int} {n : Nat} (hc : Calm c) (hW : ∀ i, i < n → W i = c) (base : Int) (L : Nat → Int) : ∀ i b, i ≤ n → blanks W base i b L = L
  | 0, _, _ => rfl
  | i + 1, b, hi => by
    unfold blanks
    rw [hW i (by omega)]
    rw [if_neg (by rcases hc with rfl | rfl <;> decide), if_neg (by rcases hc with rfl | rfl <;> decide)]
    exact blanks_calm hc hW base L i false (by omega)
/-- the levels are that of the paragraph -/
theorem lev_all {c : Int} {l : LvP} (hc : Calm c) (hn : 0 < l.n) (hW : ∀ i, i < l.n → l.W i = c) (hb : l.base = c) : ∀ i, i < l.n → l.lev i = c := by
  obtain ⟨h1, h2, h3, h4, h5, h6⟩ := ex_calm hc hW l.base l.n (Nat.le_refl _)
  have eC : l.e.C = l.W := h1
  have eO : l.e.O = fun _ => false := h2
  have eL : ∀ j, j < l.n → l.e.L j = c := fun j hj => (h6 j hj).trans hb
  have hM : ∀ j, j < l.n → l.M j = -1 := pr_calm hc hW l.n (Nat.le_refl _)
  have hr : l.r = rn (fun _ => false) l.e.L l.n := by unfold LvP.r; rw [eO]
  obtain ⟨r1, r2, r3⟩ := rn_calm (n := l.n) eL (l.n - 1) (by omega)
  rw [show l.n - 1 + 1 = l.n by omega, ← hr] at r1 r2 r3
  have hlast : lastOf l.r 0 = l.n - 1 := by unfold lastOf; rw [r2]; exact r3 _ (by omega)
  have hnx : nextRun l.M l.r 0 = 0 := by unfold nextRun; rw [hlast, hM _ (by omega), if_pos (by decide)]
  have hks : l.ks = [0] := by
    unfold LvP.ks begs
    rw [r1]
    have hf : folS l.M l.r 1 0 = false := by
      show (if 0 < nextRun l.M l.r 0 then _ else folS l.M l.r 0) 0 = false
      rw [hnx, if_neg (by decide)]
      rfl
    simp [List.range_succ, hf]
  have hat : seqAt l.M l.r 0 = atAdd l.r 0 ⟨fun _ => 0, 0⟩ := by
    unfold seqAt
    rw [r1]
    show (if nextRun l.M l.r 0 = 0 then _ else _) = _
    rw [if_pos hnx]
  have qn : (l.Sf 0).n = l.n := by
    rw [l.Sfn, hat]
    show 0 + l.r.len 0 = l.n
    rw [r2]; omega
  have qA : ∀ k, k < l.n → (l.Sf 0).A k = k := fun k hk => by
    rw [l.SfA, hat]
    show (if k < 0 then 0 else l.r.R 0 (k - 0)) = k
    rw [if_neg (by omega)]
    exact r3 k hk
  have qlv : (l.Sf 0).lv = c := by
    show l.e.L (l.r.R 0 0) = c
    rw [r3 0 hn]
    exact eL 0 hn
  have hside : side (mx c c) = c := by rcases hc with rfl | rfl <;> decide
  have qen : (l.Sf 0).en = c := by
    show side (mx (afterOf (sqOf l.M l.r l.W l.e.L 0) l.e.O l.e.L l.M l.base l.n) ((sqOf l.M l.r l.W l.e.L 0)).lv) = c
    have hl : lastA (sqOf l.M l.r l.W l.e.L 0) = l.n - 1 := by
      show (l.Sf 0).A ((l.Sf 0).n - 1) = l.n - 1
      rw [qn]
      exact qA _ (by omega)
    unfold afterOf
    rw [hl]
    have hw : (sqOf l.M l.r l.W l.e.L 0).W = l.W := rfl
    rw [hw, hW (l.n - 1) (by omega), if_neg (fun h => by have := h.1; rcases hc with rfl | rfl <;> exact absurd this (by decide)), show l.n - (l.n - 1 + 1) = 0 by omega]
    show side (mx l.base (l.Sf 0).lv) = c
    rw [hb, qlv]
    exact hside
  have hC : ∀ k, k < (l.Sf 0).n → l.W ((l.Sf 0).A k) = c := fun k hk => by
    rw [qn] at hk
    rw [qA k hk]
    exact hW k hk
  have hraw : l.raw = l.e.L := by
    unfold LvP.raw seqFold
    rw [hks]
    show (l.Sf 0).lev ((l.Sf 0).cls (tbV brTb) l.X l.e.C) l.e.L (l.Sf 0).n = l.e.L
    rw [eC, cls_calm hc hC qen, lev_calm hc hC qen qlv]
  intro i hi
  unfold LvP.lev
  rw [hraw, eO, tailL_calm, blanks_calm hc hW _ _ _ _ (Nat.le_refl _)]
  exact eL i hi
theorem base_calm {zs : List Int} {c : Int} (hc : Calm c) (hn : 0 < zs.length) (hW : ∀ i, i < zs.length → clsX zs i = c) : baseOf zs (-1) = c := by
  unfold baseOf
  rw [if_pos rfl]
  obtain ⟨m, hm⟩ : ∃ m, zs.length = m + 1 := ⟨zs.length - 1, by omega⟩
  rw [hm]
  unfold firstR
  rw [hW 0 hn]
  rcases hc with rfl | rfl <;> rfl
theorem most_calm {L : Nat → Int} {c : Int} (hc : Calm c) : ∀ n, (∀ i, i < n → L i = c) → 0 < n → most L n = c
  | 0, _, h => by omega
  | n + 1, h, _ => by
    unfold most
    rw [h n (by omega)]
    rcases Nat.eq_zero_or_pos n with h0 | h0
    · subst h0
      rcases hc with rfl | rfl <;> rfl
    · rw [most_calm hc n (fun i hi => h i (by omega)) h0]
      rcases hc with rfl | rfl <;> rfl
theorem segEnd_all {L : Nat → Int} {x : Int} {n : Nat} (h : ∀ i, i < n → x ≤ L i) : ∀ r k, k + r = n → segEnd L x r k = n
  | 0, k, e => by unfold segEnd; omega
  | r + 1, k, e => by
    unfold segEnd
    rw [if_pos (h k (by omega))]
    exact segEnd_all h r (k + 1) (by omega)
theorem order_zero {L : Nat → Int} {n : Nat} (h : ∀ i, i < n → L i = 0) (j : Nat) : order L n j = j := by
  unfold order
  rcases Nat.eq_zero_or_pos n with h0 | h0
  · subst h0; rfl
  · rw [most_calm (.inl rfl) n h h0]
    rfl
theorem order_one {L : Nat → Int} {n : Nat} (h : ∀ i, i < n → L i = 1) (j : Nat) (hj : j < n) : order L n j = n - 1 - j := by
  unfold order
  rw [most_calm (.inr rfl) n h (by omega)]
  show revs L n ((0 + 1 : Nat) : Int) n 0 (fun j => j) j = _
  obtain ⟨m, rfl⟩ : ∃ m, n = m + 1 := ⟨n - 1, by omega⟩
  unfold revs
  rw [if_neg (by omega), if_neg (by rw [h 0 (by omega)]; decide), segEnd_all (n := m + 1) (fun i hi => by rw [h i hi]; decide) (m + 1 - 0) 0 (by omega)]
  have hz : ∀ f o, revs L (m + 1) ((0 + 1 : Nat) : Int) f (m + 1 + 1) o = o := by
    intro f o
    cases f with
    | zero => rfl
    | succ f => unfold revs; rw [if_pos (by omega)]
  rw [hz]
  unfold rev
  rw [if_pos ⟨by omega, hj⟩]
  show 0 + (m + 1) - 1 - j = _
  omega
end Go.Proofs.YtdikfldogmbeaaaDoor.Bd
