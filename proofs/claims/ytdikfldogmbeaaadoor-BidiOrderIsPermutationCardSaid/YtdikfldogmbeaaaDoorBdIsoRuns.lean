/- A text with one isolate: embeddings, ends, runs. -/
import Derived.Test.YtdikfldogmbeaaaDoorBdLevPlain
namespace Go.Proofs.YtdikfldogmbeaaaDoor.Bd
open Go.RowKit Go.Frm

/-- a class of a text without controls -/
def Pc (c : Int) : Prop := 0 ≤ c ∧ c ≤ 13 ∧ c ≠ 9 ∧ c ≠ 10
section
variable {c : Int} (h : Pc c)
include h
theorem pc_emb : embB c = false := by unfold Pc at h; unfold embB; simp; omega
theorem pc_iso : iso c = false := by unfold Pc at h; unfold iso; simp; omega
theorem pc_22 : (c == 22) = false := by unfold Pc at h; simp; omega
theorem pc_18 : (c == 18) = false := by unfold Pc at h; simp; omega
theorem pc_9 : (c == 9) = false := by unfold Pc at h; simp; omega
theorem pc_10 : (c == 10) = false := by unfold Pc at h; simp; omega
end
/-- the classes of such a text: an isolate from p on, with m characters in it and b behind it -/
structure IsoT (W : Nat → Int) (p m b : Nat) : Prop where
  op : W p = 19 ∨ W p = 20
  cl : W (p + 1 + m) = 22
  pc : ∀ i, i < p + 1 + m + 1 + b → i ≠ p → i ≠ p + 1 + m → Pc (W i)
  m1 : 1 ≤ m
/-- the level within -/
def nxL (W : Nat → Int) (p : Nat) (base : Int) : Int := upL base (if W p = 20 then 1 else 0)
def isoL (W : Nat → Int) (p m : Nat) (base : Int) (j : Nat) : Int := if p < j ∧ j < p + 1 + m then nxL W p base else base
section
variable {W : Nat → Int} {p m b : Nat} {base : Int}
/-- outside, within -/
structure StO (W : Nat → Int) (base : Int) (e : Ex) : Prop where
  C : e.C = W
  O : e.O = fun _ => false
  m : e.m = 1
  s0 : e.sl 0 = base
  z0 : e.so 0 = -1
  i0 : e.si 0 = false
  oi : e.oi = 0
  oe : e.oe = 0
  va : e.va = 0
structure StI (W : Nat → Int) (base nx : Int) (e : Ex) : Prop where
  C : e.C = W
  O : e.O = fun _ => false
  m : e.m = 2
  s0 : e.sl 0 = base
  z0 : e.so 0 = -1
  i0 : e.si 0 = false
  s1 : e.sl 1 = nx
  z1 : e.so 1 = -1
  i1 : e.si 1 = true
  oi : e.oi = 0
  oe : e.oe = 0
  va : e.va = 1
theorem ovr_none (C : Nat → Int) (i : Nat) : ovr C i (-1) = C := if_neg (by decide)
theorem StO.step {n i : Nat} {e : Ex} (h : StO W base e) (hp : Pc (W i)) : StO W base (exStep n base i e) ∧ (exStep n base i e).L = upd e.L i base := by
  rw [← h.C] at hp
  have e1 := exs_else (n := n) (base := base) (pc_emb hp) (pc_iso hp) (pc_22 hp) (pc_18 hp) (pc_9 hp) (pc_10 hp)
  rw [h.m, show (1 : Nat) - 1 = 0 from rfl, h.s0, h.z0, ovr_none] at e1
  rw [e1]
  exact ⟨⟨h.C, h.O, rfl, h.s0, h.z0, h.i0, h.oi, h.oe, h.va⟩, rfl⟩
theorem StI.step {n i : Nat} {nx : Int} {e : Ex} (h : StI W base nx e) (hp : Pc (W i)) : StI W base nx (exStep n base i e) ∧ (exStep n base i e).L = upd e.L i nx := by
  rw [← h.C] at hp
  have e1 := exs_else (n := n) (base := base) (pc_emb hp) (pc_iso hp) (pc_22 hp) (pc_18 hp) (pc_9 hp) (pc_10 hp)
  rw [h.m, show (2 : Nat) - 1 = 1 from rfl, h.s1, h.z1, ovr_none] at e1
  rw [e1]
  exact ⟨⟨h.C, h.O, rfl, h.s0, h.z0, h.i0, h.s1, h.z1, h.i1, h.oi, h.oe, h.va⟩, rfl⟩
theorem StO.open_ {n i : Nat} {e : Ex} (h : StO W base e) (hb : 0 ≤ base ∧ base ≤ 1) (hp : W i = 19 ∨ W i = 20) : StI W base (upL base (if W i = 20 then 1 else 0)) (exStep n base i e) ∧ (exStep n base i e).L = upd e.L i base := by
  have hod : exOdd e.C n i = if W i = 20 then 1 else 0 := by
    unfold exOdd
    rw [h.C]
    rcases hp with hp | hp <;> rw [hp] <;> rfl
  have hu := upL_bd base (if W i = 20 then 1 else 0)
  have hf : fitsB n i e = true := by
    unfold fitsB
    rw [hod, h.m, show (1 : Nat) - 1 = 0 from rfl, h.s0, h.oi, h.oe]
    simp
    omega
  have e1 := exs_iso (n := n) (base := base) (i := i) (e := e) (by rw [h.C]; rcases hp with hp | hp <;> rw [hp] <;> rfl) (by rw [h.C]; rcases hp with hp | hp <;> rw [hp] <;> rfl) hf
  rw [hod, h.m, show (1 : Nat) - 1 = 0 from rfl, h.s0, h.z0, ovr_none] at e1
  rw [e1]
  refine ⟨⟨h.C, h.O, rfl, ?_, ?_, ?_, (show upd e.sl 1 _ 1 = _ from upd_same _ _ _), (show upd e.so 1 _ 1 = _ from upd_same _ _ _), (show upd e.si 1 true 1 = true from upd_same _ _ _), h.oi, h.oe, by show e.va + 1 = 1; rw [h.va]⟩, rfl⟩
  · exact (upd_other e.sl (upL base (if W i = 20 then 1 else 0)) (show (0 : Nat) ≠ 1 by decide)).trans h.s0
  · exact (upd_other e.so (-1) (show (0 : Nat) ≠ 1 by decide)).trans h.z0
  · exact (upd_other e.si true (show (0 : Nat) ≠ 1 by decide)).trans h.i0
theorem StI.close_ {n i : Nat} {nx : Int} {e : Ex} (h : StI W base nx e) (hp : W i = 22) : StO W base (exStep n base i e) ∧ ∀ j, (exStep n base i e).L j = upd e.L i base j := by
  have hpop : popI e.si e.m = 1 := by rw [h.m]; exact popI_top h.i1
  have e1 := exs_pdi2 (n := n) (base := base) (i := i) (e := e) (by rw [h.C, hp]; rfl) (by rw [h.C, hp]; rfl) (by rw [h.C, hp]; rfl) h.oi (by rw [h.va]; decide)
  rw [hpop, show (1 : Nat) - 1 = 0 from rfl, h.s0, h.z0, ovr_none] at e1
  rw [e1]
  refine ⟨⟨h.C, h.O, rfl, h.s0, h.z0, h.i0, h.oi, rfl, by show e.va - 1 = 0; rw [h.va]⟩, fun j => ?_⟩
  show upd (upd e.L i _) i base j = upd e.L i base j
  unfold upd
  split <;> rfl

theorem ex_before (h : IsoT W p m b) {n : Nat} : ∀ i, i ≤ p → StO W base (ex W n base i) ∧ ∀ j, j < i → (ex W n base i).L j = base
  | 0, _ => ⟨⟨rfl, rfl, rfl, rfl, rfl, rfl, rfl, rfl, rfl⟩, fun j hj => absurd hj (Nat.not_lt_zero j)⟩
  | i + 1, hi => by
    obtain ⟨h1, h2⟩ := ex_before h (n := n) i (by omega)
    obtain ⟨h3, h4⟩ := h1.step (n := n) (i := i) (h.pc i (by omega) (by omega) (by omega))
    refine ⟨h3, fun j hj => ?_⟩
    show (exStep n base i (ex W n base i)).L j = base
    rw [h4]
    unfold upd
    split
    · rfl
    · exact h2 j (by omega)
theorem ex_within (h : IsoT W p m b) (hb : 0 ≤ base ∧ base ≤ 1) {n : Nat} : ∀ d, d ≤ m → StI W base (nxL W p base) (ex W n base (p + 1 + d)) ∧ ∀ j, j < p + 1 + d → (ex W n base (p + 1 + d)).L j = isoL W p m base j
  | 0, _ => by
    obtain ⟨h1, h2⟩ := ex_before h (base := base) (n := n) p (Nat.le_refl _)
    obtain ⟨h3, h4⟩ := h1.open_ (n := n) (i := p) hb h.op
    refine ⟨h3, fun j hj => ?_⟩
    show (exStep n base p (ex W n base p)).L j = _
    rw [h4]
    unfold isoL
    rw [if_neg (by omega)]
    unfold upd
    split
    · rfl
    · exact h2 j (by omega)
  | d + 1, hd => by
    obtain ⟨h1, h2⟩ := ex_within h hb (n := n) d (by omega)
    obtain ⟨h3, h4⟩ := h1.step (n := n) (i := p + 1 + d) (h.pc (p + 1 + d) (by omega) (by omega) (by omega))
    refine ⟨h3, fun j hj => ?_⟩
    show (exStep n base (p + 1 + d) (ex W n base (p + 1 + d))).L j = _
    rw [h4]
    by_cases e : j = p + 1 + d
    · rw [e, upd_same]
      unfold isoL
      rw [if_pos (by omega)]
    · rw [upd_other _ _ e]
      exact h2 j (by omega)
theorem ex_behind (h : IsoT W p m b) (hb : 0 ≤ base ∧ base ≤ 1) {n : Nat} : ∀ d, d ≤ b → StO W base (ex W n base (p + 1 + m + 1 + d)) ∧ ∀ j, j < p + 1 + m + 1 + d → (ex W n base (p + 1 + m + 1 + d)).L j = isoL W p m base j
  | 0, _ => by
    obtain ⟨h1, h2⟩ := ex_within h hb (n := n) m (Nat.le_refl _)
    obtain ⟨h3, h4⟩ := h1.close_ (n := n) (i := p + 1 + m) h.cl
    refine ⟨h3, fun j hj => ?_⟩
    show (exStep n base (p + 1 + m) (ex W n base (p + 1 + m))).L j = _
    rw [h4]
    by_cases e : j = p + 1 + m
    · rw [e, upd_same]
      unfold isoL
      rw [if_neg (by omega)]
    · rw [upd_other _ _ e]
      exact h2 j (by omega)
  | d + 1, hd => by
    obtain ⟨h1, h2⟩ := ex_behind h hb (n := n) d (by omega)
    obtain ⟨h3, h4⟩ := h1.step (n := n) (i := p + 1 + m + 1 + d) (h.pc _ (by omega) (by omega) (by omega))
    refine ⟨h3, fun j hj => ?_⟩
    show (exStep n base (p + 1 + m + 1 + d) (ex W n base (p + 1 + m + 1 + d))).L j = _
    rw [h4]
    by_cases e : j = p + 1 + m + 1 + d
    · rw [e, upd_same]
      unfold isoL
      rw [if_neg (by omega)]
    · rw [upd_other _ _ e]
      exact h2 j (by omega)

/-- ends of isolates -/
theorem prs_plain {C : Nat → Int} {i : Nat} {q : Pr} (h : Pc (C i)) : prStep C i q = ⟨upd q.M i (-1), q.S, q.m⟩ := by
  unfold prStep
  rw [pc_iso h, if_neg (by decide), pc_22 h]
  rfl
theorem pr_before (h : IsoT W p m b) : ∀ i, i ≤ p → (pr W i).m = 0 ∧ ∀ j, j < i → (pr W i).M j = -1
  | 0, _ => ⟨rfl, fun j hj => absurd hj (Nat.not_lt_zero j)⟩
  | i + 1, hi => by
    obtain ⟨h1, h2⟩ := pr_before h i (by omega)
    have e : pr W (i + 1) = _ := prs_plain (h.pc i (by omega) (by omega) (by omega))
    rw [e]
    refine ⟨h1, fun j hj => ?_⟩
    show upd (pr W i).M i (-1) j = -1
    unfold upd
    split
    · rfl
    · exact h2 j (by omega)
theorem pr_within (h : IsoT W p m b) : ∀ d, d ≤ m → (pr W (p + 1 + d)).m = 1 ∧ (pr W (p + 1 + d)).S 0 = p ∧ ∀ j, j < p + 1 + d → (pr W (p + 1 + d)).M j = -1
  | 0, _ => by
    obtain ⟨h1, h2⟩ := pr_before h p (Nat.le_refl _)
    have e : pr W (p + 1) = ⟨upd (pr W p).M p (-1), upd (pr W p).S (pr W p).m p, (pr W p).m + 1⟩ := by
      show prStep W p (pr W p) = _
      unfold prStep
      rw [if_pos (by rcases h.op with hp | hp <;> rw [hp] <;> rfl)]
    show (pr W (p + 1)).m = 1 ∧ (pr W (p + 1)).S 0 = p ∧ _
    rw [show p + 1 + 0 = p + 1 from rfl, e, h1]
    refine ⟨rfl, (show upd (pr W p).S 0 p 0 = p from upd_same _ _ _), fun j hj => ?_⟩
    show upd (pr W p).M p (-1) j = -1
    unfold upd
    split
    · rfl
    · exact h2 j (by omega)
  | d + 1, hd => by
    obtain ⟨h1, h2, h3⟩ := pr_within h d (by omega)
    have e : pr W (p + 1 + (d + 1)) = _ := prs_plain (i := p + 1 + d) (q := pr W (p + 1 + d)) (h.pc (p + 1 + d) (by omega) (by omega) (by omega))
    rw [e]
    refine ⟨h1, h2, fun j hj => ?_⟩
    show upd (pr W (p + 1 + d)).M (p + 1 + d) (-1) j = -1
    unfold upd
    split
    · rfl
    · exact h3 j (by omega)
theorem pr_behind (h : IsoT W p m b) : ∀ d, d ≤ b → (pr W (p + 1 + m + 1 + d)).m = 0 ∧ (pr W (p + 1 + m + 1 + d)).M p = (p + 1 + m : Nat) ∧ ∀ j, j < p + 1 + m + 1 + d → j ≠ p → (pr W (p + 1 + m + 1 + d)).M j = -1
  | 0, _ => by
    obtain ⟨h1, h2, h3⟩ := pr_within h m (Nat.le_refl _)
    have e : pr W (p + 1 + m + 1) = ⟨upd (upd (pr W (p + 1 + m)).M (p + 1 + m) (-1)) p ((p + 1 + m : Nat) : Int), (pr W (p + 1 + m)).S, 0⟩ := by
      show prStep W (p + 1 + m) (pr W (p + 1 + m)) = _
      unfold prStep
      rw [h.cl, if_neg (by decide), h1, if_pos (by decide), show (1 : Nat) - 1 = 0 from rfl, h2]
    rw [show p + 1 + m + 1 + 0 = p + 1 + m + 1 from rfl, e]
    refine ⟨rfl, (show upd (upd (pr W (p + 1 + m)).M (p + 1 + m) (-1)) p ((p + 1 + m : Nat) : Int) p = _ from upd_same _ _ _), fun j hj hjp => ?_⟩
    show upd (upd (pr W (p + 1 + m)).M (p + 1 + m) (-1)) p ((p + 1 + m : Nat) : Int) j = -1
    rw [upd_other _ _ hjp]
    unfold upd
    split
    · rfl
    · exact h3 j (by omega)
  | d + 1, hd => by
    obtain ⟨h1, h2, h3⟩ := pr_behind h d (by omega)
    have e : pr W (p + 1 + m + 1 + (d + 1)) = _ := prs_plain (i := p + 1 + m + 1 + d) (q := pr W (p + 1 + m + 1 + d)) (h.pc (p + 1 + m + 1 + d) (by omega) (by omega) (by omega))
    rw [e]
    refine ⟨h1, ?_, fun j hj hjp => ?_⟩
    · show upd (pr W (p + 1 + m + 1 + d)).M (p + 1 + m + 1 + d) (-1) p = _
      rw [upd_other _ _ (by omega)]
      exact h2
    · show upd (pr W (p + 1 + m + 1 + d)).M (p + 1 + m + 1 + d) (-1) j = -1
      unfold upd
      split
      · rfl
      · exact h3 j (by omega) hjp

/-- a run of one level -/
theorem rn_block {L : Nat → Int} {v : Int} {i k : Nat} (hm : (rn (fun _ => false) L i).m = k) (hne : 0 < k → L ((rn (fun _ => false) L i).R (k - 1) 0) ≠ v) :
    ∀ d, (∀ j, j < d + 1 → L (i + j) = v) → (rn (fun _ => false) L (i + (d + 1))).m = k + 1 ∧ (rn (fun _ => false) L (i + (d + 1))).len k = d + 1 ∧ (∀ j, j < d + 1 → (rn (fun _ => false) L (i + (d + 1))).R k j = i + j) ∧
      ∀ k', k' < k → (rn (fun _ => false) L (i + (d + 1))).R k' = (rn (fun _ => false) L i).R k' ∧ (rn (fun _ => false) L (i + (d + 1))).len k' = (rn (fun _ => false) L i).len k'
  | 0, hL => by
    have e : rn (fun _ => false) L (i + 1) = ⟨upd (rn (fun _ => false) L i).R k (fun _ => i), upd (rn (fun _ => false) L i).len k 1, k + 1⟩ := by
      show rnStep (fun _ => false) L i (rn (fun _ => false) L i) = _
      have h0 := hL 0 (by omega)
      rw [Nat.add_zero] at h0
      generalize rn (fun _ => false) L i = r at *
      unfold rnStep
      rw [if_neg (show ¬ (false = true) by decide), hm, if_neg (by
        intro hh
        simp only [Bool.and_eq_true, decide_eq_true_eq, beq_iff_eq] at hh
        exact hne hh.1 (hh.2.trans h0))]
    show (rn (fun _ => false) L (i + 1)).m = k + 1 ∧ (rn (fun _ => false) L (i + 1)).len k = 1 ∧ _
    rw [show i + (0 + 1) = i + 1 from rfl, e]
    refine ⟨rfl, (show upd (rn (fun _ => false) L i).len k 1 k = 1 from upd_same _ _ _), fun j hj => ?_, fun k' hk' => ⟨(show upd (rn (fun _ => false) L i).R k (fun _ => i) k' = _ from upd_other _ _ (by omega)), (show upd (rn (fun _ => false) L i).len k 1 k' = _ from upd_other _ _ (by omega))⟩⟩
    show upd (rn (fun _ => false) L i).R k (fun _ => i) k j = i + j
    rw [upd_same]
    omega
  | d + 1, hL => by
    obtain ⟨h1, h2, h3, h4⟩ := rn_block hm hne d (fun j hj => hL j (by omega))
    have e : rn (fun _ => false) L (i + (d + 1) + 1) = ⟨upd (rn (fun _ => false) L (i + (d + 1))).R k (upd ((rn (fun _ => false) L (i + (d + 1))).R k) (d + 1) (i + (d + 1))), upd (rn (fun _ => false) L (i + (d + 1))).len k (d + 1 + 1), k + 1⟩ := by
      show rnStep (fun _ => false) L (i + (d + 1)) (rn (fun _ => false) L (i + (d + 1))) = _
      have h5 := h3 0 (by omega)
      have h6 := hL 0 (by omega)
      have h7 := hL (d + 1) (by omega)
      generalize rn (fun _ => false) L (i + (d + 1)) = r at *
      unfold rnStep
      rw [if_neg (show ¬ (false = true) by decide), h1, show k + 1 - 1 = k by omega, h5, h6, h7, if_pos (by simp), h2]
    rw [show i + (d + 1 + 1) = i + (d + 1) + 1 from rfl, e]
    refine ⟨rfl, (show upd (rn (fun _ => false) L (i + (d + 1))).len k (d + 1 + 1) k = d + 1 + 1 from upd_same _ _ _), fun j hj => ?_, fun k' hk' => ⟨?_, ?_⟩⟩
    · show upd (rn (fun _ => false) L (i + (d + 1))).R k _ k j = i + j
      rw [upd_same]
      by_cases e2 : j = d + 1
      · rw [e2, upd_same]
      · rw [upd_other _ _ e2]; exact h3 j (by omega)
    · exact (upd_other _ _ (by omega)).trans (h4 k' hk').1
    · exact (upd_other _ _ (by omega)).trans (h4 k' hk').2
end
end Go.Proofs.YtdikfldogmbeaaaDoor.Bd
