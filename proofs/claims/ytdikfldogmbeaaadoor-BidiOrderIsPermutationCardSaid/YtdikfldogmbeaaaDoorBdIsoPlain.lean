/- What is in an isolate has no influence on the levels around it. -/
import Derived.Test.YtdikfldogmbeaaaDoorBdIsoRuns
import Derived.Test.YtdikfldogmbeaaaDoorBdCongr
import Derived.Test.YtdikfldogmbeaaaDoorBdOnePlain
namespace Go.Proofs.YtdikfldogmbeaaaDoor.Bd
open Go.RowKit Go.Frm

/-- flags of blanks -/
def gB (k : Int) (b : Bool) : Bool := if k == 11 || k == 10 then true else if k == 12 || decide (14 ≤ k) || k == 9 then b else false
def blF (W : Nat → Int) : Nat → Bool → Nat → Bool
  | 0, _, _ => false
  | i + 1, b, j =>
    if W i == 11 || W i == 10 then j == i || blF W i true j
    else if W i == 12 || decide (14 ≤ W i) || W i == 9 then (j == i && b) || blF W i b j
    else blF W i false j
def fbF (W : Nat → Int) : Nat → Nat → Bool → Bool
  | 0, _, b => b
  | r + 1, i, b => gB (W i) (fbF W r (i + 1) b)
theorem blanks_flag (W : Nat → Int) (base : Int) : ∀ i b L j, blanks W base i b L j = if blF W i b j = true then base else L j
  | 0, _, _, _ => rfl
  | i + 1, b, L, j => by
    unfold blanks blF
    have hu : ∀ (L : Nat → Int), (if j = i then base else L j) = upd L i base j := fun L => rfl
    split
    · rw [blanks_flag W base i]
      by_cases e : j = i
      · subst e
        simp [upd_same]
      · rw [upd_other _ _ e]
        simp [e]
    · split
      · rw [blanks_flag W base i]
        cases b with
        | true =>
          by_cases e : j = i
          · subst e
            simp [upd_same]
          · simp [e, upd_other _ _ e]
        | false => simp
      · exact blanks_flag W base i false L j
theorem blF_ge (W : Nat → Int) : ∀ i b j, i ≤ j → blF W i b j = false
  | 0, _, _, _ => rfl
  | i + 1, b, j, h => by
    unfold blF
    have hne : (j == i) = false := by simp; omega
    rw [hne, blF_ge W i true j (by omega), blF_ge W i b j (by omega), blF_ge W i false j (by omega)]
    simp
theorem blF_step (W : Nat → Int) (i : Nat) (b : Bool) {j : Nat} (h : j < i) : blF W (i + 1) b j = blF W i (gB (W i) b) j := by
  have hne : (j == i) = false := by simp; omega
  unfold gB
  show (if _ then _ else _) = _
  rw [hne]
  split
  · simp
  · split
    · simp
    · rfl
theorem blF_split (W : Nat → Int) : ∀ r i b j, j < i → blF W (i + r) b j = blF W i (fbF W r i b) j
  | 0, _, _, _, _ => rfl
  | r + 1, i, b, j, h => by
    rw [show i + (r + 1) = (i + 1) + r by omega, blF_split W r (i + 1) b j (by omega), blF_step W i _ h]
    rfl
theorem blF_shift {W W' : Nat → Int} {i i' : Nat} : ∀ cnt b t, (∀ u, u < cnt → W (i + u) = W' (i' + u)) → t < cnt → blF W (i + cnt) b (i + t) = blF W' (i' + cnt) b (i' + t)
  | 0, _, _, _, h => absurd h (Nat.not_lt_zero _)
  | cnt + 1, b, t, hW, ht => by
    have e := hW cnt (Nat.lt_succ_self _)
    by_cases e2 : t = cnt
    · subst e2
      show blF W (i + t + 1) b (i + t) = blF W' (i' + t + 1) b (i' + t)
      unfold blF
      rw [e, blF_ge W (i + t) true _ (Nat.le_refl _), blF_ge W (i + t) b _ (Nat.le_refl _), blF_ge W (i + t) false _ (Nat.le_refl _), blF_ge W' (i' + t) true _ (Nat.le_refl _), blF_ge W' (i' + t) b _ (Nat.le_refl _), blF_ge W' (i' + t) false _ (Nat.le_refl _)]
      simp
    · show blF W (i + cnt + 1) b (i + t) = blF W' (i' + cnt + 1) b (i' + t)
      rw [blF_step W (i + cnt) b (by omega), blF_step W' (i' + cnt) b (by omega), e]
      exact blF_shift cnt _ t (fun u hu => hW u (by omega)) (by omega)
theorem blF_congr {W W' : Nat → Int} : ∀ i b j, (∀ u, u < i → W u = W' u) → blF W i b j = blF W' i b j
  | 0, _, _, _ => rfl
  | i + 1, b, j, h => by
    unfold blF
    rw [h i (Nat.lt_succ_self _), blF_congr i true j (fun u hu => h u (by omega)), blF_congr i b j (fun u hu => h u (by omega)), blF_congr i false j (fun u hu => h u (by omega))]

/-- the places of the sequence around the isolate -/
def isoA (p m : Nat) (j : Nat) : Nat := if j < p + 1 then j else p + 1 + m + (j - (p + 1))
section
variable {l : LvP} {p m b : Nat} (h : IsoT l.W p m b) (hn : l.n = p + 1 + m + 1 + b) (hb : 0 ≤ l.base ∧ l.base ≤ 1)
include h hn hb
theorem iso_e : l.e.C = l.W ∧ l.e.O = (fun _ => false) ∧ ∀ j, j < l.n → l.e.L j = isoL l.W p m l.base j := by
  obtain ⟨h1, h2⟩ := ex_behind h hb (n := l.n) b (Nat.le_refl _)
  have he : l.e = ex l.W l.n l.base (p + 1 + m + 1 + b) := by unfold LvP.e; rw [hn]
  rw [he]
  exact ⟨h1.C, h1.O, fun j hj => h2 j (by omega)⟩
omit hb in
theorem iso_M : l.M p = (p + 1 + m : Nat) ∧ ∀ j, j < l.n → j ≠ p → l.M j = -1 := by
  obtain ⟨_, h1, h2⟩ := pr_behind h b (Nat.le_refl _)
  have he : l.M = (pr l.W (p + 1 + m + 1 + b)).M := by unfold LvP.M; rw [hn]
  rw [he]
  exact ⟨h1, fun j hj => h2 j (by omega)⟩
theorem iso_r : l.r.m = 3 ∧ (l.r.len 0 = p + 1 ∧ l.r.len 1 = m ∧ l.r.len 2 = b + 1) ∧ (∀ j, j < p + 1 → l.r.R 0 j = j) ∧ (∀ j, j < m → l.r.R 1 j = p + 1 + j) ∧ ∀ j, j < b + 1 → l.r.R 2 j = p + 1 + m + j := by
  obtain ⟨_, eO, eL⟩ := iso_e h hn hb
  have hm1 := h.m1
  have hnx : nxL l.W p l.base ≠ l.base := by
    have := upL_bd l.base (if l.W p = 20 then 1 else 0)
    unfold nxL
    omega
  have hr : l.r = rn (fun _ => false) l.e.L (p + 1 + m + 1 + b) := by unfold LvP.r; rw [eO, hn]
  obtain ⟨a1, a2, a3, a4⟩ := rn_block (L := l.e.L) (v := l.base) (i := 0) (k := 0) rfl (fun h => absurd h (by decide)) p (fun j hj => by rw [eL _ (by omega)]; unfold isoL; rw [if_neg (by omega)])
  rw [show 0 + (p + 1) = p + 1 by omega] at a1 a2 a3 a4
  obtain ⟨b1, b2, b3, b4⟩ := rn_block (L := l.e.L) (v := nxL l.W p l.base) (i := p + 1) (k := 1) a1 (fun _ => by
    rw [show 1 - 1 = 0 from rfl, a3 0 (by omega), eL _ (by omega)]
    unfold isoL
    rw [if_neg (by omega)]
    exact fun e => hnx e.symm) (m - 1) (fun j hj => by rw [eL _ (by omega)]; unfold isoL; rw [if_pos (by omega)])
  rw [show m - 1 + 1 = m by omega] at b1 b2 b3 b4
  obtain ⟨c1, c2, c3, c4⟩ := rn_block (L := l.e.L) (v := l.base) (i := p + 1 + m) (k := 2) b1 (fun _ => by
    rw [show 2 - 1 = 1 from rfl, b3 0 (by omega), eL _ (by omega)]
    unfold isoL
    rw [if_pos (by omega)]
    exact hnx) b (fun j hj => by rw [eL _ (by omega)]; unfold isoL; rw [if_neg (by omega)])
  rw [show p + 1 + m + (b + 1) = p + 1 + m + 1 + b by omega, ← hr] at c1 c2 c3 c4
  refine ⟨c1, ⟨?_, ?_, c2⟩, fun j hj => ?_, fun j hj => ?_, c3⟩
  · rw [(c4 0 (by omega)).2, (b4 0 (by omega)).2]; exact a2
  · rw [(c4 1 (by omega)).2]; exact b2
  · rw [(c4 0 (by omega)).1, (b4 0 (by omega)).1, a3 j hj]; omega
  · rw [(c4 1 (by omega)).1]; exact b3 j hj
theorem iso_next : nextRun l.M l.r 0 = 3 ∧ nextRun l.M l.r 1 = 0 ∧ nextRun l.M l.r 2 = 0 := by
  obtain ⟨r1, ⟨r2, r3, r4⟩, r5, r6, r7⟩ := iso_r h hn hb
  obtain ⟨m1, m2⟩ := iso_M h hn
  have hm1 := h.m1
  have e0 : lastOf l.r 0 = p := by unfold lastOf; rw [r2, r5 _ (by omega)]; omega
  have e1 : lastOf l.r 1 = p + m := by unfold lastOf; rw [r3, r6 _ (by omega)]; omega
  have e2 : lastOf l.r 2 = p + 1 + m + b := by unfold lastOf; rw [r4, r7 _ (by omega)]; omega
  refine ⟨?_, ?_, ?_⟩
  · unfold nextRun
    rw [e0, m1, if_neg (by omega), Int.toNat_natCast, r1]
    show upd (runAt l.r 2) (l.r.R 2 0) 3 (p + 1 + m) = 3
    rw [r7 0 (by omega)]
    exact upd_same _ _ _
  · unfold nextRun
    rw [e1, m2 _ (by omega) (by omega), if_pos (by decide)]
  · unfold nextRun
    rw [e2, m2 _ (by omega) (by omega), if_pos (by decide)]
theorem iso_ks : l.ks = [0, 1] := by
  obtain ⟨r1, _⟩ := iso_r h hn hb
  obtain ⟨n0, n1, n2⟩ := iso_next h hn hb
  have f1 : folS l.M l.r 1 = upd (fun _ => false) 2 true := by
    show (if 0 < nextRun l.M l.r 0 then _ else _) = _
    rw [n0]; rfl
  have f2 : folS l.M l.r 2 = upd (fun _ => false) 2 true := by
    show (if 0 < nextRun l.M l.r 1 then _ else folS l.M l.r 1) = _
    rw [n1, if_neg (by decide)]; exact f1
  have f3 : folS l.M l.r 3 = upd (fun _ => false) 2 true := by
    show (if 0 < nextRun l.M l.r 2 then _ else folS l.M l.r 2) = _
    rw [n2, if_neg (by decide)]; exact f2
  unfold LvP.ks begs
  rw [r1, f3]
  rfl
theorem iso_q0 : (l.Sf 0).n = p + 1 + (b + 1) ∧ (∀ j, j < p + 1 + (b + 1) → (l.Sf 0).A j = isoA p m j) ∧ (l.Sf 0).lv = l.base ∧ (l.Sf 0).bg = side l.base ∧ (l.Sf 0).en = side l.base := by
  obtain ⟨r1, ⟨r2, r3, r4⟩, r5, r6, r7⟩ := iso_r h hn hb
  obtain ⟨n0, n1, n2⟩ := iso_next h hn hb
  obtain ⟨_, eO, eL⟩ := iso_e h hn hb
  have hat : seqAt l.M l.r 0 = atAdd l.r 2 (atAdd l.r 0 ⟨fun _ => 0, 0⟩) := by
    unfold seqAt
    rw [r1]
    show (if nextRun l.M l.r 0 = 0 then _ else chainA l.M l.r 2 (nextRun l.M l.r 0 - 1) (atAdd l.r 0 ⟨fun _ => 0, 0⟩)) = _
    rw [n0, if_neg (by decide)]
    show (if nextRun l.M l.r 2 = 0 then _ else _) = _
    rw [n2, if_pos rfl]
  have hN : (l.Sf 0).n = p + 1 + (b + 1) := by
    rw [l.Sfn, hat]
    show 0 + l.r.len 0 + l.r.len 2 = _
    rw [r2, r4]; omega
  have hA : ∀ j, j < p + 1 + (b + 1) → (l.Sf 0).A j = isoA p m j := fun j hj => by
    rw [l.SfA, hat]
    show (if j < 0 + l.r.len 0 then (if j < 0 then 0 else l.r.R 0 (j - 0)) else l.r.R 2 (j - (0 + l.r.len 0))) = _
    rw [r2, Nat.zero_add]
    unfold isoA
    by_cases hj1 : j < p + 1
    · rw [if_pos hj1, if_pos hj1, if_neg (by omega)]
      exact r5 j hj1
    · rw [if_neg hj1, if_neg hj1]
      exact r7 _ (by omega)
  have hlv : (l.Sf 0).lv = l.base := by
    show l.e.L (l.r.R 0 0) = _
    rw [r5 0 (by omega), eL 0 (by omega)]
    unfold isoL
    rw [if_neg (by omega)]
  have hmx : mx l.base l.base = l.base := by unfold mx; split <;> rfl
  refine ⟨hN, hA, hlv, ?_, ?_⟩
  · show side (mx (prevL l.e.O l.e.L l.base ((l.Sf 0).A 0)) (l.Sf 0).lv) = _
    rw [hA 0 (by omega), hlv]
    unfold isoA
    rw [if_pos (by omega)]
    show side (mx l.base l.base) = _
    rw [hmx]
  · show side (mx (afterOf (sqOf l.M l.r l.W l.e.L 0) l.e.O l.e.L l.M l.base l.n) (l.Sf 0).lv) = _
    have hl : lastA (sqOf l.M l.r l.W l.e.L 0) = l.n - 1 := by
      show (l.Sf 0).A ((l.Sf 0).n - 1) = _
      rw [hN, hA _ (by omega)]
      unfold isoA
      rw [if_neg (by omega)]
      omega
    unfold afterOf
    rw [hl]
    have hw : (sqOf l.M l.r l.W l.e.L 0).W = l.W := rfl
    have hni : iso (l.W (l.n - 1)) = false := by
      by_cases hb0 : b = 0
      · rw [show l.n - 1 = p + 1 + m by omega, h.cl]; rfl
      · exact pc_iso (h.pc _ (by omega) (by omega) (by omega))
    rw [hw, hni, if_neg (fun h => absurd h.1 (by decide)), show l.n - (l.n - 1 + 1) = 0 by omega, hlv]
    show side (mx l.base l.base) = _
    rw [hmx]
theorem iso_q1 : (l.Sf 1).n = m ∧ ∀ j, j < m → (l.Sf 1).A j = p + 1 + j := by
  obtain ⟨r1, ⟨r2, r3, r4⟩, r5, r6, r7⟩ := iso_r h hn hb
  obtain ⟨n0, n1, n2⟩ := iso_next h hn hb
  have hat : seqAt l.M l.r 1 = atAdd l.r 1 ⟨fun _ => 0, 0⟩ := by
    unfold seqAt
    rw [r1]
    show (if nextRun l.M l.r 1 = 0 then _ else _) = _
    rw [n1, if_pos rfl]
  refine ⟨?_, fun j hj => ?_⟩
  · rw [l.Sfn, hat]
    show 0 + l.r.len 1 = m
    rw [r3]; omega
  · rw [l.SfA, hat]
    show (if j < 0 then 0 else l.r.R 1 (j - 0)) = _
    rw [if_neg (by omega)]
    exact r6 j hj
/-- the level at a place around the isolate, ahead of blanks -/
theorem iso_raw {j : Nat} (hj : j < p + 1 + (b + 1)) : l.raw (isoA p m j) = (l.Sf 0).lev ((l.Sf 0).cls (tbV brTb) l.X l.W) l.e.L (l.Sf 0).n ((l.Sf 0).A j) := by
  obtain ⟨eC, _, _⟩ := iso_e h hn hb
  obtain ⟨q1, q2⟩ := iso_q1 h hn hb
  obtain ⟨_, qA, _⟩ := iso_q0 h hn hb
  have hraw : l.raw = (l.Sf 1).lev ((l.Sf 1).cls (tbV brTb) l.X ((l.Sf 0).cls (tbV brTb) l.X l.e.C)) ((l.Sf 0).lev ((l.Sf 0).cls (tbV brTb) l.X l.e.C) l.e.L (l.Sf 0).n) (l.Sf 1).n := by
    unfold LvP.raw seqFold
    rw [iso_ks h hn hb]
    rfl
  rw [hraw, qA j hj, eC]
  refine lev_off _ _ _ _ (fun k hk => ?_)
  rw [q2 k (by omega)]
  unfold isoA
  split <;> omega
theorem iso_tail : ∀ j, l.lev j = if blF l.W l.n true j = true then l.base else l.raw j := fun j => by
  obtain ⟨_, eO, _⟩ := iso_e h hn hb
  unfold LvP.lev
  rw [eO, tailL_calm, blanks_flag]
end
theorem iso_same {l l' : LvP} {p m m' b : Nat} (h : IsoT l.W p m b) (hn : l.n = p + 1 + m + 1 + b) (hb : 0 ≤ l.base ∧ l.base ≤ 1) (h' : IsoT l'.W p m' b) (hn' : l'.n = p + 1 + m' + 1 + b) (hbb : l.base = l'.base)
    (hWA : ∀ j, j < p + 1 → l.W j = l'.W j) (hWB : ∀ t, t < b + 1 → l.W (p + 1 + m + t) = l'.W (p + 1 + m' + t)) (hXA : ∀ j, j < p + 1 → l.X j = l'.X j) (hXB : ∀ t, t < b + 1 → l.X (p + 1 + m + t) = l'.X (p + 1 + m' + t))
    (h0 : l.W (p + 1) = 0) (h0' : l'.W (p + 1) = 0) :
    (∀ j, j < p + 1 → l.lev j = l'.lev j) ∧ ∀ t, t < b + 1 → l.lev (p + 1 + m + t) = l'.lev (p + 1 + m' + t) := by
  have hb' : 0 ≤ l'.base ∧ l'.base ≤ 1 := hbb ▸ hb
  obtain ⟨q1, q2, q3, q4, q5⟩ := iso_q0 h hn hb
  obtain ⟨q1', q2', q3', q4', q5'⟩ := iso_q0 h' hn' hb'
  have hm1 := h.m1
  have hm1' := h'.m1
  have hat : ∀ (F F' : Nat → Int), (∀ j, j < p + 1 → F j = F' j) → (∀ t, t < b + 1 → F (p + 1 + m + t) = F' (p + 1 + m' + t)) → Rel (l.Sf 0) (l'.Sf 0) F F' := fun F F' hA hB k hk => by
    rw [q1] at hk
    rw [q2 k hk, q2' k hk]
    unfold isoA
    by_cases hkp : k < p + 1
    · rw [if_pos hkp, if_pos hkp]; exact hA k hkp
    · rw [if_neg hkp, if_neg hkp]; exact hB _ (by omega)
  have hW := hat l.W l'.W hWA hWB
  have hinj : ∀ m i j : Nat, isoA p m i = isoA p m j → i = j := fun m i j e => by
    unfold isoA at e
    split at e <;> split at e <;> omega
  have t : Twin (l.Sf 0) (l'.Sf 0) := ⟨by rw [q1, q1'], by rw [q3, q3', hbb], by rw [q4, q4', hbb], by rw [q5, q5', hbb],
    fun i j hi hj e => hinj m i j (by rw [← q2 i (by omega), ← q2 j (by omega)]; exact e), fun i j hi hj e => hinj m' i j (by rw [← q2' i (by omega), ← q2' j (by omega)]; exact e), hW⟩
  obtain ⟨_, _, eL⟩ := iso_e h hn hb
  obtain ⟨_, _, eL'⟩ := iso_e h' hn' hb'
  have hL : Rel (l.Sf 0) (l'.Sf 0) l.e.L l'.e.L := hat _ _ (fun j hj => by
    rw [eL _ (by omega), eL' _ (by omega)]
    unfold isoL
    rw [if_neg (by omega), if_neg (by omega), hbb]) (fun t ht => by
    rw [eL _ (by omega), eL' _ (by omega)]
    unfold isoL
    rw [if_neg (by omega), if_neg (by omega), hbb])
  have hX := hat l.X l'.X hXA hXB
  have hlev := t.lev (t.cls (tbV brTb) hX hW) hL (l.Sf 0).n (Nat.le_refl _)
  have hraw : ∀ j, j < p + 1 + (b + 1) → l.raw (isoA p m j) = l'.raw (isoA p m' j) := fun j hj => by
    rw [iso_raw h hn hb hj, iso_raw h' hn' hb' hj, hlev j (by omega), t.n]
  have fz : ∀ {W : Nat → Int} (m r : Nat) (b : Bool), 1 ≤ m → W (p + 1) = 0 → fbF W (m + r) (p + 1) b = false := fun {W} m r b hm hw => by
    obtain ⟨m, rfl⟩ : ∃ k, m = k + 1 := ⟨m - 1, by omega⟩
    rw [show m + 1 + r = (m + r) + 1 by omega]
    show gB (W (p + 1)) _ = false
    rw [hw]
    rfl
  constructor
  · intro j hj
    rw [iso_tail h hn hb, iso_tail h' hn' hb']
    have e1 := hraw j (by omega)
    unfold isoA at e1
    rw [if_pos hj, if_pos hj] at e1
    have f1 : blF l.W l.n true j = blF l'.W l'.n true j := by
      rw [hn, hn', show p + 1 + m + 1 + b = (p + 1) + (m + (1 + b)) by omega, show p + 1 + m' + 1 + b = (p + 1) + (m' + (1 + b)) by omega, blF_split _ _ _ _ _ hj, blF_split _ _ _ _ _ hj, fz _ _ _ hm1 h0, fz _ _ _ hm1' h0']
      exact blF_congr _ _ _ hWA
    rw [e1, f1, hbb]
  · intro t ht
    rw [iso_tail h hn hb, iso_tail h' hn' hb']
    have e1 := hraw (p + 1 + t) (by omega)
    unfold isoA at e1
    rw [if_neg (by omega), if_neg (by omega), show p + 1 + t - (p + 1) = t by omega] at e1
    have f1 : blF l.W l.n true (p + 1 + m + t) = blF l'.W l'.n true (p + 1 + m' + t) := by
      rw [hn, hn', show p + 1 + m + 1 + b = p + 1 + m + (b + 1) by omega, show p + 1 + m' + 1 + b = p + 1 + m' + (b + 1) by omega]
      exact blF_shift (b + 1) true t hWB ht
    rw [e1, f1, hbb]
end Go.Proofs.YtdikfldogmbeaaaDoor.Bd
