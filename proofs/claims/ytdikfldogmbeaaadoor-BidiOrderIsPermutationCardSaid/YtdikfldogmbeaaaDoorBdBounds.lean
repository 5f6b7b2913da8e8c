/- The levels lie between that of the paragraph and 126. -/
import Derived.Test.YtdikfldogmbeaaaDoorBdMatch
import Derived.Test.YtdikfldogmbeaaaDoorBdIsoPlain
namespace Go.Proofs.YtdikfldogmbeaaaDoor.Bd
open Go.RowKit Go.Frm

section
variable {O : Nat → Bool} {L M : Nat → Int} {n : Nat} {r : Rn}
theorem last_inj (h : RnOk O L n r) {k k' : Nat} (hk : k < r.m) (hk' : k' < r.m) (e : lastOf r k = lastOf r k') : k = k' := by
  have hl : ∀ k k', k < k' → k' < r.m → lastOf r k ≠ lastOf r k' := fun k k' h1 h2 e => by
    have h3 := h.heads k' h1 h2
    have h4 := h.head_last h2 (r.len k' - 1) (by have := h.len k' h2; omega)
    unfold lastOf at *
    omega
  rcases Nat.lt_trichotomy k k' with h1 | h1 | h1
  · exact absurd e (hl k k' h1 hk')
  · exact h1
  · exact absurd e.symm (hl k' k h1 hk)
theorem next_head {k : Nat} (h0 : 0 < nextRun M r k) : 0 ≤ M (lastOf r k) ∧ r.R (nextRun M r k - 1) 0 = (M (lastOf r k)).toNat := by
  unfold nextRun at *
  split at h0
  · omega
  · rename_i hm
    rw [if_neg hm]
    exact ⟨by omega, (runAt_spec r r.m _).2 h0⟩
theorem next_inj (h : RnOk O L n r) (hinj : ∀ j j', j < n → j' < n → 0 ≤ M j → M j = M j' → j = j') {k k' : Nat} (hk : k < r.m) (hk' : k' < r.m) (h0 : 0 < nextRun M r k) (e : nextRun M r k = nextRun M r k') : k = k' := by
  obtain ⟨h1, h2⟩ := next_head (M := M) h0
  obtain ⟨h3, h4⟩ := next_head (M := M) (r := r) (k := k') (by omega)
  rw [← e] at h4
  have h5 : M (lastOf r k) = M (lastOf r k') := by omega
  exact last_inj h hk hk' (hinj _ _ (h.last_lt hk) (h.last_lt hk') h1 h5)
theorem fol_of {j : Nat} : ∀ K k, k < K → nextRun M r k = j + 1 → folS M r K j = true
  | 0, k, hk, _ => absurd hk (Nat.not_lt_zero k)
  | K + 1, k, hk, e => by
    show (if 0 < nextRun M r K then upd (folS M r K) (nextRun M r K - 1) true else folS M r K) j = true
    by_cases hkK : k = K
    · subst hkK
      rw [if_pos (by omega), e, Nat.add_sub_cancel]
      exact upd_same _ _ _
    · have ih := fol_of (j := j) K k (by omega) e
      split
      · unfold upd
        split
        · rfl
        · exact ih
      · exact ih
/-- d runs on -/
def itn (M : Nat → Int) (r : Rn) : Nat → Nat → Option Nat
  | 0, k => some k
  | d + 1, k => (itn M r d k).bind fun y => if nextRun M r y = 0 then none else some (nextRun M r y - 1)
theorem itn_succ {d k x : Nat} (h : itn M r (d + 1) k = some x) : ∃ y, itn M r d k = some y ∧ nextRun M r y = x + 1 := by
  unfold itn at h
  cases hy : itn M r d k with
  | none => rw [hy] at h; cases h
  | some y =>
    rw [hy] at h
    simp only [Option.bind_some] at h
    split at h
    · cases h
    · injection h with h
      exact ⟨y, rfl, by omega⟩
theorem itn_lt (h : RnOk O L n r) (hM : MOk M n) {k : Nat} (hk : k < r.m) : ∀ d x, itn M r d k = some x → x < r.m
  | 0, x, e => by injection e with e; omega
  | d + 1, x, e => by
    obtain ⟨y, h1, h2⟩ := itn_succ e
    have h3 := itn_lt h hM hk d y h1
    have h4 := (nextRun_spec h hM h3).1
    omega
/-- two beginnings lead to no run in common -/
theorem itn_uniq (h : RnOk O L n r) (hM : MOk M n) (hinj : ∀ j j', j < n → j' < n → 0 ≤ M j → M j = M j' → j = j') {k k' : Nat} (hk : k < r.m) (hk' : k' < r.m) (hb : folS M r r.m k = false) (hb' : folS M r r.m k' = false) : ∀ d d' x, itn M r d k = some x → itn M r d' k' = some x → k = k'
  | 0, 0, x, e, e' => by
    injection e with e
    injection e' with e'
    omega
  | 0, d' + 1, x, e, e' => by
    injection e with e
    obtain ⟨y, h1, h2⟩ := itn_succ e'
    have := fol_of r.m y (itn_lt h hM hk' d' y h1) h2
    rw [← e, hb] at this
    cases this
  | d + 1, 0, x, e, e' => by
    injection e' with e'
    obtain ⟨y, h1, h2⟩ := itn_succ e
    have := fol_of r.m y (itn_lt h hM hk d y h1) h2
    rw [← e', hb'] at this
    cases this
  | d + 1, d' + 1, x, e, e' => by
    obtain ⟨y, h1, h2⟩ := itn_succ e
    obtain ⟨y', h3, h4⟩ := itn_succ e'
    have hy : y = y' := next_inj h hinj (itn_lt h hM hk d y h1) (itn_lt h hM hk' d' y' h3) (by omega) (by omega)
    subst hy
    exact itn_uniq h hM hinj hk hk' hb hb' d d' y h1 h3
theorem itn_head {k y : Nat} (hn : nextRun M r k ≠ 0) : ∀ d, itn M r d (nextRun M r k - 1) = some y → itn M r (d + 1) k = some y
  | 0, e => by
    injection e with e
    show (itn M r 0 k).bind _ = _
    show (if nextRun M r k = 0 then none else some (nextRun M r k - 1)) = some y
    rw [if_neg hn, e]
  | d + 1, e => by
    obtain ⟨z, h1, h2⟩ := itn_succ e
    have h3 := itn_head hn d h1
    show (itn M r (d + 1) k).bind _ = some y
    rw [h3]
    show (if nextRun M r z = 0 then none else some (nextRun M r z - 1)) = some y
    rw [if_neg (by omega), h2]
    rfl
/-- the places of a chain lie in its runs -/
theorem chain_places : ∀ f k a j, j < (chainA M r f k a).n → (j < a.n ∧ (chainA M r f k a).A j = a.A j) ∨ ∃ d y, itn M r d k = some y ∧ ∃ t, t < r.len y ∧ (chainA M r f k a).A j = r.R y t
  | 0, k, a, j, hj => .inl ⟨hj, rfl⟩
  | f + 1, k, a, j, hj => by
    have hadd : ∀ j, j < (atAdd r k a).n → (j < a.n ∧ (atAdd r k a).A j = a.A j) ∨ ∃ t, t < r.len k ∧ (atAdd r k a).A j = r.R k t := fun j hj => by
      have hj' : j < a.n + r.len k := hj
      show (j < a.n ∧ (if j < a.n then a.A j else r.R k (j - a.n)) = a.A j) ∨ ∃ t, t < r.len k ∧ (if j < a.n then a.A j else r.R k (j - a.n)) = r.R k t
      by_cases h1 : j < a.n
      · exact .inl ⟨h1, if_pos h1⟩
      · exact .inr ⟨j - a.n, by omega, if_neg h1⟩
    by_cases hn : nextRun M r k = 0
    · have e : chainA M r (f + 1) k a = atAdd r k a := by unfold chainA; rw [if_pos hn]
      rw [e] at hj ⊢
      rcases hadd j hj with h1 | ⟨t, h1, h2⟩
      · exact .inl h1
      · exact .inr ⟨0, k, rfl, t, h1, h2⟩
    · have e : chainA M r (f + 1) k a = chainA M r f (nextRun M r k - 1) (atAdd r k a) := by
        show (if nextRun M r k = 0 then _ else _) = _
        rw [if_neg hn]
      rw [e] at hj ⊢
      rcases chain_places f _ _ j hj with ⟨h1, h2⟩ | ⟨d, y, h1, t, h2, h3⟩
      · rcases hadd j h1 with ⟨h3, h4⟩ | ⟨t, h3, h4⟩
        · exact .inl ⟨h3, h2.trans h4⟩
        · exact .inr ⟨0, k, rfl, t, h3, h2.trans h4⟩
      · exact .inr ⟨d + 1, y, itn_head hn d h1, t, h2, h3⟩
/-- all runs of a chain have one level -/
theorem itn_level (h : RnOk O L n r) (hM : MOk M n) (hlv : ∀ j, j < n → 0 ≤ M j → L (M j).toNat = L j) {k : Nat} (hk : k < r.m) : ∀ d x, itn M r d k = some x → L (r.R x 0) = L (r.R k 0)
  | 0, x, e => by injection e with e; rw [e]
  | d + 1, x, e => by
    obtain ⟨y, h1, h2⟩ := itn_succ e
    have h3 := itn_lt h hM hk d y h1
    obtain ⟨h4, h5⟩ := next_head (M := M) (r := r) (k := y) (by omega)
    rw [h2, Nat.add_sub_cancel] at h5
    rw [h5, hlv _ (h.last_lt h3) h4, ← itn_level h hM hlv hk d y h1]
    exact h.lv y _ h3 (by have := h.len y h3; omega)
end
/-- what becomes of a level -/
def bump (lv c x : Int) : Int := if lv % 2 = 0 ∧ c = 1 then x + 1 else if lv % 2 = 0 ∧ (c = 3 ∨ c = 6) then x + 2 else if lv % 2 = 1 ∧ c ≠ 1 then x + 1 else x
theorem bump_bd {lv c : Int} (h : 0 ≤ lv ∧ lv ≤ 125) : lv ≤ bump lv c lv ∧ bump lv c lv ≤ 126 := by
  unfold bump
  repeat' split
  all_goals omega
theorem imp_at (q : Sq) (C L : Nat → Int) (k : Nat) : q.imp C k L (q.A k) = bump q.lv (q.get C k) (L (q.A k)) := by
  unfold Sq.imp bump
  repeat' split
  all_goals first | exact upd_same _ _ _ | rfl
theorem imp_off (q : Sq) (C L : Nat → Int) {k j : Nat} (h : q.A k ≠ j) : q.imp C k L j = L j := by
  unfold Sq.imp
  repeat' split
  all_goals first | rfl | exact upd_other _ _ (fun e => h e.symm)
theorem lev_on (q : Sq) (C L : Nat → Int) (N : Nat) (hinj : ∀ a b, a < N → b < N → q.A a = q.A b → a = b) {t : Nat} (ht : t < N) : ∀ K, K ≤ N → q.lev C L K (q.A t) = if t < K then bump q.lv (q.get C t) (L (q.A t)) else L (q.A t)
  | 0, _ => rfl
  | K + 1, hK => by
    rw [lev_succ]
    by_cases e : K = t
    · subst e
      rw [imp_at, lev_on q C L N hinj ht K (by omega), if_neg (by omega), if_pos (by omega)]
    · rw [imp_off _ _ _ (fun h => e (hinj K t (by omega) ht h)), lev_on q C L N hinj ht K (by omega)]
      by_cases h1 : t < K
      · rw [if_pos h1, if_pos (by omega)]
      · rw [if_neg h1, if_neg (by omega)]
section
variable (l : LvP) (hb : 0 ≤ l.base ∧ l.base ≤ 1)
include hb
theorem lvp_mt : Mt l.W l.n l.e ⟨l.M, (pr l.W l.n).S, (pr l.W l.n).m⟩ := mt_ok l.W l.n hb l.n
theorem place_level {k : Nat} (hk : k < l.r.m) {t : Nat} (ht : t < (l.Sf k).n) : ∃ d y, itn l.M l.r d k = some y ∧ (∃ u, u < l.r.len y ∧ (l.Sf k).A t = l.r.R y u) ∧ l.e.L ((l.Sf k).A t) = (l.Sf k).lv ∧ (l.Sf k).A t < l.n := by
  have hm := lvp_mt l hb
  rcases chain_places l.r.m k ⟨fun _ => 0, 0⟩ t ht with ⟨h1, _⟩ | ⟨d, y, h1, u, h2, h3⟩
  · exact absurd h1 (Nat.not_lt_zero t)
  · have hy := itn_lt l.rok l.mok hk d y h1
    refine ⟨d, y, h1, ⟨u, h2, h3⟩, ?_, ?_⟩
    · show l.e.L ((chainA l.M l.r l.r.m k ⟨fun _ => 0, 0⟩).A t) = l.e.L (l.r.R k 0)
      rw [h3, l.rok.lv y u hy h2]
      exact itn_level l.rok l.mok (fun j hj h0 => (hm.mat j hj h0).2) hk d y h1
    · show (chainA l.M l.r l.r.m k ⟨fun _ => 0, 0⟩).A t < l.n
      rw [h3]
      exact l.rok.lt y u hy h2
theorem place_uniq {k k' : Nat} (hk : k ∈ l.ks) (hk' : k' ∈ l.ks) {t t' : Nat} (ht : t < (l.Sf k).n) (ht' : t' < (l.Sf k').n) (e : (l.Sf k).A t = (l.Sf k').A t') : k = k' := by
  have hm := lvp_mt l hb
  obtain ⟨d, y, h1, ⟨u, h2, h3⟩, _⟩ := place_level l hb (l.ks_lt hk) ht
  obtain ⟨d', y', h1', ⟨u', h2', h3'⟩, _⟩ := place_level l hb (l.ks_lt hk') ht'
  have hy := itn_lt l.rok l.mok (l.ks_lt hk) d y h1
  have hy' := itn_lt l.rok l.mok (l.ks_lt hk') d' y' h1'
  have hR : l.r.R y u = l.r.R y' u' := by rw [← h3, e, h3']
  have hyy : y = y' := by
    have hlt : ∀ y y' u u', y < y' → y' < l.r.m → u < l.r.len y → u' < l.r.len y' → l.r.R y u ≠ l.r.R y' u' := fun y y' u u' h4 h5 h6 h7 h8 => by
      have a1 := l.rok.run_lt (k := y) (by omega) (l.r.len y - 1 - u) u (by omega)
      have a2 := l.rok.heads y' h4 h5
      have a3 := l.rok.head_last h5 u' h7
      omega
    rcases Nat.lt_trichotomy y y' with h4 | h4 | h4
    · exact absurd hR (hlt _ _ _ _ h4 hy' h2 h2')
    · exact h4
    · exact absurd hR.symm (hlt _ _ _ _ h4 hy h2' h2)
  subst hyy
  have hf : ∀ k, k ∈ l.ks → folS l.M l.r l.r.m k = false := fun k hk => by
    have h9 : k ∈ (List.range l.r.m).filter fun j => !folS l.M l.r l.r.m j := hk
    simp at h9
    exact h9.2
  exact itn_uniq l.rok l.mok (fun j j' hj hj' h0 he => hm.minj j j' hj hj' h0 he) (l.ks_lt hk) (l.ks_lt hk') (hf k hk) (hf k' hk') d d' y h1 h1'
omit hb in
theorem ks_nodup : l.ks.Nodup := (List.nodup_range).filter _
theorem cl_level : ∀ i, i ≤ l.ks.length → ∀ j, j < l.n → (l.cl i).2 j = l.e.L j ∨ (l.e.L j ≤ (l.cl i).2 j ∧ (l.cl i).2 j ≤ 126 ∧ ∃ k, k ∈ l.ks.take i ∧ ∃ t, t < (l.Sf k).n ∧ (l.Sf k).A t = j)
  | 0, _, j, _ => .inl rfl
  | i + 1, hi, j, hj => by
    have hil : i < l.ks.length := by omega
    have hkm : l.ks[i] ∈ l.ks := List.getElem_mem hil
    have ih := cl_level i (by omega) j hj
    rw [l.cl_succ hil]
    have htk : l.ks.take (i + 1) = l.ks.take i ++ [l.ks[i]] := List.take_succ_eq_append_getElem hil
    generalize hk : l.ks[i] = k at *
    have hinj : ∀ a b, a < (l.Sf k).n → b < (l.Sf k).n → (l.Sf k).A a = (l.Sf k).A b → a = b := fun a b ha hb' e => by
      have hat := (l.at_ (l.ks_lt hkm)).1
      have hmono : ∀ d a, a + d + 1 < (l.Sf k).n → (l.Sf k).A a < (l.Sf k).A (a + d + 1) := by
        intro d
        induction d with
        | zero => intro a h; exact hat.inc a h
        | succ d ihd =>
          intro a h
          have h1 := ihd a (by omega)
          have h2 : (l.Sf k).A (a + d + 1) < (l.Sf k).A (a + d + 1 + 1) := hat.inc (a + d + 1) (show a + d + 1 + 1 < (l.Sf k).n by omega)
          rw [show a + (d + 1) + 1 = a + d + 1 + 1 by omega]
          omega
      rcases Nat.lt_trichotomy a b with h1 | h1 | h1
      · have := hmono (b - a - 1) a (by omega)
        rw [show a + (b - a - 1) + 1 = b by omega] at this
        omega
      · exact h1
      · have := hmono (a - b - 1) b (by omega)
        rw [show b + (a - b - 1) + 1 = a by omega] at this
        omega
    show (l.Sf k).lev ((l.Sf k).cls (tbV brTb) l.X (l.cl i).1) (l.cl i).2 (l.Sf k).n j = l.e.L j ∨ (l.e.L j ≤ (l.Sf k).lev ((l.Sf k).cls (tbV brTb) l.X (l.cl i).1) (l.cl i).2 (l.Sf k).n j ∧ (l.Sf k).lev ((l.Sf k).cls (tbV brTb) l.X (l.cl i).1) (l.cl i).2 (l.Sf k).n j ≤ 126 ∧ _)
    by_cases hp : ∃ t, t < (l.Sf k).n ∧ (l.Sf k).A t = j
    · obtain ⟨t, ht, rfl⟩ := hp
      right
      have hun : (l.cl i).2 ((l.Sf k).A t) = l.e.L ((l.Sf k).A t) := by
        rcases ih with h1 | ⟨_, _, k0, hk0, t0, ht0, e0⟩
        · exact h1
        · exfalso
          have hkk := place_uniq l hb (List.mem_of_mem_take hk0) hkm ht0 ht e0
          subst hkk
          have hnd := ks_nodup l
          have h2 : (l.ks.take (i + 1)).Nodup := hnd.sublist (List.take_sublist _ _)
          rw [htk, List.nodup_append] at h2
          exact h2.2.2 _ hk0 _ (List.mem_singleton_self _) rfl
      obtain ⟨_, _, _, _, hlv, _⟩ := place_level l hb (l.ks_lt hkm) ht
      have hb2 := (ex_L l.W l.n hb l.n).1 _ hj
      have hb3 : l.base ≤ l.e.L ((l.Sf k).A t) ∧ l.e.L ((l.Sf k).A t) ≤ 125 := hb2
      rw [lev_on _ _ _ (l.Sf k).n hinj ht _ (Nat.le_refl _), if_pos ht, hun, hlv]
      have h4 := bump_bd (lv := (l.Sf k).lv) (c := (l.Sf k).get ((l.Sf k).cls (tbV brTb) l.X (l.cl i).1) t) (by omega)
      exact ⟨h4.1, h4.2, k, by rw [htk]; simp, t, ht, rfl⟩
    · rw [lev_off _ _ _ _ (fun t ht e => hp ⟨t, ht, e⟩)]
      rcases ih with h1 | ⟨h1, h2, k0, hk0, h3⟩
      · exact .inl h1
      · exact .inr ⟨h1, h2, k0, by rw [htk]; exact List.mem_append_left _ hk0, h3⟩
theorem lev_126 {j : Nat} (hj : j < l.n) : l.base ≤ l.lev j ∧ l.lev j ≤ 126 := by
  have hraw : ∀ j, j < l.n → l.base ≤ l.raw j ∧ l.raw j ≤ 126 := fun j hj => by
    have e : l.raw = (l.cl l.ks.length).2 := by
      unfold LvP.cl LvP.raw
      rw [List.take_length]
    have hb2 : l.base ≤ l.e.L j ∧ l.e.L j ≤ 125 := (ex_L l.W l.n hb l.n).1 _ hj
    rw [e]
    rcases cl_level l hb _ (Nat.le_refl _) j hj with h1 | ⟨h1, h2, _⟩
    · rw [h1]; omega
    · omega
  have htail : ∀ i, i ≤ l.n → ∀ j, j < l.n → l.base ≤ tailL l.e.O l.raw l.base i j ∧ tailL l.e.O l.raw l.base i j ≤ 126 := by
    intro i
    induction i with
    | zero => intro _ j hj; exact hraw j hj
    | succ i ih =>
      intro hi j hj
      unfold tailL
      split
      · unfold upd
        split
        · split
          · omega
          · exact ih (by omega) _ (by omega)
        · exact ih (by omega) j hj
      · exact ih (by omega) j hj
  unfold LvP.lev
  rw [blanks_flag]
  split
  · omega
  · exact htail _ (Nat.le_refl _) j hj
end
end Go.Proofs.YtdikfldogmbeaaaDoor.Bd
