/- What the clock of a presenter does, in plain Lean. -/
import Derived.Test.YtmnbcpinlgklpaaSlices
namespace Go.Proofs.Ytmnbcpinlgklpaa.Clk
open Go.RowKit Go.Frm

/-- the state of the clock: the slides that were shown have numbers sn, times tm and counts ct -/
structure CS where
  run : Bool
  tot : Int
  sl : Int
  n : Nat
  sn : Nat → Int
  tm : Nat → Int
  ct : Nat → Int
def init : CS := ⟨false, 0, 0, 0, fun _ => 0, fun _ => 0, fun _ => 0⟩
def passS (s : CS) (t : Int) : CS := if s.run then { s with tot := s.tot + t, tm := fun i => if s.sn i = s.sl then s.tm i + t else s.tm i } else s
/-- the first place of a number -/
def fnd (sn : Nat → Int) (x : Int) : Nat → Option Nat
  | 0 => none
  | k + 1 => match fnd sn x k with
    | some i => some i
    | none => if sn k = x then some k else none
def showS (s : CS) (x : Int) : CS := match fnd s.sn x s.n with
  | some i => { s with sl := x, ct := if s.sl = x then s.ct else upd s.ct i (s.ct i + 1) }
  | none => { s with sl := x, n := s.n + 1, sn := upd s.sn s.n x, tm := upd s.tm s.n 0, ct := upd s.ct s.n 1 }
def kindS (s : CS) (k x : Int) : CS := if k = 0 then { s with run := true } else if k = 1 ∨ k = 3 then { s with run := false } else if k = 2 then showS s x else s
/-- the events: kinds, times, slides -/
structure Evs where
  N : Nat
  ek : Nat → Int
  ea : Nat → Int
  es : Nat → Int
def oneS (E : Evs) (at_ : Int) (i : Nat) (s : CS) (last : Int) : CS × Int :=
  (if at_ < E.ea i then passS s (min (E.ea i) at_ - last) else kindS (passS s (min (E.ea i) at_ - last)) (E.ek i) (E.es i), min (E.ea i) at_)
def stepS (E : Evs) (at_ : Int) : Nat → CS × Int
  | 0 => (init, 0)
  | i + 1 => oneS E at_ i (stepS E at_ i).1 (stepS E at_ i).2
theorem stepS_succ (E : Evs) (at_ : Int) (i : Nat) : stepS E at_ (i + 1) = oneS E at_ i (stepS E at_ i).1 (stepS E at_ i).2 := rfl
def rep (E : Evs) (at_ : Int) : CS := passS (stepS E at_ E.N).1 (at_ - (stepS E at_ E.N).2)

theorem fnd_some {sn : Nat → Int} {x : Int} : ∀ {n i : Nat}, fnd sn x n = some i → i < n ∧ sn i = x ∧ ∀ j, j < i → sn j ≠ x := by
  intro n
  induction n with
  | zero => intro i h; cases h
  | succ n ih =>
    intro i h
    unfold fnd at h
    split at h
    · rename_i k hk
      cases h
      obtain ⟨h1, h2, h3⟩ := ih hk
      exact ⟨by omega, h2, h3⟩
    · rename_i hk
      split at h
      · cases h
        refine ⟨by omega, by assumption, fun j hj => ?_⟩
        clear ih
        intro he
        have hno : ∀ m, fnd sn x m = none → ∀ j, j < m → sn j ≠ x := by
          intro m
          induction m with
          | zero => intro _ j hj; omega
          | succ m ihm =>
            intro hm j hj
            unfold fnd at hm
            split at hm
            · cases hm
            · rename_i hm2
              split at hm
              · cases hm
              · by_cases hjm : j = m
                · rw [hjm]; assumption
                · exact ihm hm2 j (by omega)
        exact hno _ hk j hj he
      · cases h
theorem fnd_none {sn : Nat → Int} {x : Int} : ∀ {m : Nat}, fnd sn x m = none → ∀ j, j < m → sn j ≠ x := by
  intro m
  induction m with
  | zero => intro _ j hj; omega
  | succ m ihm =>
    intro hm j hj
    unfold fnd at hm
    split at hm
    · cases hm
    · rename_i hm2
      split at hm
      · cases hm
      · by_cases hjm : j = m
        · rw [hjm]; assumption
        · exact ihm hm2 j (by omega)
theorem fnd_of_none {sn : Nat → Int} {x : Int} : ∀ {m : Nat}, (∀ j, j < m → sn j ≠ x) → fnd sn x m = none := by
  intro m
  induction m with
  | zero => intro _; rfl
  | succ m ihm =>
    intro h
    unfold fnd
    rw [ihm (fun j hj => h j (by omega))]
    simp [h m (by omega)]
theorem fnd_of_some {sn : Nat → Int} {x : Int} {i : Nat} (h1 : sn i = x) (h2 : ∀ j, j < i → sn j ≠ x) : ∀ {m : Nat}, i < m → fnd sn x m = some i := by
  intro m
  induction m with
  | zero => intro h; omega
  | succ m ihm =>
    intro h
    unfold fnd
    by_cases him : i = m
    · subst him
      rw [fnd_of_none h2]
      simp [h1]
    · rw [ihm (by omega)]

theorem passS_tot (s : CS) {t : Int} (ht : 0 ≤ t) : s.tot ≤ (passS s t).tot ∧ (passS s t).tot ≤ s.tot + t := by
  unfold passS
  split
  · exact ⟨by show s.tot ≤ s.tot + t; omega, Int.le_refl _⟩
  · omega
theorem passS_zero (s : CS) : passS s 0 = s := by
  unfold passS
  split
  · have : (fun i => if s.sn i = s.sl then s.tm i + 0 else s.tm i) = s.tm := by funext i; split <;> simp
    rw [this, Int.add_zero]
  · rfl
theorem passS_n (s : CS) (t : Int) : (passS s t).n = s.n := by unfold passS; split <;> rfl
theorem passS_sn (s : CS) (t : Int) : (passS s t).sn = s.sn := by unfold passS; split <;> rfl
theorem passS_sl (s : CS) (t : Int) : (passS s t).sl = s.sl := by unfold passS; split <;> rfl
theorem passS_run (s : CS) (t : Int) : (passS s t).run = s.run := by unfold passS; split <;> rfl
theorem showS_tot (s : CS) (x : Int) : (showS s x).tot = s.tot := by unfold showS; split <;> rfl
theorem showS_n (s : CS) (x : Int) : s.n ≤ (showS s x).n ∧ (showS s x).n ≤ s.n + 1 := by unfold showS; split <;> simp
theorem kindS_tot (s : CS) (k x : Int) : (kindS s k x).tot = s.tot := by
  unfold kindS
  split
  · rfl
  · split
    · rfl
    · split
      · exact showS_tot s x
      · rfl
theorem kindS_n (s : CS) (k x : Int) : s.n ≤ (kindS s k x).n ∧ (kindS s k x).n ≤ s.n + 1 := by
  unfold kindS
  split
  · simp
  · split
    · simp
    · split
      · exact showS_n s x
      · simp
/-- adding twice is adding once -/
theorem passS_run_tot (s : CS) (t : Int) : (passS s t).tot = s.tot + (if s.run then t else 0) := by
  unfold passS
  split <;> simp

theorem last_succ (E : Evs) (t : Int) (i : Nat) : (stepS E t (i + 1)).2 = min (E.ea i) t := rfl
/-- the events are in the order of their times -/
structure Sorted (E : Evs) : Prop where
  pos : ∀ i, i < E.N → 0 ≤ E.ea i
  mono : ∀ i j, i ≤ j → j < E.N → E.ea i ≤ E.ea j
theorem last_le {E : Evs} (h : Sorted E) {t : Int} (ht : 0 ≤ t) : ∀ i, i ≤ E.N → 0 ≤ (stepS E t i).2 ∧ (stepS E t i).2 ≤ t ∧ (i < E.N → (stepS E t i).2 ≤ min (E.ea i) t)
  | 0, _ => ⟨Int.le_refl _, ht, fun hi => by show (0 : Int) ≤ _; have := h.pos 0 hi; omega⟩
  | i + 1, hi => by
    rw [last_succ]
    have h0 := h.pos i (by omega)
    refine ⟨by omega, by omega, fun hi2 => ?_⟩
    have := h.mono i (i + 1) (by omega) hi2
    omega
theorem step_same {E : Evs} {a b : Int} (hab : a ≤ b) : ∀ i, i ≤ E.N → (∀ j, j < i → E.ea j ≤ a) → stepS E a i = stepS E b i
  | 0, _, _ => rfl
  | i + 1, hi, h => by
    have h1 := step_same hab i (by omega) (fun j hj => h j (by omega))
    have h2 := h i (by omega)
    rw [stepS_succ, stepS_succ, h1]
    unfold oneS
    rw [if_neg (by omega), if_neg (by omega), show min (E.ea i) a = E.ea i by omega, show min (E.ea i) b = E.ea i by omega]
theorem oneS_tot (E : Evs) (t : Int) (i : Nat) (s : CS) (last : Int) : (oneS E t i s last).1.tot = (passS s (min (E.ea i) t - last)).tot := by
  unfold oneS
  dsimp only
  split
  · rfl
  · rw [kindS_tot]
theorem oneS_n (E : Evs) (t : Int) (i : Nat) (s : CS) (last : Int) : s.n ≤ (oneS E t i s last).1.n ∧ (oneS E t i s last).1.n ≤ s.n + 1 := by
  unfold oneS
  dsimp only
  split
  · rw [passS_n]; omega
  · have := kindS_n (passS s (min (E.ea i) t - last)) (E.ek i) (E.es i)
    rw [passS_n] at this
    exact this
theorem oneS_beyond {E : Evs} {t : Int} {i : Nat} (s : CS) (last : Int) (h : t < E.ea i) : oneS E t i s last = (passS s (t - last), t) := by
  unfold oneS
  rw [if_pos h, show min (E.ea i) t = t by omega]
/-- from the first event beyond the time on -/
theorem step_div {E : Evs} (hs : Sorted E) {a b : Int} (ha : 0 ≤ a) (hab : a ≤ b) {f : Nat} (hf : f < E.N) (hfa : a < E.ea f) (hpre : ∀ j, j < f → E.ea j ≤ a) :
    ∀ d, f + 1 + d ≤ E.N → (stepS E a (f + 1 + d)).2 = a ∧ a ≤ (stepS E b (f + 1 + d)).2 ∧ (stepS E a (f + 1 + d)).1.tot ≤ (stepS E b (f + 1 + d)).1.tot ∧
      (stepS E b (f + 1 + d)).1.tot ≤ (stepS E a (f + 1 + d)).1.tot + ((stepS E b (f + 1 + d)).2 - a) ∧ (stepS E a (f + 1 + d)).1.n ≤ (stepS E b (f + 1 + d)).1.n := by
  intro d
  induction d with
  | zero =>
    intro hd
    have h1 := step_same hab f (by omega) hpre
    have hl := (last_le hs (t := a) ha f (by omega)).2.1
    rw [Nat.add_zero, stepS_succ, stepS_succ, oneS_tot, oneS_tot, oneS_beyond _ _ hfa, ← h1]
    have h2 := oneS_n E b f (stepS E a f).1 (stepS E a f).2
    refine ⟨rfl, by show a ≤ min (E.ea f) b; omega, ?_, ?_, by rw [passS_n]; exact h2.1⟩
    · show (passS _ _).tot ≤ _
      rw [passS_run_tot, passS_run_tot]
      split <;> omega
    · show _ ≤ (passS _ _).tot + (min (E.ea f) b - a)
      rw [passS_run_tot, passS_run_tot]
      split <;> omega
  | succ d ih =>
    intro hd
    obtain ⟨i1, i2, i3, i4, i5⟩ := ih (by omega)
    have hbeyond : a < E.ea (f + 1 + d) := Int.lt_of_lt_of_le hfa (hs.mono f (f + 1 + d) (by omega) (by omega))
    have hlb := (last_le hs (t := b) (by omega) (f + 1 + d) (by omega)).2.2 (by omega)
    rw [show f + 1 + (d + 1) = (f + 1 + d) + 1 by omega, stepS_succ, stepS_succ, oneS_tot, oneS_tot, oneS_beyond _ _ hbeyond, i1]
    have h2 := oneS_n E b (f + 1 + d) (stepS E b (f + 1 + d)).1 (stepS E b (f + 1 + d)).2
    have h3 := passS_tot (stepS E b (f + 1 + d)).1 (t := min (E.ea (f + 1 + d)) b - (stepS E b (f + 1 + d)).2) (by omega)
    have h0 : a - a = 0 := by omega
    rw [show min (E.ea (f + 1 + d)) a - a = 0 by omega, h0, passS_zero]
    refine ⟨rfl, by show a ≤ min (E.ea (f + 1 + d)) b; omega, by omega, ?_, Nat.le_trans i5 h2.1⟩
    show _ ≤ _ + (min (E.ea (f + 1 + d)) b - a)
    omega
/-- the law on totals -/
theorem rep_mono {E : Evs} (hs : Sorted E) {a b : Int} (ha : 0 ≤ a) (hab : a ≤ b) : (rep E a).tot ≤ (rep E b).tot ∧ (rep E b).tot ≤ (rep E a).tot + (b - a) ∧ (rep E a).n ≤ (rep E b).n := by
  by_cases hall : ∀ j, j < E.N → E.ea j ≤ a
  · have h1 := step_same hab E.N (Nat.le_refl _) hall
    have hl := (last_le hs (t := a) ha E.N (Nat.le_refl _)).2.1
    unfold rep
    rw [← h1, passS_n, passS_n, passS_run_tot, passS_run_tot]
    split <;> omega
  · have hex : ∃ f, f < E.N ∧ a < E.ea f ∧ ∀ j, j < f → E.ea j ≤ a := by
      have : ∀ n, (∀ j, j < n → E.ea j ≤ a) ∨ ∃ f, f < n ∧ a < E.ea f ∧ ∀ j, j < f → E.ea j ≤ a := by
        intro n
        induction n with
        | zero => exact .inl fun j hj => by omega
        | succ n ih =>
          rcases ih with h | ⟨f, h1, h2, h3⟩
          · by_cases hn : E.ea n ≤ a
            · refine .inl fun j hj => ?_
              by_cases hjn : j = n
              · rw [hjn]; exact hn
              · exact h j (by omega)
            · exact .inr ⟨n, by omega, by omega, h⟩
          · exact .inr ⟨f, by omega, h2, h3⟩
      rcases this E.N with h | h
      · exact absurd h hall
      · exact h
    obtain ⟨f, hf, hfa, hpre⟩ := hex
    obtain ⟨i1, i2, i3, i4, i5⟩ := step_div hs ha hab hf hfa hpre (E.N - (f + 1)) (by omega)
    rw [show f + 1 + (E.N - (f + 1)) = E.N by omega] at i1 i2 i3 i4 i5
    have hlb := (last_le hs (t := b) (by omega) E.N (Nat.le_refl _)).2.1
    have h3 := passS_tot (stepS E b E.N).1 (t := b - (stepS E b E.N).2) (by omega)
    unfold rep
    rw [passS_n, passS_n, i1, show a - a = (0 : Int) by omega, passS_zero]
    omega

/-- what the clock's state always is: M bounds the times, k the counts -/
structure Good (s : CS) (M : Int) (k : Nat) : Prop where
  t0 : 0 ≤ s.tot
  t1 : s.tot ≤ M
  nk : s.n ≤ k
  tm0 : ∀ i, i < s.n → 0 ≤ s.tm i ∧ s.tm i ≤ M
  ct0 : ∀ i, i < s.n → 0 ≤ s.ct i ∧ s.ct i ≤ k
  uniq : ∀ i j, i < s.n → j < s.n → s.sn i = s.sn j → i = j
  sl : (s.n = 0 ∧ s.sl = 0) ∨ ∃ i, i < s.n ∧ s.sn i = s.sl
theorem good_init : Good init 0 0 := ⟨Int.le_refl _, Int.le_refl _, Nat.le_refl _, fun i hi => by simp [init] at hi, fun i hi => by simp [init] at hi, fun i j hi => by simp [init] at hi, .inl ⟨rfl, rfl⟩⟩
theorem good_more {s : CS} {M M' : Int} {k k' : Nat} (h : Good s M k) (hM : M ≤ M') (hk : k ≤ k') : Good s M' k' :=
  ⟨h.t0, by have := h.t1; omega, by have := h.nk; omega, fun i hi => by have := h.tm0 i hi; omega, fun i hi => by have := h.ct0 i hi; omega, h.uniq, h.sl⟩
theorem good_pass {s : CS} {M t : Int} {k : Nat} (h : Good s M k) (ht : 0 ≤ t) : Good (passS s t) (M + t) k := by
  unfold passS
  split
  · refine ⟨?_, ?_, h.nk, fun i hi => ?_, h.ct0, h.uniq, h.sl⟩
    · show 0 ≤ s.tot + t; have := h.t0; omega
    · show s.tot + t ≤ M + t; have := h.t1; omega
    · have := h.tm0 i hi
      show 0 ≤ (if s.sn i = s.sl then s.tm i + t else s.tm i) ∧ (if s.sn i = s.sl then s.tm i + t else s.tm i) ≤ M + t
      split <;> omega
  · exact good_more h (by omega) (Nat.le_refl _)
theorem good_show {s : CS} {M x : Int} {k : Nat} (h : Good s M k) (hM : 0 ≤ M) : Good (showS s x) M (k + 1) := by
  unfold showS
  split
  · rename_i i hf
    obtain ⟨h1, h2, _⟩ := fnd_some hf
    refine ⟨h.t0, h.t1, by have := h.nk; show s.n ≤ k + 1; omega, h.tm0, fun j hj => ?_, h.uniq, .inr ⟨i, h1, h2⟩⟩
    have hc := h.ct0 j hj
    have hci := h.ct0 i h1
    show 0 ≤ (if s.sl = x then s.ct else upd s.ct i (s.ct i + 1)) j ∧ (if s.sl = x then s.ct else upd s.ct i (s.ct i + 1)) j ≤ ((k + 1 : Nat) : Int)
    split
    · omega
    · by_cases hji : j = i
      · rw [hji, upd_same]; omega
      · rw [upd_other _ _ hji]; omega
  · rename_i hf
    have hno := fnd_none hf
    refine ⟨h.t0, h.t1, by have := h.nk; show s.n + 1 ≤ k + 1; omega, fun i hi => ?_, fun i hi => ?_, fun i j hi hj he => ?_, .inr ⟨s.n, Nat.lt_succ_self _, upd_same _ _ _⟩⟩
    · show 0 ≤ upd s.tm s.n 0 i ∧ upd s.tm s.n 0 i ≤ M
      by_cases hin : i = s.n
      · rw [hin, upd_same]; omega
      · rw [upd_other _ _ hin]; exact h.tm0 i (by have : i < s.n + 1 := hi; omega)
    · show 0 ≤ upd s.ct s.n 1 i ∧ upd s.ct s.n 1 i ≤ ((k + 1 : Nat) : Int)
      by_cases hin : i = s.n
      · rw [hin, upd_same]; omega
      · rw [upd_other _ _ hin]; have := h.ct0 i (by have : i < s.n + 1 := hi; omega); omega
    · have hi' : i < s.n + 1 := hi
      have hj' : j < s.n + 1 := hj
      have he' : upd s.sn s.n x i = upd s.sn s.n x j := he
      by_cases hin : i = s.n <;> by_cases hjn : j = s.n
      · omega
      · rw [hin, upd_same, upd_other _ _ hjn] at he'
        exact absurd he'.symm (hno j (by omega))
      · rw [hjn, upd_same, upd_other _ _ hin] at he'
        exact absurd he' (hno i (by omega))
      · rw [upd_other _ _ hin, upd_other _ _ hjn] at he'
        exact h.uniq i j (by omega) (by omega) he'
theorem good_kind {s : CS} {M x ek : Int} {k : Nat} (h : Good s M k) (hM : 0 ≤ M) : Good (kindS s ek x) M (k + 1) := by
  unfold kindS
  split
  · exact good_more (s := { s with run := true }) ⟨h.t0, h.t1, h.nk, h.tm0, h.ct0, h.uniq, h.sl⟩ (Int.le_refl _) (by omega)
  · split
    · exact good_more (s := { s with run := false }) ⟨h.t0, h.t1, h.nk, h.tm0, h.ct0, h.uniq, h.sl⟩ (Int.le_refl _) (by omega)
    · split
      · exact good_show h hM
      · exact good_more h (Int.le_refl _) (by omega)
theorem good_step {E : Evs} (hs : Sorted E) {t : Int} (ht : 0 ≤ t) : ∀ i, i ≤ E.N → Good (stepS E t i).1 (stepS E t i).2 i
  | 0, _ => good_init
  | i + 1, hi => by
    have h := good_step hs ht i (by omega)
    have hl := last_le hs ht i (by omega)
    have h0 := hs.pos i (by omega)
    have h1 := good_pass (t := min (E.ea i) t - (stepS E t i).2) h (by have := hl.2.2 (by omega); omega)
    rw [show (stepS E t i).2 + (min (E.ea i) t - (stepS E t i).2) = min (E.ea i) t by omega] at h1
    rw [stepS_succ]
    show Good (oneS E t i _ _).1 (min (E.ea i) t) (i + 1)
    unfold oneS
    dsimp only
    split
    · exact good_more h1 (Int.le_refl _) (by omega)
    · exact good_kind h1 (by omega)
theorem good_rep {E : Evs} (hs : Sorted E) {t : Int} (ht : 0 ≤ t) : Good (rep E t) t E.N := by
  have h := good_step hs ht E.N (Nat.le_refl _)
  have hl := last_le hs ht E.N (Nat.le_refl _)
  have h1 := good_pass (t := t - (stepS E t E.N).2) h (by omega)
  rw [show (stepS E t E.N).2 + (t - (stepS E t E.N).2) = t by omega] at h1
  exact h1

/-- the time ahead of the first slide -/
def dist (s : CS) : Int := s.tot - fsum s.tm s.n
theorem fsum_hit {sn tm : Nat → Int} {x t : Int} : ∀ {n i : Nat}, i < n → sn i = x → (∀ j, j < n → sn j = x → j = i) → fsum (fun j => if sn j = x then tm j + t else tm j) n = fsum tm n + t := by
  intro n
  induction n with
  | zero => intro i hi; omega
  | succ n ih =>
    intro i hi hx hu
    rw [fsum_succ, fsum_succ]
    by_cases hin : i = n
    · subst hin
      rw [fsum_congr (G := tm) (fun j hj => by
        rw [if_neg]
        intro h
        have := hu j (by omega) h
        omega)]
      show _ + (if sn i = x then tm i + t else tm i) = _
      rw [if_pos hx]
      omega
    · have h1 := ih (i := i) (by omega) hx (fun j hj h => hu j (by omega) h)
      have h2 : ¬ sn n = x := fun h => by have := hu n (by omega) h; omega
      rw [h1]
      show _ + (if sn n = x then tm n + t else tm n) = _
      rw [if_neg h2]
      omega
theorem dist_pass {s : CS} {M t : Int} {k : Nat} (h : Good s M k) (hn : s.n ≠ 0) : dist (passS s t) = dist s := by
  unfold dist passS
  split
  · rcases h.sl with h0 | ⟨i, hi, hx⟩
    · exact absurd h0.1 hn
    · show s.tot + t - fsum (fun j => if s.sn j = s.sl then s.tm j + t else s.tm j) s.n = _
      rw [fsum_hit hi hx (fun j hj hjx => h.uniq j i hj hi (by rw [hjx, hx]))]
      omega
  · rfl
theorem dist_show (s : CS) (x : Int) : dist (showS s x) = dist s := by
  unfold dist showS
  split
  · rfl
  · show s.tot - (fsum (upd s.tm s.n 0) s.n + upd s.tm s.n 0 s.n) = _
    rw [upd_same, fsum_congr (G := s.tm) (fun i hi => upd_other _ _ (by omega))]
    omega
theorem dist_kind (s : CS) (k x : Int) : dist (kindS s k x) = dist s := by
  unfold kindS
  split
  · rfl
  · split
    · rfl
    · split
      · exact dist_show s x
      · rfl
theorem dist_step {E : Evs} (hs : Sorted E) {t : Int} (ht : 0 ≤ t) {i : Nat} (hi : i < E.N) (hn : (stepS E t i).1.n ≠ 0) : dist (stepS E t (i + 1)).1 = dist (stepS E t i).1 ∧ (stepS E t (i + 1)).1.n ≠ 0 := by
  have h := good_step hs ht i (by omega)
  have h2 := oneS_n E t i (stepS E t i).1 (stepS E t i).2
  rw [stepS_succ]
  refine ⟨?_, by omega⟩
  unfold oneS
  dsimp only
  split
  · exact dist_pass h hn
  · rw [dist_kind, dist_pass h hn]
/-- before the first slide none is shown -/
theorem none_before {E : Evs} {t : Int} {f : Nat} (hk : ∀ j, j < f → E.ek j ≠ 2) : ∀ i, i ≤ f → (stepS E t i).1.n = 0
  | 0, _ => rfl
  | i + 1, hi => by
    have h := none_before (t := t) hk i (by omega)
    have h2 := hk i (by omega)
    rw [stepS_succ]
    unfold oneS
    dsimp only
    split
    · rw [passS_n]; exact h
    · unfold kindS
      split
      · show (passS _ _).n = 0; rw [passS_n]; exact h
      · split
        · show (passS _ _).n = 0; rw [passS_n]; exact h
        · rw [passS_n]; exact h
theorem some_at {E : Evs} {t : Int} {f : Nat} (hkf : E.ek f = 2) (hf : E.ea f ≤ t) (hk : ∀ j, j < f → E.ek j ≠ 2) : (stepS E t (f + 1)).1.n ≠ 0 := by
  have h := none_before (t := t) hk f (Nat.le_refl _)
  rw [stepS_succ]
  unfold oneS
  dsimp only
  rw [if_neg (by omega), hkf]
  unfold kindS
  rw [if_neg (by omega), if_neg (by omega), if_pos rfl]
  unfold showS
  split
  · rename_i i hfd
    have := (fnd_some hfd).1
    rw [passS_n, h] at this
    omega
  · show (passS _ _).n + 1 ≠ 0
    omega
theorem dist_all {E : Evs} (hs : Sorted E) {t : Int} (ht : 0 ≤ t) {f : Nat} (_hfN : f < E.N) (hkf : E.ek f = 2) (hf : E.ea f ≤ t) (hk : ∀ j, j < f → E.ek j ≠ 2) :
    ∀ d, f + 1 + d ≤ E.N → dist (stepS E t (f + 1 + d)).1 = dist (stepS E t (f + 1)).1 ∧ (stepS E t (f + 1 + d)).1.n ≠ 0
  | 0, _ => ⟨rfl, some_at hkf hf hk⟩
  | d + 1, hd => by
    have h := dist_all hs ht _hfN hkf hf hk d (by omega)
    have h2 := dist_step hs ht (i := f + 1 + d) (by omega) h.2
    exact ⟨h2.1.trans h.1, h2.2⟩
theorem dist_rep {E : Evs} (hs : Sorted E) {t : Int} (ht : 0 ≤ t) {f : Nat} (hfN : f < E.N) (hkf : E.ek f = 2) (hf : E.ea f ≤ t) (hk : ∀ j, j < f → E.ek j ≠ 2) : dist (rep E t) = dist (stepS E t (f + 1)).1 := by
  have h := dist_all hs ht hfN hkf hf hk (E.N - (f + 1)) (by omega)
  rw [show f + 1 + (E.N - (f + 1)) = E.N by omega] at h
  unfold rep
  rw [dist_pass (good_step hs ht E.N (Nat.le_refl _)) h.2]
  exact h.1
/-- the law on sums: at the time of the first slide as much time is ahead as at each later time -/
theorem dist_two {E : Evs} (hs : Sorted E) {t : Int} {f : Nat} (hfN : f < E.N) (hkf : E.ek f = 2) (hf : E.ea f ≤ t) (hk : ∀ j, j < f → E.ek j ≠ 2) : dist (rep E t) = dist (rep E (E.ea f)) := by
  have h0 := hs.pos f hfN
  rw [dist_rep hs (by omega) hfN hkf hf hk, dist_rep hs h0 hfN hkf (Int.le_refl _) hk,
    step_same hf (f + 1) (by omega) (fun j hj => hs.mono j f (by omega) hfN)]
/-- no slide: none is shown -/
theorem rep_none {E : Evs} (_hs : Sorted E) {t : Int} (h : ∀ j, j < E.N → E.ek j = 2 → t < E.ea j) : (rep E t).n = 0 := by
  unfold rep
  rw [passS_n]
  have : ∀ i, i ≤ E.N → (stepS E t i).1.n = 0 := by
    intro i
    induction i with
    | zero => exact fun _ => rfl
    | succ i ih =>
      intro hi
      have h1 := ih (by omega)
      rw [stepS_succ]
      unfold oneS
      dsimp only
      split
      · rw [passS_n]; exact h1
      · rename_i hle
        have h2 : E.ek i ≠ 2 := fun he => by have := h i (by omega) he; omega
        unfold kindS
        split
        · show (passS _ _).n = 0; rw [passS_n]; exact h1
        · split
          · show (passS _ _).n = 0; rw [passS_n]; exact h1
          · rw [passS_n]; exact h1
  exact this E.N (Nat.le_refl _)
end Go.Proofs.Ytmnbcpinlgklpaa.Clk
