/- Lines of Break and Greedy follow each other, and end ahead of the end of the parts. No program in sight but the numbers of its types. -/
import Derived.Test.YtmjhmcjlbcadaaaLnBreakPlain
namespace Go.Proofs.Ytmjhmcjlbcadaaa.Ln
open Go.RowKit Go.Frm

/-- lines that follow each other -/
def Good (n : Nat) : Nat → List Lin → Prop
  | _, [] => True
  | lo, x :: L => lo ≤ x.fr ∧ x.fr ≤ x.en ∧ x.en < n ∧ Good n (x.en + 1) L
theorem Good.less {n : Nat} : ∀ {L : List Lin} {a b : Nat}, a ≤ b → Good n b L → Good n a L
  | [], _, _, _, _ => trivial
  | _ :: _, _, _, hab, h => ⟨by have := h.1; omega, h.2⟩
theorem Good.at_ {n : Nat} : ∀ {L : List Lin} {lo i : Nat}, Good n lo L → i < L.length → ∀ z : Lin,
    (L.getD i z).fr ≤ (L.getD i z).en ∧ (L.getD i z).en < n ∧ (i = 0 → lo ≤ (L.getD i z).fr) ∧ (0 < i → (L.getD (i - 1) z).en + 1 ≤ (L.getD i z).fr)
  | [], _, _, _, h, _ => absurd h (by simp)
  | x :: L, lo, 0, h, _, z => ⟨h.2.1, h.2.2.1, fun _ => h.1, fun h => by omega⟩
  | x :: L, lo, i + 1, h, hi, z => by
    have ih := Good.at_ (i := i) h.2.2.2 (by simpa using hi) z
    refine ⟨ih.1, ih.2.1, fun h => by omega, fun _ => ?_⟩
    show ((x :: L).getD i z).en + 1 ≤ (L.getD i z).fr
    rcases Nat.eq_zero_or_pos i with h0 | h0
    · subst h0
      exact ih.2.2.1 rfl
    · obtain ⟨j, rfl⟩ : ∃ j, i = j + 1 := ⟨i - 1, by omega⟩
      exact ih.2.2.2 h0
theorem endsL_le {P : Pts} {ws : List Int} {fr k m : Nat} (hm : must P m = true) : ∀ (f q : Nat) (L : List Lin), q ≤ m → (∀ x ∈ L, x.en ≤ m) → ∀ x ∈ endsL P ws fr k f q L, x.en ≤ m
  | 0, _, _, _, h => h
  | f + 1, q, L, hq, h => by
    have hp : ∀ x ∈ pushL (line P ws fr q k) L, x.en ≤ m := fun x hx => by
      unfold pushL at hx
      split at hx
      · rcases List.mem_append.1 hx with hx | hx
        · exact h x hx
        · simp at hx; subst hx; exact hq
      · exact h x hx
    unfold endsL
    by_cases e : q = m
    · subst e
      rw [if_pos hm]
      split
      · split <;> first | exact hp | (split <;> exact hp)
      · exact h
    · split
      · split
        · exact hp
        · split
          · exact hp
          · exact endsL_le hm f (q + 1) _ (by omega) hp
      · split
        · exact h
        · exact endsL_le hm f (q + 1) _ (by omega) h
theorem ends_le {P : Pts} {ws : List Int} {fr k m : Nat} (hm : must P m = true) (h : fr ≤ m) : ∀ x ∈ ends P ws fr k, x.en ≤ m := endsL_le hm _ _ _ h (by simp)
/-- parts with a forced break at their end -/
structure Closed (P : Pts) : Prop where
  pos : 0 < P.n
  kd : P.kd (P.n - 1) = 2
  co : P.co (P.n - 1) = -10000
theorem Closed.must {P : Pts} (h : Closed P) : must P (P.n - 1) = true := by
  unfold Ln.must
  rw [h.kd, h.co]
  simp
theorem Closed.bg {P : Pts} (h : Closed P) {i : Nat} (hi : i < P.n) : bg P i < P.n := by
  obtain ⟨d, hd⟩ : ∃ d, P.n - 1 - i = d := ⟨_, rfl⟩
  induction d generalizing i with
  | zero =>
    have e : i = P.n - 1 := by omega
    rw [bg_step P hi]
    have hb : box P i = true := by unfold box; rw [e, h.kd, h.co]; decide
    rw [if_pos hb]
    exact hi
  | succ d ih =>
    rw [bg_step P hi]
    split
    · exact hi
    · exact ih (by omega) (by omega)
theorem end_lt {P : Pts} (h : Closed P) {ws : List Int} {fr k : Nat} (hf : fr < P.n) {x : Lin} (hx : x ∈ ends P ws fr k) : fr ≤ x.en ∧ x.en < P.n ∧ x = line P ws fr x.en k := by
  have h1 := ends_mem (by omega) hx
  have h2 := ends_le (k := k) (ws := ws) h.must (show fr ≤ P.n - 1 by omega) x hx
  have := h.pos
  exact ⟨h1.ge, by omega, h1.eq⟩
theorem line_fr {P : Pts} {ws : List Int} {fr q k : Nat} (h : fr ≤ q) : (line P ws fr q k).fr = fr := by show min fr q = fr; omega
theorem greedy_good {P : Pts} (h : Closed P) (ws : List Int) : ∀ (f fr k : Nat), fr < P.n → Good P.n fr (greedy P ws f fr k)
  | 0, _, _, _ => trivial
  | f + 1, fr, k, hf => by
    obtain ⟨h1, h2, h3⟩ := end_lt h hf (lastE_mem P ws k (by omega))
    have h4 : (lastE P ws fr k).fr = fr := by rw [h3]; exact line_fr h1
    refine ⟨by omega, by omega, h2, ?_⟩
    cases hl : last P (lastE P ws fr k).en with
    | true => simp [Good]
    | false =>
      have ha := after_lt (by omega) hl
      simp only [Bool.false_eq_true, if_false]
      exact (greedy_good h ws f _ (k + 1) ha.2.2).less ha.2.1
theorem B_end {P : Pts} (h : Closed P) (ws : List Int) (D : Int) {fr k : Nat} (fl : Bool) (hf : fr < P.n) : fr ≤ (B P ws D fr k fl).en.toNat ∧ (B P ws D fr k fl).en.toNat < P.n := by
  obtain ⟨x, hx⟩ := (B_best P ws D k fl (show fr ≤ P.n by omega)).1
  obtain ⟨h1, h2, h3⟩ := end_lt h hf hx.mem
  rw [hx.eq]
  exact ⟨h1, h2⟩
theorem chain_good {P : Pts} (h : Closed P) (ws : List Int) (D : Int) : ∀ (f fr k : Nat) (fl : Bool), fr < P.n → Good P.n fr (chain P ws D f fr k fl)
  | 0, _, _, _, _ => trivial
  | f + 1, fr, k, fl, hf => by
    have hb := B_end h ws D (k := min k (ws.length - 1)) fl hf
    unfold chain
    generalize (B P ws D fr (min k (ws.length - 1)) fl).en.toNat = q at *
    refine ⟨by rw [line_fr hb.1]; omega, by rw [line_fr hb.1]; exact hb.1, hb.2, ?_⟩
    show Good P.n (q + 1) _
    cases hl : last P q with
    | true => simp [Good]
    | false =>
      have ha := after_lt (by omega) hl
      simp only [Bool.false_eq_true, if_false]
      exact (chain_good h ws D f _ (k + 1) _ ha.2.2).less ha.2.1
theorem chain_pos (P : Pts) (ws : List Int) (D : Int) (f fr k : Nat) (fl : Bool) : 0 < (chain P ws D (f + 1) fr k fl).length := by unfold chain; simp
theorem greedy_pos (P : Pts) (ws : List Int) (f fr k : Nat) : 0 < (greedy P ws (f + 1) fr k).length := by unfold greedy; simp
end Go.Proofs.Ytmjhmcjlbcadaaa.Ln
