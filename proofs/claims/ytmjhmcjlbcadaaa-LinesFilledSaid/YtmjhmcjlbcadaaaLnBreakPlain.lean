/- The lines that Break and Greedy tell, as plain lists; Break costs no more. -/
import Derived.Test.YtmjhmcjlbcadaaaLnBestPlain
namespace Go.Proofs.Ytmjhmcjlbcadaaa.Ln
open Go.RowKit Go.Frm

theorem pushL_ne (x : Lin) (L : List Lin) : pushL x L ≠ [] := by
  unfold pushL
  cases L with
  | nil => simp
  | cons a l => split <;> simp
theorem endsL_ne {P : Pts} {ws : List Int} {fr k : Nat} : ∀ (f q : Nat) (L : List Lin), q ≤ P.n → q + f = P.n + 1 → endsL P ws fr k f q L ≠ []
  | 0, q, L, h1, h2 => by omega
  | f + 1, q, L, h1, h2 => by
    cases hm : must P q with
    | true =>
      have hmay := may_must hm
      rw [endsL_stop (by rw [hmay, hm]; simp) hm]
      exact pushL_ne _ _
    | false =>
      have hq : q < P.n := by
        rcases Nat.lt_or_ge q P.n with h | h
        · exact h
        · rw [show q = P.n by omega, must_n] at hm; cases hm
      cases hc : (may P q && (decide (fr < q) || must P q)) with
      | true =>
        cases hb : bareFull P (line P ws fr q k) with
        | true => rw [endsL_bare hc hb]; exact pushL_ne _ _
        | false => rw [endsL_on hc hb hm]; exact endsL_ne f (q + 1) _ (by omega) (by omega)
      | false => rw [endsL_skip hc hm]; exact endsL_ne f (q + 1) _ (by omega) (by omega)
theorem ends_ne (P : Pts) (ws : List Int) {fr : Nat} (k : Nat) (h : fr ≤ P.n) : ends P ws fr k ≠ [] := endsL_ne _ _ _ h (by omega)

/-- what one end costs with all that follows -/
def tot (P : Pts) (D : Int) (fl : Bool) (rec : Lin → Pl) (x : Lin) : Int := cost P x + (if fl && flag P x.en then D else 0) + (if last P x.en then 0 else (rec x).co)
def num (P : Pts) (rec : Lin → Pl) (x : Lin) : Int := 1 + (if last P x.en then 0 else (rec x).li)
theorem stepP_eq (P : Pts) (D : Int) (fl : Bool) (rec : Lin → Pl) (a : Pl) (x : Lin) : stepP P D fl rec a x = if a.en < 0 ∨ tot P D fl rec x < a.co ∨ (tot P D fl rec x = a.co ∧ num P rec x ≤ a.li) then ⟨x.en, tot P D fl rec x, num P rec x⟩ else a := rfl
/-- the best one is one of the ends, and none costs less -/
theorem fold_best (P : Pts) (D : Int) (fl : Bool) (rec : Lin → Pl) : ∀ (E : List Lin) (a : Pl), (0 ≤ a.en ∨ E ≠ []) →
    0 ≤ (E.foldl (stepP P D fl rec) a).en ∧ (∀ x ∈ E, (E.foldl (stepP P D fl rec) a).co ≤ tot P D fl rec x) ∧ (0 ≤ a.en → (E.foldl (stepP P D fl rec) a).co ≤ a.co) ∧
    (E.foldl (stepP P D fl rec) a = a ∨ ∃ x ∈ E, E.foldl (stepP P D fl rec) a = ⟨x.en, tot P D fl rec x, num P rec x⟩)
  | [], a, h => by
    have h1 : 0 ≤ a.en := by
      rcases h with h | h
      · exact h
      · exact absurd rfl h
    exact ⟨h1, by simp, fun _ => Int.le_refl _, .inl rfl⟩
  | y :: E, a, h => by
    have hs := stepP_eq P D fl rec a y
    have hen : 0 ≤ (stepP P D fl rec a y).en := by
      rw [hs]
      split
      · show (0 : Int) ≤ (y.en : Int); omega
      · rename_i hn
        have : ¬ a.en < 0 := fun h => hn (.inl h)
        omega
    have hco : (stepP P D fl rec a y).co ≤ tot P D fl rec y := by
      rw [hs]
      split
      · exact Int.le_refl _
      · rename_i hn
        have : ¬ tot P D fl rec y < a.co := fun h => hn (.inr (.inl h))
        omega
    have hca : 0 ≤ a.en → (stepP P D fl rec a y).co ≤ a.co := fun h0 => by
      rw [hs]
      split
      · rename_i hy
        rcases hy with h1 | h1 | h1
        · omega
        · show tot P D fl rec y ≤ a.co; omega
        · show tot P D fl rec y ≤ a.co; omega
      · exact Int.le_refl _
    obtain ⟨i1, i2, i3, i4⟩ := fold_best P D fl rec E (stepP P D fl rec a y) (.inl hen)
    rw [List.foldl_cons]
    refine ⟨i1, fun x hx => ?_, fun h0 => Int.le_trans (i3 hen) (hca h0), ?_⟩
    · rcases List.mem_cons.1 hx with rfl | hx
      · exact Int.le_trans (i3 hen) hco
      · exact i2 x hx
    · rcases i4 with h4 | ⟨x, hx, h4⟩
      · rw [h4, hs]
        split
        · exact .inr ⟨y, by simp, rfl⟩
        · exact .inl rfl
      · exact .inr ⟨x, by simp [hx], h4⟩

/-- the way on behind an end -/
def recB (P : Pts) (ws : List Int) (D : Int) (k : Nat) (x : Lin) : Pl := B P ws D (after P x.en) (min (k + 1) (ws.length - 1)) (flag P x.en)
structure BestOf (P : Pts) (ws : List Int) (D : Int) (fr k : Nat) (fl : Bool) (x : Lin) : Prop where
  mem : x ∈ ends P ws fr k
  eq : B P ws D fr k fl = ⟨x.en, tot P D fl (recB P ws D k) x, num P (recB P ws D k) x⟩
theorem B_best (P : Pts) (ws : List Int) (D : Int) {fr : Nat} (k : Nat) (fl : Bool) (h : fr ≤ P.n) : (∃ x, BestOf P ws D fr k fl x) ∧ ∀ x ∈ ends P ws fr k, (B P ws D fr k fl).co ≤ tot P D fl (recB P ws D k) x := by
  have hu := B_unfold P ws D k fl h
  obtain ⟨h1, h2, _, h4⟩ := fold_best P D fl (recB P ws D k) (ends P ws fr k) ⟨-1, 0, 0⟩ (.inr (ends_ne P ws k h))
  have hu' : B P ws D fr k fl = (ends P ws fr k).foldl (stepP P D fl (recB P ws D k)) ⟨-1, 0, 0⟩ := hu
  refine ⟨?_, fun x hx => by rw [hu']; exact h2 x hx⟩
  rcases h4 with h4 | ⟨x, hx, h4⟩
  · rw [h4] at h1
    exact absurd h1 (by decide)
  · exact ⟨x, hx, by rw [hu']; exact h4⟩

/-- the lines that Break tells -/
def chain (P : Pts) (ws : List Int) (D : Int) : Nat → Nat → Nat → Bool → List Lin
  | 0, _, _, _ => []
  | f + 1, fr, k, fl =>
    let q := (B P ws D fr (min k (ws.length - 1)) fl).en.toNat
    line P ws fr q k :: if last P q then [] else chain P ws D f (after P q) (k + 1) (flag P q)
/-- the end that Greedy takes -/
def lastE (P : Pts) (ws : List Int) (fr k : Nat) : Lin := (ends P ws fr k).getLastD ⟨0, 0, 0, 0, 0, 0⟩
def greedy (P : Pts) (ws : List Int) : Nat → Nat → Nat → List Lin
  | 0, _, _ => []
  | f + 1, fr, k => lastE P ws fr k :: if last P (lastE P ws fr k).en then [] else greedy P ws f (after P (lastE P ws fr k).en) (k + 1)
def gcost (P : Pts) (ws : List Int) (D : Int) : Nat → Nat → Nat → Bool → Int
  | 0, _, _, _ => 0
  | f + 1, fr, k, fl => cost P (lastE P ws fr k) + (if fl && flag P (lastE P ws fr k).en then D else 0) + if last P (lastE P ws fr k).en then 0 else gcost P ws D f (after P (lastE P ws fr k).en) (k + 1) (flag P (lastE P ws fr k).en)
theorem lastE_mem (P : Pts) (ws : List Int) {fr : Nat} (k : Nat) (h : fr ≤ P.n) : lastE P ws fr k ∈ ends P ws fr k := by
  have := ends_ne P ws k h
  unfold lastE
  rw [List.getLastD_eq_getLast?, List.getLast?_eq_some_getLast this]
  exact List.getLast_mem this
theorem line_min (P : Pts) {ws : List Int} (fr en k : Nat) (h : 0 < ws.length) : line P ws fr en (min k (ws.length - 1)) = line P ws fr en k := by
  unfold line wAt
  rw [show min (min k (ws.length - 1)) (ws.length - 1) = min k (ws.length - 1) by omega]
theorem endsL_min (P : Pts) {ws : List Int} (fr k : Nat) (h : 0 < ws.length) : ∀ (f q : Nat) (L : List Lin), endsL P ws fr (min k (ws.length - 1)) f q L = endsL P ws fr k f q L
  | 0, _, _ => rfl
  | f + 1, q, L => by
    unfold endsL
    rw [line_min P fr q k h, endsL_min P fr k h f, endsL_min P fr k h f]
theorem ends_min (P : Pts) {ws : List Int} (fr k : Nat) (h : 0 < ws.length) : ends P ws fr (min k (ws.length - 1)) = ends P ws fr k := endsL_min P fr k h _ _ _
theorem min_next (k l : Nat) : min (min k l + 1) l = min (k + 1) l := by omega
/-- Break costs no more than Greedy -/
theorem never_worse {P : Pts} {ws : List Int} {D : Int} (hws : 0 < ws.length) : ∀ (m fr k : Nat) (fl : Bool), fr ≤ P.n → P.n + 1 - fr = m → ∀ f, m ≤ f → (B P ws D fr (min k (ws.length - 1)) fl).co ≤ gcost P ws D f fr k fl := by
  intro m
  induction m using Nat.strongRecOn with
  | _ m ih =>
    intro fr k fl h1 h2 f hf
    obtain ⟨f, rfl⟩ : ∃ g, f = g + 1 := ⟨f - 1, by omega⟩
    have hm := lastE_mem P ws k h1
    have he := ends_mem h1 hm
    have hb := (B_best P ws D (min k (ws.length - 1)) fl h1).2 (lastE P ws fr k) (by rw [ends_min P fr k hws]; exact hm)
    refine Int.le_trans hb ?_
    unfold tot gcost
    cases hl : last P (lastE P ws fr k).en with
    | true => simp
    | false =>
      have ha := after_lt he.le hl
      have hg := he.ge
      have := ih (P.n + 1 - after P (lastE P ws fr k).en) (by omega) (after P (lastE P ws fr k).en) (k + 1) (flag P (lastE P ws fr k).en) (by omega) rfl f (by omega)
      unfold recB
      rw [min_next]
      simp only [Bool.false_eq_true, if_false]
      omega
end Go.Proofs.Ytmjhmcjlbcadaaa.Ln
