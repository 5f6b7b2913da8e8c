/- The best way on, as a plain function. No program in sight but the numbers of its types. -/
import Derived.Test.YtmjhmcjlbcadaaaLnEnds
namespace Go.Proofs.Ytmjhmcjlbcadaaa.Ln
open Go.RowKit Go.Frm

/-- a plan: where the first line ends, what all cost, how many there are -/
structure Pl where
  en : Int
  co : Int
  li : Int
def stepP (P : Pts) (D : Int) (fl : Bool) (rec : Lin → Pl) (a : Pl) (x : Lin) : Pl :=
  let c := cost P x + (if fl && flag P x.en then D else 0) + (if last P x.en then 0 else (rec x).co)
  let n := 1 + (if last P x.en then 0 else (rec x).li)
  if a.en < 0 ∨ c < a.co ∨ (c = a.co ∧ n ≤ a.li) then ⟨x.en, c, n⟩ else a
def bestP (P : Pts) (ws : List Int) (D : Int) : Nat → Nat → Nat → Bool → Pl
  | 0, _, _, _ => ⟨-1, 0, 0⟩
  | f + 1, fr, k, fl => (ends P ws fr k).foldl (stepP P D fl fun x => bestP P ws D f (after P x.en) (min (k + 1) (ws.length - 1)) (flag P x.en)) ⟨-1, 0, 0⟩
def B (P : Pts) (ws : List Int) (D : Int) (fr k : Nat) (fl : Bool) : Pl := bestP P ws D (P.n + 1 - fr) fr k fl

/-- lines that are ends -/
structure EndOf (P : Pts) (ws : List Int) (fr k : Nat) (x : Lin) : Prop where
  ge : fr ≤ x.en
  le : x.en ≤ P.n
  eq : x = line P ws fr x.en k
  may : may P x.en = true
theorem endsL_mem {P : Pts} {ws : List Int} {fr k : Nat} : ∀ (f q : Nat) (L : List Lin), fr ≤ q → q + f ≤ P.n + 1 → (∀ x ∈ L, EndOf P ws fr k x) → ∀ x ∈ endsL P ws fr k f q L, EndOf P ws fr k x
  | 0, _, L, _, _, h => h
  | f + 1, q, L, h1, h2, h => by
    have hp : may P q = true → ∀ x ∈ pushL (line P ws fr q k) L, EndOf P ws fr k x := fun hm x hx => by
      unfold pushL at hx
      split at hx
      · rcases List.mem_append.1 hx with hx | hx
        · exact h x hx
        · simp at hx
          subst hx
          exact ⟨h1, by show q ≤ P.n; omega, rfl, hm⟩
      · exact h x hx
    unfold endsL
    split
    · rename_i hc
      have hm : may P q = true := by
        rw [Bool.and_eq_true] at hc
        exact hc.1
      split
      · exact hp hm
      · split
        · exact hp hm
        · exact endsL_mem f (q + 1) _ (by omega) (by omega) (hp hm)
    · split
      · exact h
      · exact endsL_mem f (q + 1) _ (by omega) (by omega) h
theorem ends_mem {P : Pts} {ws : List Int} {fr k : Nat} (h : fr ≤ P.n) {x : Lin} (hx : x ∈ ends P ws fr k) : EndOf P ws fr k x :=
  endsL_mem (P.n + 1 - fr) fr [] (Nat.le_refl _) (by omega) (by simp) x hx
theorem endsL_len {P : Pts} {ws : List Int} {fr k : Nat} : ∀ (f q : Nat) (L : List Lin), (endsL P ws fr k f q L).length ≤ L.length + f
  | 0, _, L => by simp [endsL]
  | f + 1, q, L => by
    have hp := pushL_len (line P ws fr q k) L
    have h1 := endsL_len (P := P) (ws := ws) (fr := fr) (k := k) f (q + 1) (pushL (line P ws fr q k) L)
    have h2 := endsL_len (P := P) (ws := ws) (fr := fr) (k := k) f (q + 1) L
    unfold endsL
    split
    · split
      · omega
      · split <;> omega
    · split <;> omega
theorem ends_len (P : Pts) (ws : List Int) (fr k : Nat) : (ends P ws fr k).length ≤ P.n + 1 := by
  have := endsL_len (P := P) (ws := ws) (fr := fr) (k := k) (P.n + 1 - fr) fr []
  unfold ends
  simp at this
  omega
theorem after_n (P : Pts) : after P P.n = P.n := if_pos rfl
theorem after_lt {P : Pts} {i : Nat} (h : i ≤ P.n) (hl : last P i = false) : i < P.n ∧ i < after P i ∧ after P i < P.n := by
  have hne : ¬ after P i = P.n := by
    intro h2
    unfold last at hl
    rw [h2] at hl
    simp at hl
  have hi : i < P.n := by
    rcases Nat.lt_or_ge i P.n with h1 | h1
    · exact h1
    · rw [show i = P.n by omega, after_n] at hne
      exact absurd rfl hne
  have := after_bd P hi
  omega
theorem foldl_congr' {α β : Type} {f g : β → α → β} : ∀ (l : List α) (a : β), (∀ b x, x ∈ l → f b x = g b x) → l.foldl f a = l.foldl g a
  | [], _, _ => rfl
  | x :: l, a, h => by
    rw [List.foldl_cons, List.foldl_cons, h a x (by simp)]
    exact foldl_congr' l _ fun b y hy => h b y (by simp [hy])
theorem stepP_last {P : Pts} {D : Int} {fl : Bool} {r1 r2 : Lin → Pl} (a : Pl) (x : Lin) (h : last P x.en = false → r1 x = r2 x) : stepP P D fl r1 a x = stepP P D fl r2 a x := by
  unfold stepP
  cases hl : last P x.en with
  | true => rfl
  | false => rw [h hl]
theorem bestP_stable {P : Pts} {ws : List Int} {D : Int} : ∀ (f fr k : Nat) (fl : Bool), fr ≤ P.n → P.n + 1 - fr ≤ f → bestP P ws D f fr k fl = bestP P ws D (P.n + 1 - fr) fr k fl := by
  intro f
  induction f using Nat.strongRecOn with
  | _ f ih =>
    intro fr k fl h1 h2
    match f, h2 with
    | 0, h2 => omega
    | f + 1, h2 =>
      obtain ⟨m, hm⟩ : ∃ m, P.n + 1 - fr = m + 1 := ⟨P.n - fr, by omega⟩
      rw [hm]
      show List.foldl _ _ _ = List.foldl _ _ _
      refine foldl_congr' _ _ fun a x hx => stepP_last a x fun hl => ?_
      have he := ends_mem h1 hx
      have ha := after_lt he.le hl
      have hg := he.ge
      rw [ih f (by omega) (after P x.en) _ _ (by omega) (by omega)]
      by_cases hfm : m < f + 1
      · rw [ih m (by omega) (after P x.en) _ _ (by omega) (by omega)]
      · omega
theorem B_unfold (P : Pts) (ws : List Int) (D : Int) {fr : Nat} (k : Nat) (fl : Bool) (h : fr ≤ P.n) :
    B P ws D fr k fl = (ends P ws fr k).foldl (stepP P D fl fun x => B P ws D (after P x.en) (min (k + 1) (ws.length - 1)) (flag P x.en)) ⟨-1, 0, 0⟩ := by
  unfold B
  obtain ⟨m, hm⟩ : ∃ m, P.n + 1 - fr = m + 1 := ⟨P.n - fr, by omega⟩
  rw [hm]
  show List.foldl _ _ _ = List.foldl _ _ _
  refine foldl_congr' _ _ fun a x hx => stepP_last a x fun hl => ?_
  have he := ends_mem h hx
  have ha := after_lt he.le hl
  have hg := he.ge
  exact bestP_stable m _ _ _ (by omega) (by omega)

/-- bounds -/
structure PlOk (n : Nat) (m : Int) (p : Pl) : Prop where
  en : -1 ≤ p.en ∧ p.en ≤ n
  co : -(m * 2000000000000) ≤ p.co ∧ p.co ≤ m * 2000000000000
  li : 0 ≤ p.li ∧ p.li ≤ m
theorem stepP_ok {P : Pts} {D : Int} {fl : Bool} {rec : Lin → Pl} {a : Pl} {x : Lin} {m : Int} (hv : VP P) (hx : VL P x) (hD : 0 ≤ D ∧ D ≤ 5000) (ha : PlOk P.n (m + 1) a) (hm : 0 ≤ m) (hr : last P x.en = false → PlOk P.n m (rec x)) : PlOk P.n (m + 1) (stepP P D fl rec a x) := by
  have hc := cost_bd hv hx
  have h1 : 0 ≤ (if fl && flag P x.en then D else 0) ∧ (if fl && flag P x.en then D else 0) ≤ 5000 := by split <;> omega
  have h2 : -(m * 2000000000000) ≤ (if last P x.en then 0 else (rec x).co) ∧ (if last P x.en then 0 else (rec x).co) ≤ m * 2000000000000 := by
    split
    · omega
    · rename_i hl
      exact (hr (by simpa using hl)).co
  have h3 : 0 ≤ (if last P x.en then 0 else (rec x).li) ∧ (if last P x.en then 0 else (rec x).li) ≤ m := by
    split
    · omega
    · rename_i hl
      exact (hr (by simpa using hl)).li
  have he := hx.en
  unfold stepP
  dsimp only
  generalize (if fl && flag P x.en then D else 0) = d at *
  generalize (if last P x.en then 0 else (rec x).co) = c1 at *
  generalize (if last P x.en then 0 else (rec x).li) = l1 at *
  split
  · exact ⟨⟨by show (-1 : Int) ≤ x.en; omega, by show (x.en : Int) ≤ P.n; omega⟩, ⟨by show _ ≤ cost P x + d + c1; omega, by show cost P x + d + c1 ≤ _; omega⟩, ⟨by show 0 ≤ 1 + l1; omega, by show 1 + l1 ≤ _; omega⟩⟩
  · exact ha
theorem foldl_inv {α β : Type} {f : β → α → β} {Q : β → Prop} : ∀ (l : List α) (a : β), Q a → (∀ b x, x ∈ l → Q b → Q (f b x)) → Q (l.foldl f a)
  | [], _, h, _ => h
  | x :: l, a, h, hs => by
    rw [List.foldl_cons]
    exact foldl_inv l _ (hs a x (by simp) h) fun b y hy hb => hs b y (by simp [hy]) hb
theorem end_vl {P : Pts} (hv : VP P) {ws : List Int} (hww : ∀ x, x ∈ ws → 0 ≤ x ∧ x ≤ 400000) {fr k : Nat} {x : Lin} (h : EndOf P ws fr k x) : VL P x := by
  rw [h.eq]
  exact line_vl hv hww h.le
theorem B_ok {P : Pts} (hv : VP P) {ws : List Int} (hww : ∀ x, x ∈ ws → 0 ≤ x ∧ x ≤ 400000) {D : Int} (hD : 0 ≤ D ∧ D ≤ 5000) : ∀ (m fr k : Nat) (fl : Bool), fr ≤ P.n → P.n + 1 - fr = m → PlOk P.n m (B P ws D fr k fl) := by
  intro m
  induction m using Nat.strongRecOn with
  | _ m ih =>
    intro fr k fl h1 h2
    rw [B_unfold P ws D k fl h1]
    obtain ⟨q, rfl⟩ : ∃ q, m = q + 1 := ⟨m - 1, by omega⟩
    rw [show ((q + 1 : Nat) : Int) = (q : Int) + 1 by omega]
    refine foldl_inv _ _ ⟨⟨by show (-1 : Int) ≤ -1; omega, by show (-1 : Int) ≤ _; omega⟩, ⟨by show _ ≤ (0 : Int); omega, by show (0 : Int) ≤ _; omega⟩, ⟨by show (0 : Int) ≤ 0; omega, by show (0 : Int) ≤ _; omega⟩⟩ fun a x hx ha => ?_
    have he := ends_mem h1 hx
    refine stepP_ok hv (end_vl hv hww he) hD ha (by omega) fun hl => ?_
    have hal := after_lt he.le hl
    have hg := he.ge
    have := ih (P.n + 1 - after P x.en) (by omega) (after P x.en) (min (k + 1) (ws.length - 1)) (flag P x.en) (by omega) rfl
    have hq : ((P.n + 1 - after P x.en : Nat) : Int) ≤ q := by omega
    exact ⟨this.en, by have := this.co; omega, by have := this.li; omega⟩
end Go.Proofs.Ytmjhmcjlbcadaaa.Ln
