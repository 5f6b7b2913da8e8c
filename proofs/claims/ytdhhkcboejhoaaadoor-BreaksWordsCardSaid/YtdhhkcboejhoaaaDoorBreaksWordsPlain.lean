/- Words of a text, in plain Lean. -/
import Derived.Test.YtdhhkcboejhoaaaDoorBreaksPlain
namespace Go.Proofs.YtdhhkcboejhoaaaDoor.Bre
open Go.RowKit Go.Frm Mtr

/-- a character that is part of words -/
def ltrB (c : Int) : Bool :=
  cls c == 11 || cls c == 10 || cls c == 6 || (decide (65 ≤ c) && decide (c ≤ 90)) || (decide (97 ≤ c) && decide (c ≤ 122)) || c == 95 ||
    (cls c == 0 && decide (192 ≤ c) && c != 215 && c != 247 && (decide (c < 8192) || decide (11264 ≤ c)))
/-- an apostrophe between two letters, or a point or comma between two digits -/
def insB (C : Nat → Int) (N i : Nat) : Bool :=
  decide (i + 1 < N) && (if C i = 39 ∨ C i = 8217 then ltrB (C (i - 1)) && ltrB (C (i + 1)) && cls (C (i + 1)) != 10 else if C i = 46 ∨ C i = 44 then cls (C (i - 1)) == 11 && cls (C (i + 1)) == 11 else false)
def beg (C : Nat → Int) (i : Nat) : Bool := ltrB (C i) && cls (C i) != 10
def con (C : Nat → Int) (N i : Nat) : Bool := ltrB (C i) || insB C N i
/-- where the word begins that is not over ahead of place i -/
def wst (C : Nat → Int) (N : Nat) : Nat → Option Nat
  | 0 => none
  | i + 1 => match wst C N i with
    | none => if beg C i = true then some i else none
    | some f => if con C N i = true then some f else none
/-- the word that is over at place i -/
def wfl (o : Option Nat) (i : Nat) : List (Nat × Nat) := match o with
  | none => []
  | some f => [(f, i)]
/-- the words that are over ahead of place i -/
def wls (C : Nat → Int) (N : Nat) : Nat → List (Nat × Nat)
  | 0 => []
  | i + 1 => match wst C N i with
    | none => wls C N i
    | some f => if con C N i = true then wls C N i else wls C N i ++ [(f, i)]
def wrd (C : Nat → Int) (N : Nat) : List (Nat × Nat) := wls C N N ++ wfl (wst C N N) N

section
variable {C : Nat → Int} {N i f : Nat}
theorem wst_none_no (h : wst C N i = none) (hb : beg C i = false) : wst C N (i + 1) = none ∧ wls C N (i + 1) = wls C N i := by
  simp [wst, wls, h, hb]
theorem wst_none_yes (h : wst C N i = none) (hb : beg C i = true) : wst C N (i + 1) = some i ∧ wls C N (i + 1) = wls C N i := by
  simp [wst, wls, h, hb]
theorem wst_some_yes (h : wst C N i = some f) (hc : con C N i = true) : wst C N (i + 1) = some f ∧ wls C N (i + 1) = wls C N i := by
  simp [wst, wls, h, hc]
theorem wst_some_no (h : wst C N i = some f) (hc : con C N i = false) : wst C N (i + 1) = none ∧ wls C N (i + 1) = wls C N i ++ [(f, i)] := by
  simp [wst, wls, h, hc]
theorem wst_lt : ∀ {i f : Nat}, wst C N i = some f → f < i
  | 0, f, h => by cases h
  | i + 1, f, h => by
    cases hw : wst C N i with
    | none =>
      cases hb : beg C i with
      | true => rw [(wst_none_yes hw hb).1] at h; cases h; omega
      | false => rw [(wst_none_no hw hb).1] at h; cases h
    | some g =>
      have := wst_lt hw
      cases hc : con C N i with
      | true => rw [(wst_some_yes hw hc).1] at h; cases h; omega
      | false => rw [(wst_some_no hw hc).1] at h; cases h
end

/-! joining two texts by a blank -/
section
variable {C A B : Nat → Int} {a b : Nat}
theorem ltr32 : ltrB 32 = false := by decide
theorem cls32 : cls 32 = 2 := by decide
theorem ins_a (hA : ∀ i, i < a → C i = A i) (h32 : C a = 32) {i : Nat} (hi : i < a) (h0 : 0 < i) : insB C (a + 1 + b) i = insB A a i := by
  unfold insB
  rw [hA i hi, hA (i - 1) (by omega)]
  by_cases h1 : i + 1 < a
  · rw [hA (i + 1) h1, decide_eq_true h1, decide_eq_true (show i + 1 < a + 1 + b by omega)]
  · obtain h1 : i + 1 = a := by omega
    rw [h1, h32, ltr32, cls32, decide_eq_false (show ¬ a < a by omega)]
    simp
theorem words_a (hA : ∀ i, i < a → C i = A i) (h32 : C a = 32) : ∀ i, i ≤ a → wst C (a + 1 + b) i = wst A a i ∧ wls C (a + 1 + b) i = wls A a i
  | 0, _ => ⟨rfl, rfl⟩
  | i + 1, hi => by
    obtain ⟨h1, h2⟩ := words_a hA h32 i (by omega)
    have hb : beg C i = beg A i := by unfold beg; rw [hA i (by omega)]
    cases hw : wst A a i with
    | none =>
      rw [hw] at h1
      cases hbb : beg A i with
      | true =>
        rw [hbb] at hb
        rw [(wst_none_yes h1 hb).1, (wst_none_yes h1 hb).2, (wst_none_yes hw hbb).1, (wst_none_yes hw hbb).2, h2]
        exact ⟨rfl, rfl⟩
      | false =>
        rw [hbb] at hb
        rw [(wst_none_no h1 hb).1, (wst_none_no h1 hb).2, (wst_none_no hw hbb).1, (wst_none_no hw hbb).2, h2]
        exact ⟨rfl, rfl⟩
    | some f =>
      rw [hw] at h1
      have hf := wst_lt hw
      have hc : con C (a + 1 + b) i = con A a i := by unfold con; rw [hA i (by omega), ins_a hA h32 (show i < a by omega) (by omega)]
      cases hcc : con A a i with
      | true =>
        rw [hcc] at hc
        rw [(wst_some_yes h1 hc).1, (wst_some_yes h1 hc).2, (wst_some_yes hw hcc).1, (wst_some_yes hw hcc).2, h2]
        exact ⟨rfl, rfl⟩
      | false =>
        rw [hcc] at hc
        rw [(wst_some_no h1 hc).1, (wst_some_no h1 hc).2, (wst_some_no hw hcc).1, (wst_some_no hw hcc).2, h2]
        exact ⟨rfl, rfl⟩
theorem con32 (h32 : C a = 32) (N : Nat) : con C N a = false := by
  unfold con insB
  rw [h32, ltr32]
  simp
theorem words_mid (hA : ∀ i, i < a → C i = A i) (h32 : C a = 32) : wst C (a + 1 + b) (a + 1) = none ∧ wls C (a + 1 + b) (a + 1) = wrd A a := by
  obtain ⟨h1, h2⟩ := words_a (b := b) hA h32 a (Nat.le_refl _)
  have hb : beg C a = false := by unfold beg; rw [h32, ltr32]; rfl
  have hc := con32 h32 (a + 1 + b)
  unfold wrd
  cases hw : wst A a a with
  | none =>
    rw [hw] at h1
    rw [(wst_none_no h1 hb).1, (wst_none_no h1 hb).2, h2]
    exact ⟨rfl, by simp [wfl]⟩
  | some f =>
    rw [hw] at h1
    rw [(wst_some_no h1 hc).1, (wst_some_no h1 hc).2, h2]
    exact ⟨rfl, rfl⟩
/-- shifted -/
def shf (s : Nat) (l : List (Nat × Nat)) : List (Nat × Nat) := l.map fun x => (s + x.1, s + x.2)
theorem words_b (hA : ∀ i, i < a → C i = A i) (h32 : C a = 32) (hB : ∀ i, i < b → C (a + 1 + i) = B i) : ∀ j, j ≤ b →
    wst C (a + 1 + b) (a + 1 + j) = (wst B b j).map (fun f => a + 1 + f) ∧ wls C (a + 1 + b) (a + 1 + j) = wrd A a ++ shf (a + 1) (wls B b j)
  | 0, _ => by
    obtain ⟨h1, h2⟩ := words_mid (b := b) hA h32
    rw [Nat.add_zero, h1, h2]
    exact ⟨rfl, by simp [shf, wls]⟩
  | j + 1, hj => by
    obtain ⟨h1, h2⟩ := words_b hA h32 hB j (by omega)
    have hC := hB j (by omega)
    have hb : beg C (a + 1 + j) = beg B j := by unfold beg; rw [hC]
    rw [← Nat.add_assoc]
    cases hw : wst B b j with
    | none =>
      rw [hw] at h1
      simp only [Option.map_none] at h1
      cases hbb : beg B j with
      | true =>
        rw [hbb] at hb
        rw [(wst_none_yes h1 hb).1, (wst_none_yes h1 hb).2, (wst_none_yes hw hbb).1, (wst_none_yes hw hbb).2, h2]
        exact ⟨rfl, rfl⟩
      | false =>
        rw [hbb] at hb
        rw [(wst_none_no h1 hb).1, (wst_none_no h1 hb).2, (wst_none_no hw hbb).1, (wst_none_no hw hbb).2, h2]
        exact ⟨rfl, rfl⟩
    | some f =>
      rw [hw] at h1
      simp only [Option.map_some] at h1
      have hf := wst_lt hw
      have hin : insB C (a + 1 + b) (a + 1 + j) = insB B b j := by
        unfold insB
        rw [hC, show a + 1 + j - 1 = a + 1 + (j - 1) by omega, hB (j - 1) (by omega)]
        by_cases h3 : j + 1 < b
        · rw [show a + 1 + j + 1 = a + 1 + (j + 1) by omega, hB (j + 1) h3, decide_eq_true h3, decide_eq_true (show a + 1 + (j + 1) < a + 1 + b by omega)]
        · rw [decide_eq_false h3, decide_eq_false (show ¬ a + 1 + j + 1 < a + 1 + b by omega), Bool.false_and, Bool.false_and]
      have hc : con C (a + 1 + b) (a + 1 + j) = con B b j := by unfold con; rw [hC, hin]
      cases hcc : con B b j with
      | true =>
        rw [hcc] at hc
        rw [(wst_some_yes h1 hc).1, (wst_some_yes h1 hc).2, (wst_some_yes hw hcc).1, (wst_some_yes hw hcc).2, h2]
        exact ⟨rfl, rfl⟩
      | false =>
        rw [hcc] at hc
        rw [(wst_some_no h1 hc).1, (wst_some_no h1 hc).2, (wst_some_no hw hcc).1, (wst_some_no hw hcc).2, h2]
        exact ⟨rfl, by simp [shf]⟩
/-- THE LAW: joining texts with a blank joins their words -/
theorem words_join (hA : ∀ i, i < a → C i = A i) (h32 : C a = 32) (hB : ∀ i, i < b → C (a + 1 + i) = B i) : wrd C (a + 1 + b) = wrd A a ++ shf (a + 1) (wrd B b) := by
  obtain ⟨h1, h2⟩ := words_b hA h32 hB b (Nat.le_refl _)
  show wls C (a + 1 + b) (a + 1 + b) ++ wfl (wst C (a + 1 + b) (a + 1 + b)) (a + 1 + b) = wrd A a ++ shf (a + 1) (wls B b b ++ wfl (wst B b b) b)
  rw [h1, h2]
  cases wst B b b with
  | none => simp [wfl, shf]
  | some f => simp [wfl, shf]
end

/-! words are apart -/
/-- the test of the law -/
def chw (N : Nat) (l : List (Nat × Nat)) : Option Nat := l.foldl (fun o x => o.bind fun a => if a ≤ x.1 ∧ x.1 < x.2 ∧ x.2 ≤ N then some x.2 else none) (some 0)
theorem chw_snoc (N : Nat) (l : List (Nat × Nat)) (x : Nat × Nat) : chw N (l ++ [x]) = (chw N l).bind fun a => if a ≤ x.1 ∧ x.1 < x.2 ∧ x.2 ≤ N then some x.2 else none := by
  unfold chw
  rw [List.foldl_append]
  rfl
theorem chw_none (N : Nat) (l : List (Nat × Nat)) (h : chw N l = none) : ∀ t : List (Nat × Nat), chw N (l ++ t) = none := by
  intro t
  unfold chw at h ⊢
  rw [List.foldl_append, h]
  induction t with
  | nil => rfl
  | cons x t ih => exact ih
theorem chw_words (C : Nat → Int) (N : Nat) : ∀ i, i ≤ N → ∃ e, chw N (wls C N i) = some e ∧ e ≤ i ∧ ∀ f, wst C N i = some f → e ≤ f
  | 0, _ => ⟨0, rfl, Nat.le_refl _, fun f h => by cases h⟩
  | i + 1, hi => by
    obtain ⟨e, h1, h2, h3⟩ := chw_words C N i (by omega)
    cases hw : wst C N i with
    | none =>
      cases hb : beg C i with
      | true =>
        rw [(wst_none_yes hw hb).1, (wst_none_yes hw hb).2]
        exact ⟨e, h1, by omega, fun f h => by cases h; exact h2⟩
      | false =>
        rw [(wst_none_no hw hb).1, (wst_none_no hw hb).2]
        exact ⟨e, h1, by omega, fun f h => by cases h⟩
    | some g =>
      have hg := wst_lt hw
      have h4 := h3 g hw
      cases hc : con C N i with
      | true =>
        rw [(wst_some_yes hw hc).1, (wst_some_yes hw hc).2]
        exact ⟨e, h1, by omega, fun f h => by cases h; exact h4⟩
      | false =>
        rw [(wst_some_no hw hc).1, (wst_some_no hw hc).2]
        refine ⟨i, ?_, by omega, fun f h => by cases h⟩
        rw [chw_snoc, h1]
        show (if e ≤ g ∧ g < i ∧ i ≤ N then some i else none) = some i
        rw [if_pos ⟨h4, hg, by omega⟩]
theorem chw_wrd (C : Nat → Int) (N : Nat) : ∃ e, chw N (wrd C N) = some e := by
  obtain ⟨e, h1, h2, h3⟩ := chw_words C N N (Nat.le_refl _)
  unfold wrd
  cases hw : wst C N N with
  | none => exact ⟨e, by simpa [wfl] using h1⟩
  | some f =>
    refine ⟨N, ?_⟩
    show chw N (wls C N N ++ [(f, N)]) = some N
    rw [chw_snoc, h1]
    show (if e ≤ f ∧ f < N ∧ N ≤ N then some N else none) = some N
    rw [if_pos ⟨h3 f hw, wst_lt hw, Nat.le_refl _⟩]
theorem wls_len (C : Nat → Int) (N : Nat) : ∀ i, (wls C N i).length ≤ i
  | 0 => Nat.le_refl _
  | i + 1 => by
    have := wls_len C N i
    cases hw : wst C N i with
    | none =>
      cases hb : beg C i with
      | true => rw [(wst_none_yes hw hb).2]; omega
      | false => rw [(wst_none_no hw hb).2]; omega
    | some g =>
      cases hc : con C N i with
      | true => rw [(wst_some_yes hw hc).2]; omega
      | false => rw [(wst_some_no hw hc).2, List.length_append, List.length_singleton]; omega
theorem wls_prefix (C : Nat → Int) (N : Nat) : ∀ (d k : Nat), wls C N k <+: wls C N (k + d)
  | 0, k => List.prefix_refl _
  | d + 1, k => by
    refine (wls_prefix C N d k).trans ?_
    rw [show k + (d + 1) = (k + d) + 1 by omega]
    cases hw : wst C N (k + d) with
    | none =>
      cases hb : beg C (k + d) with
      | true => rw [(wst_none_yes hw hb).2]; exact List.prefix_refl _
      | false => rw [(wst_none_no hw hb).2]; exact List.prefix_refl _
    | some g =>
      cases hc : con C N (k + d) with
      | true => rw [(wst_some_yes hw hc).2]; exact List.prefix_refl _
      | false => rw [(wst_some_no hw hc).2]; exact List.prefix_append _ _
/-- what is over at place k, where no word goes on, is a beginning of all -/
theorem fl_prefix (C : Nat → Int) (N k : Nat) (hk : k ≤ N) (h : ∀ f, wst C N k = some f → k < N → con C N k = false) : wls C N k ++ wfl (wst C N k) k <+: wrd C N := by
  by_cases hkN : k = N
  · subst hkN; exact List.prefix_refl _
  · have hp : wls C N k ++ wfl (wst C N k) k = wls C N (k + 1) ∨ wst C N k = none := by
      cases hw : wst C N k with
      | none => exact .inr rfl
      | some f =>
        left
        rw [(wst_some_no hw (h f hw (by omega))).2]
        rfl
    unfold wrd
    rcases hp with hp | hp
    · rw [hp]
      have := wls_prefix C N (N - (k + 1)) (k + 1)
      rw [show k + 1 + (N - (k + 1)) = N by omega] at this
      exact this.trans (List.prefix_append _ _)
    · rw [hp]
      have := wls_prefix C N (N - k) k
      rw [show k + (N - k) = N by omega] at this
      simpa [wfl] using this.trans (List.prefix_append _ _)
end Go.Proofs.YtdhhkcboejhoaaaDoor.Bre
