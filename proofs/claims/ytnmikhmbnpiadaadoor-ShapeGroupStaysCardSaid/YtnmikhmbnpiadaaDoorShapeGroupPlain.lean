/- The drawing that shape.Group makes, as a plain list; it is valid, and its shapes stand where they stood. No program in sight but the numbers of its types. -/
import Derived.Test.YtnmikhmbnpiadaaDoorShapeGroupEmb
import Derived.Test.YtnmikhmbnpiadaaDoorShapeUngroup
namespace Go.Proofs.YtnmikhmbnpiadaaDoor.Shp
open Go.RowKit Go.Frm

/-- what is in the new group -/
def innF (G : Nat → Nat → Int) (sel : Nat → Bool) : Nat → Nat → Bool
  | 0, _ => false
  | f + 1, k => sel k || (decide (G k 1 ≠ 0) && innF G sel f (pr G k))
def inn (G : Nat → Nat → Int) (sel : Nat → Bool) (k : Nat) : Bool := innF G sel (k + 1) k
/-- the shapes that are grouped; a is the first of them -/
structure Grp (G : Nat → Nat → Int) (n : Nat) (sel : Nat → Bool) (a : Nat) : Prop where
  sml : Sml G n
  lt : a < n
  at_ : sel a = true
  low : ∀ k, k < n → sel k = true → a ≤ k ∧ G k 1 = G a 1
def restL (I : Nat → Bool) : Nat → List (Option Nat)
  | 0 => []
  | i + 1 => restL I i ++ if I i then [some i] else []
def outL (I : Nat → Bool) (a n : Nat) : Nat → List (Option Nat)
  | 0 => []
  | i + 1 => outL I a n i ++ ((if i = a then none :: restL I n else []) ++ if I i then [] else [some i])
def cntI (I : Nat → Bool) : Nat → Nat
  | 0 => 0
  | i + 1 => cntI I i + if I i then 1 else 0
def key (I : Nat → Bool) (a : Nat) : Option Nat → Nat
  | none => 100 * a
  | some k => if I k then 100 * a + 1 + k else 100 * k
section
variable {G : Nat → Nat → Int} {n : Nat} {sel : Nat → Bool} {a : Nat}
theorem innF_stable (h : Sml G n) : ∀ (k : Nat), k < n → ∀ f, k < f → innF G sel f k = innF G sel (k + 1) k := by
  intro k
  induction k using Nat.strongRecOn with
  | _ k ih =>
    intro hk f hf
    obtain ⟨f, rfl⟩ : ∃ g, f = g + 1 := ⟨f - 1, by omega⟩
    show (sel k || (decide (G k 1 ≠ 0) && innF G sel f (pr G k))) = (sel k || (decide (G k 1 ≠ 0) && innF G sel k (pr G k)))
    by_cases h1 : G k 1 = 0
    · simp [h1]
    · obtain ⟨hp, _, _⟩ := h.par hk h1
      rw [ih (pr G k) hp (by omega) f (by omega), ih (pr G k) hp (by omega) k hp]
theorem inn_eq (h : Sml G n) {k : Nat} (hk : k < n) : inn G sel k = (sel k || (decide (G k 1 ≠ 0) && inn G sel (pr G k))) := by
  show (sel k || (decide (G k 1 ≠ 0) && innF G sel k (pr G k))) = _
  by_cases h1 : G k 1 = 0
  · simp [h1]
  · obtain ⟨hp, _, _⟩ := h.par hk h1
    rw [innF_stable h (pr G k) (by omega) k hp]
    rfl
theorem inn_from (h : Sml G n) : ∀ k, k < n → inn G sel k = true → ∃ q, q ≤ k ∧ sel q = true := by
  intro k
  induction k using Nat.strongRecOn with
  | _ k ih =>
    intro hk hi
    rw [inn_eq h hk, Bool.or_eq_true, Bool.and_eq_true, decide_eq_true_eq] at hi
    rcases hi with hi | ⟨h1, hi⟩
    · exact ⟨k, Nat.le_refl _, hi⟩
    · obtain ⟨hp, _, _⟩ := h.par hk h1
      obtain ⟨q, hq, hs⟩ := ih _ hp (by omega) hi
      exact ⟨q, by omega, hs⟩
theorem Grp.out (h : Grp G n sel a) {k : Nat} (hk : k < a) : inn G sel k = false := by
  cases hi : inn G sel k with
  | false => rfl
  | true =>
    have hl := h.lt
    obtain ⟨q, hq, hs⟩ := inn_from h.sml k (by omega) hi
    have := (h.low q (by omega) hs).1
    omega
theorem inn_sel (h : Sml G n) {k : Nat} (hk : k < n) (hs : sel k = true) : inn G sel k = true := by rw [inn_eq h hk, hs]; rfl
variable {I : Nat → Bool}
theorem rest_len : ∀ i, (restL I i).length = cntI I i
  | 0 => rfl
  | i + 1 => by
    show (restL I i ++ _).length = cntI I i + _
    rw [List.length_append, rest_len i]
    split <;> rfl
theorem rest_mem : ∀ i c, c ∈ restL I i ↔ ∃ k, k < i ∧ I k = true ∧ c = some k
  | 0, c => by simp [restL]
  | i + 1, c => by
    show c ∈ restL I i ++ _ ↔ _
    rw [List.mem_append, rest_mem i c]
    constructor
    · rintro (⟨k, h1, h2, h3⟩ | h)
      · exact ⟨k, by omega, h2, h3⟩
      · split at h
        · rename_i hi
          simp at h
          exact ⟨i, by omega, hi, h⟩
        · simp at h
    · rintro ⟨k, h1, h2, h3⟩
      by_cases e : k = i
      · subst e
        right
        rw [if_pos h2, h3]
        simp
      · exact .inl ⟨k, by omega, h2, h3⟩
theorem key_in (a k : Nat) (h : I k = true) : key I a (some k) = 100 * a + 1 + k := if_pos h
theorem key_out (a k : Nat) (h : I k = false) : key I a (some k) = 100 * k := if_neg (by rw [h]; decide)
theorem rest_pair (a : Nat) : ∀ i, (restL I i).Pairwise fun x y => key I a x < key I a y
  | 0 => List.Pairwise.nil
  | i + 1 => by
    show (restL I i ++ _).Pairwise _
    rw [List.pairwise_append]
    refine ⟨rest_pair a i, by split <;> simp, fun x hx y hy => ?_⟩
    split at hy
    · rename_i hi
      simp at hy
      subst hy
      obtain ⟨k, h1, h2, rfl⟩ := (rest_mem i x).1 hx
      rw [key_in a k h2, key_in a i hi]
      omega
    · simp at hy
theorem out_len (hn : ∀ i, i < a → I i = false) : ∀ i, i ≤ n → (outL I a n i).length + cntI I i = i + if a < i then 1 + cntI I n else 0
  | 0, _ => by simp [outL, cntI]
  | i + 1, h => by
    have ih := out_len hn i (by omega)
    show (outL I a n i ++ _).length + (cntI I i + _) = _
    rw [List.length_append, List.length_append]
    have h1 : (if i = a then (none :: restL I n) else []).length = if i = a then 1 + cntI I n else 0 := by
      split
      · rw [List.length_cons, rest_len]; omega
      · rfl
    have h2 : (if I i = true then ([] : List (Option Nat)) else [some i]).length + (if I i = true then 1 else 0) = 1 := by split <;> rfl
    rw [h1]
    by_cases e : i = a
    · rw [if_pos e, if_pos (show a < i + 1 by omega)]
      rw [if_neg (show ¬ a < i by omega)] at ih
      omega
    · rw [if_neg e]
      by_cases e2 : a < i
      · rw [if_pos e2] at ih
        rw [if_pos (show a < i + 1 by omega)]
        omega
      · rw [if_neg e2] at ih
        rw [if_neg (show ¬ a < i + 1 by omega)]
        omega
theorem out_mem : ∀ i c, c ∈ outL I a n i → c = none ∨ ∃ k, (k < i ∨ k < n) ∧ c = some k
  | 0, c, h => by simp [outL] at h
  | i + 1, c, h => by
    have h : c ∈ outL I a n i ++ _ := h
    rw [List.mem_append, List.mem_append] at h
    rcases h with h | h | h
    · rcases out_mem i c h with h | ⟨k, h1, h2⟩
      · exact .inl h
      · exact .inr ⟨k, by omega, h2⟩
    · split at h
      · rcases List.mem_cons.1 h with h | h
        · exact .inl h
        · obtain ⟨k, h1, _, h2⟩ := (rest_mem n c).1 h
          exact .inr ⟨k, .inr h1, h2⟩
      · simp at h
    · split at h
      · simp at h
      · simp at h
        exact .inr ⟨i, .inl (by omega), h⟩
theorem out_has : ∀ i, (∀ k, k < i → I k = false → some k ∈ outL I a n i) ∧ (a < i → none ∈ outL I a n i ∧ ∀ k, k < n → I k = true → some k ∈ outL I a n i)
  | 0 => ⟨fun k h => by omega, fun h => by omega⟩
  | i + 1 => by
    obtain ⟨h1, h2⟩ := out_has i
    have e : outL I a n (i + 1) = outL I a n i ++ ((if i = a then none :: restL I n else []) ++ if I i then [] else [some i]) := rfl
    rw [e]
    refine ⟨fun k hk hI => ?_, fun ha => ?_⟩
    · by_cases ek : k = i
      · subst ek
        rw [hI]
        simp
      · exact List.mem_append_left _ (h1 k (by omega) hI)
    · by_cases ei : i = a
      · rw [if_pos ei]
        refine ⟨by simp, fun k hk hI => ?_⟩
        have := (rest_mem (I := I) n (some k)).2 ⟨k, hk, hI, rfl⟩
        simp [this]
      · obtain ⟨g1, g2⟩ := h2 (by omega)
        exact ⟨List.mem_append_left _ g1, fun k hk hI => List.mem_append_left _ (g2 k hk hI)⟩
theorem out_pair (hn : n ≤ 90) (ha : I a = true) : ∀ i, (outL I a n i).Pairwise (fun x y => key I a x < key I a y) ∧ ∀ c ∈ outL I a n i, key I a c < 100 * i
  | 0 => ⟨List.Pairwise.nil, by simp [outL]⟩
  | i + 1 => by
    obtain ⟨h1, h2⟩ := out_pair hn ha i
    have e : outL I a n (i + 1) = outL I a n i ++ ((if i = a then none :: restL I n else []) ++ if I i then [] else [some i]) := rfl
    rw [e]
    by_cases ei : i = a
    · subst ei
      rw [if_pos rfl, if_pos ha, List.append_nil]
      have hk : ∀ c ∈ restL I n, key I i c < 100 * (i + 1) ∧ 100 * i < key I i c := fun c hc => by
        obtain ⟨k, g1, g2, rfl⟩ := (rest_mem n c).1 hc
        rw [key_in i k g2]
        omega
      constructor
      · rw [List.pairwise_append]
        refine ⟨h1, ?_, fun x hx y hy => ?_⟩
        · rw [List.pairwise_cons]
          exact ⟨fun y hy => (hk y hy).2, rest_pair i n⟩
        · have := h2 x hx
          rcases List.mem_cons.1 hy with rfl | hy
          · exact this
          · have := (hk y hy).2; omega
      · intro c hc
        rcases List.mem_append.1 hc with hc | hc
        · have := h2 c hc; omega
        · rcases List.mem_cons.1 hc with rfl | hc
          · show 100 * i < _; omega
          · exact (hk c hc).1
    · rw [if_neg ei, List.nil_append]
      cases hI : I i with
      | true =>
        rw [if_pos rfl, List.append_nil]
        exact ⟨h1, fun c hc => by have := h2 c hc; omega⟩
      | false =>
        rw [if_neg (by decide)]
        constructor
        · rw [List.pairwise_append]
          refine ⟨h1, by simp, fun x hx y hy => ?_⟩
          simp at hy
          subst hy
          rw [key_out a i hI]
          exact h2 x hx
        · intro c hc
          rcases List.mem_append.1 hc with hc | hc
          · have := h2 c hc; omega
          · simp at hc
            subst hc
            rw [key_out a i hI]
            omega
theorem idx_of {L : List (Option Nat)} {c : Option Nat} (h : c ∈ L) : ∃ i, i < L.length ∧ L.getD i none = c := by
  obtain ⟨i, hi, h⟩ := List.getElem_of_mem h
  exact ⟨i, hi, by rw [List.getD_eq_getElem?_getD, List.getElem?_eq_getElem hi]; exact h⟩
theorem lt_of_key {f : Option Nat → Nat} {L : List (Option Nat)} (hp : L.Pairwise fun x y => f x < f y) {i j : Nat} (hi : i < L.length) (hj : j < L.length) (h : f (L.getD i none) < f (L.getD j none)) : i < j := by
  rw [List.getD_eq_getElem?_getD, List.getElem?_eq_getElem hi, List.getD_eq_getElem?_getD, List.getElem?_eq_getElem hj] at h
  simp only [Option.getD_some] at h
  rcases Nat.lt_trichotomy i j with h1 | h1 | h1
  · exact h1
  · subst h1; omega
  · have := List.pairwise_iff_getElem.1 hp j i hj hi h1
    omega
end

/-- the numbers of the new group -/
def grV (gi par X Y W Z : Int) : Nat → Int
  | 0 => gi
  | 1 => par
  | 2 => 5
  | 3 => X
  | 4 => Y
  | 5 => W
  | 6 => Z
  | _ => 0
def mvV (G : Nat → Nat → Int) (gi X Y : Int) (k : Nat) : Nat → Int
  | 1 => gi
  | 3 => G k 3 - X
  | 4 => G k 4 - Y
  | j => G k j
def coV (G : Nat → Nat → Int) (sel : Nat → Bool) (gi par X Y W Z : Int) (c : Option Nat) (j : Nat) : Int :=
  match c with
  | none => grV gi par X Y W Z j
  | some k => if sel k then mvV G gi X Y k j else G k j
def coT (T : Nat → Nat → ByteArray) (c : Option Nat) (j : Nat) : ByteArray :=
  match c with
  | none => ⟨#[]⟩
  | some k => T k j
def gpL (G : Nat → Nat → Int) (n : Nat) (sel : Nat → Bool) (a : Nat) : List (Option Nat) := outL (inn G sel) a n n
def gpG (G : Nat → Nat → Int) (n : Nat) (sel : Nat → Bool) (a : Nat) (X Y W Z : Int) (i j : Nat) : Int := coV G sel 77 (G a 1) X Y W Z ((gpL G n sel a).getD i none) j
def gpT (G : Nat → Nat → Int) (n : Nat) (sel : Nat → Bool) (a : Nat) (T : Nat → Nat → ByteArray) (i j : Nat) : ByteArray := coT T ((gpL G n sel a).getD i none) j
section
variable {G : Nat → Nat → Int} {n : Nat} {sel : Nat → Bool} {a : Nat} {X Y W Z : Int}
theorem gp_len (h : Grp G n sel a) : (gpL G n sel a).length = n + 1 := by
  have := out_len (I := inn G sel) (n := n) (fun i hi => h.out hi) n (Nat.le_refl _)
  rw [if_pos h.lt] at this
  unfold gpL
  omega
theorem gp_none (h : Grp G n sel a) : ∃ g, g < n + 1 ∧ (gpL G n sel a).getD g none = none := by
  obtain ⟨g, h1, h2⟩ := idx_of ((out_has (I := inn G sel) (a := a) (n := n) n).2 h.lt).1
  exact ⟨g, by rw [← gp_len h]; exact h1, h2⟩
theorem gp_some (h : Grp G n sel a) {k : Nat} (hk : k < n) : ∃ i, i < n + 1 ∧ (gpL G n sel a).getD i none = some k := by
  have hm : some k ∈ gpL G n sel a := by
    cases hI : inn G sel k with
    | false => exact (out_has (I := inn G sel) (a := a) (n := n) n).1 k hk hI
    | true => exact ((out_has (I := inn G sel) (a := a) (n := n) n).2 h.lt).2 k hk hI
  obtain ⟨i, h1, h2⟩ := idx_of hm
  exact ⟨i, by rw [← gp_len h]; exact h1, h2⟩
theorem gp_cases (h : Grp G n sel a) {i : Nat} (hi : i < n + 1) : (gpL G n sel a).getD i none = none ∨ ∃ k, k < n ∧ (gpL G n sel a).getD i none = some k := by
  have hl : i < (gpL G n sel a).length := by rw [gp_len h]; exact hi
  have hm : (gpL G n sel a).getD i none ∈ gpL G n sel a := by
    rw [List.getD_eq_getElem?_getD, List.getElem?_eq_getElem hl]
    exact List.getElem_mem hl
  rcases out_mem n _ hm with h1 | ⟨k, h1, h2⟩
  · exact .inl h1
  · exact .inr ⟨k, by omega, h2⟩
theorem gp_lt (h : Grp G n sel a) {i j : Nat} (hi : i < n + 1) (hj : j < n + 1) (hk : key (inn G sel) a ((gpL G n sel a).getD i none) < key (inn G sel) a ((gpL G n sel a).getD j none)) : i < j :=
  lt_of_key (f := key (inn G sel) a) (out_pair (I := inn G sel) (a := a) (n := n) (by have := h.sml.few; omega) (inn_sel h.sml h.lt h.at_) n).1 (by rw [show (outL (inn G sel) a n n).length = n + 1 from gp_len h]; exact hi) (by rw [show (outL (inn G sel) a n n).length = n + 1 from gp_len h]; exact hj) hk
theorem gp_one (h : Grp G n sel a) {i j : Nat} (hi : i < n + 1) (hj : j < n + 1) (hk : (gpL G n sel a).getD i none = (gpL G n sel a).getD j none) : i = j := by
  have hl := gp_len h
  have hp := (out_pair (I := inn G sel) (a := a) (n := n) (by have := h.sml.few; omega) (inn_sel h.sml h.lt h.at_) n).1
  have hil : i < (gpL G n sel a).length := by rw [hl]; exact hi
  have hjl : j < (gpL G n sel a).length := by rw [hl]; exact hj
  rw [List.getD_eq_getElem?_getD, List.getElem?_eq_getElem hil, List.getD_eq_getElem?_getD, List.getElem?_eq_getElem hjl] at hk
  simp only [Option.getD_some] at hk
  rcases Nat.lt_trichotomy i j with h1 | h1 | h1
  · have h2 : key (inn G sel) a (gpL G n sel a)[i] < key (inn G sel) a (gpL G n sel a)[j] := List.pairwise_iff_getElem.1 hp i j hil hjl h1
    rw [hk] at h2
    omega
  · exact h1
  · have h2 : key (inn G sel) a (gpL G n sel a)[j] < key (inn G sel) a (gpL G n sel a)[i] := List.pairwise_iff_getElem.1 hp j i hjl hil h1
    rw [hk] at h2
    omega
/-- the group of a shape stands ahead of it -/
theorem gp_par (h : Grp G n sel a) {k i : Nat} (hk : k < n) (hi : i < n + 1) (e : (gpL G n sel a).getD i none = some k) (hs : sel k = false) (h1 : G k 1 ≠ 0) : ∃ p, p < i ∧ (gpL G n sel a).getD p none = some (pr G k) := by
  obtain ⟨c1, c2, _⟩ := h.sml.par hk h1
  obtain ⟨p, hp, ep⟩ := gp_some h (show pr G k < n by omega)
  refine ⟨p, gp_lt h hp hi ?_, ep⟩
  rw [e, ep]
  have hin := inn_eq (sel := sel) h.sml hk
  rw [hs, Bool.false_or, decide_eq_true h1, Bool.true_and] at hin
  cases hI : inn G sel k with
  | true =>
    rw [hI] at hin
    rw [key_in a _ hI, key_in a _ hin.symm]
    omega
  | false =>
    rw [hI] at hin
    rw [key_out a _ hI, key_out a _ hin.symm]
    omega
theorem gp_on (h : Grp G n sel a) {k i g : Nat} (hk : k < n) (hi : i < n + 1) (e : (gpL G n sel a).getD i none = some k) (hs : sel k = true) (hg : g < n + 1) (eg : (gpL G n sel a).getD g none = none) : g < i := by
  refine gp_lt h hg hi ?_
  rw [e, eg, key_in a k (inn_sel h.sml hk hs)]
  show 100 * a < _
  omega
theorem gp_up (h : Grp G n sel a) {g : Nat} (hg : g < n + 1) (eg : (gpL G n sel a).getD g none = none) (h1 : G a 1 ≠ 0) : ∃ p, p < g ∧ (gpL G n sel a).getD p none = some (pr G a) := by
  obtain ⟨c1, c2, _⟩ := h.sml.par h.lt h1
  have hl := h.lt
  obtain ⟨p, hp, ep⟩ := gp_some h (show pr G a < n by omega)
  refine ⟨p, gp_lt h hp hg ?_, ep⟩
  rw [eg, ep, key_out a _ (h.out c1)]
  show _ < 100 * a
  omega
theorem gpG_none {i : Nat} (e : (gpL G n sel a).getD i none = none) (j : Nat) : gpG G n sel a X Y W Z i j = grV 77 (G a 1) X Y W Z j := by unfold gpG; rw [e]; rfl
theorem gpG_off {i k : Nat} (e : (gpL G n sel a).getD i none = some k) (hs : sel k = false) (j : Nat) : gpG G n sel a X Y W Z i j = G k j := by unfold gpG; rw [e]; show (if sel k then _ else _) = _; rw [hs]; rfl
theorem gpG_on {i k : Nat} (e : (gpL G n sel a).getD i none = some k) (hs : sel k = true) (j : Nat) : gpG G n sel a X Y W Z i j = mvV G 77 X Y k j := by unfold gpG; rw [e]; show (if sel k then _ else _) = _; rw [hs]; rfl
/-- the frame of the group -/
structure FrOk (X Y W Z : Int) : Prop where
  x : -100000 ≤ X ∧ X ≤ 100000
  y : -100000 ≤ Y ∧ Y ≤ 100000
  w : 0 ≤ W ∧ W ≤ 1000000
  z : 0 ≤ Z ∧ Z ≤ 1000000
theorem gp_item (h : Grp G n sel a) {i k : Nat} (hk : k < n) (e : (gpL G n sel a).getD i none = some k) : gpG G n sel a X Y W Z i 0 = (k : Int) + 1 := by
  cases hs : sel k with
  | true => rw [gpG_on e hs]; exact h.sml.item k hk
  | false => rw [gpG_off e hs]; exact h.sml.item k hk
theorem gp_kind {i k : Nat} (e : (gpL G n sel a).getD i none = some k) : gpG G n sel a X Y W Z i 2 = G k 2 := by
  cases hs : sel k with
  | true => rw [gpG_on e hs]; rfl
  | false => rw [gpG_off e hs]
theorem gp_far {i k : Nat} (e : (gpL G n sel a).getD i none = some k) : gpG G n sel a X Y W Z i 5 = G k 5 ∧ gpG G n sel a X Y W Z i 6 = G k 6 ∧ gpG G n sel a X Y W Z i 7 = G k 7 ∧ gpG G n sel a X Y W Z i 8 = G k 8 ∧ gpG G n sel a X Y W Z i 9 = G k 9 := by
  cases hs : sel k with
  | true => rw [gpG_on e hs, gpG_on e hs, gpG_on e hs, gpG_on e hs, gpG_on e hs]; exact ⟨rfl, rfl, rfl, rfl, rfl⟩
  | false => rw [gpG_off e hs, gpG_off e hs, gpG_off e hs, gpG_off e hs, gpG_off e hs]; exact ⟨rfl, rfl, rfl, rfl, rfl⟩
theorem gp_ok (h : Grp G n sel a) (hf : FrOk X Y W Z) : ShOk (gpG G n sel a X Y W Z) (n + 1) := by
  have hs := h.sml
  have few := hs.few
  have hx := hf.x
  have hy := hf.y
  have hw := hf.w
  have hz := hf.z
  refine ⟨by omega, fun i hi => ?_, fun j i hji hi => ?_, fun i hi => ?_, fun i hi => ?_, fun i hi => ?_, fun i hi => ?_, fun i hi => ?_, fun i hi => ?_, fun i hi hk6 => ?_, fun i hi => ?_⟩
  · rcases gp_cases h hi with e | ⟨k, hk, e⟩
    · rw [gpG_none e]; show 1 ≤ (77 : Int) ∧ (77 : Int) ≤ 1073741824; decide
    · rw [gp_item h hk e]; omega
  · intro heq
    have hj : j < n + 1 := by omega
    have : (gpL G n sel a).getD j none = (gpL G n sel a).getD i none := by
      rcases gp_cases h hj with e | ⟨k, hk, e⟩ <;> rcases gp_cases h hi with e' | ⟨k', hk', e'⟩
      · rw [e, e']
      · rw [gpG_none e, gp_item h hk' e'] at heq
        have : (77 : Int) = (k' : Int) + 1 := heq
        omega
      · rw [gpG_none e', gp_item h hk e] at heq
        have : (k : Int) + 1 = (77 : Int) := heq
        omega
      · rw [gp_item h hk e, gp_item h hk' e'] at heq
        rw [e, e', show k = k' by omega]
    have := gp_one h hj hi this
    omega
  · rcases gp_cases h hi with e | ⟨k, hk, e⟩
    · rw [gpG_none e]; exact hs.ok.par a h.lt
    · cases hse : sel k with
      | true => rw [gpG_on e hse]; show 0 ≤ (77 : Int) ∧ (77 : Int) ≤ 1073741824; decide
      | false => rw [gpG_off e hse]; exact hs.ok.par k hk
  · rcases gp_cases h hi with e | ⟨k, hk, e⟩
    · rw [gpG_none e]; show 0 ≤ (5 : Int) ∧ (5 : Int) ≤ 7; decide
    · rw [gp_kind e]; exact hs.ok.kind k hk
  · rcases gp_cases h hi with e | ⟨k, hk, e⟩
    · rw [gpG_none e, gpG_none e]; show (-1048576 ≤ X ∧ X ≤ 1048576) ∧ (-1048576 ≤ Y ∧ Y ≤ 1048576); omega
    · have := hs.xy k hk
      cases hse : sel k with
      | true => rw [gpG_on e hse, gpG_on e hse]; show (-1048576 ≤ G k 3 - X ∧ G k 3 - X ≤ 1048576) ∧ (-1048576 ≤ G k 4 - Y ∧ G k 4 - Y ≤ 1048576); omega
      | false => rw [gpG_off e hse, gpG_off e hse]; omega
  · rcases gp_cases h hi with e | ⟨k, hk, e⟩
    · rw [gpG_none e, gpG_none e]; show (0 ≤ W ∧ W ≤ 1048576) ∧ (0 ≤ Z ∧ Z ≤ 1048576); omega
    · obtain ⟨e5, e6, _⟩ := gp_far (X := X) (Y := Y) (W := W) (Z := Z) e
      rw [e5, e6]; exact hs.ok.wh k hk
  · rcases gp_cases h hi with e | ⟨k, hk, e⟩
    · rw [gpG_none e]; show 0 ≤ (0 : Int) ∧ (0 : Int) < 3600; decide
    · rw [(gp_far e).2.2.1]; exact hs.ok.turn k hk
  · rcases gp_cases h hi with e | ⟨k, hk, e⟩
    · rw [gpG_none e, gpG_none e]; show (0 ≤ (0 : Int) ∧ (0 : Int) ≤ 1073741824) ∧ (0 ≤ (0 : Int) ∧ (0 : Int) ≤ 1073741824); decide
    · rw [(gp_far e).2.2.2.1, (gp_far e).2.2.2.2]; exact hs.ok.ft k hk
  · rcases gp_cases h hi with e | ⟨k, hk, e⟩
    · rw [gpG_none e, gpG_none e]; exact ⟨rfl, rfl⟩
    · rw [gp_kind e] at hk6
      rw [(gp_far e).2.2.2.1, (gp_far e).2.2.2.2]; exact hs.ok.link k hk hk6
  · rcases gp_cases h hi with e | ⟨k, hk, e⟩
    · by_cases h1 : G a 1 = 0
      · left; rw [gpG_none e]; exact h1
      · right
        obtain ⟨p, hp, ep⟩ := gp_up h hi e h1
        obtain ⟨c1, c2, c3⟩ := hs.par h.lt h1
        have hl := h.lt
        refine ⟨p, hp, ?_, by rw [gp_kind ep]; exact c3⟩
        rw [gp_item h (by omega) ep, gpG_none e]
        exact c2.symm
    · cases hse : sel k with
      | true =>
        right
        obtain ⟨g, hg, eg⟩ := gp_none h
        refine ⟨g, gp_on h hk hi e hse hg eg, ?_, by rw [gpG_none eg]; rfl⟩
        rw [gpG_none eg, gpG_on e hse]
        rfl
      | false =>
        rw [gpG_off e hse]
        by_cases h1 : G k 1 = 0
        · exact .inl h1
        · right
          obtain ⟨p, hp, ep⟩ := gp_par h hk hi e hse h1
          obtain ⟨c1, c2, c3⟩ := hs.par hk h1
          exact ⟨p, hp, by rw [gp_item h (by omega) ep]; exact c2.symm, by rw [gp_kind ep]; exact c3⟩
/-- the shapes stand where they stood -/
theorem gp_emb (h : Grp G n sel a) (hf : FrOk X Y W Z) : Emb G n (gpG G n sel a X Y W Z) (n + 1) sel X Y where
  ok := gp_ok h hf
  x := hf.x
  y := hf.y
  row k hk := by
    obtain ⟨i, hi, e⟩ := gp_some h hk
    obtain ⟨e5, e6, e7, _⟩ := gp_far (X := X) (Y := Y) (W := W) (Z := Z) e
    refine ⟨i, hi, gp_item h hk e, ⟨e5, e6, e7⟩, fun hs => ?_, fun hs => ?_⟩
    · refine ⟨gpG_off e hs 1, gpG_off e hs 3, gpG_off e hs 4, fun h1 => ?_⟩
      obtain ⟨p, hp, ep⟩ := gp_par h hk hi e hs h1
      obtain ⟨c1, c2, _⟩ := h.sml.par hk h1
      exact ⟨p, hp, by rw [gp_item h (by omega) ep]; exact c2.symm⟩
    · obtain ⟨g, hg, eg⟩ := gp_none h
      have hpar := (h.low k hk hs).2
      refine ⟨gpG_on e hs 3, gpG_on e hs 4, g, gp_on h hk hi e hs hg eg, by rw [gpG_none eg]; show (77 : Int) ≠ 0; decide, by rw [gpG_none eg, gpG_on e hs]; rfl, by rw [gpG_none eg]; exact hpar.symm, gpG_none eg 3, gpG_none eg 4, gpG_none eg 7, fun h1 => ?_⟩
      rw [hpar] at h1
      obtain ⟨p, hp, ep⟩ := gp_up h hg eg h1
      obtain ⟨c1, c2, _⟩ := h.sml.par h.lt h1
      have hl := h.lt
      exact ⟨p, hp, by rw [gp_item h (by omega) ep, hpar]; exact c2.symm⟩

/-! ### the way back -/
theorem ug_row (h : Grp G n sel a) {g : Nat} (eg : (gpL G n sel a).getD g none = none) {i k : Nat} (hk : k < n) (e : (gpL G n sel a).getD i none = some k) :
    ugS (gpG G n sel a X Y W Z) g i 0 = (k : Int) + 1 ∧ ugS (gpG G n sel a X Y W Z) g i 1 = G k 1 ∧ ugS (gpG G n sel a X Y W Z) g i 2 = G k 2 ∧ ugS (gpG G n sel a X Y W Z) g i 3 = G k 3 ∧ ugS (gpG G n sel a X Y W Z) g i 4 = G k 4 ∧
    ugS (gpG G n sel a X Y W Z) g i 5 = G k 5 ∧ ugS (gpG G n sel a X Y W Z) g i 6 = G k 6 ∧ ugS (gpG G n sel a X Y W Z) g i 7 = G k 7 ∧ (ugS (gpG G n sel a X Y W Z) g i 8 = 0 ∨ ugS (gpG G n sel a X Y W Z) g i 8 = G k 8) ∧ (ugS (gpG G n sel a X Y W Z) g i 9 = 0 ∨ ugS (gpG G n sel a X Y W Z) g i 9 = G k 9) := by
  obtain ⟨e5, e6, e7, e8, e9⟩ := gp_far (X := X) (Y := Y) (W := W) (Z := Z) e
  have g0 : gpG G n sel a X Y W Z g 0 = 77 := gpG_none eg 0
  have g1 : gpG G n sel a X Y W Z g 1 = G a 1 := gpG_none eg 1
  have g3 : gpG G n sel a X Y W Z g 3 = X := gpG_none eg 3
  have g4 : gpG G n sel a X Y W Z g 4 = Y := gpG_none eg 4
  have g7 : gpG G n sel a X Y W Z g 7 = 0 := gpG_none eg 7
  have i2 := gp_kind (X := X) (Y := Y) (W := W) (Z := Z) e
  have i0 := gp_item (X := X) (Y := Y) (W := W) (Z := Z) h hk e
  have q8 : ugS (gpG G n sel a X Y W Z) g i 8 = 0 ∨ ugS (gpG G n sel a X Y W Z) g i 8 = G k 8 := by
    show (if gpG G n sel a X Y W Z i 8 = _ then 0 else gpG G n sel a X Y W Z i 8) = 0 ∨ (if gpG G n sel a X Y W Z i 8 = _ then 0 else gpG G n sel a X Y W Z i 8) = _
    rw [e8]
    split
    · exact .inl rfl
    · exact .inr rfl
  have q9 : ugS (gpG G n sel a X Y W Z) g i 9 = 0 ∨ ugS (gpG G n sel a X Y W Z) g i 9 = G k 9 := by
    show (if gpG G n sel a X Y W Z i 9 = _ then 0 else gpG G n sel a X Y W Z i 9) = 0 ∨ (if gpG G n sel a X Y W Z i 9 = _ then 0 else gpG G n sel a X Y W Z i 9) = _
    rw [e9]
    split
    · exact .inl rfl
    · exact .inr rfl
  cases hs : sel k with
  | true =>
    have i1 : gpG G n sel a X Y W Z i 1 = 77 := gpG_on e hs 1
    have i3 : gpG G n sel a X Y W Z i 3 = G k 3 - X := gpG_on e hs 3
    have i4 : gpG G n sel a X Y W Z i 4 = G k 4 - Y := gpG_on e hs 4
    have hc : gpG G n sel a X Y W Z i 1 = gpG G n sel a X Y W Z g 0 := by rw [i1, g0]
    refine ⟨i0, ?_, i2, ?_, ?_, e5, e6, ?_, q8, q9⟩
    · show (if _ then _ else _) = _
      rw [if_pos hc, g1]; exact (h.low k hk hs).2.symm
    · show (if _ then _ else _) = _
      rw [if_pos hc]
      unfold ugX
      rw [if_pos g7, i3, g3]; omega
    · show (if _ then _ else _) = _
      rw [if_pos hc]
      unfold ugY
      rw [if_pos g7, i4, g4]; omega
    · show (if _ then _ else _) = _
      rw [if_pos hc]
      unfold ugW
      rw [if_pos g7, e7]
  | false =>
    have i1 : gpG G n sel a X Y W Z i 1 = G k 1 := gpG_off e hs 1
    have hc : ¬ gpG G n sel a X Y W Z i 1 = gpG G n sel a X Y W Z g 0 := by
      rw [i1, g0]
      intro hh
      have hne : G k 1 ≠ 0 := by omega
      obtain ⟨c1, c2, _⟩ := h.sml.par hk hne
      have := h.sml.few
      omega
    refine ⟨i0, ?_, i2, ?_, ?_, e5, e6, ?_, q8, q9⟩
    · show (if _ then _ else _) = _
      rw [if_neg hc, i1]
    · show (if _ then _ else _) = _
      rw [if_neg hc]; exact gpG_off e hs 3
    · show (if _ then _ else _) = _
      rw [if_neg hc]; exact gpG_off e hs 4
    · show (if _ then _ else _) = _
      rw [if_neg hc, e7]
theorem src_ne (g i : Nat) : src g i ≠ g := by unfold src; split <;> omega
theorem back_cases (h : Grp G n sel a) {g : Nat} (hg : g < n + 1) (eg : (gpL G n sel a).getD g none = none) {i : Nat} (hi : i < n) : src g i < n + 1 ∧ ∃ k, k < n ∧ (gpL G n sel a).getD (src g i) none = some k := by
  have hs : src g i < n + 1 := by unfold src; split <;> omega
  refine ⟨hs, ?_⟩
  rcases gp_cases h hs with e | h1
  · exact absurd (gp_one h hs hg (by rw [e, eg])) (src_ne g i)
  · exact h1
theorem src_lt {g p i : Nat} (hp : p ≠ g) (h : p < src g i) : ∃ q, q < i ∧ src g q = p := by
  unfold src at h
  by_cases hpg : p < g
  · refine ⟨p, ?_, by unfold src; rw [if_pos hpg]⟩
    split at h <;> omega
  · refine ⟨p - 1, ?_, by unfold src; rw [if_neg (by omega)]; omega⟩
    split at h <;> omega
theorem back_par (h : Grp G n sel a) {g : Nat} (hg : g < n + 1) (eg : (gpL G n sel a).getD g none = none) {i k : Nat} (hi : i < n) (hk : k < n) (e : (gpL G n sel a).getD (src g i) none = some k) (h1 : G k 1 ≠ 0) :
    ∃ q, q < i ∧ (gpL G n sel a).getD (src g q) none = some (pr G k) := by
  have hs := (back_cases h hg eg hi).1
  have hgo : ∀ p, p < src g i → (gpL G n sel a).getD p none = some (pr G k) → ∃ q, q < i ∧ (gpL G n sel a).getD (src g q) none = some (pr G k) := fun p hp ep => by
    obtain ⟨q, hq, e2⟩ := src_lt (fun hh => by rw [hh, eg] at ep; cases ep) hp
    exact ⟨q, hq, by rw [e2]; exact ep⟩
  cases hse : sel k with
  | false =>
    obtain ⟨p, hp, ep⟩ := gp_par h hk hs e hse h1
    exact hgo p hp ep
  | true =>
    have hpar := (h.low k hk hse).2
    have hpr : pr G k = pr G a := by unfold pr; rw [hpar]
    have hgi := gp_on h hk hs e hse hg eg
    rw [hpar] at h1
    obtain ⟨p, hp, ep⟩ := gp_up h hg eg h1
    exact hgo p (by omega) (by rw [hpr]; exact ep)
theorem back_ok (h : Grp G n sel a) (hf : FrOk X Y W Z) {g : Nat} (hg : g < n + 1) (eg : (gpL G n sel a).getD g none = none) : ShOk (ugG (gpG G n sel a X Y W Z) g) n := by
  have hs := h.sml
  have few := hs.few
  have hrow : ∀ i, i < n → ∃ k, k < n ∧ (gpL G n sel a).getD (src g i) none = some k := fun i hi => (back_cases h hg eg hi).2
  refine ⟨by omega, fun i hi => ?_, fun j i hji hi => ?_, fun i hi => ?_, fun i hi => ?_, fun i hi => ?_, fun i hi => ?_, fun i hi => ?_, fun i hi => ?_, fun i hi hk6 => ?_, fun i hi => ?_⟩ <;> obtain ⟨k, hk, e⟩ := hrow i hi <;> obtain ⟨r0, r1, r2, r3, r4, r5, r6, r7, r8, r9⟩ := ug_row (X := X) (Y := Y) (W := W) (Z := Z) h eg hk e
  · show 1 ≤ ugS _ _ _ 0 ∧ ugS _ _ _ 0 ≤ _; rw [r0]; omega
  · show ugS _ _ _ 0 ≠ ugS _ _ _ 0
    obtain ⟨k', hk', e'⟩ := hrow j (by omega)
    rw [r0, (ug_row (X := X) (Y := Y) (W := W) (Z := Z) h eg hk' e').1]
    intro heq
    have := gp_one h (back_cases h hg eg (show j < n by omega)).1 (back_cases h hg eg hi).1 (by rw [e, e', show k' = k by omega])
    unfold src at this
    split at this <;> split at this <;> omega
  · show 0 ≤ ugS _ _ _ 1 ∧ ugS _ _ _ 1 ≤ _; rw [r1]; exact hs.ok.par k hk
  · show 0 ≤ ugS _ _ _ 2 ∧ ugS _ _ _ 2 ≤ _; rw [r2]; exact hs.ok.kind k hk
  · show (_ ≤ ugS _ _ _ 3 ∧ ugS _ _ _ 3 ≤ _) ∧ (_ ≤ ugS _ _ _ 4 ∧ ugS _ _ _ 4 ≤ _); rw [r3, r4]; exact hs.ok.xy k hk
  · show (_ ≤ ugS _ _ _ 5 ∧ ugS _ _ _ 5 ≤ _) ∧ (_ ≤ ugS _ _ _ 6 ∧ ugS _ _ _ 6 ≤ _); rw [r5, r6]; exact hs.ok.wh k hk
  · show 0 ≤ ugS _ _ _ 7 ∧ ugS _ _ _ 7 < _; rw [r7]; exact hs.ok.turn k hk
  · show (0 ≤ ugS _ _ _ 8 ∧ ugS _ _ _ 8 ≤ _) ∧ (0 ≤ ugS _ _ _ 9 ∧ ugS _ _ _ 9 ≤ _)
    have := hs.ok.ft k hk
    omega
  · have hk6' : ugS (gpG G n sel a X Y W Z) g (src g i) 2 ≠ 6 := hk6
    rw [r2] at hk6'
    have := hs.ok.link k hk hk6'
    show ugS _ _ _ 8 = 0 ∧ ugS _ _ _ 9 = 0
    omega
  · show ugS _ _ _ 1 = 0 ∨ ∃ p, p < i ∧ ugS _ _ (src g p) 0 = ugS _ _ _ 1 ∧ ugS _ _ (src g p) 2 = 5
    rw [r1]
    by_cases h1 : G k 1 = 0
    · exact .inl h1
    · right
      obtain ⟨q, hq, eq⟩ := back_par h hg eg hi hk e h1
      obtain ⟨c1, c2, c3⟩ := hs.par hk h1
      obtain ⟨t0, _, t2, _⟩ := ug_row (X := X) (Y := Y) (W := W) (Z := Z) h eg (show pr G k < n by omega) eq
      exact ⟨q, hq, by rw [t0]; exact c2.symm, by rw [t2]; exact c3⟩
theorem back_emb (h : Grp G n sel a) (hf : FrOk X Y W Z) {g : Nat} (hg : g < n + 1) (eg : (gpL G n sel a).getD g none = none) : Emb G n (ugG (gpG G n sel a X Y W Z) g) n (fun _ => false) 0 0 where
  ok := back_ok h hf hg eg
  x := by decide
  y := by decide
  row k hk := by
    obtain ⟨i1, hi1, e1⟩ := gp_some h hk
    have hne : i1 ≠ g := fun hh => by rw [hh, eg] at e1; cases e1
    obtain ⟨i, hi, e⟩ : ∃ i, i < n ∧ src g i = i1 := by
      by_cases hlt : i1 < g
      · exact ⟨i1, by omega, by unfold src; rw [if_pos hlt]⟩
      · exact ⟨i1 - 1, by omega, by unfold src; rw [if_neg (by omega)]; omega⟩
    subst e
    obtain ⟨r0, r1, r2, r3, r4, r5, r6, r7, _⟩ := ug_row (X := X) (Y := Y) (W := W) (Z := Z) h eg hk e1
    refine ⟨i, hi, r0, ⟨r5, r6, r7⟩, fun _ => ⟨r1, r3, r4, fun h1 => ?_⟩, fun hh => by cases hh⟩
    obtain ⟨q, hq, eq⟩ := back_par h hg eg hi hk e1 h1
    obtain ⟨c1, c2, _⟩ := h.sml.par hk h1
    obtain ⟨t0, _⟩ := ug_row (X := X) (Y := Y) (W := W) (Z := Z) h eg (show pr G k < n by omega) eq
    exact ⟨q, hq, t0.trans c2.symm⟩
end
end Go.Proofs.YtnmikhmbnpiadaaDoor.Shp
