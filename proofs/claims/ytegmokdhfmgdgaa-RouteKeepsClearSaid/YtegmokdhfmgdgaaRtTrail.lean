/- Ways as lists of directions: turned round, and carried over to another net. Nothing here speaks of a program. -/
import Derived.Test.YtegmokdhfmgdgaaRtDijkstra
namespace Go.Frm.Rt
open Go.RowKit Go.Frm

/-- the directions ds lead from one place to another one -/
inductive Tr (E : Net) : Nat × Nat → List Nat → Nat × Nat → Int → Prop
  | nil (p : Nat × Nat) : Tr E p [] p 0
  | cons {p q r : Nat × Nat} {d : Nat} {ds : List Nat} {w v : Int} (hE : E p.1 p.2 d = some (q.1, q.2, w)) (h : Tr E q ds r v) : Tr E p (d :: ds) r (w + v)
theorem Tr.append {E : Net} {p q r : Nat × Nat} {a b : List Nat} {w v : Int} (h : Tr E p a q w) (h' : Tr E q b r v) : Tr E p (a ++ b) r (w + v) := by
  induction h with
  | nil p => simpa using h'
  | cons hE _ ih =>
    have := Tr.cons hE (ih h')
    rw [List.cons_append]
    rwa [Int.add_assoc]
/-- no turn back -/
def chainR : List Nat → Prop
  | [] => True
  | [_] => True
  | a :: b :: l => (b + 2) % 4 ≠ a ∧ chainR (b :: l)
/-- the number of turns -/
def turns : List Nat → Int
  | [] => 0
  | [_] => 0
  | a :: b :: l => bend a b + turns (b :: l)
theorem chainR_append {a : Nat} : ∀ {l : List Nat} {b : Nat}, chainR (l ++ [a]) → (b + 2) % 4 ≠ a → chainR (l ++ [a] ++ [b])
  | [], b, _, hb => ⟨hb, trivial⟩
  | [c], b, h, hb => ⟨h.1, hb, trivial⟩
  | c :: e :: l, b, h, hb => ⟨h.1, chainR_append (l := e :: l) h.2 hb⟩
theorem turns_append {a : Nat} : ∀ {l : List Nat} {b : Nat}, turns (l ++ [a] ++ [b]) = turns (l ++ [a]) + bend a b
  | [], b => by show bend a b + 0 = 0 + bend a b; omega
  | [c], b => by show bend c a + (bend a b + 0) = bend c a + 0 + bend a b; omega
  | c :: e :: l, b => by
    have := turns_append (a := a) (l := e :: l) (b := b)
    show bend c e + turns (e :: l ++ [a] ++ [b]) = bend c e + turns (e :: l ++ [a]) + bend a b
    rw [this]
    omega
/-- a way by its directions -/
structure Wd (E : Net) (first : Int) (p : Nat × Nat) (ds : List Nat) (q : Nat × Nat) (d : Nat) (c : Co) : Prop where
  all : ∀ x, x ∈ ds → x < 4
  ini : ∃ l, ∃ a, ds = a :: l ∧ dirOk first a
  fin : ∃ l, ds = l ++ [d]
  ch : chainR ds
  tr : Tr E p ds q c.l
  tu : c.b = turns ds
theorem wd_of_pth {E : Net} {first : Int} {sx sy : Nat} {ds : List Nat} {ps : List (Nat × Nat)} {x y d : Nat} {c : Co} (h : Pth E first sx sy ds ps x y d c) : Wd E first (sx, sy) ds (x, y) d c := by
  induction h with
  | @one d x y w hd hf hE =>
    refine ⟨fun z hz => (by rw [List.mem_singleton.1 hz]; exact hd), ⟨[], d, rfl, hf⟩, ⟨[], rfl⟩, trivial, ?_, rfl⟩
    have := Tr.cons (E := E) (p := (sx, sy)) (q := (x, y)) hE (Tr.nil (x, y))
    rwa [Int.add_zero] at this
  | @next ds ps x y d c d' x' y' w h hd hr hE ih =>
    obtain ⟨l, hl⟩ := ih.fin
    refine ⟨fun z hz => ?_, ?_, ⟨ds, rfl⟩, ?_, ?_, ?_⟩
    · rcases List.mem_append.1 hz with h1 | h1
      · exact ih.all z h1
      · obtain rfl : z = d' := by simpa using h1
        exact hd
    · obtain ⟨l2, a, e, ha⟩ := ih.ini
      exact ⟨l2 ++ [d'], a, by rw [e]; rfl, ha⟩
    · have := ih.ch
      rw [hl] at this ⊢
      exact chainR_append this hr
    · have h1 := Tr.cons (E := E) (p := (x, y)) (q := (x', y')) hE (Tr.nil (x', y'))
      rw [Int.add_zero] at h1
      exact ih.tr.append h1
    · show c.b + bend d d' = _
      rw [ih.tu, hl, turns_append]
/-- a way by its directions is a way -/
theorem pth_of_tr {E : Net} {first : Int} {sx sy : Nat} : ∀ (ds : List Nat) {ds0 : List Nat} {ps : List (Nat × Nat)} {x y d : Nat} {c : Co}, Pth E first sx sy ds0 ps x y d c → (∀ z, z ∈ ds → z < 4) → chainR (d :: ds) → ∀ {q : Nat × Nat} {v : Int}, Tr E (x, y) ds q v →
    ∃ ds1 ps1 d1, Pth E first sx sy ds1 ps1 q.1 q.2 d1 ⟨c.b + turns (d :: ds), c.l + v⟩ ∧ (∃ l, d :: ds = l ++ [d1])
  | [], ds0, ps, x, y, d, c, hp, _, _, q, v, ht => by
    cases ht
    refine ⟨ds0, ps, d, ?_, [], rfl⟩
    show Pth E first sx sy ds0 ps x y d ⟨c.b + 0, c.l + 0⟩
    rw [Int.add_zero, Int.add_zero]
    exact hp
  | a :: l, ds0, ps, x, y, d, c, hp, hall, hch, q, v, ht => by
    cases ht with
    | @cons _ r _ _ _ w v2 hE h2 =>
      have h3 := hp.next (hall a (List.mem_cons_self ..)) hch.1 hE
      obtain ⟨ds1, ps1, d1, h4, l1, e1⟩ := pth_of_tr l h3 (fun z hz => hall z (List.mem_cons_of_mem _ hz)) hch.2 h2
      refine ⟨ds1, ps1, d1, ?_, d :: l1, by rw [e1]; rfl⟩
      have e2 : (⟨(c.add (bend d a) w).b + turns (a :: l), (c.add (bend d a) w).l + v2⟩ : Co) = ⟨c.b + turns (d :: a :: l), c.l + (w + v2)⟩ := by
        show (⟨c.b + bend d a + turns (a :: l), c.l + w + v2⟩ : Co) = ⟨c.b + (bend d a + turns (a :: l)), c.l + (w + v2)⟩
        rw [Int.add_assoc, Int.add_assoc]
      rw [← e2]
      exact h4
theorem last_uniq {l l' : List Nat} {a b : Nat} (h : l ++ [a] = l' ++ [b]) : a = b := by
  have := congrArg List.getLast? h
  simpa using this
theorem pth_of_wd {E : Net} {first : Int} {p q : Nat × Nat} {ds : List Nat} {d : Nat} {c : Co} (h : Wd E first p ds q d c) : ∃ ds1 ps1, Pth E first p.1 p.2 ds1 ps1 q.1 q.2 d c := by
  obtain ⟨l, a, rfl, ha⟩ := h.ini
  have ht := h.tr
  generalize hv : c.l = v at ht
  cases ht with
  | @cons _ r _ _ _ w v2 hE h2 =>
    have h3 := Pth.one (E := E) (first := first) (sx := p.1) (sy := p.2) (h.all a (List.mem_cons_self ..)) ha hE
    obtain ⟨ds1, ps1, d1, h4, l1, e1⟩ := pth_of_tr l h3 (fun z hz => h.all z (List.mem_cons_of_mem _ hz)) h.ch h2
    obtain ⟨l2, e2⟩ := h.fin
    have hd : d1 = d := last_uniq (e1.symm.trans e2)
    subst hd
    have hc : (⟨(0 : Int) + turns (a :: l), w + v2⟩ : Co) = c := by
      rw [Int.zero_add, ← h.tu, ← hv]
    rw [← hc]
    exact ⟨ds1, ps1, h4⟩
def opp (d : Nat) : Nat := (d + 2) % 4
theorem opp_lt (d : Nat) : opp d < 4 := Nat.mod_lt _ (by decide)
theorem opp_opp {d : Nat} (h : d < 4) : opp (opp d) = d := by unfold opp; omega
/-- directions of the way back -/
def revD (ds : List Nat) : List Nat := (ds.map opp).reverse
theorem revD_cons (a : Nat) (l : List Nat) : revD (a :: l) = revD l ++ [opp a] := by unfold revD; simp
theorem revD_append (l : List Nat) (a : Nat) : revD (l ++ [a]) = opp a :: revD l := by unfold revD; simp
theorem tr_back {E : Net} (hsym : ∀ x y d x' y' w, d < 4 → E x y d = some (x', y', w) → E x' y' (opp d) = some (x, y, w)) {p q : Nat × Nat} {ds : List Nat} {v : Int} (h : Tr E p ds q v) (hall : ∀ z, z ∈ ds → z < 4) : Tr E q (revD ds) p v := by
  induction h with
  | nil p => exact Tr.nil p
  | @cons p q r d ds w v hE h ih =>
    rw [revD_cons]
    have h1 := ih (fun z hz => hall z (List.mem_cons_of_mem _ hz))
    have h2 := Tr.cons (E := E) (p := q) (q := p) (hsym _ _ _ _ _ _ (hall d (List.mem_cons_self ..)) hE) (Tr.nil p)
    rw [Int.add_zero] at h2
    rw [Int.add_comm]
    exact h1.append h2
theorem chainR_back : ∀ {l : List Nat}, (∀ z, z ∈ l → z < 4) → chainR l → chainR (revD l)
  | [], _, _ => trivial
  | [a], _, _ => trivial
  | a :: b :: l, hall, h => by
    rw [revD_cons, revD_cons]
    have ih := chainR_back (l := b :: l) (fun z hz => hall z (List.mem_cons_of_mem _ hz)) h.2
    rw [revD_cons] at ih
    refine chainR_append ih ?_
    have ha := hall a (List.mem_cons_self ..)
    have h1 := h.1
    have hb := hall b (List.mem_cons_of_mem _ (List.mem_cons_self ..))
    unfold opp
    omega
theorem turns_back : ∀ {l : List Nat}, (∀ z, z ∈ l → z < 4) → turns (revD l) = turns l
  | [], _ => rfl
  | [a], _ => rfl
  | a :: b :: l, hall => by
    have ih := turns_back (l := b :: l) (fun z hz => hall z (List.mem_cons_of_mem _ hz))
    rw [revD_cons] at ih
    rw [revD_cons, revD_cons, turns_append, ih]
    have ha := hall a (List.mem_cons_self ..)
    have hb := hall b (List.mem_cons_of_mem _ (List.mem_cons_self ..))
    show turns (b :: l) + bend (opp b) (opp a) = bend a b + turns (b :: l)
    have : bend (opp b) (opp a) = bend a b := by
      unfold bend opp
      by_cases e : b = a
      · subst e
        rw [if_pos rfl, if_pos rfl]
      · rw [if_neg (by omega), if_neg e]
    omega
/-- the other end's direction, for the way back -/
def opZ (z : Int) : Int := if z < 0 then z else (z + 2) % 4
theorem opZ_ok {z : Int} {d : Nat} (hz : -1 ≤ z ∧ z ≤ 3) (hd : d < 4) : dirOk (opZ z) (opp d) ↔ dirOk z d := by
  unfold dirOk opZ opp
  split <;> omega
theorem wd_back {E : Net} (hsym : ∀ x y d x' y' w, d < 4 → E x y d = some (x', y', w) → E x' y' (opp d) = some (x, y, w)) {first last : Int} (hl : -1 ≤ last ∧ last ≤ 3) {p q : Nat × Nat} {ds : List Nat} {d : Nat} {c : Co} (h : Wd E first p ds q d c) (hd : dirOk last d) :
    ∃ a, dirOk first a ∧ a < 4 ∧ Wd E (opZ last) q (revD ds) p (opp a) c := by
  obtain ⟨l, a, e1, ha⟩ := h.ini
  obtain ⟨l2, e2⟩ := h.fin
  have ha4 := h.all a (by rw [e1]; exact List.mem_cons_self ..)
  have hd4 := h.all d (by rw [e2]; simp)
  refine ⟨a, ha, ha4, fun z hz => ?_, ⟨revD l2, opp d, by rw [e2, revD_append], (opZ_ok hl hd4).2 hd⟩, ⟨revD l, by rw [e1, revD_cons]⟩, chainR_back h.all h.ch, tr_back hsym h.tr h.all, ?_⟩
  · unfold revD at hz
    rw [List.mem_reverse, List.mem_map] at hz
    obtain ⟨u, _, rfl⟩ := hz
    exact opp_lt u
  · rw [turns_back h.all]
    exact h.tu
/-- carried over to another net -/
theorem wd_map {E E' : Net} (φ : Nat × Nat → Nat × Nat) (σ : Nat → Nat) (hσ : ∀ d, d < 4 → σ d < 4) (hinj : ∀ a b, a < 4 → b < 4 → σ a = σ b → a = b) (hopp : ∀ a, a < 4 → σ (opp a) = opp (σ a))
    (hE : ∀ p d q w, d < 4 → E p.1 p.2 d = some (q.1, q.2, w) → E' (φ p).1 (φ p).2 (σ d) = some ((φ q).1, (φ q).2, w)) {first first' : Int} (hf : ∀ d, d < 4 → dirOk first d → dirOk first' (σ d))
    {p q : Nat × Nat} {ds : List Nat} {d : Nat} {c : Co} (h : Wd E first p ds q d c) : Wd E' first' (φ p) (ds.map σ) (φ q) (σ d) c := by
  obtain ⟨l, a, e1, ha⟩ := h.ini
  obtain ⟨l2, e2⟩ := h.fin
  have hall := h.all
  have hch : ∀ l : List Nat, (∀ z, z ∈ l → z < 4) → chainR l → chainR (l.map σ) := by
    intro l
    induction l with
    | nil => intro _ _; trivial
    | cons a l ih =>
      cases l with
      | nil => intro _ _; trivial
      | cons b l =>
        intro hall h
        refine ⟨fun e => h.1 ?_, ih (fun z hz => hall z (List.mem_cons_of_mem _ hz)) h.2⟩
        have hb := hall b (List.mem_cons_of_mem _ (List.mem_cons_self ..))
        have ha := hall a (List.mem_cons_self ..)
        have e3 : σ (opp b) = σ a := (hopp b hb).trans e
        exact hinj _ _ (opp_lt b) ha e3
  have htu : ∀ l : List Nat, (∀ z, z ∈ l → z < 4) → turns (l.map σ) = turns l := by
    intro l
    induction l with
    | nil => intro _; rfl
    | cons a l ih =>
      cases l with
      | nil => intro _; rfl
      | cons b l =>
        intro hall
        have hb := hall b (List.mem_cons_of_mem _ (List.mem_cons_self ..))
        have ha := hall a (List.mem_cons_self ..)
        have h1 : bend (σ a) (σ b) = bend a b := by
          unfold bend
          by_cases e : b = a
          · rw [if_pos (by rw [e]), if_pos e]
          · rw [if_neg (fun h => e (hinj _ _ hb ha h)), if_neg e]
        show bend (σ a) (σ b) + turns ((b :: l).map σ) = bend a b + turns (b :: l)
        rw [h1, ih (fun z hz => hall z (List.mem_cons_of_mem _ hz))]
  have htr : ∀ {p q : Nat × Nat} {l : List Nat} {v : Int}, Tr E p l q v → (∀ z, z ∈ l → z < 4) → Tr E' (φ p) (l.map σ) (φ q) v := by
    intro p q l v ht
    induction ht with
    | nil p => intro _; exact Tr.nil _
    | cons hE1 _ ih =>
      intro hall
      exact Tr.cons (hE _ _ _ _ (hall _ (List.mem_cons_self ..)) hE1) (ih (fun z hz => hall z (List.mem_cons_of_mem _ hz)))
  refine ⟨fun z hz => ?_, ⟨l.map σ, σ a, by rw [e1]; rfl, hf a (hall a (by rw [e1]; exact List.mem_cons_self ..)) ha⟩, ⟨l2.map σ, by rw [e2]; simp⟩, hch _ hall h.ch, htr h.tr hall, ?_⟩
  · rw [List.mem_map] at hz
    obtain ⟨u, hu, rfl⟩ := hz
    exact hσ u (hall u hu)
  · rw [htu _ hall]
    exact h.tu
end Go.Frm.Rt
