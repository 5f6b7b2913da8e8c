/- A drawn region of which some operations make memory (by calls too), in whatever order, before all that is left: one goal for all orders. Nothing here speaks of a program. -/
import Derived.Test.YtdikfldogmbeaaaDoorBoxes
namespace Go.Frm.MkK
open Go.RowKit

section
variable {P : Program} {md : Region.Mode} {Q : Exit → Act → World → Prop} {S : World → Prop} {ops : Array Oper}

/-- all of them are listed -/
def setAll (mk : Nat → Nat) : Nat → Array Bool → Array Bool
  | 0, l => l
  | k + 1, l => (setAll mk k l).setIfInBounds (mk k) true
/-- the frame behind all of them -/
def putAll (d : Nat → Tmp) (V : Nat → Nat → Value) (g : Nat → Nat) (a0 : Act) : Nat → Act
  | 0 => a0
  | k + 1 => (putAll d V g a0 k).put (some (d k)) (V k (g k))
/-- what is left waits for all of them, or for something that is left -/
def lateB (md : Region.Mode) (ops : Array Oper) (k : Nat) (mk : Nat → Nat) (l : Array Bool) : Bool :=
  (List.range ops.size).all fun j => l.getD j true || ((List.range k).any fun i => j == mk i) ||
    (match ops[j]? with
     | none => true
     | some o => ((List.range k).all fun i => o.after.any fun e => Region.binds md e && e.on == mk i) ||
        o.after.any fun e => Region.binds md e && decide (e.on < j) && !l.getD e.on true && (List.range k).all fun i => e.on != mk i)

/-- the makers: k of them; 'mk' tells the numbers of the operations, 'd' their slots, 'V' what they give of a block's number -/
structure Makes (P : Program) (md : Region.Mode) (ops : Array Oper) (Q : Exit → Act → World → Prop) (w0 : World) (k : Nat) (mk : Nat → Nat) (d : Nat → Tmp) (V : Nat → Nat → Value) (obj : Nat → Obj) (listed0 : Array Bool) (a0 : Act) : Prop where
  late : lateB md ops k mk listed0 = true
  un : ∀ i, i < k → listed0.getD (mk i) true = false
  inj : ∀ i j, i < k → j < k → i ≠ j → mk i ≠ mk j ∧ d i ≠ d j
  dlt : ∀ i, i < k → d i < a0.tmps.size
  op : ∀ i, i < k → ∃ o, ops[mk i]? = some o ∧ o.dst = some (d i) ∧ o.guard = none ∧ (o.after.all fun e => !Region.binds md e || (decide (e.on < ops.size) && listed0.getD e.on true)) = true ∧
    ∀ a' : Act, (∀ t, (∀ j, j < k → t ≠ d j) → a'.tmps[t]? = a0.tmps[t]?) → ∀ w, Below w0.heap.size w0 w → ∀ K : Act → World → Prop,
      (∀ g w', w.heap.size ≤ g → w'.heap[g]? = some (obj i) → Below w.heap.size w w' → K (a'.put (some (d i)) (V i g)) w') → o.wp P a' w K Q

/-- how things stand between two operations -/
structure MkInv (k : Nat) (mk : Nat → Nat) (d : Nat → Tmp) (V : Nat → Nat → Value) (obj : Nat → Obj) (listed0 : Array Bool) (a0 : Act) (w0 : World) (listed : Array Bool) (a : Act) (w : World) (g : Nat → Nat) : Prop where
  size : listed.size = listed0.size
  oth : ∀ j, (∀ i, i < k → j ≠ mk i) → listed.getD j true = listed0.getD j true
  defers : a.defers = a0.defers
  tsize : a.tmps.size = a0.tmps.size
  off : ∀ t, (∀ j, j < k → t ≠ d j) → a.tmps[t]? = a0.tmps[t]?
  box : ∀ i, i < k → listed.getD (mk i) true = true → w0.heap.size ≤ g i ∧ g i < w.heap.size ∧ a.tmps[d i]? = some (V i (g i)) ∧ w.heap[g i]? = some (obj i)
  apart : ∀ i j, i < k → j < k → i ≠ j → listed.getD (mk i) true = true → listed.getD (mk j) true = true → g i ≠ g j
  bel : Below w0.heap.size w0 w

variable {k : Nat} {mk : Nat → Nat} {d : Nat → Tmp} {V : Nat → Nat → Value} {obj : Nat → Obj} {listed0 : Array Bool} {a0 : Act} {w0 : World}

theorem mk_step (hb : Makes P md ops Q w0 k mk d V obj listed0 a0) {listed : Array Bool} {a : Act} {w : World} {g : Nat → Nat} (h : MkInv k mk d V obj listed0 a0 w0 listed a w g) {i : Nat} (hi : i < k) {gi : Nat} {wn : World} (hge : w.heap.size ≤ gi) (hat : wn.heap[gi]? = some (obj i)) (hbw : Below w.heap.size w wn) :
    MkInv k mk d V obj listed0 a0 w0 (listed.setIfInBounds (mk i) true) (a.put (some (d i)) (V i gi)) wn (fun j => if j = i then gi else g j) := by
  have hd : d i < a.tmps.size := by rw [h.tsize]; exact hb.dlt i hi
  have hlt : gi < wn.heap.size := (Array.getElem?_eq_some_iff.1 hat).1
  refine ⟨by simp [h.size], fun j hj => ?_, h.defers, by simp [Act.put, h.tsize], fun t ht => ?_, fun j hj hl => ?_, fun i1 j1 h1 h2 hij l1 l2 => ?_, h.bel.trans (hbw.mono h.bel.size)⟩
  · rw [getD_set_ne _ (fun e => hj i hi e.symm)]; exact h.oth j hj
  · show (a.tmps.setIfInBounds (d i) _)[t]? = _
    rw [Array.getElem?_setIfInBounds_ne (fun e => ht i hi e.symm)]
    exact h.off t ht
  · by_cases e : j = i
    · subst e
      rw [if_pos rfl]
      refine ⟨Nat.le_trans h.bel.size hge, hlt, ?_, hat⟩
      show (a.tmps.setIfInBounds (d j) _)[d j]? = _
      rw [Array.getElem?_setIfInBounds_self_of_lt hd]
    · rw [if_neg e]
      rw [getD_set_ne _ ((hb.inj i j hi hj (fun h => e h.symm)).1)] at hl
      obtain ⟨b1, b2, b3, b4⟩ := h.box j hj hl
      refine ⟨b1, by omega, ?_, (hbw.block _ b2).trans b4⟩
      show (a.tmps.setIfInBounds (d i) _)[d j]? = _
      rw [Array.getElem?_setIfInBounds_ne (hb.inj i j hi hj (fun h => e h.symm)).2]
      exact b3
  · by_cases e1 : i1 = i
    · subst e1
      have e2 : j1 ≠ i1 := fun h => hij h.symm
      rw [if_pos rfl, if_neg e2]
      rw [getD_set_ne _ ((hb.inj i1 j1 h1 h2 hij).1)] at l2
      have := (h.box j1 h2 l2).2.1
      omega
    · rw [if_neg e1]
      rw [getD_set_ne _ ((hb.inj i i1 hi h1 (fun h => e1 h.symm)).1)] at l1
      by_cases e2 : j1 = i
      · subst e2
        rw [if_pos rfl]
        have := (h.box i1 h1 l1).2.1
        omega
      · rw [if_neg e2]
        rw [getD_set_ne _ ((hb.inj i j1 hi h2 (fun h => e2 h.symm)).1)] at l2
        exact h.apart i1 j1 h1 h2 hij l1 l2

theorem putAll_defers (g : Nat → Nat) : ∀ k, (putAll d V g a0 k).defers = a0.defers
  | 0 => rfl
  | k + 1 => putAll_defers g k
theorem putAll_size (g : Nat → Nat) : ∀ k, (putAll d V g a0 k).tmps.size = a0.tmps.size
  | 0 => rfl
  | k + 1 => by simp [putAll, Act.put, putAll_size g k]
theorem putAll_off (g : Nat → Nat) (t : Nat) : ∀ k, (∀ j, j < k → t ≠ d j) → (putAll d V g a0 k).tmps[t]? = a0.tmps[t]?
  | 0, _ => rfl
  | k + 1, h => by
    show ((putAll d V g a0 k).tmps.setIfInBounds (d k) _)[t]? = _
    rw [Array.getElem?_setIfInBounds_ne (fun e => h k (Nat.lt_succ_self k) e.symm)]
    exact putAll_off g t k (fun j hj => h j (by omega))
theorem putAll_at (g : Nat → Nat) (i : Nat) : ∀ k, i < k → (∀ j, j < k → j ≠ i → d j ≠ d i) → d i < a0.tmps.size → (putAll d V g a0 k).tmps[d i]? = some (V i (g i))
  | 0, h, _, _ => by omega
  | k + 1, h, hj, hs => by
    show ((putAll d V g a0 k).tmps.setIfInBounds (d k) _)[d i]? = _
    by_cases e : i = k
    · subst e
      rw [Array.getElem?_setIfInBounds_self_of_lt (by rw [putAll_size]; exact hs)]
    · rw [Array.getElem?_setIfInBounds_ne (hj k (Nat.lt_succ_self k) (fun h => e h.symm))]
      exact putAll_at g i k (by omega) (fun j h1 h2 => hj j (by omega) h2) hs
theorem setAll_size (l : Array Bool) : ∀ k, (setAll mk k l).size = l.size
  | 0 => rfl
  | k + 1 => by simp [setAll, setAll_size l k]
theorem setAll_off (l : Array Bool) (j : Nat) : ∀ k, (∀ i, i < k → j ≠ mk i) → (setAll mk k l).getD j true = l.getD j true
  | 0, _ => rfl
  | k + 1, h => by
    show ((setAll mk k l).setIfInBounds (mk k) true).getD j true = _
    rw [getD_set_ne _ (fun e => h k (Nat.lt_succ_self k) e.symm)]
    exact setAll_off l j k (fun i hi => h i (by omega))
theorem setAll_at (l : Array Bool) (i : Nat) : ∀ k, i < k → (setAll mk k l).getD (mk i) true = true
  | 0, h => by omega
  | k + 1, h => by
    show ((setAll mk k l).setIfInBounds (mk k) true).getD (mk i) true = _
    by_cases e : mk k = mk i
    · rw [← e]; exact getD_set_eq _ _
    · rw [getD_set_ne _ e]
      exact setAll_at l i k (by
        rcases Nat.lt_or_ge i k with h1 | h1
        · exact h1
        · exact absurd (by rw [show i = k by omega]) e)

theorem makes_end (hb : Makes P md ops Q w0 k mk d V obj listed0 a0) {listed : Array Bool} {a : Act} {w : World} {g : Nat → Nat} (h : MkInv k mk d V obj listed0 a0 w0 listed a w g) (hall : ∀ i, i < k → listed.getD (mk i) true = true) :
    a = putAll d V g a0 k ∧ listed = setAll mk k listed0 := by
  constructor
  · obtain ⟨ta, da⟩ := a
    have hd : da = (putAll d V g a0 k).defers := h.defers.trans (putAll_defers g k).symm
    have ht : ta = (putAll d V g a0 k).tmps := by
      apply Array.ext_getElem?
      intro t
      by_cases hex : ∃ j, j < k ∧ t = d j
      · obtain ⟨j, hj, rfl⟩ := hex
        rw [putAll_at g j k hj (fun j' h1 h2 => (hb.inj j' j h1 hj h2).2) (hb.dlt j hj)]
        exact (h.box j hj (hall j hj)).2.2.1
      · rw [putAll_off g t k (fun j hj e => hex ⟨j, hj, e⟩)]
        exact h.off t (fun j hj e => hex ⟨j, hj, e⟩)
    rw [hd, ht]
  · have hs : listed.size = (setAll mk k listed0).size := by rw [setAll_size]; exact h.size
    have hg : ∀ j, listed.getD j true = (setAll mk k listed0).getD j true := by
      intro j
      by_cases hex : ∃ i, i < k ∧ j = mk i
      · obtain ⟨i, hi, rfl⟩ := hex
        rw [hall i hi, setAll_at listed0 i k hi]
      · rw [h.oth j (fun i hi e => hex ⟨i, hi, e⟩), setAll_off listed0 j k (fun i hi e => hex ⟨i, hi, e⟩)]
    apply Array.ext hs
    intro j h1 h2
    have := hg j
    simpa [h1, h2] using this

theorem late_spec (hb : Makes P md ops Q w0 k mk d V obj listed0 a0) {listed : Array Bool} {a : Act} {w : World} {g : Nat → Nat} (h : MkInv k mk d V obj listed0 a0 w0 listed a w g) {i0 : Nat} (hi0 : i0 < k) (hu : listed.getD (mk i0) true = false) {j : Nat} (hj : j ∈ Region.ready md ops listed) : ∃ i, i < k ∧ j = mk i := by
  unfold Region.ready at hj
  rw [List.mem_filter] at hj
  obtain ⟨hjr, hjb⟩ := hj
  have hjo : j < ops.size := List.mem_range.1 hjr
  simp only [Bool.and_eq_true, Bool.not_eq_true'] at hjb
  obtain ⟨hun, hafter⟩ := hjb
  have ho : ops[j]? = some ops[j] := Array.getElem?_eq_getElem hjo
  rw [ho] at hafter
  simp only [Option.map_some, Option.getD_some] at hafter
  have haft : ∀ e ∈ ops[j].after, Region.binds md e = true → listed.getD e.on true = true := by
    intro e he hbd
    have := Array.all_eq_true'.1 hafter e he
    simp only [hbd, Bool.not_true, Bool.false_or] at this
    rcases Nat.lt_or_ge e.on listed.size with h1 | h1
    · simpa [h1] using this
    · simp [Array.getElem?_eq_none h1]
  have h1 := List.all_eq_true.1 hb.late j hjr
  rw [ho] at h1
  simp only [Bool.or_eq_true] at h1
  rcases h1 with (h1 | h1) | h1
  · by_cases hex : ∃ i, i < k ∧ j = mk i
    · exact hex
    · rw [h.oth j (fun i hi e => hex ⟨i, hi, e⟩), h1] at hun
      cases hun
  · rw [List.any_eq_true] at h1
    obtain ⟨i, hi, he⟩ := h1
    exact ⟨i, List.mem_range.1 hi, by simpa using he⟩
  · exfalso
    rcases h1 with h1 | h1
    · have h2 := List.all_eq_true.1 h1 i0 (List.mem_range.2 hi0)
      obtain ⟨n, hn, h3⟩ := Array.any_eq_true.1 h2
      simp only [Bool.and_eq_true, beq_iff_eq] at h3
      have := haft _ (Array.getElem_mem hn) h3.1
      rw [h3.2, hu] at this
      cases this
    · obtain ⟨n, hn, h3⟩ := Array.any_eq_true.1 h1
      simp only [Bool.and_eq_true, decide_eq_true_eq, Bool.not_eq_true'] at h3
      obtain ⟨⟨⟨h4, h5⟩, h6⟩, h7⟩ := h3
      have := haft _ (Array.getElem_mem hn) h4
      rw [h.oth _ (fun i hi e => by have := List.all_eq_true.1 h7 i (List.mem_range.2 hi); rw [e] at this; simp at this), h6] at this
      cases this

theorem makes_any (hb : Makes P md ops Q w0 k mk d V obj listed0 a0) (hS : ∀ w', Below w0.heap.size w0 w' → S w') (E : Nat)
    (hend : ∀ (g : Nat → Nat) (w' : World), (∀ i, i < k → w0.heap.size ≤ g i ∧ w'.heap[g i]? = some (obj i)) → (∀ i j, i < k → j < k → i ≠ j → g i ≠ g j) → Below w0.heap.size w0 w' → wpAnyH P md ops Q S (left (setAll mk k listed0) + E) (setAll mk k listed0) (putAll d V g a0 k) w') :
    ∀ (n : Nat) (listed : Array Bool) (a : Act) (w : World) (g : Nat → Nat), left listed = n → listed.size = ops.size → MkInv k mk d V obj listed0 a0 w0 listed a w g → wpAnyH P md ops Q S (n + E) listed a w := by
  intro n
  induction n with
  | zero =>
    intro listed a w g hf hsz h
    have hall : ∀ i, i < k → listed.getD (mk i) true = true := fun i _ => left_zero hf _
    obtain ⟨h1, h2⟩ := makes_end hb h hall
    have := hend g w (fun i hi => ⟨(h.box i hi (hall i hi)).1, (h.box i hi (hall i hi)).2.2.2⟩) (fun i j hi hj hij => h.apart i j hi hj hij (hall i hi) (hall j hj)) h.bel
    rw [← h1, ← h2, hf] at this
    exact this
  | succ n ih =>
    intro listed a w g hf hsz h
    by_cases hall : ∀ i, i < k → listed.getD (mk i) true = true
    · obtain ⟨h1, h2⟩ := makes_end hb h hall
      have := hend g w (fun i hi => ⟨(h.box i hi (hall i hi)).1, (h.box i hi (hall i hi)).2.2.2⟩) (fun i j hi hj hij => h.apart i j hi hj hij (hall i hi) (hall j hj)) h.bel
      rw [← h1, ← h2, hf] at this
      exact this
    · obtain ⟨i0, hi0, hu0⟩ : ∃ i, i < k ∧ listed.getD (mk i) true = false := by
        apply Classical.byContradiction
        intro hn
        refine hall fun i hi => ?_
        cases hc : listed.getD (mk i) true with
        | true => rfl
        | false => exact absurd ⟨i, hi, hc⟩ hn
      rw [show n + 1 + E = (n + E) + 1 by omega]
      refine ⟨fun hr => ?_, fun j hj => ?_⟩
      · exfalso
        obtain ⟨o, ho, _, _, haft, _⟩ := hb.op i0 hi0
        have hm : mk i0 ∈ Region.ready md ops listed := by
          unfold Region.ready
          rw [List.mem_filter]
          have hlt : mk i0 < ops.size := by
            rcases Nat.lt_or_ge (mk i0) ops.size with h1 | h1
            · exact h1
            · rw [Array.getElem?_eq_none h1] at ho; cases ho
          refine ⟨List.mem_range.2 hlt, ?_⟩
          rw [ho]
          simp only [hu0, Bool.not_false, Bool.true_and, Option.map_some, Option.getD_some]
          rw [Array.all_eq_true']
          intro e he
          have h1 := Array.all_eq_true'.1 haft e he
          cases hbd : Region.binds md e with
          | false => rfl
          | true =>
            rw [hbd] at h1
            simp only [Bool.not_true, Bool.false_or, Bool.and_eq_true, decide_eq_true_eq] at h1 ⊢
            have h2 : listed.getD e.on true = true := by
              rw [h.oth e.on (fun i hi e2 => by have := hb.un i hi; rw [← e2, h1.2] at this; cases this)]
              exact h1.2
            have h3 : e.on < listed.size := by rw [hsz]; exact h1.1
            simpa [h3] using h2
        rw [hr] at hm
        cases hm
      · obtain ⟨i, hi, rfl⟩ := late_spec hb h hi0 hu0 hj
        have hun : listed.getD (mk i) true = false := by
          unfold Region.ready at hj
          rw [List.mem_filter] at hj
          have := hj.2
          simp only [Bool.and_eq_true, Bool.not_eq_true'] at this
          exact this.1
        obtain ⟨o, ho, hdst, hg, _, hrun⟩ := hb.op i hi
        have hfl := left_set hun
        unfold wpOp
        rw [ho]
        have hw : ∀ y, Region.wanted o y = true := fun y => by simp [Region.wanted, hg]
        simp only [hw, if_true]
        left
        refine hrun a h.off w h.bel _ (fun gi wn h1 h2 h3 => ?_)
        have hinv := mk_step hb h hi h1 h2 h3
        exact ⟨hS _ hinv.bel, ih _ _ _ _ (by omega) (by rw [Array.size_setIfInBounds]; exact hsz) hinv⟩

/-- the whole: one goal for all orders, with what is left behind them -/
theorem makes_run (fuel : Nat) {listedK : Array Bool} {fuelK : Nat} (hb : Makes P md ops Q w0 k mk d V obj listed0 a0) (hf : left listed0 ≤ fuel) (hsz : listed0.size = ops.size) (hl : setAll mk k listed0 = listedK) (hk : left listedK + (fuel - left listed0) = fuelK) (hS : ∀ w', Below w0.heap.size w0 w' → S w')
    (hend : ∀ (g : Nat → Nat) (w' : World), (∀ i, i < k → w0.heap.size ≤ g i ∧ w'.heap[g i]? = some (obj i)) → (∀ i j, i < k → j < k → i ≠ j → g i ≠ g j) → Below w0.heap.size w0 w' → wpAnyH P md ops Q S fuelK listedK (putAll d V g a0 k) w') :
    wpAnyH P md ops Q S fuel listed0 a0 w0 := by
  subst hl hk
  have := makes_any hb hS (fuel - left listed0) hend (left listed0) listed0 a0 w0 (fun _ => 0) rfl hsz ⟨rfl, fun _ _ => rfl, rfl, rfl, fun _ _ => rfl, fun i hi h => absurd h (by rw [hb.un i hi]; decide), fun i _ hi _ _ h => absurd h (by rw [hb.un i hi]; decide), Below.refl _ _⟩
  rwa [show left listed0 + (fuel - left listed0) = fuel by omega] at this
end
end Go.Frm.MkK
