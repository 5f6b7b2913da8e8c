/- A region whose last operations make boxes and fill them, in whatever order: one goal for all orders. Nothing here speaks of a program. -/
import Derived.Test.YtegmokdhfmgdgaaSink
import Derived.Test.YtegmokdhfmgdgaaSlices
namespace Go.Frm
open Go.RowKit

/-- in order, and nothing is guarded -/
def sortedU (md : Region.Mode) (l : List Oper) : Bool := sortedB md l && l.all fun o => o.guard.isNone
theorem sortedU_spec {md : Region.Mode} {l : List Oper} (h : sortedU md l = true) {i : Nat} {o : Oper} (ho : l[i]? = some o) : o.guard = none ∧ ∀ e ∈ o.after, Region.binds md e = true → e.on < i := by
  unfold sortedU at h
  rw [Bool.and_eq_true] at h
  refine ⟨?_, (sortedB_spec h.1 ho).2⟩
  have := List.all_eq_true.1 h.2 o (List.mem_of_getElem? ho)
  simpa using this

section
variable {P : Program} {md : Region.Mode} {Q : Exit → Act → World → Prop} {S : World → Prop} {ops : Array Oper}

/-- the boxes: k of them; 'al', 'st' tell the numbers of the operations, 'd' the slots of the pointers, 'x' what is stored -/
structure Boxes (P : Program) (md : Region.Mode) (ops : Array Oper) (k : Nat) (al st : Nat → Nat) (ty : Nat → TypeId) (d : Nat → Tmp) (x : Nat → Operand) (V : Nat → Value) (zc vc : Nat → Array Value) (listed0 : Array Bool) (a0 : Act) : Prop where
  sorted : sortedU md ops.toList = true
  oal : ∀ i, i < k → ∃ o, ops[al i]? = some o ∧ o.op = .alloc (ty i) ∧ o.dst = some (d i)
  ost : ∀ i, i < k → ∃ o, ops[st i]? = some o ∧ o.op = .store (ty i) (.tmp (d i)) (x i) ∧ o.dst = none ∧ (o.after.any fun e => Region.binds md e && e.on == al i) = true
  cov' : ((List.range listed0.size).all fun j => listed0.getD j true || (List.range k).any fun i => j == al i || j == st i) = true
  un : ∀ i, i < k → listed0.getD (al i) true = false ∧ listed0.getD (st i) true = false
  inj : ∀ i j, i < k → j < k → i ≠ j → al i ≠ al j ∧ st i ≠ st j ∧ d i ≠ d j
  ne : ∀ i j, i < k → j < k → al i ≠ st j
  dlt : ∀ i, i < k → d i < a0.tmps.size
  val : ∀ i, i < k → ∀ a' : Act, (∀ t, (∀ j, j < k → t ≠ d j) → a'.tmps[t]? = a0.tmps[t]?) → a'.eval (x i) = V i
  alloc : ∀ i, i < k → ∀ w, (Instr.alloc (ty i) true (.tuple #[])).run P w = .ok (.pointer (some ⟨w.heap.size, 0, none⟩)) (w.alloc (.cells (zc i) (ty i)))
  store : ∀ i, i < k → ∀ w g, Blk w g (ty i) (zc i) → ∃ w', (Instr.storeAt (ty i) (.pointer (some ⟨g, 0, none⟩)) (V i)).run P w = .ok () w' ∧ Blk w' g (ty i) (vc i) ∧ w.grownBy w' (some g)

/-- how things stand between two operations -/
structure BoxInv (k : Nat) (al st : Nat → Nat) (ty : Nat → TypeId) (d : Nat → Tmp) (zc vc : Nat → Array Value) (listed0 : Array Bool) (a0 : Act) (w0 : World) (listed : Array Bool) (a : Act) (w : World) (g : Nat → Nat) : Prop where
  size : listed.size = listed0.size
  cov : ∀ j, listed.getD j true = false → listed0.getD j true = false
  defers : a.defers = a0.defers
  tsize : a.tmps.size = a0.tmps.size
  off : ∀ t, (∀ j, j < k → t ≠ d j) → a.tmps[t]? = a0.tmps[t]?
  box : ∀ i, i < k → listed.getD (al i) true = true → w0.heap.size ≤ g i ∧ g i < w.heap.size ∧ a.tmps[d i]? = some (.pointer (some ⟨g i, 0, none⟩)) ∧ Blk w (g i) (ty i) (if listed.getD (st i) true then vc i else zc i)
  apart : ∀ i j, i < k → j < k → i ≠ j → listed.getD (al i) true = true → listed.getD (al j) true = true → g i ≠ g j
  chain : ∀ i, i < k → listed.getD (st i) true = true → listed.getD (al i) true = true
  bel : Below w0.heap.size w0 w

theorem getD_set_ne (l : Array Bool) {i j : Nat} (h : i ≠ j) : (l.setIfInBounds i true).getD j true = l.getD j true := by
  simp only [Array.getD_eq_getD_getElem?, Array.getElem?_setIfInBounds_ne h]
theorem getD_set_eq (l : Array Bool) (i : Nat) : (l.setIfInBounds i true).getD i true = true := by
  simp only [Array.getD_eq_getD_getElem?]
  rcases Nat.lt_or_ge i l.size with h | h
  · rw [Array.getElem?_setIfInBounds_self_of_lt h]; rfl
  · rw [Array.getElem?_eq_none (by simpa using h)]; rfl

theorem Boxes.cov {k : Nat} {al st : Nat → Nat} {ty : Nat → TypeId} {d : Nat → Tmp} {x : Nat → Operand} {V : Nat → Value} {zc vc : Nat → Array Value} {listed0 : Array Bool} {a0 : Act} (h : Boxes P md ops k al st ty d x V zc vc listed0 a0) (j : Nat) (hj : listed0.getD j true = false) : ∃ i, i < k ∧ (j = al i ∨ j = st i) := by
  have hlt : j < listed0.size := by
    rcases Nat.lt_or_ge j listed0.size with h1 | h1
    · exact h1
    · simp [Array.getElem?_eq_none h1] at hj
  have h1 := List.all_eq_true.1 h.cov' j (List.mem_range.2 hlt)
  rw [hj, Bool.false_or, List.any_eq_true] at h1
  obtain ⟨i, hi, h2⟩ := h1
  simp only [Bool.or_eq_true, beq_iff_eq] at h2
  exact ⟨i, List.mem_range.1 hi, h2⟩

variable {k : Nat} {al st : Nat → Nat} {ty : Nat → TypeId} {d : Nat → Tmp} {x : Nat → Operand} {V : Nat → Value} {zc vc : Nat → Array Value} {listed0 : Array Bool} {a0 : Act} {w0 : World}

theorem box_alloc (hb : Boxes P md ops k al st ty d x V zc vc listed0 a0) {listed : Array Bool} {a : Act} {w : World} {g : Nat → Nat} (h : BoxInv k al st ty d zc vc listed0 a0 w0 listed a w g) {i : Nat} (hi : i < k) (hu : listed.getD (al i) true = false) :
    BoxInv k al st ty d zc vc listed0 a0 w0 (listed.setIfInBounds (al i) true) (a.put (some (d i)) (.pointer (some ⟨w.heap.size, 0, none⟩))) (w.alloc (.cells (zc i) (ty i))) (fun j => if j = i then w.heap.size else g j) := by
  have hst : listed.getD (st i) true = false := by
    cases hs : listed.getD (st i) true with
    | false => rfl
    | true => rw [h.chain i hi hs] at hu; cases hu
  have hd : d i < a.tmps.size := by rw [h.tsize]; exact hb.dlt i hi
  refine ⟨by simp [h.size], fun j hj => ?_, h.defers, by simp [Act.put, h.tsize], fun t ht => ?_, fun j hj hl => ?_, fun i1 j1 h1 h2 hij l1 l2 => ?_, fun j hj hl => ?_, h.bel.alloc h.bel.size _⟩
  · by_cases e : al i = j
    · subst e; exact (hb.un i hi).1
    · rw [getD_set_ne _ e] at hj; exact h.cov j hj
  · show (a.tmps.setIfInBounds (d i) _)[t]? = _
    rw [Array.getElem?_setIfInBounds_ne (fun e => ht i hi e.symm)]
    exact h.off t ht
  · by_cases e : j = i
    · subst e
      rw [if_pos rfl, getD_set_ne _ (hb.ne j j hi hi), hst]
      refine ⟨h.bel.size, by simp, ?_, Blk.new w _ _⟩
      show (a.tmps.setIfInBounds (d j) _)[d j]? = _
      rw [Array.getElem?_setIfInBounds_self_of_lt hd]
    · rw [if_neg e]
      rw [getD_set_ne _ ((hb.inj i j hi hj (fun h => e h.symm)).1)] at hl
      rw [getD_set_ne _ (hb.ne i j hi hj)]
      obtain ⟨b1, b2, b3, b4⟩ := h.box j hj hl
      refine ⟨b1, by simp; omega, ?_, b4.alloc _⟩
      show (a.tmps.setIfInBounds (d i) _)[d j]? = _
      rw [Array.getElem?_setIfInBounds_ne (hb.inj i j hi hj (fun h => e h.symm)).2.2]
      exact b3
  · by_cases e1 : i1 = i
    · subst e1
      have e2 : j1 ≠ i1 := fun h => hij h.symm
      rw [if_pos rfl, if_neg e2]
      rw [getD_set_ne _ ((hb.inj i1 j1 h1 h2 hij).1)] at l2
      have := (h.box j1 h2 l2).2.1
      omega
    · rw [if_neg e1]
      rw [getD_set_ne _ ((hb.inj i i1 hi h1 (fun h => e1 h.symm)).1)] at l1
      by_cases e2 : j1 = i
      · subst e2
        rw [if_pos rfl]
        have := (h.box i1 h1 l1).2.1
        omega
      · rw [if_neg e2]
        rw [getD_set_ne _ ((hb.inj i j1 hi h2 (fun h => e2 h.symm)).1)] at l2
        exact h.apart i1 j1 h1 h2 hij l1 l2
  · by_cases e : j = i
    · subst e; exact getD_set_eq _ _
    · rw [getD_set_ne _ (hb.ne i j hi hj)] at hl
      rw [getD_set_ne _ ((hb.inj i j hi hj (fun h => e h.symm)).1)]
      exact h.chain j hj hl

theorem box_store (hb : Boxes P md ops k al st ty d x V zc vc listed0 a0) {listed : Array Bool} {a : Act} {w w' : World} {g : Nat → Nat} (h : BoxInv k al st ty d zc vc listed0 a0 w0 listed a w g) {i : Nat} (hi : i < k) (hu : listed.getD (st i) true = false)
    (hl : listed.getD (al i) true = true) (hbk : Blk w' (g i) (ty i) (vc i)) (hg : w.grownBy w' (some (g i))) :
    BoxInv k al st ty d zc vc listed0 a0 w0 (listed.setIfInBounds (st i) true) a w' g := by
  refine ⟨by simp [h.size], fun j hj => ?_, h.defers, h.tsize, h.off, fun j hj hlj => ?_, fun i1 j1 h1 h2 hij l1 l2 => ?_, fun j hj hlj => ?_, h.bel.grown hg h.bel.size (fun b hbb => ?_)⟩
  · by_cases e : st i = j
    · subst e; exact (hb.un i hi).2
    · rw [getD_set_ne _ e] at hj; exact h.cov j hj
  · rw [getD_set_ne _ (fun e => hb.ne j i hj hi e.symm)] at hlj
    obtain ⟨b1, b2, b3, b4⟩ := h.box j hj hlj
    have hs := hg.size
    by_cases e : j = i
    · subst e
      rw [getD_set_eq]
      exact ⟨b1, by omega, b3, hbk⟩
    · rw [getD_set_ne _ ((hb.inj i j hi hj (fun h => e h.symm)).2.1)]
      refine ⟨b1, by omega, b3, b4.grown hg ?_⟩
      intro hh
      exact h.apart j i hj hi e hlj hl (Option.some.inj hh)
  · rw [getD_set_ne _ (fun e => hb.ne i1 i h1 hi e.symm)] at l1
    rw [getD_set_ne _ (fun e => hb.ne j1 i h2 hi e.symm)] at l2
    exact h.apart i1 j1 h1 h2 hij l1 l2
  · rw [getD_set_ne _ (fun e => hb.ne j i hj hi e.symm)]
    by_cases e : j = i
    · subst e; exact hl
    · rw [getD_set_ne _ ((hb.inj i j hi hj (fun h => e h.symm)).2.1)] at hlj
      exact h.chain j hj hlj
  · obtain rfl : g i = b := Option.some.inj hbb
    exact (h.box i hi hl).1

/-- the frame behind all of them -/
def boxed (d : Nat → Tmp) (g : Nat → Nat) (a0 : Act) : Nat → Act
  | 0 => a0
  | k + 1 => (boxed d g a0 k).put (some (d k)) (.pointer (some ⟨g k, 0, none⟩))
theorem boxed_defers (d : Nat → Tmp) (g : Nat → Nat) (a0 : Act) : ∀ k, (boxed d g a0 k).defers = a0.defers
  | 0 => rfl
  | k + 1 => boxed_defers d g a0 k
theorem boxed_size (d : Nat → Tmp) (g : Nat → Nat) (a0 : Act) : ∀ k, (boxed d g a0 k).tmps.size = a0.tmps.size
  | 0 => rfl
  | k + 1 => by simp [boxed, Act.put, boxed_size d g a0 k]
theorem boxed_off (d : Nat → Tmp) (g : Nat → Nat) (a0 : Act) (t : Nat) : ∀ k, (∀ j, j < k → t ≠ d j) → (boxed d g a0 k).tmps[t]? = a0.tmps[t]?
  | 0, _ => rfl
  | k + 1, h => by
    show ((boxed d g a0 k).tmps.setIfInBounds (d k) _)[t]? = _
    rw [Array.getElem?_setIfInBounds_ne (fun e => h k (Nat.lt_succ_self k) e.symm)]
    exact boxed_off d g a0 t k (fun j hj => h j (by omega))
theorem boxed_at (d : Nat → Tmp) (g : Nat → Nat) (a0 : Act) (i : Nat) : ∀ k, i < k → (∀ j, j < k → j ≠ i → d j ≠ d i) → d i < a0.tmps.size → (boxed d g a0 k).tmps[d i]? = some (.pointer (some ⟨g i, 0, none⟩))
  | 0, h, _, _ => by omega
  | k + 1, h, hj, hs => by
    show ((boxed d g a0 k).tmps.setIfInBounds (d k) _)[d i]? = _
    by_cases e : i = k
    · subst e
      rw [Array.getElem?_setIfInBounds_self_of_lt (by rw [boxed_size]; exact hs)]
    · rw [Array.getElem?_setIfInBounds_ne (hj k (Nat.lt_succ_self k) (fun h => e h.symm))]
      exact boxed_at d g a0 i k (by omega) (fun j h1 h2 => hj j (by omega) h2) hs

theorem boxed_eq (hb : Boxes P md ops k al st ty d x V zc vc listed0 a0) {listed : Array Bool} {a : Act} {w : World} {g : Nat → Nat} (h : BoxInv k al st ty d zc vc listed0 a0 w0 listed a w g) (hall : ∀ i, i < k → listed.getD (al i) true = true) : a = boxed d g a0 k := by
  obtain ⟨ta, da⟩ := a
  have hd : da = (boxed d g a0 k).defers := h.defers.trans (boxed_defers d g a0 k).symm
  have ht : ta = (boxed d g a0 k).tmps := by
    apply Array.ext_getElem?
    intro t
    by_cases hex : ∃ j, j < k ∧ t = d j
    · obtain ⟨j, hj, rfl⟩ := hex
      rw [boxed_at d g a0 j k hj (fun j' h1 h2 => (hb.inj j' j h1 hj h2).2.2) (hb.dlt j hj)]
      exact (h.box j hj (hall j hj)).2.2.1
    · rw [boxed_off d g a0 t k (fun j hj e => hex ⟨j, hj, e⟩)]
      exact h.off t (fun j hj e => hex ⟨j, hj, e⟩)
  rw [hd, ht]

theorem boxes_any (hb : Boxes P md ops k al st ty d x V zc vc listed0 a0) (hS : ∀ w', Below w0.heap.size w0 w' → S w')
    (hend : ∀ (g : Nat → Nat) (w' : World), (∀ i, i < k → w0.heap.size ≤ g i ∧ Blk w' (g i) (ty i) (vc i)) → (∀ i j, i < k → j < k → i ≠ j → g i ≠ g j) → Below w0.heap.size w0 w' → Q .normal (boxed d g a0 k) w') :
    ∀ (fuel : Nat) (listed : Array Bool) (a : Act) (w : World) (g : Nat → Nat), left listed ≤ fuel → listed.size = ops.size → BoxInv k al st ty d zc vc listed0 a0 w0 listed a w g → wpAnyH P md ops Q S fuel listed a w := by
  have hfin : ∀ (listed : Array Bool) (a : Act) (w : World) (g : Nat → Nat), listed.size = ops.size → BoxInv k al st ty d zc vc listed0 a0 w0 listed a w g → Region.ready md ops listed = [] → Q .normal a w := by
    intro listed a w g hsz h hr
    have hz : left listed = 0 := by
      rcases Nat.eq_zero_or_pos (left listed) with h0 | h0
      · exact h0
      · obtain ⟨j, hj, hall⟩ := left_pos h0
        have hjl : j < listed.size := by
          rcases Nat.lt_or_ge j listed.size with h1 | h1
          · exact h1
          · simp [Array.getElem?_eq_none h1] at hj
        have hjo : j < ops.size := by omega
        have hm : j ∈ Region.ready md ops listed := by
          unfold Region.ready
          rw [List.mem_filter]
          refine ⟨List.mem_range.2 hjo, ?_⟩
          have ho : ops[j]? = some ops[j] := Array.getElem?_eq_getElem hjo
          have hs := (sortedU_spec hb.sorted (i := j) (o := ops[j]) (by simp)).2
          rw [ho]
          simp only [hj, Bool.not_false, Bool.true_and, Option.map_some, Option.getD_some]
          rw [Array.all_eq_true']
          intro e he
          cases hbd : Region.binds md e with
          | false => rfl
          | true =>
            simp only [Bool.not_true, Bool.false_or]
            exact hall _ (hs e he hbd)
        rw [hr] at hm
        cases hm
    have hall := left_zero hz
    have he := boxed_eq hb h (fun i _ => hall _)
    rw [he]
    refine hend g w (fun i hi => ?_) (fun i j hi hj hij => h.apart i j hi hj hij (hall _) (hall _)) h.bel
    obtain ⟨b1, _, _, b4⟩ := h.box i hi (hall _)
    rw [hall] at b4
    exact ⟨b1, b4⟩
  intro fuel
  induction fuel with
  | zero =>
    intro listed a w g hf hsz h
    have hall := left_zero (Nat.le_zero.1 hf)
    have hr : Region.ready md ops listed = [] := by
      unfold Region.ready
      rw [List.filter_eq_nil_iff]
      intro j _
      simp [hall j]
    exact ⟨hr, hfin listed a w g hsz h hr⟩
  | succ fuel ih =>
    intro listed a w g hf hsz h
    refine ⟨fun hr => hfin listed a w g hsz h hr, fun j hj => ?_⟩
    unfold Region.ready at hj
    rw [List.mem_filter] at hj
    obtain ⟨hjr, hjb⟩ := hj
    have hjo : j < ops.size := List.mem_range.1 hjr
    simp only [Bool.and_eq_true, Bool.not_eq_true'] at hjb
    obtain ⟨hun, hafter⟩ := hjb
    have hfl := left_set hun
    obtain ⟨i, hi, hji⟩ := hb.cov j (h.cov j hun)
    rcases hji with rfl | rfl
    · obtain ⟨o, ho, hop, hdst⟩ := hb.oal i hi
      have hg := (sortedU_spec hb.sorted (i := al i) (o := o) (by simpa using ho)).1
      unfold wpOp
      rw [ho]
      have hw : ∀ y, Region.wanted o y = true := fun y => by simp [Region.wanted, hg]
      simp only [hw, if_true]
      left
      have hrun : (execOp a.eval o).run P w = .ok (.value (.pointer (some ⟨w.heap.size, 0, none⟩))) (w.alloc (.cells (zc i) (ty i))) := by
        have : (execOp a.eval o).run P w = ((Instr.alloc (ty i) true (.tuple #[])).run P w).andThen (fun v w' => .ok (.value v) w') := by unfold execOp; rw [hop]; simp
        rw [this, hb.alloc i hi w]
        rfl
      have hinv := box_alloc hb h hi hun
      unfold Oper.wp
      rw [hrun, Oper.upon_value, hdst]
      exact ⟨hS _ hinv.bel, ih _ _ _ _ (by omega) (by rw [Array.size_setIfInBounds]; exact hsz) hinv⟩
    · obtain ⟨o, ho, hop, hdst, hany⟩ := hb.ost i hi
      obtain ⟨e, he, hbd, hon⟩ : ∃ e ∈ o.after, Region.binds md e = true ∧ e.on = al i := by
        obtain ⟨n, hn, h1⟩ := Array.any_eq_true.1 hany
        simp only [Bool.and_eq_true, beq_iff_eq] at h1
        exact ⟨o.after[n], Array.getElem_mem hn, h1.1, h1.2⟩
      have hg := (sortedU_spec hb.sorted (i := st i) (o := o) (by simpa using ho)).1
      have hl : listed.getD (al i) true = true := by
        rw [ho] at hafter
        simp only [Option.map_some, Option.getD_some] at hafter
        have := Array.all_eq_true'.1 hafter e he
        simp only [hbd, Bool.not_true, Bool.false_or, hon] at this
        have hlt : al i < listed.size := by
          rcases Nat.lt_or_ge (al i) listed.size with h1 | h1
          · exact h1
          · simp [Array.getElem?_eq_none h1] at this
        simpa [hlt] using this
      unfold wpOp
      rw [ho]
      have hw : ∀ y, Region.wanted o y = true := fun y => by simp [Region.wanted, hg]
      simp only [hw, if_true]
      left
      obtain ⟨b1, b2, b3, b4⟩ := h.box i hi hl
      rw [hun] at b4
      obtain ⟨w', hrs, hbk, hgr⟩ := hb.store i hi w (g i) b4
      have hev : a.eval (.tmp (d i)) = .pointer (some ⟨g i, 0, none⟩) := by
        show a.tmps.getD (d i) undef = _
        rw [Array.getD_eq_getD_getElem?, b3]
        rfl
      have hrun : (execOp a.eval o).run P w = .ok .skip w' := by
        have : (execOp a.eval o).run P w = ((Instr.storeAt (ty i) (a.eval (.tmp (d i))) (a.eval (x i))).run P w).andThen (fun _ w' => .ok .skip w') := by unfold execOp; rw [hop]; simp
        rw [this, hev, hb.val i hi a h.off, hrs]
        rfl
      have hinv := box_store hb h hi hun hl hbk hgr
      unfold Oper.wp
      rw [hrun, Oper.upon_skip, hdst]
      exact ⟨hS _ hinv.bel, ih _ _ _ _ (by omega) (by rw [Array.size_setIfInBounds]; exact hsz) hinv⟩

/-- the whole: one goal for all orders -/
theorem boxes_run {fuel : Nat} (hb : Boxes P md ops k al st ty d x V zc vc listed0 a0) (hf : left listed0 ≤ fuel) (hsz : listed0.size = ops.size) (hS : ∀ w', Below w0.heap.size w0 w' → S w')
    (hend : ∀ (g : Nat → Nat) (w' : World), (∀ i, i < k → w0.heap.size ≤ g i ∧ Blk w' (g i) (ty i) (vc i)) → (∀ i j, i < k → j < k → i ≠ j → g i ≠ g j) → Below w0.heap.size w0 w' → Q .normal (boxed d g a0 k) w') :
    wpAnyH P md ops Q S fuel listed0 a0 w0 :=
  boxes_any hb hS hend fuel listed0 a0 w0 (fun _ => 0) hf hsz ⟨rfl, fun _ h => h, rfl, rfl, fun _ _ => rfl, fun i hi h => absurd h (by rw [(hb.un i hi).1]; decide), fun i _ hi _ _ h => absurd h (by rw [(hb.un i hi).1]; decide),
    fun i hi h => absurd h (by rw [(hb.un i hi).2]; decide), Below.refl _ _⟩
end
end Go.Frm
