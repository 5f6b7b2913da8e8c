/- A region that draws its order and whose last operation waits for all the others: the others are run in any order under a condition on the world that need not hold behind the last one. Nothing here speaks of a program. -/
import Derived.Test.YtegmokdhfmgdgaaBase
import Derived.StillTail
namespace Go.Frm

section
variable {P : Program} {md : Region.Mode} {Q : Exit → Act → World → Prop} {S : World → Prop}

/-- behind the others the last operation is run -/
def sinkPost (P : Program) (ops : Array Oper) (Q : Exit → Act → World → Prop) (n : Nat) : Exit → Act → World → Prop
  | .normal, a, w => wpOp P ops Q n (fun a' w' => Q .normal a' w') a w
  | e, a, w => Q e a w

/-- every edge and every guard leads to an earlier operation -/
def sortedB (md : Region.Mode) (l : List Oper) : Bool :=
  (List.range l.length).all fun i => match l[i]? with
    | some o => (match o.guard with | none => true | some g => decide (g.1 < i)) && o.after.all fun e => !Region.binds md e || decide (e.on < i)
    | none => true
theorem sortedB_spec {l : List Oper} (h : sortedB md l = true) {i : Nat} {o : Oper} (ho : l[i]? = some o) : (∀ g, o.guard = some g → g.1 < i) ∧ ∀ e ∈ o.after, Region.binds md e = true → e.on < i := by
  have hi : i < l.length := (List.getElem?_eq_some_iff.1 ho).1
  have h1 := List.all_eq_true.1 h i (List.mem_range.2 hi)
  simp only [ho, Bool.and_eq_true] at h1
  refine ⟨fun g hg => by simpa [hg] using h1.1, fun e he hb => ?_⟩
  have h2 := Array.all_eq_true'.1 h1.2 e he
  simpa [hb] using h2
theorem wanted_take {l : List Oper} {n i : Nat} {o : Oper} (hs : sortedB md l = true) (ho : l[i]? = some o) (hi : i < n) (tm : Array Value) :
    Region.wanted o (yielded (l.take n).toArray tm) = Region.wanted o (yielded l.toArray tm) := by
  unfold Region.wanted
  cases hg : o.guard with
  | none => rfl
  | some g =>
    obtain ⟨j, b⟩ := g
    have hj := (sortedB_spec hs ho).1 _ hg
    have : (l.take n).toArray[j]? = l.toArray[j]? := by
      have : j < n := Nat.lt_trans hj hi
      simp [this]
    show (yielded _ tm j == some b) = (yielded _ tm j == some b)
    unfold yielded
    rw [this]

theorem wp_post {o : Oper} {a : Act} {w : World} {ops : Array Oper} {n : Nat} {K K' : Act → World → Prop} (hK : ∀ a w, K a w → K' a w) (h : o.wp P a w K (sinkPost P ops Q n)) : o.wp P a w K' Q := by
  unfold Oper.wp at *
  generalize (execOp a.eval o).run P w = r at *
  cases r with
  | ok x w' =>
    cases x <;> simp only [Oper.upon] at h ⊢ <;>
      first
        | exact hK _ _ h
        | exact Calls.mono h (fun e w'' he => by cases e <;> first | exact hK _ _ he | exact he)
        | exact Rows.mono h (fun _ _ he => hK _ _ he)
  | halt x w' => cases x <;> simp only [Oper.upon] at h ⊢ <;> exact h

theorem wpOp_sink {l : List Oper} {n i : Nat} {a : Act} {w : World} {K K' : Act → World → Prop} (hs : sortedB md l = true) (hi : i < n) (hK : ∀ a w, K a w → K' a w)
    (h : wpOp P (l.take n).toArray (sinkPost P l.toArray Q n) i K a w) : wpOp P l.toArray Q i K' a w := by
  unfold wpOp at *
  have e : (l.take n).toArray[i]? = l.toArray[i]? := by simp [hi]
  rw [e] at h
  cases ho : l.toArray[i]? with
  | none => simp only [ho] at h ⊢; exact hK _ _ h
  | some o =>
    simp only [ho] at h ⊢
    rw [wanted_take hs (by simpa using ho) hi] at h
    split
    · rename_i hw
      rw [if_pos hw] at h
      exact h.imp (wp_post hK) id
    · rename_i hw
      rw [if_neg hw] at h
      exact hK _ _ h

theorem getD_push (l : Array Bool) (j : Nat) : (l.push false).getD j false = l.getD j false := by
  simp only [Array.getD_eq_getD_getElem?]
  rcases Nat.lt_trichotomy j l.size with h | h | h
  · rw [Array.getElem?_push_lt h]; simp [h]
  · subst h; simp
  · rw [Array.getElem?_eq_none (by simp; omega), Array.getElem?_eq_none (by omega)]
theorem getD_push_lt (l : Array Bool) {j : Nat} (h : j < l.size) : (l.push false).getD j true = l.getD j true := by
  simp only [Array.getD_eq_getD_getElem?]
  rw [Array.getElem?_push_lt h]
  simp [h]
theorem getD_push_eq (l : Array Bool) : (l.push false).getD l.size true = false := by simp
theorem push_set (l : Array Bool) {i : Nat} (h : i < l.size) : (l.push false).setIfInBounds i true = (l.setIfInBounds i true).push false := by
  apply Array.ext_getElem?
  intro j
  by_cases hj : i = j
  · subst hj
    rw [Array.getElem?_setIfInBounds_self_of_lt (by simp; omega), Array.getElem?_push_lt (by simpa using h)]
    simp
  · rw [Array.getElem?_setIfInBounds_ne hj]
    simp only [Array.getElem?_push, Array.size_setIfInBounds]
    rw [Array.getElem?_setIfInBounds_ne hj]

/-- how many have not come up -/
def left (l : Array Bool) : Nat := l.toList.countP (!·)
theorem left_zero {l : Array Bool} (h : left l = 0) (j : Nat) : l.getD j true = true := by
  unfold left at h
  rw [List.countP_eq_zero] at h
  rcases Nat.lt_or_ge j l.size with hj | hj
  · have := h l[j] (by simp)
    simpa [hj] using this
  · simp [Array.getElem?_eq_none hj]
theorem left_set {l : Array Bool} {i : Nat} (h : l.getD i true = false) : left (l.setIfInBounds i true) + 1 = left l := by
  have hi : i < l.size := by
    rcases Nat.lt_or_ge i l.size with hj | hj
    · exact hj
    · simp [Array.getElem?_eq_none hj] at h
  have hv : l.toList[i]'(by simpa using hi) = false := by simpa [hi] using h
  unfold left
  rw [Array.toList_setIfInBounds]
  have h1 : l.toList = l.toList.take i ++ false :: l.toList.drop (i + 1) := by
    rw [← hv, ← List.drop_eq_getElem_cons, List.take_append_drop]
  have h2 : l.toList.set i true = l.toList.take i ++ true :: l.toList.drop (i + 1) := by
    rw [List.set_eq_take_append_cons_drop, if_pos (by simpa using hi)]
  rw [h2]
  conv => rhs; rw [h1]
  simp
  omega
theorem left_pos {l : Array Bool} (h : 0 < left l) : ∃ i, l.getD i true = false ∧ ∀ j, j < i → l.getD j false = true := by
  unfold left at h
  rw [List.countP_pos_iff] at h
  obtain ⟨b, hb, hf⟩ := h
  obtain ⟨k, hk, rfl⟩ := List.getElem_of_mem hb
  have hex : ∃ i, l.getD i true = false := ⟨k, by have : k < l.size := by simpa using hk
                                                  simpa [this] using hf⟩
  have : ∀ n, (∀ i, i < n → l.getD i true = true) ∨ ∃ i, l.getD i true = false ∧ ∀ j, j < i → l.getD j true = true := by
    intro n
    induction n with
    | zero => exact .inl fun i hi => by omega
    | succ n ih =>
      rcases ih with ih | ih
      · cases hn : l.getD n true with
        | false => exact .inr ⟨n, hn, ih⟩
        | true =>
          refine .inl fun i hi => ?_
          by_cases hin : i = n
          · rw [hin]; exact hn
          · exact ih i (by omega)
      · exact .inr ih
  obtain ⟨i0, hi0⟩ := hex
  rcases this (i0 + 1) with h1 | ⟨i, h1, h2⟩
  · rw [h1 i0 (by omega)] at hi0; cases hi0
  · refine ⟨i, h1, fun j hj => ?_⟩
    have h3 := h2 j hj
    have hi' : i < l.size := by
      rcases Nat.lt_or_ge i l.size with hj | hj
      · exact hj
      · simp [Array.getElem?_eq_none hj] at h1
    have hj' : j < l.size := by omega
    simpa [hj'] using h3

theorem ready_push {l : List Oper} {n : Nat} {listed : Array Bool} (hsz : listed.size = n) {i : Nat} (hi : i < n) :
    i ∈ Region.ready md l.toArray (listed.push false) ↔ i ∈ Region.ready md (l.take n).toArray listed := by
  rw [mem_ready, mem_ready, getD_push_lt listed (by omega)]
  have e : (l.take n).toArray[i]? = l.toArray[i]? := by simp [hi]
  rw [e]
  simp only [getD_push]

theorem wpAny_sink {l : List Oper} {n : Nat} (hn : l.length = n + 1) (hs : sortedB md l = true) (hk : Region.sinkB md l.toArray n = true) :
    ∀ (fuel : Nat) (listed : Array Bool) (a : Act) (w : World), listed.size = n → left listed = fuel → HeadInv md l.toArray n (listed.push false) →
      wpAnyH P md (l.take n).toArray (sinkPost P l.toArray Q n) S fuel listed a w → wpAny P md l.toArray Q (fuel + 1) (listed.push false) a w := by
  have hc : Region.chainB md l.toArray n = true := by
    refine List.all_eq_true.2 fun t ht => ?_
    have := List.mem_range.1 ht
    simp only [List.size_toArray] at this
    simp only [Bool.or_eq_true, decide_eq_true_eq]
    left; omega
  intro fuel
  induction fuel with
  | zero =>
    intro listed a w hsz h0 inv H
    have hall := left_zero h0
    have hrn : n ∈ Region.ready md l.toArray (listed.push false) := by
      rw [mem_ready]
      refine ⟨by rw [← hsz]; exact getD_push_eq listed, l[n]'(by omega), by simp [show n < l.length by omega], fun e he hb => ?_⟩
      have hlt := (sortedB_spec hs (i := n) (List.getElem?_eq_getElem (by omega))).2 e he hb
      rw [getD_push]
      have := hall e.on
      simpa [show e.on < listed.size by omega] using this
    refine ⟨(fun h => by rw [h] at hrn; cases hrn), fun i hi => ?_⟩
    have hin : i = n := by
      rcases Nat.lt_trichotomy i n with h | h | h
      · have h1 := (mem_ready.1 hi).1
        rw [getD_push_lt listed (by omega), hall i] at h1
        cases h1
      · exact h
      · obtain ⟨_, o, ho, _⟩ := mem_ready.1 hi
        have := (Array.getElem?_eq_some_iff.1 ho).1
        simp only [List.size_toArray] at this
        omega
    subst hin
    refine wpOp_mono (fun a' w' h' => ?_) H.2
    refine ⟨?_, h'⟩
    cases hr : Region.ready md l.toArray ((listed.push false).setIfInBounds i true) with
    | nil => rfl
    | cons x xs =>
      have hx : x ∈ Region.ready md l.toArray ((listed.push false).setIfInBounds i true) := by rw [hr]; simp
      have h1 := (mem_ready.1 hx).1
      by_cases hxi : i = x
      · subst hxi
        have h2 : ((listed.push false).setIfInBounds i true).getD i true = true := by simp [hsz]
        rw [h2] at h1
        cases h1
      · rw [getD_set_ne true hxi] at h1
        rcases Nat.lt_or_ge x listed.size with h2 | h2
        · rw [getD_push_lt listed h2, hall x] at h1; cases h1
        · have h3 : (listed.push false).size ≤ x := by simp; omega
          simp [Array.getElem?_eq_none h3] at h1
  | succ fuel ih =>
    intro listed a w hsz hl inv H
    obtain ⟨i0, hi0, hlt0⟩ := left_pos (show 0 < left listed by omega)
    have hi0n : i0 < n := by
      rcases Nat.lt_or_ge i0 listed.size with hj | hj
      · omega
      · simp [Array.getElem?_eq_none hj] at hi0
    have hr0 : i0 ∈ Region.ready md l.toArray (listed.push false) := by
      rw [mem_ready]
      refine ⟨by rw [getD_push_lt listed (by omega)]; exact hi0, l[i0]'(by omega), by simp [show i0 < l.length by omega], fun e he hb => ?_⟩
      have hlt := (sortedB_spec hs (i := i0) (List.getElem?_eq_getElem (by omega))).2 e he hb
      rw [getD_push]
      exact hlt0 _ hlt
    refine ⟨(fun h => by rw [h] at hr0; cases hr0), fun i hi => ?_⟩
    have hin : i < n := by
      refine Nat.not_le.1 fun hge => ?_
      exact tail_waits hk hc (by simp; omega) inv (n - i0) i0 rfl hi0n (by rw [getD_push_lt listed (by omega)]; exact hi0) i hge hi
    have hi' := (ready_push hsz hin).1 hi
    have hun := (mem_ready.1 hi').1
    refine wpOp_sink hs hin (fun a' w' h' => ?_) (H.2 i hi')
    rw [push_set listed (by omega)]
    refine ih _ a' w' (by simpa using hsz) (by have := left_set hun; omega) ?_ h'.2
    rw [← push_set listed (by omega)]
    exact inv.set hi hin

/-- THE LAW: the last operation waits for all others -/
theorem wp_region_sink {id : Nat} {l : List Oper} {a : Act} {w : World} (n : Nat) (hm : P.follows .mixedOrders = true) (hn : l.length = n + 1) (hs : sortedB .any l = true) (hk : Region.sinkB .any l.toArray n = true) (hS : S w.drew)
    (h : S w.drew → wpAnyH P .any (l.take n).toArray (sinkPost P l.toArray Q n) S n (Array.replicate n false) a w.drew) : (Code.region id l.toArray true).wp P Q a w := by
  refine wp_region_any hm ?_
  have hrep : Array.replicate l.toArray.size false = (Array.replicate n false).push false := by
    rw [List.size_toArray, hn, Array.replicate_succ]
  rw [hrep, List.size_toArray, hn]
  refine wpAny_sink hn hs hk n _ a _ (by simp) ?_ ?_ (h hS)
  · unfold left
    rw [Array.toList_replicate, List.countP_eq_length.2 (fun a ha => by rw [List.eq_of_mem_replicate ha]; rfl), List.length_replicate]
  · rw [← hrep]
    refine ⟨by simp, fun j oj hj hl => ?_, fun t ht ht' => ?_⟩
    · rw [getD_replicate_false] at hl; cases hl
    · simp only [List.size_toArray] at ht'
      simp [ht']

theorem sink_run {ops : Array Oper} {n : Nat} {o : Oper} {a : Act} {w : World} (ho : ops[n]? = some o) (hg : o.guard = none) (h : o.wp P a w (fun a' w' => Q .normal a' w') Q) : sinkPost P ops Q n .normal a w := by
  show wpOp P ops Q n _ a w
  unfold wpOp
  rw [ho]
  simp only [Region.wanted, hg]
  exact .inl h
end
end Go.Frm
