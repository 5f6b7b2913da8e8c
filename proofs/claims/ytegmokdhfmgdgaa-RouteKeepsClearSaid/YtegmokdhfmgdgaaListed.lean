/- A region that draws its order and stores into cells that it loads: the condition on the world may speak of which operations have come up. Nothing here speaks of a program. -/
import Derived.Test.YtegmokdhfmgdgaaBase
import Derived.Deep.RegionHeld
namespace Go.Frm

section
variable {P : Program} {md : Region.Mode} {ops : Array Oper} {Q : Exit → Act → World → Prop} {S : Array Bool → World → Prop}

/-- what has come up has come up behind what it waits for -/
def Closed (md : Region.Mode) (ops : Array Oper) (l : Array Bool) : Prop :=
  ∀ (j : Nat) (o : Oper), ops[j]? = some o → l.getD j true = true → ∀ e ∈ o.after, Region.binds md e = true → l.getD e.on true = true
def closedB (md : Region.Mode) (ops : Array Oper) (l : Array Bool) : Bool :=
  (List.range ops.size).all fun j => match ops[j]? with
    | some o => !l.getD j true || o.after.all fun e => !Region.binds md e || l.getD e.on true
    | none => true
theorem closedB_spec {l : Array Bool} (h : closedB md ops l = true) : Closed md ops l := by
  intro j o ho hl e he hb
  have hj : j < ops.size := (Array.getElem?_eq_some_iff.1 ho).1
  have h1 := List.all_eq_true.1 h j (List.mem_range.2 hj)
  simp only [ho, hl, Bool.not_true, Bool.false_or] at h1
  have h2 := Array.all_eq_true'.1 h1 e he
  simpa [hb] using h2
theorem getD_false_true {l : Array Bool} {j : Nat} (h : l.getD j false = true) : l.getD j true = true := by
  simp only [Array.getD_eq_getD_getElem?] at *
  cases hj : l[j]? with
  | none => rfl
  | some b => rw [hj] at h; simpa using h
theorem Closed.set {l : Array Bool} (h : Closed md ops l) {i : Nat} (hi : i ∈ Region.ready md ops l) : Closed md ops (l.setIfInBounds i true) := by
  intro j o ho hl e he hb
  have up : ∀ k, l.getD k true = true → (l.setIfInBounds i true).getD k true = true := fun k hk => by
    by_cases hik : i = k
    · subst hik
      simp only [Array.getD_eq_getD_getElem?] at *
      rcases Nat.lt_or_ge i l.size with hlt | hge
      · rw [Array.getElem?_setIfInBounds_self_of_lt hlt]; rfl
      · rw [Array.getElem?_eq_none (by simpa using hge)]; rfl
    · rw [Go.getD_set_ne true hik]; exact hk
  by_cases hij : i = j
  · subst hij
    obtain ⟨_, o', ho', hall⟩ := mem_ready.1 hi
    rw [ho] at ho'
    cases ho'
    exact up _ (getD_false_true (hall e he hb))
  · rw [Go.getD_set_ne true hij] at hl
    exact up _ (h j o ho hl e he hb)
/-- j waits for i -/
def waitsB (md : Region.Mode) (ops : Array Oper) (i : Nat) : Nat → Nat → Bool
  | 0, j => j == i
  | f + 1, j => j == i || match ops[j]? with
    | some o => o.after.any fun e => Region.binds md e && waitsB md ops i f e.on
    | none => false
theorem waits_up {l : Array Bool} (h : Closed md ops l) {i : Nat} : ∀ (f j : Nat), waitsB md ops i f j = true → l.getD j true = true → l.getD i true = true
  | 0, j, hw, hl => by
    simp only [waitsB, beq_iff_eq] at hw
    exact hw ▸ hl
  | f + 1, j, hw, hl => by
    simp only [waitsB, Bool.or_eq_true, beq_iff_eq] at hw
    rcases hw with rfl | hw
    · exact hl
    · cases ho : ops[j]? with
      | none => rw [ho] at hw; cases hw
      | some o =>
        rw [ho] at hw
        obtain ⟨n, hn, h1⟩ := Array.any_eq_true.1 hw
        simp only [Bool.and_eq_true] at h1
        exact waits_up h f _ h1.2 (h j o ho hl _ (Array.getElem_mem hn) h1.1)
/-- what waits for an operation that has not come up has not come up -/
theorem Closed.waits {l : Array Bool} (h : Closed md ops l) {i j : Nat} (f : Nat) (hw : waitsB md ops i f j = true) (hi : l.getD i true = false) : l.getD j true = false := by
  cases hj : l.getD j true with
  | false => rfl
  | true => rw [waits_up h f j hw hj] at hi; cases hi

/-- Whatever order is picked from here on, and S holds behind each operation of what has come up and of the world. -/
def wpAnyL (P : Program) (md : Region.Mode) (ops : Array Oper) (Q : Exit → Act → World → Prop) (S : Array Bool → World → Prop) : Nat → Array Bool → Act → World → Prop
  | 0, listed, a, w => Region.ready md ops listed = [] ∧ Q .normal a w
  | fuel + 1, listed, a, w =>
    (Region.ready md ops listed = [] → Q .normal a w) ∧
    ∀ i ∈ Region.ready md ops listed, wpOp P ops Q i (fun a' w' => S (listed.setIfInBounds i true) w' ∧ wpAnyL P md ops Q S fuel (listed.setIfInBounds i true) a' w') a w
theorem wpAny_of_listed : ∀ (fuel : Nat) (listed : Array Bool) (a : Act) (w : World), wpAnyL P md ops Q S fuel listed a w → wpAny P md ops Q fuel listed a w
  | 0, _, _, _, h => h
  | fuel + 1, _, _, _, h => ⟨h.1, fun i hi => wpOp_mono (fun a' w' h' => wpAny_of_listed fuel _ a' w' h'.2) (h.2 i hi)⟩
/-- the worlds in which operation i can come up -/
def UpTo (md : Region.Mode) (ops : Array Oper) (S : Array Bool → World → Prop) (i : Nat) (w : World) : Prop :=
  ∃ l, l.getD i true = false ∧ Closed md ops l ∧ S l w

theorem wpAnyL_first {i : Nat} {oi : Oper} {v : Value} (hi : ops[i]? = some oi) (hsel : ∀ (j : Nat) (o : Oper) cs b, ops[j]? = some o → o.op ≠ .select cs b)
    (hQ : ∀ c a w, Q (.panic c) (a.put oi.dst v) w → Q (.panic c) a w) (hsens : ∀ l w, S (l.setIfInBounds i true) w ↔ S l w) :
    ∀ (fuel : Nat) (listed : Array Bool) (a : Act) (w : World),
      (∀ j oj, ops[j]? = some oj → j ≠ i → listed.getD j true = false → (∀ e ∈ oj.after, Region.binds md e = true → e.on ≠ i) → oi.apart ops oj = true) →
      i ∈ Region.ready md ops listed → YieldsIf P ops (UpTo md ops S i) oi v a → Closed md ops listed → S listed w →
      wpAnyL P md ops Q S fuel (listed.setIfInBounds i true) (a.put oi.dst v) w → wpAnyL P md ops Q S (fuel + 1) listed a w := by
  intro fuel
  induction fuel with
  | zero =>
    intro listed a w _ hr hy hcl hS H
    refine ⟨fun h => (by rw [h] at hr; cases hr), fun j hj => ?_⟩
    by_cases hji : j = i
    · subst hji; exact hy.wpOp hi ⟨listed, (mem_ready.1 hr).1, hcl, hS⟩ ⟨(hsens _ _).2 hS, H⟩
    · have := ready_mono hj hji
      rw [H.1] at this
      cases this
  | succ fuel ih =>
    intro listed a w hfree hr hy hcl hS H
    refine ⟨fun h => (by rw [h] at hr; cases hr), fun j hj => ?_⟩
    by_cases hji : j = i
    · subst hji; exact hy.wpOp hi ⟨listed, (mem_ready.1 hr).1, hcl, hS⟩ ⟨(hsens _ _).2 hS, H⟩
    · have h1 := H.2 j (ready_mono hj hji)
      obtain ⟨hjun, oj, hoj, hall⟩ := mem_ready.1 hj
      have hnot : ∀ e ∈ oj.after, Region.binds md e = true → e.on ≠ i := fun e he hb heq => by
        have h1 := hall e he hb
        have h0 := (mem_ready.1 hr).1
        rw [heq] at h1
        rcases Nat.lt_or_ge i listed.size with h' | h'
        · simp [h'] at h0 h1; rw [h0] at h1; cases h1
        · simp [Array.getElem?_eq_none h'] at h1
      have h2 := wpOp_putIf hoj (hfree j oj hoj hji hjun hnot) (fun cs b => hsel i oi cs b hi) (fun cs b => hsel j oj cs b hoj) hQ hy h1
      have hfree' : ∀ k ok, ops[k]? = some ok → k ≠ i → (listed.setIfInBounds j true).getD k true = false →
          (∀ e ∈ ok.after, Region.binds md e = true → e.on ≠ i) → oi.apart ops ok = true := fun k ok hk hki hun hno => by
        refine hfree k ok hk hki ?_ hno
        by_cases hjk : j = k
        · subst hjk; exact hjun
        · rw [Go.getD_set_ne true hjk] at hun; exact hun
      refine wpOp_mono (fun a' w' h3 => ?_) h2
      have h4 := h3.2.1
      rw [Array.setIfInBounds_comm _ _ (fun h => hji h.symm)] at h4
      have hS' := (hsens _ _).1 h4
      refine ⟨hS', ih (listed.setIfInBounds j true) a' w' hfree' (ready_mono hr (Ne.symm hji)) h3.1 (hcl.set hj) hS' ?_⟩
      rw [Array.setIfInBounds_comm _ _ hji]
      exact h3.2.2

/-- Take number i first. -/
theorem wpAnyL_take {i : Nat} {oi : Oper} {v : Value} {fuel : Nat} {listed : Array Bool} {a : Act} {w : World} (hi : ops[i]? = some oi)
    (hs : Region.noSelect ops = true) (hf : Region.free md ops listed i = true) (hr : (Region.ready md ops listed).contains i = true) (hcl : closedB md ops listed = true)
    (hQ : ∀ c a w, Q (.panic c) (a.put oi.dst v) w → Q (.panic c) a w) (hsens : ∀ l w, S (l.setIfInBounds i true) w ↔ S l w) (hy : YieldsIf P ops (UpTo md ops S i) oi v a) (hS : S listed w)
    (h : S (listed.setIfInBounds i true) w → wpAnyL P md ops Q S fuel (listed.setIfInBounds i true) (a.put oi.dst v) w) : wpAnyL P md ops Q S (fuel + 1) listed a w :=
  wpAnyL_first hi (Region.noSelect_spec hs) hQ hsens fuel listed a w (Region.free_spec hi hf) (by simpa using hr) hy (closedB_spec hcl) hS (h ((hsens _ _).2 hS))
/-- Whichever of those that may come up comes up. -/
theorem wpAnyL_all {rs : List Nat} {fuel : Nat} {listed : Array Bool} {a : Act} {w : World} (hr : Region.ready md ops listed = rs) (hne : rs ≠ [])
    (h : ∀ i ∈ rs, wpOp P ops Q i (fun a' w' => S (listed.setIfInBounds i true) w' ∧ wpAnyL P md ops Q S fuel (listed.setIfInBounds i true) a' w') a w) : wpAnyL P md ops Q S (fuel + 1) listed a w :=
  ⟨fun h0 => absurd (hr ▸ h0) hne, hr ▸ h⟩
theorem wpAnyL_done {listed : Array Bool} {a : Act} {w : World} (hr : Region.ready md ops listed = []) (h : Q .normal a w) :
    ∀ fuel, wpAnyL P md ops Q S fuel listed a w
  | 0 => ⟨hr, h⟩
  | _ + 1 => ⟨fun _ => h, by rw [hr]; simp⟩
def AllReadyL (P : Program) (md : Region.Mode) (ops : Array Oper) (Q : Exit → Act → World → Prop) (S : Array Bool → World → Prop) (fuel : Nat) (listed : Array Bool) (a : Act) (w : World) (rs : List Nat) : Prop :=
  ∀ i ∈ rs, wpOp P ops Q i (fun a' w' => S (listed.setIfInBounds i true) w' ∧ wpAnyL P md ops Q S fuel (listed.setIfInBounds i true) a' w') a w
theorem AllReadyL.nil {fuel : Nat} {listed : Array Bool} {a : Act} {w : World} : AllReadyL P md ops Q S fuel listed a w [] := fun _ h => by cases h
theorem AllReadyL.cons {fuel : Nat} {listed : Array Bool} {a : Act} {w : World} {i : Nat} {o : Oper} {rs : List Nat} (ho : ops[i]? = some o)
    (h : ∀ K' : Act → World → Prop, Shut (∀ a w, S (listed.setIfInBounds i true) w → (S (listed.setIfInBounds i true) w → wpAnyL P md ops Q S fuel (listed.setIfInBounds i true) a w) → K' a w) → if Region.wanted o (yielded ops a.tmps) = true then Oper.wp P o a w K' Q else K' (a.put o.dst undef) w)
    (hs : AllReadyL P md ops Q S fuel listed a w rs) : AllReadyL P md ops Q S fuel listed a w (i :: rs) := fun j hj => by
  rcases List.mem_cons.1 hj with rfl | hj
  · exact wpOp_step ho (fun K' hK => h K' (fun a w hS hW => hK a w ⟨hS, hW hS⟩))
  · exact hs j hj
theorem wpAnyL_ready {rs : List Nat} {fuel : Nat} {listed : Array Bool} {a : Act} {w : World} (hr : Region.ready md ops listed = rs) (hne : rs ≠ [])
    (h : AllReadyL P md ops Q S fuel listed a w rs) : wpAnyL P md ops Q S (fuel + 1) listed a w := wpAnyL_all hr hne h
/-- THE LAW -/
theorem wp_region_listed {id : Nat} {a : Act} {w : World} (hm : P.follows .mixedOrders = true) (hS : S (Array.replicate ops.size false) w.drew)
    (h : S (Array.replicate ops.size false) w.drew → wpAnyL P .any ops Q S ops.size (Array.replicate ops.size false) a w.drew) : (Code.region id ops true).wp P Q a w :=
  wp_region_any hm (wpAny_of_listed _ _ _ _ (h hS))
/-- an operation that wants nothing of its guard is run -/
theorem wpOp_run {i : Nat} {o : Oper} {a : Act} {w : World} {K : Act → World → Prop} (ho : ops[i]? = some o) (hg : o.guard = none) (h : o.wp P a w K Q) : wpOp P ops Q i K a w := by
  unfold wpOp
  rw [ho]
  simp only [Region.wanted, hg]
  exact .inl h
end
theorem cell_drew {w : World} {p : Addr} {v : Value} (h : w.cell? p = some v) : w.drew.cell? p = some v := h
theorem cell_other {w : World} {b i j : Nat} {u v : Value} (h : w.cell? ⟨b, i, none⟩ = some v) (hij : i ≠ j) : (w.setCell ⟨b, j, none⟩ u).cell? ⟨b, i, none⟩ = some v := by
  rw [World.cell?_setCell_other (h := fun hh => hij (by injection hh with _ h2 _; exact h2.symm))]
  exact h
end Go.Frm
