/- The orders of pages in which they are printed, as plain functions: nothing is lost. No program in sight. -/
import Derived.Test.YtlipdhoeklgdoaaSlices
namespace Go.Proofs.Ytlipdhoeklgdoaa.Pc
open Go.RowKit Go.Frm

/-- a list read through a bijection is a permutation of the range -/
theorem perm_bij (Q : Nat) (g h : Nat → Nat) (hg : ∀ q, q < Q → g q < Q ∧ h (g q) = q) (hh : ∀ q, q < Q → h q < Q ∧ g (h q) = q) : ((List.range Q).map g).Perm (List.range Q) := by
  refine (List.perm_ext_iff_of_nodup ?_ List.nodup_range).2 (fun a => ?_)
  · refine List.pairwise_iff_getElem.2 (fun i j hi hj hij => ?_)
    simp at hi hj ⊢
    intro e
    have h1 := (hg i hi).2
    have h2 := (hg j hj).2
    rw [e, h2] at h1
    omega
  · rw [List.mem_map, List.mem_range]
    constructor
    · rintro ⟨q, hq, rfl⟩
      exact (hg q (List.mem_range.1 hq)).1
    · intro ha
      exact ⟨h a, List.mem_range.2 (hh a ha).1, (hh a ha).2⟩

/-- page k of an order is page .. of the list -/
def ii (n c : Nat) (collate : Bool) (k : Nat) : Nat := if collate then k % n else k / c
def po (N : Nat) (back : Bool) (k : Nat) : Nat := if back then N - 1 - k else k
theorem po_bd {N : Nat} {back : Bool} {k : Nat} (hk : k < N) : po N back k < N ∧ po N back (po N back k) = k := by
  unfold po
  cases back <;> simp <;> omega
theorem ii_bd {n c k : Nat} {collate : Bool} (hk : k < n * c) : ii n c collate k < n := by
  unfold ii
  cases collate
  · simp only [Bool.false_eq_true, if_false]
    exact Nat.div_lt_of_lt_mul (by rw [Nat.mul_comm]; exact hk)
  · simp only [if_true]
    refine Nat.mod_lt _ ?_
    rcases Nat.eq_zero_or_pos n with h | h
    · subst h; omega
    · exact h
/-- the pages in the order of printing -/
def ord (zs : Nat → Int) (n c : Nat) (collate back : Bool) (a : Nat) : Int := zs (ii n c collate (po (n * c) back a))
def bij (n c k : Nat) : Nat := (k % c) * n + k / c
theorem bij_bd {n c k : Nat} (hc0 : 1 ≤ c) (hk : k < n * c) : bij n c k < n * c ∧ bij n c k % n = k / c ∧ bij n c k / n = k % c := by
  have h1 : k / c < n := Nat.div_lt_of_lt_mul (by rw [Nat.mul_comm]; exact hk)
  have h2 : k % c < c := Nat.mod_lt _ hc0
  unfold bij
  refine ⟨?_, ?_, ?_⟩
  · have : (k % c + 1) * n ≤ c * n := Nat.mul_le_mul_right _ h2
    rw [Nat.add_mul] at this
    rw [Nat.mul_comm n c]
    omega
  · rw [Nat.mul_comm, Nat.mul_add_mod, Nat.mod_eq_of_lt h1]
  · have hn : 0 < n := Nat.lt_of_le_of_lt (Nat.zero_le _) h1
    rw [Nat.mul_comm, Nat.mul_add_div hn, Nat.div_eq_of_lt h1, Nat.add_zero]
def jib (n c k : Nat) : Nat := (k % n) * c + k / n
theorem jib_bij {n c k : Nat} (hc0 : 1 ≤ c) (hk : k < n * c) : jib n c (bij n c k) = k := by
  obtain ⟨_, h2, h3⟩ := bij_bd hc0 hk
  unfold jib
  rw [h2, h3, Nat.mul_comm]
  exact Nat.div_add_mod k c
theorem jib_bd {n c k : Nat} (hc0 : 1 ≤ c) (hk : k < n * c) : jib n c k < n * c ∧ bij n c (jib n c k) = k := by
  have hn : 1 ≤ n := by
    rcases Nat.eq_zero_or_pos n with h | h
    · subst h; omega
    · exact h
  have e : jib n c k = bij c n k := rfl
  have hk' : k < c * n := by rw [Nat.mul_comm]; exact hk
  obtain ⟨h1, h2, h3⟩ := bij_bd hn hk'
  rw [e]
  refine ⟨by rw [Nat.mul_comm n c]; exact h1, ?_⟩
  have := jib_bij hn hk'
  exact this
/-- copies of a list, one behind the other -/
def cop (zs : Nat → Int) (n : Nat) : Nat → List Int
  | 0 => []
  | c + 1 => cop zs n c ++ (List.range n).map zs
theorem cop_eq (zs : Nat → Int) (n : Nat) : ∀ c, cop zs n c = (List.range (n * c)).map (fun k => zs (k % n))
  | 0 => by simp [cop]
  | c + 1 => by
    rw [cop, cop_eq zs n c, Nat.mul_succ, List.range_add, List.map_append, List.map_map]
    congr 1
    refine List.map_congr_left (fun k hk => ?_)
    have := List.mem_range.1 hk
    simp [Nat.mod_eq_of_lt this]
theorem ord_perm (zs : Nat → Int) {n c : Nat} (collate back : Bool) (hc0 : 1 ≤ c) : ((List.range (n * c)).map (ord zs n c collate back)).Perm (cop zs n c) := by
  have e1 : (List.range (n * c)).map (ord zs n c collate back) = ((List.range (n * c)).map (po (n * c) back)).map (fun k => zs (ii n c collate k)) := by
    rw [List.map_map]; rfl
  rw [e1]
  refine List.Perm.trans ((perm_bij (n * c) (po (n * c) back) (po (n * c) back) (fun q hq => po_bd hq) (fun q hq => po_bd hq)).map _) ?_
  rw [cop_eq]
  cases collate
  · have e2 : (List.range (n * c)).map (fun k => zs (ii n c false k)) = ((List.range (n * c)).map (bij n c)).map (fun k => zs (k % n)) := by
      rw [List.map_map]
      refine List.map_congr_left (fun k hk => ?_)
      have := (bij_bd hc0 (List.mem_range.1 hk)).2.1
      simp [ii, this]
    rw [e2]
    exact (perm_bij (n * c) (bij n c) (jib n c) (fun q hq => ⟨(bij_bd hc0 hq).1, jib_bij hc0 hq⟩) (fun q hq => jib_bd hc0 hq)).map _
  · exact List.Perm.refl _

/-- where page i of a side stands -/
def pm (rows cols : Nat) (down : Bool) (i : Nat) : Nat := if down then i % rows * cols + i / rows else i
def qm (rows cols : Nat) (down : Bool) (e : Nat) : Nat := if down then e % cols * rows + e / cols else e
theorem pm_bd {rows cols i : Nat} (down : Bool) (hr : 1 ≤ rows) (hc : 1 ≤ cols) (hi : i < rows * cols) : pm rows cols down i < rows * cols ∧ qm rows cols down (pm rows cols down i) = i := by
  cases down
  · exact ⟨hi, rfl⟩
  · have hi' : i < cols * rows := by rw [Nat.mul_comm]; exact hi
    obtain ⟨h1, _, _⟩ := bij_bd (n := cols) (c := rows) hr hi'
    have e : ∀ k, pm rows cols true k = bij cols rows k := fun _ => rfl
    rw [e]
    refine ⟨by rw [Nat.mul_comm rows cols]; exact h1, ?_⟩
    have := jib_bij (n := cols) (c := rows) hr hi'
    exact this
theorem qm_bd {rows cols i : Nat} (down : Bool) (hr : 1 ≤ rows) (hc : 1 ≤ cols) (hi : i < rows * cols) : qm rows cols down i < rows * cols ∧ pm rows cols down (qm rows cols down i) = i := by
  cases down
  · exact ⟨hi, rfl⟩
  · obtain ⟨h1, _, _⟩ := bij_bd (n := rows) (c := cols) hc hi
    have e : ∀ k, qm rows cols true k = bij rows cols k := fun _ => rfl
    rw [e]
    refine ⟨h1, ?_⟩
    exact jib_bij (n := rows) (c := cols) hc hi
/-- what stands on side s at place e behind K pages -/
def sd (x : Nat → Int) (rows cols : Nat) (down : Bool) (K s e : Nat) : Int := if s * (rows * cols) + qm rows cols down e < K then x (s * (rows * cols) + qm rows cols down e) else 0
/-- how many sides there are behind K pages -/
def cd (m K : Nat) : Nat := (K + m - 1) / m
/-- all that stands on sides -/
def allS (x : Nat → Int) (rows cols : Nat) (down : Bool) (K : Nat) : Nat → List Int
  | 0 => []
  | s + 1 => allS x rows cols down K s ++ ((List.range (rows * cols)).map (sd x rows cols down K s)).filter (fun z => decide (0 < z))
theorem allS_eq (x : Nat → Int) (rows cols : Nat) (down : Bool) (K : Nat) (hm : 1 ≤ rows * cols) : ∀ S, allS x rows cols down K S = ((List.range (S * (rows * cols))).map (fun q => sd x rows cols down K (q / (rows * cols)) (q % (rows * cols)))).filter (fun z => decide (0 < z))
  | 0 => by simp [allS]
  | S + 1 => by
    rw [allS, allS_eq x rows cols down K hm S, Nat.succ_mul, List.range_add, List.map_append, List.filter_append, List.map_map]
    congr 2
    refine List.map_congr_left (fun k hk => ?_)
    have hk := List.mem_range.1 hk
    have e1 : (S * (rows * cols) + k) / (rows * cols) = S := by rw [Nat.mul_comm, Nat.mul_add_div (by omega), Nat.div_eq_of_lt hk, Nat.add_zero]
    have e2 : (S * (rows * cols) + k) % (rows * cols) = k := by rw [Nat.mul_comm, Nat.mul_add_mod, Nat.mod_eq_of_lt hk]
    simp only [Function.comp]
    rw [e1, e2]
theorem cd_bd {m K : Nat} (hm : 1 ≤ m) : K ≤ cd m K * m := by
  unfold cd
  have := Nat.div_add_mod (K + m - 1) m
  have := Nat.mod_lt (K + m - 1) hm
  rw [Nat.mul_comm]
  omega
theorem blk_bd {m S s e : Nat} (hs : s < S) (he : e < m) : s * m + e < S * m := by
  have : (s + 1) * m ≤ S * m := Nat.mul_le_mul_right _ hs
  rw [Nat.add_mul] at this
  omega
theorem allS_perm (x : Nat → Int) (rows cols : Nat) (down : Bool) (N : Nat) (hr : 1 ≤ rows) (hc : 1 ≤ cols) (hx : ∀ k, k < N → 0 < x k) : (allS x rows cols down N (cd (rows * cols) N)).Perm ((List.range N).map x) := by
  have hm : 1 ≤ rows * cols := Nat.mul_pos hr hc
  rw [allS_eq x rows cols down N hm]
  generalize hS : cd (rows * cols) N = S
  have hN : N ≤ S * (rows * cols) := by rw [← hS]; exact cd_bd hm
  have key : ∀ (f f' : Nat → Nat), (∀ e, e < rows * cols → f e < rows * cols ∧ f' (f e) = e) → ∀ q, q < S * (rows * cols) →
      (q / (rows * cols)) * (rows * cols) + f (q % (rows * cols)) < S * (rows * cols) ∧
      (((q / (rows * cols)) * (rows * cols) + f (q % (rows * cols))) / (rows * cols)) * (rows * cols) + f' (((q / (rows * cols)) * (rows * cols) + f (q % (rows * cols))) % (rows * cols)) = q := by
    intro f f' hf q hq
    have h1 : q / (rows * cols) < S := Nat.div_lt_of_lt_mul (by rw [Nat.mul_comm]; exact hq)
    have h2 : q % (rows * cols) < rows * cols := Nat.mod_lt _ hm
    obtain ⟨h3, h4⟩ := hf _ h2
    refine ⟨blk_bd h1 h3, ?_⟩
    have e1 : (q / (rows * cols) * (rows * cols) + f (q % (rows * cols))) / (rows * cols) = q / (rows * cols) := by
      rw [Nat.mul_comm, Nat.mul_add_div (by omega), Nat.div_eq_of_lt h3, Nat.add_zero]
    have e2 : (q / (rows * cols) * (rows * cols) + f (q % (rows * cols))) % (rows * cols) = f (q % (rows * cols)) := by
      rw [Nat.mul_comm, Nat.mul_add_mod, Nat.mod_eq_of_lt h3]
    rw [e1, e2, h4, Nat.mul_comm]
    exact Nat.div_add_mod q (rows * cols)
  have e1 : (List.range (S * (rows * cols))).map (fun q => sd x rows cols down N (q / (rows * cols)) (q % (rows * cols))) =
      ((List.range (S * (rows * cols))).map (fun q => (q / (rows * cols)) * (rows * cols) + qm rows cols down (q % (rows * cols)))).map (fun k => if k < N then x k else 0) := by
    rw [List.map_map]
    rfl
  rw [e1]
  have p1 := (perm_bij (S * (rows * cols)) (fun q => (q / (rows * cols)) * (rows * cols) + qm rows cols down (q % (rows * cols))) (fun q => (q / (rows * cols)) * (rows * cols) + pm rows cols down (q % (rows * cols)))
    (key _ _ (fun e he => qm_bd down hr hc he)) (key _ _ (fun e he => pm_bd down hr hc he))).map (fun k => if k < N then x k else 0)
  refine (p1.filter _).trans ?_
  have e2 : S * (rows * cols) = N + (S * (rows * cols) - N) := by omega
  rw [e2, List.range_add, List.map_append, List.filter_append]
  have e3 : ((List.map (fun x => N + x) (List.range (S * (rows * cols) - N))).map (fun k => if k < N then x k else 0)).filter (fun z => decide (0 < z)) = [] := by
    rw [List.filter_eq_nil_iff]
    intro z hz
    rw [List.map_map, List.mem_map] at hz
    obtain ⟨k, _, rfl⟩ := hz
    show ¬ (decide (0 < if N + k < N then x (N + k) else 0) = true)
    rw [if_neg (by omega)]
    simp
  have e4 : ((List.range N).map (fun k => if k < N then x k else 0)).filter (fun z => decide (0 < z)) = (List.range N).map x := by
    have e5 : (List.range N).map (fun k => if k < N then x k else 0) = (List.range N).map x := List.map_congr_left (fun k hk => if_pos (List.mem_range.1 hk))
    rw [e5, List.filter_eq_self]
    intro z hz
    obtain ⟨k, hk, rfl⟩ := List.mem_map.1 hz
    simp [hx k (List.mem_range.1 hk)]
  rw [e3, e4, List.append_nil]
/-- all pages that stand on sides are all pages of all copies -/
theorem counts (zs : Nat → Int) (n c : Nat) (collate back : Bool) (rows cols : Nat) (down : Bool) (hc0 : 1 ≤ c) (hr : 1 ≤ rows) (hc : 1 ≤ cols) (hz : ∀ k, k < n → 0 < zs k) :
    (allS (ord zs n c collate back) rows cols down (n * c) (cd (rows * cols) (n * c))).Perm (cop zs n c) :=
  (allS_perm _ rows cols down (n * c) hr hc (fun k hk => hz _ (ii_bd (po_bd hk).1))).trans (ord_perm zs collate back hc0)
theorem sorted_same {a b : List Int} (h : a.Perm b) : (a.mergeSort fun x y => decide (x ≤ y)) = b.mergeSort fun x y => decide (x ≤ y) := by
  have h1 : (a.mergeSort fun x y => decide (x ≤ y)).Perm (b.mergeSort fun x y => decide (x ≤ y)) := (List.mergeSort_perm _ _).trans (h.trans (List.mergeSort_perm _ _).symm)
  have s : ∀ l : List Int, (l.mergeSort fun x y => decide (x ≤ y)).Pairwise (fun x y => x ≤ y) := fun l => by
    have := List.pairwise_mergeSort (le := fun x y : Int => decide (x ≤ y)) (fun a b c h1 h2 => by simp at *; omega) (fun a b => by simp; omega) l
    exact this.imp (fun h => by simpa using h)
  exact h1.eq_of_pairwise (fun a b _ _ h1 h2 => Int.le_antisymm h1 h2) (s a) (s b)
end Go.Proofs.Ytlipdhoeklgdoaa.Pc
