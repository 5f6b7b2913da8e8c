/- Words for slices that are read, over any program. -/
import Derived.Test.YtegmokdhfmgdgaaBase
namespace Go.Frm
open Go.RowKit

/-- the element, behind a name that simp leaves alone -/
def ix (zs : List Int) (j : Nat) : Int := zs.getD j 0
theorem ix_eq {zs : List Int} {j : Nat} (h : j < zs.length) : ix zs j = zs[j] := by simp [ix, h]
theorem ix_append_left {zs ys : List Int} {j : Nat} (h : j < zs.length) : ix (zs ++ ys) j = ix zs j := by simp [ix, List.getElem?_append_left h]
theorem ix_append_right {zs ys : List Int} {j : Nat} (h : zs.length ≤ j) : ix (zs ++ ys) j = ix ys (j - zs.length) := by simp [ix, List.getElem?_append_right h]

/-- the first k elements are alike -/
def EqTo (zs ys : List Int) (k : Nat) : Prop := ∀ j, j < k → ix zs j = ix ys j
theorem eqTo_zero (zs ys : List Int) : EqTo zs ys 0 := fun j h => by omega
theorem eqTo_succ {zs ys : List Int} {k : Nat} (h : EqTo zs ys k) (e : ix zs k = ix ys k) : EqTo zs ys (k + 1) := fun j hj => by
  by_cases hjk : j = k
  · rw [hjk]; exact e
  · exact h j (by omega)
theorem eqTo_all {zs ys : List Int} {k : Nat} (hl : zs.length = ys.length) (h : EqTo zs ys k) (hk : zs.length ≤ k) : zs = ys := by
  refine List.ext_getElem hl fun j h1 h2 => ?_
  have := h j (by omega)
  rwa [ix_eq h1, ix_eq h2] at this
theorem val_int {k : IntKind} {a b : Int} (h : a = b) : Value.int k a = Value.int k b := by rw [h]

/-- a slice of ints reads as zs -/
def RdI (w : World) (A : Option Addr) (zs : List Int) : Prop :=
  zs = [] ∨ ∃ b off, A = some ⟨b, off, none⟩ ∧ ∀ j, j < zs.length → w.cell? ⟨b, off + j, none⟩ = some (.int .i64 (ix zs j))
section
variable {w w' : World} {A : Option Addr} {zs : List Int}
theorem RdI.at_ (h : RdI w A zs) {k : Nat} (hk : k < zs.length) : ∃ b off, A = some ⟨b, off, none⟩ ∧ w.cell? ⟨b, off + k, none⟩ = some (.int .i64 (ix zs k)) := by
  rcases h with rfl | ⟨b, off, rfl, hc⟩
  · simp at hk
  · exact ⟨b, off, rfl, hc k hk⟩
theorem RdI.keep (h : RdI w A zs) (hk : ∀ p : Addr, p.block < w.heap.size → w'.cell? p = w.cell? p) : RdI w' A zs := by
  rcases h with rfl | ⟨b, off, rfl, hc⟩
  · exact .inl rfl
  · refine .inr ⟨b, off, rfl, fun j hj => ?_⟩
    have h1 := hc j hj
    rw [hk _ (World.block_lt_of_cell? w _ h1)]
    exact h1
theorem RdI.below (h : RdI w A zs) (hb : Below w.heap.size w w') : RdI w' A zs := h.keep fun _ hp => hb.cell hp
theorem RdI.drewN (h : RdI w A zs) (n : Nat) : RdI (w.drewN n) A zs := h
theorem RdI.alloc (h : RdI w A zs) (o : Obj) : RdI (w.alloc o) A zs := h.below ((Below.refl _ _).alloc (Nat.le_refl _) o)
theorem RdI.nil (w : World) (A : Option Addr) : RdI w A [] := .inl rfl
theorem RdI.of_own {base : Nat} {e : TypeId} {n c : Nat} (h : w.ownsRow base e 1 (.slice A n c) n (zs.map (Value.int .i64))) : RdI w A zs := by
  rcases h.2 with ⟨h1, hn⟩ | ⟨g, cap, cur, h1, _, _⟩
  · left
    have := h.1
    simp [hn] at this
    exact this
  · right
    have hA : A = some ⟨g, 0, none⟩ := by injection h1
    subst hA
    refine ⟨g, 0, rfl, fun j hj => ?_⟩
    have h2 := h.cells (g := g) rfl j (.int .i64 (ix zs j)) (by simp [hj, ix])
    unfold Addr.add at h2
    split at h2
    · rename_i hj0; subst hj0; simpa using h2
    · simpa using h2
end

section
variable {w w' : World} {base : Nat} {e : TypeId} {size n : Nat} {v : Value} {xs : List Value}
theorem news_at (w : World) (cs : Array Value) (t : TypeId) (g : Nat) (hg : g = w.heap.size) : ∀ (j : Nat) (u : Value), cs.toList[j]? = some u → (w.alloc (.cells cs t)).cell? ((⟨g, 0, none⟩ : Addr).add j) = some u := by
  intro j u hu
  subst hg
  have hadd : (⟨w.heap.size, 0, none⟩ : Addr).add j = ⟨w.heap.size, j, none⟩ := by unfold Addr.add; split <;> simp_all
  rw [hadd, cell_of_row _ w.heap.size j cs t (0, 0) (heap_alloc_new w _)]
  simpa using hu

theorem ownsRow_less {b' : Nat} (h : w.ownsRow base e size v n xs) (hb : b' ≤ base) : w.ownsRow b' e size v n xs := by
  refine ⟨h.1, ?_⟩
  rcases h.2 with h2 | ⟨g, cap, cur, h1, h2, h3⟩
  · exact .inl h2
  · exact .inr ⟨g, cap, cur, h1, by omega, h3⟩

theorem own_form (h : w.ownsRow base e size v n xs) : ∃ A c, v = .slice A n c := by
  rcases h.2 with ⟨rfl, rfl⟩ | ⟨g, cap, cur, rfl, _⟩
  · exact ⟨_, _, rfl⟩
  · exact ⟨_, _, rfl⟩

theorem below_app {a : World} {B : Nat} (h : Below B a w) (hB : B ≤ w.heap.size) (hown : w.ownsRow B e size v n xs) (hg : w.grownBy w' v.ownBlock) : Below B a w' :=
  h.grown hg hB (fun k hk => (hown.lt k hk).1)

theorem wpL_append {P : Program} {w : World} {ops : Array Oper} {rest : List Oper} {o : Oper} {a : Act} {Q : Exit → Act → World → Prop} {s x : Operand} {t : TypeId}
    {base : Nat} {e : TypeId} {z : Value} {size bytes : Nat} {v : Value} {n : Nat} {xs : List Value} {ad : Addr} {m c : Nat} {news : List Value}
    (hgd : o.guard = none) (ho : o.op = .call { callee := .builtin .append, args := #[s, x], argTypes := #[t, t] })
    (ht : P.underlying t = some (.slice e)) (hinfo : (P.info? e).map (fun i => (i.zero, i.size, i.bytes)) = some (some z, size, bytes)) (hzs : z.cells.size = size) (hsz : 0 < size)
    (hs : a.eval s = v) (hx : a.eval x = .slice (some ad) m c) (hown : w.ownsRow base e size v n xs)
    (hnews : ∀ j u, news[j]? = some u → w.cell? (ad.add j) = some u) (hl : news.length = m * size) (h1 : ∀ u ∈ news, u.oneCell' = true)
    (hbytes : (n + m) * bytes ≤ 140737488355328) (h63 : n + m ≤ 9223372036854775807) (hbase : base ≤ w.heap.size)
    (h : ∀ v' w', w'.ownsRow base e size v' (n + m) (xs ++ news) → w.grownBy w' v.ownBlock → wpList P ops Q rest (a.put o.dst v') w') : wpList P ops Q (o :: rest) a w := by
  obtain ⟨i, hi, hz, hsize, hby⟩ := info_parts hinfo
  exact wpList_append_own w hgd s x t ho base e i z size bytes ht hi hz hsize hby hzs hsz v n xs hs hown ad m c news hx hl hnews h1 (by simp only [maxLen]; omega) hbytes hbase
    (fun v' w' h2 h3 _ => h v' w' h2 h3)
end

/-- a row of n structs of 'size' cells, cell j of struct i being f i j -/
def rowF (n size : Nat) (f : Nat → Nat → Value) : List Value := (List.range n).flatMap fun i => (List.range size).map (f i)
theorem rowF_zero (size : Nat) (f : Nat → Nat → Value) : rowF 0 size f = [] := rfl
theorem rowF_succ (n size : Nat) (f : Nat → Nat → Value) : rowF (n + 1) size f = rowF n size f ++ (List.range size).map (f n) := by
  simp [rowF, List.range_succ, List.flatMap_append]
theorem rowF_length (n size : Nat) (f : Nat → Nat → Value) : (rowF n size f).length = n * size := by
  induction n with
  | zero => simp [rowF]
  | succ n ih => rw [rowF_succ, List.length_append, ih]; simp [Nat.add_mul]
theorem rowF_get (n size : Nat) (f : Nat → Nat → Value) : ∀ i j, i < n → j < size → (rowF n size f)[i * size + j]? = some (f i j) := by
  induction n with
  | zero => intro i j h; omega
  | succ n ih =>
    intro i j hi hj
    rw [rowF_succ]
    by_cases h : i < n
    · rw [List.getElem?_append_left]
      · exact ih i j h hj
      · rw [rowF_length]
        have : (i + 1) * size ≤ n * size := Nat.mul_le_mul_right _ h
        rw [Nat.add_mul] at this
        omega
    · have : i = n := by omega
      subst this
      rw [List.getElem?_append_right (by rw [rowF_length]; omega), rowF_length, Nat.add_sub_cancel_left]
      simp [hj]

/-- a slice of n structs reads as f -/
def RdF (w : World) (A : Option Addr) (n size : Nat) (f : Nat → Nat → Value) : Prop :=
  n = 0 ∨ ∃ b off, A = some ⟨b, off, none⟩ ∧ ∀ i j, i < n → j < size → w.cell? ⟨b, off + i * size + j, none⟩ = some (f i j)
section
variable {w w' : World} {A : Option Addr} {n size : Nat} {f : Nat → Nat → Value}
theorem RdF.at_ (h : RdF w A n size f) {k : Nat} (hk : k < n) : ∃ b off, A = some ⟨b, off, none⟩ ∧ ∀ j, j < size → w.cell? ⟨b, off + k * size + j, none⟩ = some (f k j) := by
  rcases h with rfl | ⟨b, off, rfl, hc⟩
  · omega
  · exact ⟨b, off, rfl, fun j hj => hc k j hk hj⟩
theorem RdF.keep (h : RdF w A n size f) (hk : ∀ p : Addr, p.block < w.heap.size → w'.cell? p = w.cell? p) : RdF w' A n size f := by
  rcases h with rfl | ⟨b, off, rfl, hc⟩
  · exact .inl rfl
  · refine .inr ⟨b, off, rfl, fun i j hi hj => ?_⟩
    have h1 := hc i j hi hj
    rw [hk _ (World.block_lt_of_cell? w _ h1)]
    exact h1
theorem RdF.below (h : RdF w A n size f) (hb : Below w.heap.size w w') : RdF w' A n size f := h.keep fun _ hp => hb.cell hp
theorem RdF.drewN (h : RdF w A n size f) (m : Nat) : RdF (w.drewN m) A n size f := h
theorem RdF.alloc (h : RdF w A n size f) (o : Obj) : RdF (w.alloc o) A n size f := h.below ((Below.refl _ _).alloc (Nat.le_refl _) o)
theorem RdF.of_own {base : Nat} {e : TypeId} {c : Nat} (h : w.ownsRow base e size (.slice A n c) n (rowF n size f)) : RdF w A n size f := by
  rcases h.2 with ⟨h1, hn⟩ | ⟨g, cap, cur, h1, _, _⟩
  · exact .inl hn
  · right
    have hA : A = some ⟨g, 0, none⟩ := by injection h1
    subst hA
    refine ⟨g, 0, rfl, fun i j hi hj => ?_⟩
    have h2 := h.cells (g := g) rfl (i * size + j) (f i j) (rowF_get n size f i j hi hj)
    have hadd : (⟨g, 0, none⟩ : Addr).add (i * size + j) = ⟨g, i * size + j, none⟩ := by unfold Addr.add; split <;> simp_all
    rw [hadd] at h2
    simpa using h2
end

section
open Go.ChangeShapes Go.WideShapes Go.ChangeAt
variable {H : Type} {enc : TypeId × Value → H} {P : Program} {w : World} {base : Nat} {spare : Nat → Bool} {held : Bool}
/-- an argument of type []int -/
theorem ints_arg {t e : TypeId} {r : Reach} {b0 : Nat} {v : Value} {d : DataW H} {p : List MemPlace} (ht : P.underlying t = some (.slice e)) (he : P.underlying e = some (.int .i64)) (hC : P.cellsOf e = 1)
    (hv : Value.okWide P w r b0 t v) (h : DataW.Trod enc P w base spare held t v d p) :
    ∃ (A : Option Addr) (c : Nat) (zs : List Int), v = .slice A zs.length c ∧ RdI w A zs ∧ zs.length ≤ 9223372036854775807 ∧ ∀ j, j < zs.length → (Lit.int .i64 (ix zs j)).wf = true := by
  obtain ⟨a0, len, cap, rfl⟩ := okWide_slice ht hv
  obtain ⟨fuel, hf⟩ := h
  rcases open_ints ht he hC hf with ⟨hcs, _⟩ | ⟨x, l, c, zs, hcs, _, hl, hm, hz, _, hcell, hwz⟩
  · simp [Value.cells] at hcs
    obtain ⟨rfl, rfl, rfl⟩ := hcs
    exact ⟨none, 0, [], rfl, .inl rfl, by simp, by simp⟩
  · simp [Value.cells] at hcs
    obtain ⟨rfl, rfl, rfl⟩ := hcs
    have hll : len ≤ zs.length := by
      have h1 : zs.length = if spare x.block then cap else len := by simpa using hz
      split at h1 <;> omega
    refine ⟨some x, cap, zs.take len, by rw [List.length_take, Nat.min_eq_left hll], ?_, by rw [List.length_take]; simp only [maxLen] at hm; omega, ?_⟩
    · by_cases h0 : len = 0
      · left; subst h0; rfl
      · right
        obtain ⟨b, off, spot⟩ := x
        have h1 := hcell 0 (by omega)
        have hspot : spot = none := by simpa [Addr.add] using World.cell?_spot h1
        subst hspot
        refine ⟨b, off, rfl, fun j hj => ?_⟩
        rw [List.length_take] at hj
        have h2 := hcell j (by omega)
        rw [Addr.add_lit] at h2
        rw [h2]
        have : j < len := by omega
        simp [ix, this]
    · intro j hj
      rw [List.length_take] at hj
      refine hwz _ ?_
      have : j < len := by omega
      have h3 : j < zs.length := by omega
      simp [ix, this, h3]
end

/-- a row given by a function -/
def tabV (n : Nat) (F : Nat → Value) : List Value := (List.range n).map F
def tab (n : Nat) (F : Nat → Int) : List Int := (List.range n).map F
theorem tabV_length (n : Nat) (F : Nat → Value) : (tabV n F).length = n := by simp [tabV]
theorem tab_length (n : Nat) (F : Nat → Int) : (tab n F).length = n := by simp [tab]
theorem tab_ix {n : Nat} (F : Nat → Int) {j : Nat} (h : j < n) : ix (tab n F) j = F j := by simp [ix, tab, h]
theorem tabV_get {n : Nat} (F : Nat → Value) {j : Nat} (h : j < n) : (tabV n F)[j]? = some (F j) := by simp [tabV, h]
theorem tabV_succ (n : Nat) (F : Nat → Value) : tabV (n + 1) F = tabV n F ++ [F n] := by simp [tabV, List.range_succ]
theorem tab_succ (n : Nat) (F : Nat → Int) : tab (n + 1) F = tab n F ++ [F n] := by simp [tab, List.range_succ]
theorem tabV_ints (n : Nat) (F : Nat → Int) : tabV n (fun i => .int .i64 (F i)) = (tab n F).map (Value.int .i64) := by simp [tabV, tab]
theorem tabV_congr {n : Nat} {F G : Nat → Value} (h : ∀ i, i < n → F i = G i) : tabV n F = tabV n G := by
  unfold tabV
  exact List.map_congr_left fun i hi => h i (List.mem_range.1 hi)
theorem tab_congr {n : Nat} {F G : Nat → Int} (h : ∀ i, i < n → F i = G i) : tab n F = tab n G := by
  unfold tab
  exact List.map_congr_left fun i hi => h i (List.mem_range.1 hi)
/-- the function with one value changed -/
def upd {α : Type} (F : Nat → α) (j : Nat) (x : α) : Nat → α := fun i => if i = j then x else F i
theorem upd_same {α : Type} (F : Nat → α) (j : Nat) (x : α) : upd F j x j = x := by simp [upd]
theorem upd_other {α : Type} (F : Nat → α) {i j : Nat} (x : α) (h : i ≠ j) : upd F j x i = F i := by simp [upd, h]
theorem tabV_set (n : Nat) (F : Nat → Value) (j : Nat) (x : Value) : (tabV n F).set j x = tabV n (upd F j x) := by
  apply List.ext_getElem?
  intro i
  by_cases hi : i < n
  · by_cases hij : i = j
    · subst hij
      simp [tabV, hi, upd]
    · rw [List.getElem?_set_ne (fun h => hij h.symm)]
      simp [tabV, hi, upd, hij]
  · simp [tabV, hi]
theorem madeCells_tab (z : Value) (n : Nat) : (madeCells #[z] (n * 1)).toList = tabV n (fun _ => z) := by
  rw [toList_madeCells_one, Nat.mul_one]
  unfold tabV
  rw [List.map_const', List.length_range]

section
variable {w : World} {base : Nat} {e : TypeId} {g n c : Nat} {F : Nat → Value}
theorem own_cell (h : w.ownsRow base e 1 (.slice (some ⟨g, 0, none⟩) n c) n (tabV n F)) {j : Nat} (hj : j < n) : w.cell? ⟨g, j, none⟩ = some (F j) := by
  rw [h.cellAt j (by omega), tabV_get F hj]
theorem own_store (h : w.ownsRow base e 1 (.slice (some ⟨g, 0, none⟩) n c) n (tabV n F)) (j : Nat) (x : Value) : (w.setCell ⟨g, j, none⟩ x).ownsRow base e 1 (.slice (some ⟨g, 0, none⟩) n c) n (tabV n (upd F j x)) := by
  rw [← tabV_set]
  exact (h.stored j x).1
/-- an owned row and a store into a row of another element type -/
theorem own_far {b' : Nat} {e' : TypeId} {g' n' c' s' : Nat} {xs' : List Value} {size : Nat} {v : Value} {xs : List Value} (h : w.ownsRow base e size v n xs) (h' : w.ownsRow b' e' s' (.slice (some ⟨g', 0, none⟩) n' c') n' xs') (hne : e ≠ e') (j : Nat) (x : Value) :
    (w.setCell ⟨g', j, none⟩ x).ownsRow base e size v n xs := by
  refine h.kept (h'.stored j x).2 ?_
  rcases h.2 with ⟨rfl, _⟩ | ⟨g1, cap, cur, rfl, _, h1, _⟩
  · exact .inl rfl
  · right
    rcases h'.2 with ⟨h2, _⟩ | ⟨g2, cap2, cur2, h2, _, h3, _⟩
    · cases h2
    · have : g' = g2 := by injection h2 with h2; injection h2 with h2; injection h2
      subst this
      intro hh
      have : g1 = g' := by simpa [Value.ownBlock] using hh
      subst this
      rw [h1] at h3
      injection h3 with h3
      injection h3 with _ h4
      exact hne h4
theorem own_ne {b' : Nat} {e' : TypeId} {n' s' : Nat} {v' : Value} {xs' : List Value} {size : Nat} {v : Value} {xs : List Value} (h : w.ownsRow base e size v n xs) (h' : w.ownsRow b' e' s' v' n' xs') (hne : e ≠ e') : v.ownBlock = none ∨ v.ownBlock ≠ v'.ownBlock := by
  rcases h.2 with ⟨rfl, _⟩ | ⟨g1, cap, cur, rfl, _, h1, _⟩
  · exact .inl rfl
  · right
    rcases h'.2 with ⟨rfl, _⟩ | ⟨g2, cap2, cur2, rfl, _, h3, _⟩
    · simp [Value.ownBlock]
    · intro hh
      have : g1 = g2 := by simpa [Value.ownBlock] using hh
      subst this
      rw [h1] at h3
      injection h3 with h3
      injection h3 with _ h4
      exact hne h4
theorem own_drewN {size : Nat} {v : Value} {xs : List Value} (h : w.ownsRow base e size v n xs) (k : Nat) : (w.drewN k).ownsRow base e size v n xs := h
/-- below the base nothing of what is owned lies -/
theorem own_setCell_low {size : Nat} {v : Value} {xs : List Value} (h : w.ownsRow base e size v n xs) {a : Addr} (ha : a.block < base) (u : Value) : (w.setCell a u).ownsRow base e size v n xs := ownsRow_setCell_below h ha u
theorem own_below {w' : World} {size : Nat} {v : Value} {xs : List Value} (h : w.ownsRow base e size v n xs) (hb : Below w.heap.size w w') : w'.ownsRow base e size v n xs := by
  refine ⟨h.1, ?_⟩
  rcases h.2 with h2 | ⟨g1, cap, cur, h1, h2, h3, h4⟩
  · exact .inl h2
  · refine .inr ⟨g1, cap, cur, h1, h2, ?_, h4⟩
    rw [hb.block g1 (Array.getElem?_eq_some_iff.1 h3).1]
    exact h3
end

/-- a slice of m slices of ints -/
def RdM (w : World) (A : Option Addr) (m : Nat) (rows : Nat → List Int) : Prop :=
  m = 0 ∨ ∃ b off, A = some ⟨b, off, none⟩ ∧ ∀ i, i < m → ∃ Ai ci, w.cell? ⟨b, off + i, none⟩ = some (.slice Ai (rows i).length ci) ∧ RdI w Ai (rows i)
section
variable {w w' : World} {A : Option Addr} {m : Nat} {rows : Nat → List Int}
theorem RdM.at_ (h : RdM w A m rows) {k : Nat} (hk : k < m) : ∃ b off Ai ci, A = some ⟨b, off, none⟩ ∧ w.cell? ⟨b, off + k, none⟩ = some (.slice Ai (rows k).length ci) ∧ RdI w Ai (rows k) := by
  rcases h with rfl | ⟨b, off, rfl, hc⟩
  · omega
  · obtain ⟨Ai, ci, h1, h2⟩ := hc k hk
    exact ⟨b, off, Ai, ci, rfl, h1, h2⟩
theorem RdM.below (h : RdM w A m rows) (hb : Below w.heap.size w w') : RdM w' A m rows := by
  rcases h with rfl | ⟨b, off, rfl, hc⟩
  · exact .inl rfl
  · refine .inr ⟨b, off, rfl, fun i hi => ?_⟩
    obtain ⟨Ai, ci, h1, h2⟩ := hc i hi
    refine ⟨Ai, ci, ?_, h2.below hb⟩
    rw [hb.cell (p := ⟨b, off + i, none⟩) (World.block_lt_of_cell? w _ h1)]
    exact h1
theorem RdM.alloc (h : RdM w A m rows) (o : Obj) : RdM (w.alloc o) A m rows := h.below ((Below.refl _ _).alloc (Nat.le_refl _) o)
end

/-- 'make([]T, n)' of one-cell elements -/
theorem wpL_make1 {P : Program} {w : World} {ops : Array Oper} {rest : List Oper} {o : Oper} {a : Act} {Q : Exit → Act → World → Prop} {l c : Operand} {t : TypeId}
    {base : Nat} {e : TypeId} {z : Value} {bytes : Nat} {n : Nat} {kl kc : IntKind} {L C : Int}
    (hgd : o.guard = none) (hop : o.op = Op.makeSlice t l c)
    (ht : P.underlying t = some (.slice e)) (hinfo : (P.info? e).map (fun i => (i.zero, i.size, i.bytes)) = some (some z, 1, bytes)) (hz : z.cells = #[z])
    (hl : a.eval l = .int kl L) (hc : a.eval c = .int kc C) (hL : L = (n : Int)) (hC : C = (n : Int)) (hbytes : bytes * n ≤ 281474976710656) (h63 : n ≤ 9223372036854775807) (hbase : base ≤ w.heap.size)
    (h : ∀ w', w'.ownsRow base e 1 (.slice (some ⟨w.heap.size, 0, none⟩) n n) n (tabV n (fun _ => z)) → w.grownBy w' none → wpList P ops Q rest (a.put o.dst (.slice (some ⟨w.heap.size, 0, none⟩) n n)) w') :
    wpList P ops Q (o :: rest) a w := by
  obtain ⟨i, hi, hz0, hsize, hby⟩ := info_parts hinfo
  refine wpList_make_full w hgd l c t hop base e i z 1 ht hi hz0 hsize kl kc L C n hl hc hL hC (by rw [hby]; exact hbytes) (by simp only [maxLen]; omega) hbase fun w' h1 h2 => ?_
  rw [hz, madeCells_tab] at h1
  exact h w' h1 h2
theorem below_made {a w w' : World} {B : Nat} (h : Below B a w) (hB : B ≤ w.heap.size) (hg : w.grownBy w' none) : Below B a w' := h.grown hg hB (fun k hk => by cases hk)
/-- what is owned stays so when something new is made -/
theorem own_made {w w' : World} {base : Nat} {e : TypeId} {size n : Nat} {v : Value} {xs : List Value} (h : w.ownsRow base e size v n xs) (hg : w.grownBy w' none) : w'.ownsRow base e size v n xs :=
  h.kept hg (by cases hv : v.ownBlock <;> simp)

/-- sums -/
def fsum (F : Nat → Int) : Nat → Int
  | 0 => 0
  | k + 1 => fsum F k + F k
theorem fsum_succ (F : Nat → Int) (k : Nat) : fsum F (k + 1) = fsum F k + F k := rfl
theorem fsum_congr {F G : Nat → Int} : ∀ {n : Nat}, (∀ i, i < n → F i = G i) → fsum F n = fsum G n
  | 0, _ => rfl
  | n + 1, h => by rw [fsum_succ, fsum_succ, fsum_congr (fun i hi => h i (by omega)), h n (by omega)]
theorem fsum_add (F G : Nat → Int) : ∀ n : Nat, fsum (fun i => F i + G i) n = fsum F n + fsum G n
  | 0 => rfl
  | n + 1 => by rw [fsum_succ, fsum_succ, fsum_succ, fsum_add F G n]; omega
theorem fsum_mul (c : Int) (F : Nat → Int) : ∀ n : Nat, fsum (fun i => c * F i) n = c * fsum F n
  | 0 => by simp [fsum]
  | n + 1 => by rw [fsum_succ, fsum_succ, fsum_mul c F n, Int.mul_add]
theorem fsum_nonneg {F : Nat → Int} : ∀ {n : Nat}, (∀ i, i < n → 0 ≤ F i) → 0 ≤ fsum F n
  | 0, _ => by simp [fsum]
  | n + 1, h => by rw [fsum_succ]; have := fsum_nonneg (n := n) (fun i hi => h i (by omega)); have := h n (by omega); omega
theorem fsum_le {F G : Nat → Int} : ∀ {n : Nat}, (∀ i, i < n → F i ≤ G i) → fsum F n ≤ fsum G n
  | 0, _ => by simp [fsum]
  | n + 1, h => by rw [fsum_succ, fsum_succ]; have := fsum_le (n := n) (fun i hi => h i (by omega)); have := h n (by omega); omega
theorem fsum_const (c : Int) : ∀ n : Nat, fsum (fun _ => c) n = n * c
  | 0 => by simp [fsum]
  | n + 1 => by rw [fsum_succ, fsum_const c n, Int.natCast_add, Int.add_mul]; simp
theorem fsum_upd (F : Nat → Int) {j : Nat} (x : Int) : ∀ {n : Nat}, j < n → fsum (upd F j x) n = fsum F n + (x - F j)
  | 0, h => by omega
  | n + 1, h => by
    rw [fsum_succ, fsum_succ]
    by_cases hj : j = n
    · subst hj
      rw [upd_same, fsum_congr (F := upd F j x) (G := F) (fun i hi => upd_other F x (by omega))]
      omega
    · rw [fsum_upd F x (show j < n by omega), upd_other F x (by omega)]
      omega

/-- a block that is known whole -/
def Blk (w : World) (g : Nat) (t : TypeId) (cs : Array Value) : Prop := w.heap[g]? = some (.cells cs t (0, 0))
section
variable {w w' : World} {g : Nat} {t : TypeId} {cs : Array Value}
theorem Blk.lt (h : Blk w g t cs) : g < w.heap.size := by
  rcases Nat.lt_or_ge g w.heap.size with hlt | hge
  · exact hlt
  · unfold Blk at h; rw [Array.getElem?_eq_none hge] at h; cases h
theorem Blk.cell (h : Blk w g t cs) (i : Nat) : w.cell? ⟨g, i, none⟩ = cs[i]? := cell_of_row w g i cs t (0, 0) h
theorem Blk.frozen (h : Blk w g t cs) (i : Nat) : w.frozen? ⟨g, i, none⟩ = false := by
  unfold Blk at h
  simp [World.frozen?, h]
theorem Blk.new (w : World) (t : TypeId) (cs : Array Value) : Blk (w.alloc (.cells cs t)) w.heap.size t cs := heap_alloc_new w _
theorem Blk.drewN (h : Blk w g t cs) (n : Nat) : Blk (w.drewN n) g t cs := h
theorem Blk.alloc (h : Blk w g t cs) (o : Obj) : Blk (w.alloc o) g t cs := (Below.heap_alloc w o g h.lt).trans h
theorem Blk.set_ (h : Blk w g t cs) (i : Nat) (u : Value) : Blk (w.setCell ⟨g, i, none⟩ u) g t (cs.setIfInBounds i u) := by
  unfold Blk at h ⊢
  simp [World.setCell, Array.getElem?_modify, h]
theorem Blk.far (h : Blk w g t cs) {p : Addr} (hp : g ≠ p.block) (u : Value) : Blk (w.setCell p u) g t cs := (Below.heap_setCell w p u g hp).trans h
theorem Blk.below {B : Nat} (h : Blk w g t cs) (hb : Below B w w') (hg : g < B) : Blk w' g t cs := (hb.block g hg).trans h
theorem Blk.grown {row : Option Nat} (h : Blk w g t cs) (hb : w.grownBy w' row) (hg : some g ≠ row) : Blk w' g t cs := (hb.block g h.lt hg).trans h
/-- a row that is owned from a base on is not a block below it -/
theorem own_not_low {base : Nat} {e : TypeId} {size n : Nat} {v : Value} {xs : List Value} (h : w.ownsRow base e size v n xs) (hg : g < base) : some g ≠ v.ownBlock := fun hh => by
  have := (h.lt g hh.symm).1
  omega
theorem Blk.app {base : Nat} {e : TypeId} {size n : Nat} {v : Value} {xs : List Value} (h : Blk w g t cs) (hown : w.ownsRow base e size v n xs) (hg : g < base) (hgr : w.grownBy w' v.ownBlock) : Blk w' g t cs := h.grown hgr (own_not_low hown hg)
end
theorem RdM.of_own {w : World} {A : Option Addr} {m c base : Nat} {e e2 : TypeId} {n : Nat} {Af : Nat → Option Addr} {cf : Nat → Nat} {R : Nat → Nat → Int} (h : w.ownsRow base e 1 (.slice A m c) m (tabV m (fun i => .slice (Af i) n (cf i))))
    (hr : ∀ i, i < m → w.ownsRow base e2 1 (.slice (Af i) n (cf i)) n (tabV n (fun j => .int .i64 (R i j)))) : RdM w A m (fun i => tab n (R i)) := by
  rcases h.2 with ⟨h1, hn⟩ | ⟨g, cap, cur, h1, _⟩
  · exact .inl hn
  · right
    have hA : A = some ⟨g, 0, none⟩ := by injection h1
    subst hA
    refine ⟨g, 0, rfl, fun i hi => ⟨Af i, cf i, ?_, ?_⟩⟩
    · rw [Nat.zero_add, tab_length]
      exact own_cell h hi
    · have h2 := hr i hi
      rw [tabV_ints] at h2
      exact RdI.of_own h2

theorem tab_push (n : Nat) (R : Nat → Int) (x : Int) : tabV (n + 1) (fun j => .int .i64 (upd R n x j)) = tabV n (fun j => .int .i64 (R j)) ++ [.int .i64 x] := by
  rw [tabV_succ]
  congr 1
  · exact tabV_congr fun i hi => by rw [upd_other _ _ (by omega)]
  · rw [upd_same]
theorem upd_all {α : Type} {P : α → Prop} {R : Nat → α} {n : Nat} {x : α} (h : ∀ j, j < n → P (R j)) (hx : P x) : ∀ j, j < n + 1 → P (upd R n x j) := by
  intro j hj
  by_cases hjn : j = n
  · rw [hjn, upd_same]; exact hx
  · rw [upd_other _ _ hjn]; exact h j (by omega)
theorem tabV_push (n : Nat) (F : Nat → Value) (x : Value) : tabV (n + 1) (upd F n x) = tabV n F ++ [x] := by
  rw [tabV_succ]
  congr 1
  · exact tabV_congr fun i hi => by rw [upd_other _ _ (by omega)]
  · rw [upd_same]

theorem own_cap {w : World} {base n c : Nat} {e : TypeId} {size : Nat} {A : Option Addr} {xs : List Value} (h : w.ownsRow base e size (.slice A n c) n xs) : n ≤ c ∧ c ≤ 9223372036854775807 := by
  rcases h.2 with ⟨h1, h2⟩ | ⟨g, cap, cur, h1, _, _, h2, h3, _⟩
  · cases h1; simp
  · simp only [maxLen] at h3
    injection h1 with _ _ h4
    omega
theorem own_take {w : World} {base n c : Nat} {e : TypeId} {A : Option Addr} {F : Nat → Value} (h : w.ownsRow base e 1 (.slice A n c) n (tabV n F)) {k : Nat} (hk : k ≤ n) : w.ownsRow base e 1 (.slice A k c) k (tabV k F) := by
  refine ⟨by rw [tabV_length, Nat.mul_one], ?_⟩
  rcases h.2 with ⟨h1, h2⟩ | ⟨g, cap, cur, h1, h2, h3, h4, h5, h6, h7⟩
  · left
    cases h1
    obtain rfl : k = 0 := by omega
    exact ⟨rfl, rfl⟩
  · right
    injection h1 with h8 _ h9
    subst h8 h9
    refine ⟨g, c, cur, rfl, h2, h3, by omega, h5, h6, ?_⟩
    have h10 := congrArg (List.take k) h7
    rw [List.take_take, Nat.mul_one, Nat.min_eq_left hk] at h10
    rw [Nat.mul_one, h10]
    unfold tabV
    rw [← List.map_take, List.take_range, Nat.min_eq_left hk]

theorem hsz_alloc (w : World) (o : Obj) : (w.alloc o).heap.size = w.heap.size + 1 := by simp
/-- a literal of ints that was just made reads as such -/
theorem rdI_lit (w : World) (e : TypeId) (g : Nat) (zs : List Int) (hg : g = w.heap.size) (hm : zs.length ≤ 9223372036854775807) : RdI (w.alloc (.cells (zs.map (Value.int .i64)).toArray e)) (some ⟨g, 0, none⟩) zs := by
  subst hg
  have := World.ownsRow_lit (base := 0) (e := e) (size := 1) w (zs.map (Value.int .i64)).toArray zs.length (by omega) (by simp only [maxLen]; omega) (by simp)
  simp only at this
  exact RdI.of_own this

/-- the blocks from B on are as they were -/
def AboveEq (B : Nat) (w wx : World) : Prop := ∀ g, B ≤ g → g < w.heap.size → wx.heap[g]? = w.heap[g]?
theorem AboveEq.refl (B : Nat) (w : World) : AboveEq B w w := fun _ _ _ => rfl
theorem AboveEq.setCell {B : Nat} {w wx : World} (h : AboveEq B w wx) {p : Addr} (hp : p.block < B) (u : Value) : AboveEq B w (wx.setCell p u) := fun g h1 h2 =>
  (Below.heap_setCell wx p u g (by omega)).trans (h g h1 h2)
theorem own_above {w wx : World} {base B : Nat} {e : TypeId} {size n : Nat} {v : Value} {xs : List Value} (h : w.ownsRow base e size v n xs) (hB : B ≤ base) (ha : AboveEq B w wx) : wx.ownsRow base e size v n xs := by
  refine ⟨h.1, ?_⟩
  rcases h.2 with h2 | ⟨g1, cap, cur, h1, h2, h3, h4⟩
  · exact .inl h2
  · exact .inr ⟨g1, cap, cur, h1, h2, (ha g1 (by omega) (Array.getElem?_eq_some_iff.1 h3).1).trans h3, h4⟩

theorem RdI.get {w : World} {b off : Nat} {zs : List Int} (h : RdI w (some ⟨b, off, none⟩) zs) {k : Nat} (hk : k < zs.length) : w.cell? ⟨b, off + k, none⟩ = some (.int .i64 (ix zs k)) := by
  obtain ⟨b', off', h1, h2⟩ := h.at_ hk
  injection h1 with h1
  injection h1 with h3 h4
  rw [h3, h4]
  exact h2

theorem rowF_congr {n size : Nat} {f g : Nat → Nat → Value} (h : ∀ i j, i < n → j < size → f i j = g i j) : rowF n size f = rowF n size g := by
  induction n with
  | zero => rfl
  | succ n ih =>
    rw [rowF_succ, rowF_succ, ih (fun i j hi hj => h i j (by omega) hj)]
    congr 1
    exact List.map_congr_left fun j hj => h n j (by omega) (List.mem_range.1 hj)
def upd2 (f : Nat → Nat → Value) (i j : Nat) (x : Value) : Nat → Nat → Value := fun a b => if a = i ∧ b = j then x else f a b
theorem rowF_set (n size : Nat) (f : Nat → Nat → Value) {i j : Nat} (hj : j < size) (x : Value) : (rowF n size f).set (i * size + j) x = rowF n size (upd2 f i j x) := by
  apply List.ext_getElem?
  intro k
  by_cases hk : k < n * size
  · have hs : 0 < size := by omega
    have ha : k / size < n := by
      rw [Nat.div_lt_iff_lt_mul hs]
      exact hk
    have hb : k % size < size := Nat.mod_lt _ hs
    have hkk : k = k / size * size + k % size := by rw [Nat.mul_comm]; exact (Nat.div_add_mod k size).symm
    have hg := rowF_get n size (upd2 f i j x) (k / size) (k % size) ha hb
    have hf := rowF_get n size f (k / size) (k % size) ha hb
    rw [← hkk] at hg hf
    rw [hg, List.getElem?_set]
    by_cases hki : i * size + j = k
    · have hl : i * size + j < (rowF n size f).length := by rw [rowF_length]; omega
      have e1 : k / size = i := by rw [← hki, Nat.mul_comm, Nat.mul_add_div hs, Nat.div_eq_of_lt hj]; omega
      have e2 : k % size = j := by rw [← hki, Nat.mul_comm, Nat.mul_add_mod, Nat.mod_eq_of_lt hj]
      rw [if_pos hki, if_pos hl]
      unfold upd2
      rw [if_pos ⟨e1, e2⟩]
    · rw [if_neg hki, hf]
      unfold upd2
      rw [if_neg]
      rintro ⟨e1, e2⟩
      apply hki
      rw [hkk, e1, e2]
  · rw [List.getElem?_eq_none (by rw [List.length_set, rowF_length]; omega), List.getElem?_eq_none (by rw [rowF_length]; omega)]
section
variable {w : World} {base : Nat} {e : TypeId} {g n c size : Nat} {f : Nat → Nat → Value} {A : Option Addr} {xs : List Value}
theorem own_at (h : w.ownsRow base e size (.slice A n c) n xs) (hn : 0 < n) : ∃ g, A = some ⟨g, 0, none⟩ ∧ base ≤ g := by
  rcases h.2 with ⟨_, h2⟩ | ⟨g, cap, cur, h1, h2, _⟩
  · omega
  · injection h1 with h3
    exact ⟨g, h3, h2⟩
theorem own_cellF (h : w.ownsRow base e size (.slice (some ⟨g, 0, none⟩) n c) n (rowF n size f)) {i j : Nat} (hi : i < n) (hj : j < size) : w.cell? ⟨g, i * size + j, none⟩ = some (f i j) := by
  have hlt : i * size + j < n * size := by
    have : (i + 1) * size ≤ n * size := Nat.mul_le_mul_right _ hi
    rw [Nat.add_mul] at this
    omega
  rw [h.cellAt _ hlt, rowF_get n size f i j hi hj]
theorem own_storeF (h : w.ownsRow base e size (.slice (some ⟨g, 0, none⟩) n c) n (rowF n size f)) (i : Nat) {j : Nat} (hj : j < size) (x : Value) :
    (w.setCell ⟨g, i * size + j, none⟩ x).ownsRow base e size (.slice (some ⟨g, 0, none⟩) n c) n (rowF n size (upd2 f i j x)) := by
  rw [← rowF_set n size f hj]
  exact (h.stored _ x).1
end

/-- all blocks below the base but block G are as they were -/
structure Near (G base : Nat) (w w' : World) : Prop where
  os : w'.os = w.os
  tape : w'.tape = w.tape
  output : w'.output = w.output
  size : w.heap.size ≤ w'.heap.size
  block : ∀ k, k < base → k ≠ G → w'.heap[k]? = w.heap[k]?
section
variable {G base : Nat} {a w w' : World}
theorem Near.refl (G base : Nat) (w : World) : Near G base w w := ⟨rfl, rfl, rfl, Nat.le_refl _, fun _ _ _ => rfl⟩
theorem Near.trans {c : World} (h : Near G base a w) (h' : Near G base w c) : Near G base a c :=
  ⟨h'.os.trans h.os, h'.tape.trans h.tape, h'.output.trans h.output, Nat.le_trans h.size h'.size, fun k h1 h2 => (h'.block k h1 h2).trans (h.block k h1 h2)⟩
theorem Near.setCell (h : Near G base a w) {p : Addr} (hp : p.block = G ∨ base ≤ p.block) (u : Value) : Near G base a (w.setCell p u) :=
  ⟨h.os, h.tape, h.output, by simpa [World.setCell] using h.size, fun k h1 h2 => (Below.heap_setCell w p u k (by omega)).trans (h.block k h1 h2)⟩
theorem Near.drewN (h : Near G base a w) (n : Nat) : Near G base a (w.drewN n) := ⟨h.os, h.tape, h.output, h.size, h.block⟩
theorem Near.alloc (h : Near G base a w) (hb : base ≤ w.heap.size) (o : Obj) : Near G base a (w.alloc o) :=
  ⟨h.os, h.tape, h.output, Nat.le_trans h.size (by simp), fun k h1 h2 => (Below.heap_alloc w o k (by omega)).trans (h.block k h1 h2)⟩
theorem Near.grown {row : Option Nat} (h : Near G base a w) (hg : w.grownBy w' row) (hb : base ≤ w.heap.size) (hr : ∀ k, row = some k → base ≤ k) : Near G base a w' :=
  ⟨hg.os.trans h.os, hg.tape.trans h.tape, hg.output.trans h.output, Nat.le_trans h.size hg.size, fun k h1 h2 => (hg.block k (by omega) (fun he => by have := hr k he.symm; omega)).trans (h.block k h1 h2)⟩
theorem Near.below (h : Near G base a w) {B : Nat} (hB : B ≤ G) (hb : B ≤ base) : Below B a w := ⟨h.os, h.tape, h.output, h.size, fun k hk => h.block k (by omega) (by omega)⟩
theorem Near.of_below {B : Nat} (h : Below B a w) (hb : base ≤ B) : Near G base a w := ⟨h.os, h.tape, h.output, h.size, fun k hk _ => h.block k (by omega)⟩
theorem Near.less {base' : Nat} (h : Near G base a w) (hb : base' ≤ base) : Near G base' a w := ⟨h.os, h.tape, h.output, h.size, fun k hk h2 => h.block k (by omega) h2⟩
theorem Near.blk {g : Nat} {t : TypeId} {cs : Array Value} (h : Near G base a w) (hb : Blk a g t cs) (h1 : g < base) (h2 : g ≠ G) : Blk w g t cs := (h.block g h1 h2).trans hb
/-- a row whose block is known to lie below the base and off G -/
theorem RdF.near {A : Option Addr} {n size : Nat} {f : Nat → Nat → Value} (h : RdF a A n size f) (hn : Near G base a w) (hA : ∀ ad, A = some ad → ad.block < base ∧ ad.block ≠ G) : RdF w A n size f := by
  rcases h with h | ⟨b, off, rfl, hc⟩
  · exact .inl h
  · obtain ⟨h1, h2⟩ := hA _ rfl
    refine .inr ⟨b, off, rfl, fun i j hi hj => ?_⟩
    rw [World.cell?_of_block (hn.block b h1 h2)]
    exact hc i j hi hj
end

/-- all blocks but G and one row are as they were -/
structure Only (G : Nat) (row : Option Nat) (w w' : World) : Prop where
  os : w'.os = w.os
  tape : w'.tape = w.tape
  output : w'.output = w.output
  size : w.heap.size ≤ w'.heap.size
  block : ∀ k, k < w.heap.size → k ≠ G → some k ≠ row → w'.heap[k]? = w.heap[k]?
section
variable {G base : Nat} {row : Option Nat} {a w w' : World}
theorem Only.refl (G : Nat) (row : Option Nat) (w : World) : Only G row w w := ⟨rfl, rfl, rfl, Nat.le_refl _, fun _ _ _ _ => rfl⟩
theorem Only.trans {c : World} (h : Only G row a w) (h' : Only G row w c) : Only G row a c :=
  ⟨h'.os.trans h.os, h'.tape.trans h.tape, h'.output.trans h.output, Nat.le_trans h.size h'.size, fun k h1 h2 h3 => (h'.block k (Nat.lt_of_lt_of_le h1 h.size) h2 h3).trans (h.block k h1 h2 h3)⟩
theorem Only.setCell (h : Only G row a w) {p : Addr} (hp : p.block = G ∨ some p.block = row) (u : Value) : Only G row a (w.setCell p u) :=
  ⟨h.os, h.tape, h.output, by simpa [World.setCell] using h.size, fun k h1 h2 h3 => (Below.heap_setCell w p u k (by
    rintro rfl
    rcases hp with hp | hp
    · exact h2 hp
    · exact h3 hp)).trans (h.block k h1 h2 h3)⟩
theorem Only.drewN (h : Only G row a w) (n : Nat) : Only G row a (w.drewN n) := ⟨h.os, h.tape, h.output, h.size, h.block⟩
theorem Only.alloc (h : Only G row a w) (o : Obj) : Only G row a (w.alloc o) :=
  ⟨h.os, h.tape, h.output, Nat.le_trans h.size (by simp), fun k h1 h2 h3 => (Below.heap_alloc w o k (Nat.lt_of_lt_of_le h1 h.size)).trans (h.block k h1 h2 h3)⟩
theorem Only.grown (h : Only G row a w) (hg : w.grownBy w' row) : Only G row a w' :=
  ⟨hg.os.trans h.os, hg.tape.trans h.tape, hg.output.trans h.output, Nat.le_trans h.size hg.size, fun k h1 h2 h3 => (hg.block k (Nat.lt_of_lt_of_le h1 h.size) h3).trans (h.block k h1 h2 h3)⟩
theorem Only.near (h : Only G row a w) (hb : base ≤ a.heap.size) (hr : ∀ k, row = some k → base ≤ k) : Near G base a w :=
  ⟨h.os, h.tape, h.output, h.size, fun k h1 h2 => h.block k (by omega) h2 (fun he => by have := hr k he.symm; omega)⟩
theorem Only.blk {g : Nat} {t : TypeId} {cs : Array Value} (h : Only G row a w) (hb : Blk a g t cs) (h1 : g ≠ G) (h2 : some g ≠ row) : Blk w g t cs := (h.block g hb.lt h1 h2).trans hb
end
end Go.Frm
