/- Words for slices that are read, over any program. -/
import Derived.Test.YtmnbcpinlgklpaaBase
namespace Go.Frm
open Go.RowKit

/-- the element, behind a name that simp leaves alone -/
def ix (zs : List Int) (j : Nat) : Int := zs.getD j 0
theorem ix_eq {zs : List Int} {j : Nat} (h : j < zs.length) : ix zs j = zs[j] := by simp [ix, h]
theorem ix_append_left {zs ys : List Int} {j : Nat} (h : j < zs.length) : ix (zs ++ ys) j = ix zs j := by simp [ix, List.getElem?_append_left h]
theorem ix_append_right {zs ys : List Int} {j : Nat} (h : zs.length ≤ j) : ix (zs ++ ys) j = ix ys (j - zs.length) := by simp [ix, List.getElem?_append_right h]

/-- the first k elements are alike -/
def EqTo (zs ys : List Int) (k : Nat) : Prop := ∀ j, j < k → ix zs j = ix ys j
theorem eqTo_zero (zs ys : List Int) : EqTo zs ys 0 := fun j h => by omega
theorem eqTo_succ {zs ys : List Int} {k : Nat} (h : EqTo zs ys k) (e : ix zs k = ix ys k) : EqTo zs ys (k + 1) := fun j hj => by
  by_cases hjk : j = k
  · rw [hjk]; exact e
  · exact h j (by omega)
theorem eqTo_all {zs ys : List Int} {k : Nat} (hl : zs.length = ys.length) (h : EqTo zs ys k) (hk : zs.length ≤ k) : zs = ys := by
  refine List.ext_getElem hl fun j h1 h2 => ?_
  have := h j (by omega)
  rwa [ix_eq h1, ix_eq h2] at this
theorem val_int {k : IntKind} {a b : Int} (h : a = b) : Value.int k a = Value.int k b := by rw [h]

/-- a slice of ints reads as zs -/
def RdI (w : World) (A : Option Addr) (zs : List Int) : Prop :=
  zs = [] ∨ ∃ b off, A = some ⟨b, off, none⟩ ∧ ∀ j, j < zs.length → w.cell? ⟨b, off + j, none⟩ = some (.int .i64 (ix zs j))
section
variable {w w' : World} {A : Option Addr} {zs : List Int}
theorem RdI.at_ (h : RdI w A zs) {k : Nat} (hk : k < zs.length) : ∃ b off, A = some ⟨b, off, none⟩ ∧ w.cell? ⟨b, off + k, none⟩ = some (.int .i64 (ix zs k)) := by
  rcases h with rfl | ⟨b, off, rfl, hc⟩
  · simp at hk
  · exact ⟨b, off, rfl, hc k hk⟩
theorem RdI.keep (h : RdI w A zs) (hk : ∀ p : Addr, p.block < w.heap.size → w'.cell? p = w.cell? p) : RdI w' A zs := by
  rcases h with rfl | ⟨b, off, rfl, hc⟩
  · exact .inl rfl
  · refine .inr ⟨b, off, rfl, fun j hj => ?_⟩
    have h1 := hc j hj
    rw [hk _ (World.block_lt_of_cell? w _ h1)]
    exact h1
theorem RdI.below (h : RdI w A zs) (hb : Below w.heap.size w w') : RdI w' A zs := h.keep fun _ hp => hb.cell hp
theorem RdI.drewN (h : RdI w A zs) (n : Nat) : RdI (w.drewN n) A zs := h
theorem RdI.alloc (h : RdI w A zs) (o : Obj) : RdI (w.alloc o) A zs := h.below ((Below.refl _ _).alloc (Nat.le_refl _) o)
theorem RdI.nil (w : World) (A : Option Addr) : RdI w A [] := .inl rfl
theorem RdI.of_own {base : Nat} {e : TypeId} {n c : Nat} (h : w.ownsRow base e 1 (.slice A n c) n (zs.map (Value.int .i64))) : RdI w A zs := by
  rcases h.2 with ⟨h1, hn⟩ | ⟨g, cap, cur, h1, _, _⟩
  · left
    have := h.1
    simp [hn] at this
    exact this
  · right
    have hA : A = some ⟨g, 0, none⟩ := by injection h1
    subst hA
    refine ⟨g, 0, rfl, fun j hj => ?_⟩
    have h2 := h.cells (g := g) rfl j (.int .i64 (ix zs j)) (by simp [hj, ix])
    unfold Addr.add at h2
    split at h2
    · rename_i hj0; subst hj0; simpa using h2
    · simpa using h2
end

section
variable {w w' : World} {base : Nat} {e : TypeId} {size n : Nat} {v : Value} {xs : List Value}
theorem news_at (w : World) (cs : Array Value) (t : TypeId) (g : Nat) (hg : g = w.heap.size) : ∀ (j : Nat) (u : Value), cs.toList[j]? = some u → (w.alloc (.cells cs t)).cell? ((⟨g, 0, none⟩ : Addr).add j) = some u := by
  intro j u hu
  subst hg
  have hadd : (⟨w.heap.size, 0, none⟩ : Addr).add j = ⟨w.heap.size, j, none⟩ := by unfold Addr.add; split <;> simp_all
  rw [hadd, cell_of_row _ w.heap.size j cs t (0, 0) (heap_alloc_new w _)]
  simpa using hu

theorem ownsRow_less {b' : Nat} (h : w.ownsRow base e size v n xs) (hb : b' ≤ base) : w.ownsRow b' e size v n xs := by
  refine ⟨h.1, ?_⟩
  rcases h.2 with h2 | ⟨g, cap, cur, h1, h2, h3⟩
  · exact .inl h2
  · exact .inr ⟨g, cap, cur, h1, by omega, h3⟩

theorem own_form (h : w.ownsRow base e size v n xs) : ∃ A c, v = .slice A n c := by
  rcases h.2 with ⟨rfl, rfl⟩ | ⟨g, cap, cur, rfl, _⟩
  · exact ⟨_, _, rfl⟩
  · exact ⟨_, _, rfl⟩

theorem below_app {a : World} {B : Nat} (h : Below B a w) (hB : B ≤ w.heap.size) (hown : w.ownsRow B e size v n xs) (hg : w.grownBy w' v.ownBlock) : Below B a w' :=
  h.grown hg hB (fun k hk => (hown.lt k hk).1)

theorem wpL_append {P : Program} {w : World} {ops : Array Oper} {rest : List Oper} {o : Oper} {a : Act} {Q : Exit → Act → World → Prop} {s x : Operand} {t : TypeId}
    {base : Nat} {e : TypeId} {z : Value} {size bytes : Nat} {v : Value} {n : Nat} {xs : List Value} {ad : Addr} {m c : Nat} {news : List Value}
    (hgd : o.guard = none) (ho : o.op = .call { callee := .builtin .append, args := #[s, x], argTypes := #[t, t] })
    (ht : P.underlying t = some (.slice e)) (hinfo : (P.info? e).map (fun i => (i.zero, i.size, i.bytes)) = some (some z, size, bytes)) (hzs : z.cells.size = size) (hsz : 0 < size)
    (hs : a.eval s = v) (hx : a.eval x = .slice (some ad) m c) (hown : w.ownsRow base e size v n xs)
    (hnews : ∀ j u, news[j]? = some u → w.cell? (ad.add j) = some u) (hl : news.length = m * size) (h1 : ∀ u ∈ news, u.oneCell' = true)
    (hbytes : (n + m) * bytes ≤ 140737488355328) (h63 : n + m ≤ 9223372036854775807) (hbase : base ≤ w.heap.size)
    (h : ∀ v' w', w'.ownsRow base e size v' (n + m) (xs ++ news) → w.grownBy w' v.ownBlock → wpList P ops Q rest (a.put o.dst v') w') : wpList P ops Q (o :: rest) a w := by
  obtain ⟨i, hi, hz, hsize, hby⟩ := info_parts hinfo
  exact wpList_append_own w hgd s x t ho base e i z size bytes ht hi hz hsize hby hzs hsz v n xs hs hown ad m c news hx hl hnews h1 (by simp only [maxLen]; omega) hbytes hbase
    (fun v' w' h2 h3 _ => h v' w' h2 h3)
end

/-- a row of n structs of 'size' cells, cell j of struct i being f i j -/
def rowF (n size : Nat) (f : Nat → Nat → Value) : List Value := (List.range n).flatMap fun i => (List.range size).map (f i)
theorem rowF_zero (size : Nat) (f : Nat → Nat → Value) : rowF 0 size f = [] := rfl
theorem rowF_succ (n size : Nat) (f : Nat → Nat → Value) : rowF (n + 1) size f = rowF n size f ++ (List.range size).map (f n) := by
  simp [rowF, List.range_succ, List.flatMap_append]
theorem rowF_length (n size : Nat) (f : Nat → Nat → Value) : (rowF n size f).length = n * size := by
  induction n with
  | zero => simp [rowF]
  | succ n ih => rw [rowF_succ, List.length_append, ih]; simp [Nat.add_mul]
theorem rowF_get (n size : Nat) (f : Nat → Nat → Value) : ∀ i j, i < n → j < size → (rowF n size f)[i * size + j]? = some (f i j) := by
  induction n with
  | zero => intro i j h; omega
  | succ n ih =>
    intro i j hi hj
    rw [rowF_succ]
    by_cases h : i < n
    · rw [List.getElem?_append_left]
      · exact ih i j h hj
      · rw [rowF_length]
        have : (i + 1) * size ≤ n * size := Nat.mul_le_mul_right _ h
        rw [Nat.add_mul] at this
        omega
    · have : i = n := by omega
      subst this
      rw [List.getElem?_append_right (by rw [rowF_length]; omega), rowF_length, Nat.add_sub_cancel_left]
      simp [hj]

/-- a slice of n structs reads as f -/
def RdF (w : World) (A : Option Addr) (n size : Nat) (f : Nat → Nat → Value) : Prop :=
  n = 0 ∨ ∃ b off, A = some ⟨b, off, none⟩ ∧ ∀ i j, i < n → j < size → w.cell? ⟨b, off + i * size + j, none⟩ = some (f i j)
section
variable {w w' : World} {A : Option Addr} {n size : Nat} {f : Nat → Nat → Value}
theorem RdF.at_ (h : RdF w A n size f) {k : Nat} (hk : k < n) : ∃ b off, A = some ⟨b, off, none⟩ ∧ ∀ j, j < size → w.cell? ⟨b, off + k * size + j, none⟩ = some (f k j) := by
  rcases h with rfl | ⟨b, off, rfl, hc⟩
  · omega
  · exact ⟨b, off, rfl, fun j hj => hc k j hk hj⟩
theorem RdF.keep (h : RdF w A n size f) (hk : ∀ p : Addr, p.block < w.heap.size → w'.cell? p = w.cell? p) : RdF w' A n size f := by
  rcases h with rfl | ⟨b, off, rfl, hc⟩
  · exact .inl rfl
  · refine .inr ⟨b, off, rfl, fun i j hi hj => ?_⟩
    have h1 := hc i j hi hj
    rw [hk _ (World.block_lt_of_cell? w _ h1)]
    exact h1
theorem RdF.below (h : RdF w A n size f) (hb : Below w.heap.size w w') : RdF w' A n size f := h.keep fun _ hp => hb.cell hp
theorem RdF.drewN (h : RdF w A n size f) (m : Nat) : RdF (w.drewN m) A n size f := h
theorem RdF.alloc (h : RdF w A n size f) (o : Obj) : RdF (w.alloc o) A n size f := h.below ((Below.refl _ _).alloc (Nat.le_refl _) o)
theorem RdF.of_own {base : Nat} {e : TypeId} {c : Nat} (h : w.ownsRow base e size (.slice A n c) n (rowF n size f)) : RdF w A n size f := by
  rcases h.2 with ⟨h1, hn⟩ | ⟨g, cap, cur, h1, _, _⟩
  · exact .inl hn
  · right
    have hA : A = some ⟨g, 0, none⟩ := by injection h1
    subst hA
    refine ⟨g, 0, rfl, fun i j hi hj => ?_⟩
    have h2 := h.cells (g := g) rfl (i * size + j) (f i j) (rowF_get n size f i j hi hj)
    have hadd : (⟨g, 0, none⟩ : Addr).add (i * size + j) = ⟨g, i * size + j, none⟩ := by unfold Addr.add; split <;> simp_all
    rw [hadd] at h2
    simpa using h2
end

section
open Go.ChangeShapes Go.WideShapes Go.ChangeAt
variable {H : Type} {enc : TypeId × Value → H} {P : Program} {w : World} {base : Nat} {spare : Nat → Bool} {held : Bool}
/-- an argument of type []int -/
theorem ints_arg {t e : TypeId} {r : Reach} {b0 : Nat} {v : Value} {d : DataW H} {p : List MemPlace} (ht : P.underlying t = some (.slice e)) (he : P.underlying e = some (.int .i64)) (hC : P.cellsOf e = 1)
    (hv : Value.okWide P w r b0 t v) (h : DataW.Trod enc P w base spare held t v d p) :
    ∃ (A : Option Addr) (c : Nat) (zs : List Int), v = .slice A zs.length c ∧ RdI w A zs ∧ zs.length ≤ 9223372036854775807 ∧ ∀ j, j < zs.length → (Lit.int .i64 (ix zs j)).wf = true := by
  obtain ⟨a0, len, cap, rfl⟩ := okWide_slice ht hv
  obtain ⟨fuel, hf⟩ := h
  rcases open_ints ht he hC hf with ⟨hcs, _⟩ | ⟨x, l, c, zs, hcs, _, hl, hm, hz, _, hcell, hwz⟩
  · simp [Value.cells] at hcs
    obtain ⟨rfl, rfl, rfl⟩ := hcs
    exact ⟨none, 0, [], rfl, .inl rfl, by simp, by simp⟩
  · simp [Value.cells] at hcs
    obtain ⟨rfl, rfl, rfl⟩ := hcs
    have hll : len ≤ zs.length := by
      have h1 : zs.length = if spare x.block then cap else len := by simpa using hz
      split at h1 <;> omega
    refine ⟨some x, cap, zs.take len, by rw [List.length_take, Nat.min_eq_left hll], ?_, by rw [List.length_take]; simp only [maxLen] at hm; omega, ?_⟩
    · by_cases h0 : len = 0
      · left; subst h0; rfl
      · right
        obtain ⟨b, off, spot⟩ := x
        have h1 := hcell 0 (by omega)
        have hspot : spot = none := by simpa [Addr.add] using World.cell?_spot h1
        subst hspot
        refine ⟨b, off, rfl, fun j hj => ?_⟩
        rw [List.length_take] at hj
        have h2 := hcell j (by omega)
        rw [Addr.add_lit] at h2
        rw [h2]
        have : j < len := by omega
        simp [ix, this]
    · intro j hj
      rw [List.length_take] at hj
      refine hwz _ ?_
      have : j < len := by omega
      have h3 : j < zs.length := by omega
      simp [ix, this, h3]
end
end Go.Frm
