/- What holds in the rounds of (*work).best. -/
import Derived.Test.YtmjhmcjlbcadaaaLnMemo
namespace Go.Proofs.Ytmjhmcjlbcadaaa.Ln
open Go.RowKit Go.Frm

def linC (x : Lin) : Array Value := #[.int .i64 x.fr, .int .i64 x.en, .int .i64 x.nat, .int .i64 x.str, .int .i64 x.shr, .int .i64 x.wid]
/-- the slice of the ends -/
def EndsAt (kb : Nat) (R : Nat → Option Nat) (Ae : Option Addr) (E : List Lin) (w : World) : Prop :=
  E = [] ∨ ∃ ge, Ae = some ⟨ge, 0, none⟩ ∧ Out kb R ge ∧ Blk w ge 35 (w.heap[ge]?.elim #[] (fun o => match o with | .cells cs _ _ => cs | _ => #[])) ∧ ∀ i j, i < E.length → j < 6 → w.cell? ⟨ge, i * 6 + j, none⟩ = some (linV (E.getD i ⟨0, 0, 0, 0, 0, 0⟩) j)

structure LSt (base wb kb b n L fr gr g8 gb : Nat) (T : Nat → Nat → Pl) (w0 w : World) (R : Nat → Option Nat) (Ae : Option Addr) (E : List Lin) (p : Pl) (R' : Nat → Option Nat) (wr : World) : Prop where
  mem : Mem wr base wb kb b n L T R'
  kept : Kept kb R R' w wr
  bel : Below base w0 wr
  row : R' fr = some gr
  b8 : Blk wr g8 56 #[.bool false, .int .i64 0, .int .i64 0, .int .i64 0]
  o8 : Out kb R' g8
  bb : Blk wr gb 56 (plC p)
  ob : Out kb R' gb
  ends : EndsAt kb R' Ae E wr
  ne : gb ≠ g8 ∧ w.heap.size ≤ gb ∧ w.heap.size ≤ g8 ∧ base ≤ w.heap.size
section
variable {base wb kb b n L fr gr g8 gb : Nat} {T : Nat → Nat → Pl} {w0 w wr wx : World} {R R' R2 : Nat → Option Nat} {Ae : Option Addr} {E : List Lin} {p : Pl}
theorem EndsAt.of_own {wr : World} {c : Nat} {bs : Nat} (h : wr.ownsRow bs 35 6 (.slice Ae E.length c) E.length (rowL E)) (ho : ∀ g, bs ≤ g → Out kb R g) : EndsAt kb R Ae E wr := by
  rcases h.2 with ⟨_, h1⟩ | ⟨g, cap, cur, h1, h2, h3, _⟩
  · exact .inl (List.eq_nil_of_length_eq_zero h1)
  · right
    injection h1 with hA
    subst hA
    refine ⟨g, rfl, ho g h2, ?_, fun i j hi hj => ?_⟩
    · unfold Blk
      rw [h3]
      rfl
    · exact own_cellF h hi hj
theorem EndsAt.same (h : EndsAt kb R' Ae E wr) (ho : ∀ g, Out kb R' g → g < wr.heap.size → wx.heap[g]? = wr.heap[g]?) (hR : ∀ g, Out kb R' g → g < wr.heap.size → Out kb R2 g) : EndsAt kb R2 Ae E wx := by
  rcases h with h | ⟨ge, rfl, h1, h2, h3⟩
  · exact .inl h
  · right
    have hl := h2.lt
    have hs := ho ge h1 hl
    refine ⟨ge, rfl, hR ge h1 hl, ?_, fun i j hi hj => ?_⟩
    · unfold Blk at h2 ⊢
      rw [hs]
      exact h2
    · have := h3 i j hi hj
      rw [← this]
      simp only [World.cell?, hs]
theorem LSt.base_le (h : LSt base wb kb b n L fr gr g8 gb T w0 w R Ae E p R' wr) : base ≤ wr.heap.size := Nat.le_trans h.ne.2.2.2 h.kept.size
theorem LSt.below (h : LSt base wb kb b n L fr gr g8 gb T w0 w R Ae E p R' wr) (hb : Below wr.heap.size wr wx) : LSt base wb kb b n L fr gr g8 gb T w0 w R Ae E p R' wx :=
  ⟨h.mem.below hb, h.kept.below hb, h.bel.trans (hb.mono h.base_le), h.row, h.b8.below hb h.b8.lt, h.o8, h.bb.below hb h.bb.lt, h.ob, h.ends.same (fun g _ hg => hb.block g hg) (fun _ ho _ => ho), h.ne⟩
theorem LSt.drewN (h : LSt base wb kb b n L fr gr g8 gb T w0 w R Ae E p R' wr) (m : Nat) : LSt base wb kb b n L fr gr g8 gb T w0 w R Ae E p R' (wr.drewN m) := h.below (below_drewN (Below.refl _ _) m)
theorem LSt.kept_ (h : LSt base wb kb b n L fr gr g8 gb T w0 w R Ae E p R' wr) (hk : Kept kb R' R2 wr wx) (hm : Mem wx base wb kb b n L T R2) : LSt base wb kb b n L fr gr g8 gb T w0 w R Ae E p R2 wx :=
  ⟨hm, h.kept.trans hk, h.bel.trans (hk.to_below h.base_le h.mem.low.1 (fun j g hj => (h.mem.row j g hj).1)), hk.keep _ _ h.row, Blk.kept h.b8 h.o8 hk, h.o8.kept h.b8.lt hk, Blk.kept h.bb h.ob hk, h.ob.kept h.bb.lt hk,
    h.ends.same (fun g ho hg => hk.block g hg ho) (fun _ ho hg => ho.kept hg hk), h.ne⟩
/-- a store into a block that is neither remembered in nor one of these -/
theorem EndsAt.ne (h : EndsAt kb R' Ae E wr) (hE : E ≠ []) {g : Nat} {cs : Array Value} (hb : Blk wr g 56 cs) : ∀ ge, Ae = some ⟨ge, 0, none⟩ → g ≠ ge := by
  rcases h with h | ⟨ge, rfl, h1, h2, h3⟩
  · exact absurd h hE
  · intro g2 hg e
    injection hg with hg
    injection hg with hg
    subst hg e
    have h4 := hb.symm.trans h2
    injection h4 with h4
    injection h4 with _ h4
    exact absurd h4 (by decide)
theorem EndsAt.far (h : EndsAt kb R' Ae E wr) {g : Nat} {cs : Array Value} (hb : Blk wr g 56 cs) (j : Nat) (u : Value) : EndsAt kb R' Ae E (wr.setCell ⟨g, j, none⟩ u) := by
  by_cases hE : E = []
  · exact .inl hE
  · have hne := h.ne hE hb
    rcases h with h | ⟨ge, rfl, h1, h2, h3⟩
    · exact .inl h
    · have hgg := hne ge rfl
      have hs : (wr.setCell ⟨g, j, none⟩ u).heap[ge]? = wr.heap[ge]? := Below.heap_setCell wr ⟨g, j, none⟩ u ge (fun e => hgg e.symm)
      refine .inr ⟨ge, rfl, h1, ?_, fun i j' hi hj => ?_⟩
      · unfold Blk at h2 ⊢
        rw [hs]
        exact h2
      · have := h3 i j' hi hj
        rw [← this]
        simp only [World.cell?, hs]
/-- the best one is changed -/
theorem LSt.best_ (h : LSt base wb kb b n L fr gr g8 gb T w0 w R Ae E p R' wr) (x y z : Int) : LSt base wb kb b n L fr gr g8 gb T w0 w R Ae E ⟨x, y, z⟩ R' (((wr.setCell ⟨gb, 1, none⟩ (.int .i64 x)).setCell ⟨gb, 2, none⟩ (.int .i64 y)).setCell ⟨gb, 3, none⟩ (.int .i64 z)) := by
  have hw := h.mem.ne_wb h.bb
  have hbase : base ≤ gb := Nat.le_trans h.ne.2.2.2 h.ne.2.1
  have b1 := h.bb.set_ 1 (.int .i64 x)
  have b2 := b1.set_ 2 (.int .i64 y)
  have b3 := b2.set_ 3 (.int .i64 z)
  refine ⟨((h.mem.far (p := ⟨gb, 1, none⟩) h.ob hw _).far (p := ⟨gb, 2, none⟩) h.ob hw _).far (p := ⟨gb, 3, none⟩) h.ob hw _,
    ((h.kept.setCell (p := ⟨gb, 1, none⟩) (.inl h.ne.2.1) _).setCell (p := ⟨gb, 2, none⟩) (.inl h.ne.2.1) _).setCell (p := ⟨gb, 3, none⟩) (.inl h.ne.2.1) _,
    ((h.bel.setCell (p := ⟨gb, 1, none⟩) hbase _).setCell (p := ⟨gb, 2, none⟩) hbase _).setCell (p := ⟨gb, 3, none⟩) hbase _, h.row,
    ((h.b8.far (p := ⟨gb, 1, none⟩) (fun e => h.ne.1 e.symm) _).far (p := ⟨gb, 2, none⟩) (fun e => h.ne.1 e.symm) _).far (p := ⟨gb, 3, none⟩) (fun e => h.ne.1 e.symm) _, h.o8,
    blk_cells (by simp [plC]) b3, h.ob, ((h.ends.far h.bb 1 _).far b1 2 _).far b2 3 _, h.ne⟩
/-- the six cells of an end -/
theorem LSt.cells (h : LSt base wb kb b n L fr gr g8 gb T w0 w R Ae E p R' wr) {i : Nat} (hi : i < E.length) : ∃ ge x, E.getD i ⟨0, 0, 0, 0, 0, 0⟩ = x ∧ x ∈ E ∧ Ae = some ⟨ge, 0, none⟩ ∧
    wr.cell? ⟨ge, i * 6, none⟩ = some (.int .i64 x.fr) ∧ wr.cell? ⟨ge, i * 6 + 1, none⟩ = some (.int .i64 x.en) ∧ wr.cell? ⟨ge, i * 6 + 2, none⟩ = some (.int .i64 x.nat) ∧
    wr.cell? ⟨ge, i * 6 + 3, none⟩ = some (.int .i64 x.str) ∧ wr.cell? ⟨ge, i * 6 + 4, none⟩ = some (.int .i64 x.shr) ∧ wr.cell? ⟨ge, i * 6 + 5, none⟩ = some (.int .i64 x.wid) := by
  rcases h.ends with h1 | ⟨ge, h1, _, _, h3⟩
  · rw [h1] at hi; simp at hi
  · refine ⟨ge, _, rfl, ?_, h1, h3 i 0 hi (by omega), h3 i 1 hi (by omega), h3 i 2 hi (by omega), h3 i 3 hi (by omega), h3 i 4 hi (by omega), h3 i 5 hi (by omega)⟩
    rw [List.getD_eq_getElem?_getD, List.getElem?_eq_getElem hi]
    exact List.getElem_mem hi
/-- what has been found is remembered -/
theorem LSt.put_ (h : LSt base wb kb b n L fr gr g8 gb T w0 w R Ae E p R' wr) {key : Nat} (hk : key < 2 * L) : LSt base wb kb b n L fr gr g8 gb T w0 w R Ae E p R' (put4 wr gr key (T fr key)) := by
  obtain ⟨hb0, K, hg⟩ := h.mem.row fr gr h.row
  have hx : w.heap.size ≤ gr ∨ ¬ Out kb R gr := by
    rcases h.kept.ext fr gr h.row with h1 | h1
    · exact .inr fun ho => ho.2 fr h1
    · exact .inl h1
  have far : ∀ {g' : Nat} {t : TypeId} {cs : Array Value}, g' ≠ gr → Blk wr g' t cs → Blk (put4 wr gr key (T fr key)) g' t cs := fun hne hg =>
    (((hg.far (p := ⟨gr, key * 4, none⟩) hne _).far (p := ⟨gr, key * 4 + 1, none⟩) hne _).far (p := ⟨gr, key * 4 + 2, none⟩) hne _).far (p := ⟨gr, key * 4 + 3, none⟩) hne _
  have b0 := hg.set_ (key * 4) (.bool true)
  have b1 := b0.set_ (key * 4 + 1) (.int .i64 (T fr key).en)
  have b2 := b1.set_ (key * 4 + 2) (.int .i64 (T fr key).co)
  exact ⟨h.mem.put h.row hk, (((h.kept.setCell (p := ⟨gr, key * 4, none⟩) hx _).setCell (p := ⟨gr, key * 4 + 1, none⟩) hx _).setCell (p := ⟨gr, key * 4 + 2, none⟩) hx _).setCell (p := ⟨gr, key * 4 + 3, none⟩) hx _,
    (((h.bel.setCell (p := ⟨gr, key * 4, none⟩) hb0 _).setCell (p := ⟨gr, key * 4 + 1, none⟩) hb0 _).setCell (p := ⟨gr, key * 4 + 2, none⟩) hb0 _).setCell (p := ⟨gr, key * 4 + 3, none⟩) hb0 _, h.row,
    far (fun e => h.o8.2 fr (by rw [e]; exact h.row)) h.b8, h.o8, far (fun e => h.ob.2 fr (by rw [e]; exact h.row)) h.bb, h.ob, (((h.ends.far hg (key * 4) _).far b0 (key * 4 + 1) _).far b1 (key * 4 + 2) _).far b2 (key * 4 + 3) _, h.ne⟩
/-- in a round: the box of the line besides -/
structure LX (base wb kb b n L fr gr g8 gb : Nat) (T : Nat → Nat → Pl) (w0 w : World) (R : Nat → Option Nat) (Ae : Option Addr) (E : List Lin) (p : Pl) (gx : Nat) (x : Lin) (R' : Nat → Option Nat) (wr : World) : Prop where
  st : LSt base wb kb b n L fr gr g8 gb T w0 w R Ae E p R' wr
  bx : Blk wr gx 35 (linC x)
  ox : Out kb R' gx
variable {gx : Nat} {x : Lin}
theorem LX.below (h : LX base wb kb b n L fr gr g8 gb T w0 w R Ae E p gx x R' wr) (hb : Below wr.heap.size wr wx) : LX base wb kb b n L fr gr g8 gb T w0 w R Ae E p gx x R' wx :=
  ⟨h.st.below hb, h.bx.below hb h.bx.lt, h.ox⟩
theorem LX.drewN (h : LX base wb kb b n L fr gr g8 gb T w0 w R Ae E p gx x R' wr) (m : Nat) : LX base wb kb b n L fr gr g8 gb T w0 w R Ae E p gx x R' (wr.drewN m) := h.below (below_drewN (Below.refl _ _) m)
theorem LX.kept (h : LX base wb kb b n L fr gr g8 gb T w0 w R Ae E p gx x R' wr) (hk : Kept kb R' R2 wr wx) (hm : Mem wx base wb kb b n L T R2) : LX base wb kb b n L fr gr g8 gb T w0 w R Ae E p gx x R2 wx :=
  ⟨h.st.kept_ hk hm, Blk.kept h.bx h.ox hk, h.ox.kept h.bx.lt hk⟩
theorem LX.c0 (h : LX base wb kb b n L fr gr g8 gb T w0 w R Ae E p gx x R' wr) : wr.cell? ⟨wb, 0, none⟩ = some (.pointer (some ⟨b, 0, none⟩)) := h.st.mem.c0
theorem LX.x1 (h : LX base wb kb b n L fr gr g8 gb T w0 w R Ae E p gx x R' wr) : wr.cell? ⟨gx, 1, none⟩ = some (.int .i64 x.en) := h.bx.cell 1
/-- a store into a box of the round's own -/
theorem LX.own (h : LX base wb kb b n L fr gr g8 gb T w0 w R Ae E p gx x R' wr) {gp : Nat} {cs : Array Value} (hb : Blk wr gp 56 cs) (ho : Out kb R' gp) (hw : w.heap.size ≤ gp) (hn : gp ≠ gb ∧ gp ≠ g8) (q : Pl) : LX base wb kb b n L fr gr g8 gb T w0 w R Ae E p gx x R' (set4 wr gp q) := by
  have h4 := h.st.mem.set4 hb ho h.st.kept hw q
  have hx : gx ≠ gp := fun e => by
    have h1 := h.bx
    rw [e] at h1
    have h2 := h1.symm.trans hb
    injection h2 with h2
    injection h2 with _ h2
    exact absurd h2 (by decide)
  have hbase : base ≤ gp := Nat.le_trans h.st.ne.2.2.2 hw
  have b1 := hb.set_ 0 (.bool true)
  have b2 := b1.set_ 1 (.int .i64 q.en)
  have b3 := b2.set_ 2 (.int .i64 q.co)
  have far : ∀ {g' : Nat} {t : TypeId} {cs : Array Value}, g' ≠ gp → Blk wr g' t cs → Blk (set4 wr gp q) g' t cs := fun hne hg =>
    (((hg.far (p := ⟨gp, 0, none⟩) hne _).far (p := ⟨gp, 1, none⟩) hne _).far (p := ⟨gp, 2, none⟩) hne _).far (p := ⟨gp, 3, none⟩) hne _
  exact ⟨⟨h4.1, h4.2, (((h.st.bel.setCell (p := ⟨gp, 0, none⟩) hbase _).setCell (p := ⟨gp, 1, none⟩) hbase _).setCell (p := ⟨gp, 2, none⟩) hbase _).setCell (p := ⟨gp, 3, none⟩) hbase _, h.st.row,
    far (fun e => hn.2 e.symm) h.st.b8, h.st.o8, far (fun e => hn.1 e.symm) h.st.bb, h.st.ob, (((h.st.ends.far hb 0 _).far b1 1 _).far b2 2 _).far b3 3 _, h.st.ne⟩, far hx h.bx, h.ox⟩
theorem set4_blk {g : Nat} {t : TypeId} {v0 v1 v2 v3 : Value} (hb : Blk wr g t #[v0, v1, v2, v3]) (q : Pl) : Blk (set4 wr g q) g t (plC q) :=
  blk_cells (by simp [plC]) ((((hb.set_ 0 (.bool true)).set_ 1 (.int .i64 q.en)).set_ 2 (.int .i64 q.co)).set_ 3 (.int .i64 q.li))
/-- the first i ones -/
def acc (st : Pl → Lin → Pl) (E : List Lin) (i : Nat) : Pl := (E.take i).foldl st ⟨-1, 0, 0⟩
theorem acc_zero (st : Pl → Lin → Pl) (E : List Lin) : acc st E 0 = ⟨-1, 0, 0⟩ := by simp [acc]
theorem acc_succ (st : Pl → Lin → Pl) (E : List Lin) {i : Nat} (hi : i < E.length) {x : Lin} (hx : E.getD i ⟨0, 0, 0, 0, 0, 0⟩ = x) : acc st E (i + 1) = st (acc st E i) x := by
  unfold acc
  rw [List.take_succ_eq_append_getElem hi, List.foldl_append]
  rw [List.getD_eq_getElem?_getD, List.getElem?_eq_getElem hi] at hx
  show st _ E[i] = _
  rw [show E[i] = x from hx]
theorem acc_all (st : Pl → Lin → Pl) (E : List Lin) : acc st E E.length = E.foldl st ⟨-1, 0, 0⟩ := by simp [acc]
theorem acc_inv {st : Pl → Lin → Pl} {E : List Lin} {Q : Pl → Prop} (h0 : Q ⟨-1, 0, 0⟩) (hs : ∀ p x, x ∈ E → Q p → Q (st p x)) (i : Nat) : Q (acc st E i) :=
  foldl_inv _ _ h0 fun p x hx hp => hs p x (List.mem_of_mem_take hx) hp
end
end Go.Proofs.Ytmjhmcjlbcadaaa.Ln
