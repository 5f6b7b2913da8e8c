/- Words for blocks of numbers, for this program's types. -/
import Derived.Test.YtdikfldogmbeaaaDoorBdPlain
import Derived.Test.YtdikfldogmbeaaaDoorProg
namespace Go.Proofs.YtdikfldogmbeaaaDoor.Bd
open Go.RowKit Go.Frm

theorem int_info : (Tryd.prog.info? 3).map (fun i => (i.zero, i.size, i.bytes)) = some (some (.int .i64 0), 1, 8) := by kernel_rfl
theorem bool_info : (Tryd.prog.info? 4).map (fun i => (i.zero, i.size, i.bytes)) = some (some (.bool false), 1, 1) := by kernel_rfl
theorem make_ints (n : Nat) (hn : n ≤ 100000) (z : Int) (hz : z = (n : Int)) (wx : World) : (Instr.makeSlice 22 (.int .i64 z) (.int .i64 z)).run Tryd.prog wx = .ok (.slice (some ⟨wx.heap.size, 0, none⟩) n n) (wx.alloc (.cells (madeCells #[.int .i64 0] n) 3)) := by
  obtain ⟨i, hi, hz0, hs, hby⟩ := info_parts int_info
  have h := run_make (P := Tryd.prog) (w := wx) 22 3 i _ Tryd.underlying22 hi hz0 .i64 .i64 z z (by omega) (Int.le_refl _) (by rw [hby]; omega) (by omega)
  rw [hs, show z.toNat = n by omega, Nat.mul_one] at h
  exact h
theorem make_bools (n : Nat) (hn : n ≤ 100000) (z : Int) (hz : z = (n : Int)) (wx : World) : (Instr.makeSlice 42 (.int .i64 z) (.int .i64 z)).run Tryd.prog wx = .ok (.slice (some ⟨wx.heap.size, 0, none⟩) n n) (wx.alloc (.cells (madeCells #[.bool false] n) 4)) := by
  obtain ⟨i, hi, hz0, hs, hby⟩ := info_parts bool_info
  have h := run_make (P := Tryd.prog) (w := wx) 42 4 i _ Tryd.underlying42 hi hz0 .i64 .i64 z z (by omega) (Int.le_refl _) (by rw [hby]; omega) (by omega)
  rw [hs, show z.toNat = n by omega, Nat.mul_one] at h
  exact h
theorem made_tab (v : Value) (m : Nat) : madeCells #[v] m = (tabV m fun _ => v).toArray := by
  have h := madeCells_tab v m
  rw [Nat.mul_one] at h
  rw [← h]
/-- a block of numbers, and one of truths -/
def BI (w : World) (g n : Nat) (F : Nat → Int) : Prop := Blk w g 3 (tabV n fun i => .int .i64 (F i)).toArray
def BB (w : World) (g n : Nat) (F : Nat → Bool) : Prop := Blk w g 4 (tabV n fun i => .bool (F i)).toArray
section
variable {w w' : World} {g n j : Nat} {F : Nat → Int} {T : Nat → Bool}
theorem blk_ne_type {g g' : Nat} {t t' : TypeId} {a b : Array Value} (h : Blk w g t a) (h' : Blk w g' t' b) (ht : t ≠ t') : g ≠ g' := fun e => by
  subst e
  have h1 := h.symm.trans h'
  injection h1 with h1
  injection h1 with _ h1
  exact ht h1
theorem BI.blk (h : BI w g n F) : Blk w g 3 (tabV n fun i => .int .i64 (F i)).toArray := h
theorem BB.blk (h : BB w g n T) : Blk w g 4 (tabV n fun i => .bool (T i)).toArray := h
theorem BI.set (h : BI w g n F) (j : Nat) (x : Int) : BI (w.setCell ⟨g, j, none⟩ (.int .i64 x)) g n (upd F j x) := by
  have h1 := h.blk.set_ j (.int .i64 x)
  rw [List.setIfInBounds_toArray, tabV_set] at h1
  unfold BI
  rwa [tabV_congr (F := fun i => .int .i64 (upd F j x i)) (G := upd (fun i => .int .i64 (F i)) j (.int .i64 x)) (fun i _ => by unfold upd; split <;> rfl)]
theorem BB.set (h : BB w g n T) (j : Nat) (x : Bool) : BB (w.setCell ⟨g, j, none⟩ (.bool x)) g n (upd T j x) := by
  have h1 := h.blk.set_ j (.bool x)
  rw [List.setIfInBounds_toArray, tabV_set] at h1
  unfold BB
  rwa [tabV_congr (F := fun i => .bool (upd T j x i)) (G := upd (fun i => .bool (T i)) j (.bool x)) (fun i _ => by unfold upd; split <;> rfl)]
theorem BI.cell (h : BI w g n F) (hj : j < n) : w.cell? ⟨g, j, none⟩ = some (.int .i64 (F j)) := by
  rw [h.blk.cell]
  simp only [List.getElem?_toArray]
  exact tabV_get _ hj
theorem BB.cell (h : BB w g n T) (hj : j < n) : w.cell? ⟨g, j, none⟩ = some (.bool (T j)) := by
  rw [h.blk.cell]
  simp only [List.getElem?_toArray]
  exact tabV_get _ hj
theorem BI.frozen (h : BI w g n F) (j : Nat) : w.frozen? ⟨g, j, none⟩ = false := h.blk.frozen j
theorem BB.frozen (h : BB w g n T) (j : Nat) : w.frozen? ⟨g, j, none⟩ = false := h.blk.frozen j
theorem BI.lt (h : BI w g n F) : g < w.heap.size := h.blk.lt
theorem BB.lt (h : BB w g n T) : g < w.heap.size := h.blk.lt
theorem BI.congr {G : Nat → Int} (h : BI w g n F) (e : ∀ i, i < n → F i = G i) : BI w g n G := by
  unfold BI
  rw [← tabV_congr (F := fun i => .int .i64 (F i)) (fun i hi => by rw [e i hi])]
  exact h
theorem BB.congr {G : Nat → Bool} (h : BB w g n T) (e : ∀ i, i < n → T i = G i) : BB w g n G := by
  unfold BB
  rw [← tabV_congr (F := fun i => .bool (T i)) (fun i hi => by rw [e i hi])]
  exact h
theorem BI.below {B : Nat} (h : BI w g n F) (hb : Below B w w') (hg : g < B) : BI w' g n F := h.blk.below hb hg
theorem BB.below {B : Nat} (h : BB w g n T) (hb : Below B w w') (hg : g < B) : BB w' g n T := h.blk.below hb hg
theorem BI.new (w : World) (n : Nat) : BI (w.alloc (.cells (madeCells #[.int .i64 0] n) 3)) w.heap.size n fun _ => 0 := by
  unfold BI
  rw [← made_tab]
  exact Blk.new _ _ _
theorem BB.new (w : World) (n : Nat) : BB (w.alloc (.cells (madeCells #[.bool false] n) 4)) w.heap.size n fun _ => false := by
  unfold BB
  rw [← made_tab]
  exact Blk.new _ _ _
theorem BI.rd (h : BI w g n F) : RdI w (some ⟨g, 0, none⟩) (tab n F) := by
  refine .inr ⟨g, 0, rfl, fun j hj => ?_⟩
  rw [tab_length] at hj
  rw [tab_ix _ hj, Nat.zero_add]
  exact h.cell hj
theorem BI.drewN (h : BI w g n F) (m : Nat) : BI (w.drewN m) g n F := h
end

/-- a block, and one of three -/
def Is (g k : Nat) : Prop := k = g
def Is3 (a b c k : Nat) : Prop := k = a ∨ k = b ∨ k = c
/-- all blocks that were there stay as they were, but those of a kind -/
structure Chg (D : Nat → Prop) (w w' : World) : Prop where
  os : w'.os = w.os
  tape : w'.tape = w.tape
  output : w'.output = w.output
  size : w.heap.size ≤ w'.heap.size
  block : ∀ k, k < w.heap.size → ¬ D k → w'.heap[k]? = w.heap[k]?
section
variable {D D' : Nat → Prop} {a w w' : World}
theorem Chg.refl (D : Nat → Prop) (w : World) : Chg D w w := ⟨rfl, rfl, rfl, Nat.le_refl _, fun _ _ _ => rfl⟩
theorem Chg.trans {c : World} (h : Chg D a w) (h' : Chg D w c) : Chg D a c :=
  ⟨h'.os.trans h.os, h'.tape.trans h.tape, h'.output.trans h.output, Nat.le_trans h.size h'.size, fun k h1 h2 => (h'.block k (Nat.lt_of_lt_of_le h1 h.size) h2).trans (h.block k h1 h2)⟩
theorem Chg.mono (h : Chg D a w) (hd : ∀ k, D k → D' k) : Chg D' a w := ⟨h.os, h.tape, h.output, h.size, fun k h1 h2 => h.block k h1 fun e => h2 (hd k e)⟩
theorem Chg.setCell (h : Chg D a w) {p : Addr} (hp : D p.block ∨ a.heap.size ≤ p.block) (u : Value) : Chg D a (w.setCell p u) :=
  ⟨h.os, h.tape, h.output, by simpa [World.setCell] using h.size, fun k h1 h2 => (Below.heap_setCell w p u k (by
    rintro rfl
    rcases hp with hp | hp
    · exact h2 hp
    · omega)).trans (h.block k h1 h2)⟩
theorem Chg.drewN (h : Chg D a w) (n : Nat) : Chg D a (w.drewN n) := ⟨h.os, h.tape, h.output, h.size, h.block⟩
theorem Chg.alloc (h : Chg D a w) (o : Obj) : Chg D a (w.alloc o) :=
  ⟨h.os, h.tape, h.output, Nat.le_trans h.size (by simp), fun k h1 h2 => (Below.heap_alloc w o k (Nat.lt_of_lt_of_le h1 h.size)).trans (h.block k h1 h2)⟩
theorem Chg.grown {row : Option Nat} (h : Chg D a w) (hg : w.grownBy w' row) (hr : ∀ k, row = some k → D k ∨ a.heap.size ≤ k) : Chg D a w' :=
  ⟨hg.os.trans h.os, hg.tape.trans h.tape, hg.output.trans h.output, Nat.le_trans h.size hg.size, fun k h1 h2 => (hg.block k (Nat.lt_of_lt_of_le h1 h.size) (fun he => by
    rcases hr k he.symm with h3 | h3
    · exact h2 h3
    · omega)).trans (h.block k h1 h2)⟩
theorem Chg.below (h : Chg D a w) (hb : Below w.heap.size w w') : Chg D a w' :=
  ⟨hb.os.trans h.os, hb.tape.trans h.tape, hb.output.trans h.output, Nat.le_trans h.size hb.size, fun k h1 h2 => (hb.block k (Nat.lt_of_lt_of_le h1 h.size)).trans (h.block k h1 h2)⟩
theorem Chg.of_below (h : Below w.heap.size w w') : Chg D w w' := (Chg.refl D w).below h
theorem Chg.to_below {B : Nat} (h : Chg D a w) (hB : B ≤ a.heap.size) (hd : ∀ k, D k → B ≤ k) : Below B a w :=
  ⟨h.os, h.tape, h.output, h.size, fun k hk => h.block k (by omega) (fun e => by have := hd k e; omega)⟩
theorem blk_chg {g : Nat} {t : TypeId} {cs : Array Value} (hb : Blk a g t cs) (h : Chg D a w) (hg : ¬ D g) : Blk w g t cs := (h.block g hb.lt hg).trans hb
theorem BI.chg {g n : Nat} {F : Nat → Int} (hb : BI a g n F) (h : Chg D a w) (hg : ¬ D g) : BI w g n F := blk_chg hb.blk h hg
theorem BB.chg {g n : Nat} {F : Nat → Bool} (hb : BB a g n F) (h : Chg D a w) (hg : ¬ D g) : BB w g n F := blk_chg hb.blk h hg
theorem rd_chg {b off : Nat} {zs : List Int} (hr : RdI a (some ⟨b, off, none⟩) zs) (h : Chg D a w) (hg : ¬ D b) : RdI w (some ⟨b, off, none⟩) zs := by
  rcases hr with rfl | ⟨b', off', e, hc⟩
  · exact .inl rfl
  · injection e with e
    injection e with e1 e2
    subst e1 e2
    refine .inr ⟨b, off, rfl, fun j hj => ?_⟩
    have h1 := hc j hj
    have hl := World.block_lt_of_cell? _ _ h1
    rw [World.cell?_of_block (h.block b hl hg)]
    exact h1
theorem own_chg {base : Nat} {e : TypeId} {size n : Nat} {v : Value} {xs : List Value} (hb : a.ownsRow base e size v n xs) (h : Chg D a w) (hg : ∀ k, D k → k < base) : w.ownsRow base e size v n xs := by
  refine ⟨hb.1, ?_⟩
  rcases hb.2 with h2 | ⟨g1, cap, cur, h1, h2, h3, h4⟩
  · exact .inl h2
  · exact .inr ⟨g1, cap, cur, h1, h2, (h.block g1 (Array.getElem?_eq_some_iff.1 h3).1 (fun e => by have := hg _ e; omega)).trans h3, h4⟩
end
end Go.Proofs.YtdikfldogmbeaaaDoor.Bd
