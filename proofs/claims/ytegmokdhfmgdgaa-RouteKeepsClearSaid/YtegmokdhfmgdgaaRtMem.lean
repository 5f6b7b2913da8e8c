/- States of a way in memory, and the contract of less. -/
import Derived.Test.YtegmokdhfmgdgaaRtHeap
import Derived.Test.YtegmokdhfmgdgaaSink
import Derived.Test.YtegmokdhfmgdgaaProg
namespace Go.Proofs.Ytegmokdhfmgdgaa.Rt
open Go.RowKit Go.Frm Go.Frm.Rt

theorem st_info : (Try.prog.info? 61).map (fun i => (i.zero, i.size, i.bytes)) = some (some (.agg #[.int .i64 0, .int .i64 0, .int .i64 0, .int .i64 0, .int .i64 0, .int .i64 0]), 6, 48) := by kernel_rfl
/-- the cells of a state -/
def stC (s : St) : Array Value := #[.int .i64 (s.x : Nat), .int .i64 (s.y : Nat), .int .i64 (s.d : Nat), .int .i64 s.co.b, .int .i64 s.co.l, .int .i64 s.back]
def stF (f : Nat → St) (i j : Nat) : Value := match j with
  | 0 => .int .i64 ((f i).x : Nat)
  | 1 => .int .i64 ((f i).y : Nat)
  | 2 => .int .i64 ((f i).d : Nat)
  | 3 => .int .i64 (f i).co.b
  | 4 => .int .i64 (f i).co.l
  | _ => .int .i64 (f i).back
def coV (c : Co) : Value := .agg #[.int .i64 c.b, .int .i64 c.l]
/-- a block -/
def Is (g k : Nat) : Prop := k = g
/-- all blocks that were there stay as they were, but those of a kind -/
structure Chg (D : Nat → Prop) (w w' : World) : Prop where
  os : w'.os = w.os
  tape : w'.tape = w.tape
  output : w'.output = w.output
  size : w.heap.size ≤ w'.heap.size
  block : ∀ k, k < w.heap.size → ¬ D k → w'.heap[k]? = w.heap[k]?
section
variable {D D' : Nat → Prop} {a w w' : World}
theorem Chg.refl (D : Nat → Prop) (w : World) : Chg D w w := ⟨rfl, rfl, rfl, Nat.le_refl _, fun _ _ _ => rfl⟩
theorem Chg.trans {c : World} (h : Chg D a w) (h' : Chg D w c) : Chg D a c :=
  ⟨h'.os.trans h.os, h'.tape.trans h.tape, h'.output.trans h.output, Nat.le_trans h.size h'.size, fun k h1 h2 => (h'.block k (Nat.lt_of_lt_of_le h1 h.size) h2).trans (h.block k h1 h2)⟩
theorem Chg.mono (h : Chg D a w) (hd : ∀ k, D k → D' k) : Chg D' a w := ⟨h.os, h.tape, h.output, h.size, fun k h1 h2 => h.block k h1 fun e => h2 (hd k e)⟩
theorem Chg.setCell (h : Chg D a w) {p : Addr} (hp : D p.block ∨ a.heap.size ≤ p.block) (u : Value) : Chg D a (w.setCell p u) :=
  ⟨h.os, h.tape, h.output, by simpa [World.setCell] using h.size, fun k h1 h2 => (Below.heap_setCell w p u k (by
    rintro rfl
    rcases hp with hp | hp
    · exact h2 hp
    · omega)).trans (h.block k h1 h2)⟩
theorem Chg.drewN (h : Chg D a w) (n : Nat) : Chg D a (w.drewN n) := ⟨h.os, h.tape, h.output, h.size, h.block⟩
theorem Chg.alloc (h : Chg D a w) (o : Obj) : Chg D a (w.alloc o) :=
  ⟨h.os, h.tape, h.output, Nat.le_trans h.size (by simp), fun k h1 h2 => (Below.heap_alloc w o k (Nat.lt_of_lt_of_le h1 h.size)).trans (h.block k h1 h2)⟩
theorem Chg.grown {row : Option Nat} (h : Chg D a w) (hg : w.grownBy w' row) (hr : ∀ k, row = some k → D k ∨ a.heap.size ≤ k) : Chg D a w' :=
  ⟨hg.os.trans h.os, hg.tape.trans h.tape, hg.output.trans h.output, Nat.le_trans h.size hg.size, fun k h1 h2 => (hg.block k (Nat.lt_of_lt_of_le h1 h.size) (fun he => by
    rcases hr k he.symm with h3 | h3
    · exact h2 h3
    · omega)).trans (h.block k h1 h2)⟩
theorem Chg.below (h : Chg D a w) (hb : Below w.heap.size w w') : Chg D a w' :=
  ⟨hb.os.trans h.os, hb.tape.trans h.tape, hb.output.trans h.output, Nat.le_trans h.size hb.size, fun k h1 h2 => (hb.block k (Nat.lt_of_lt_of_le h1 h.size)).trans (h.block k h1 h2)⟩
theorem Chg.of_below (h : Below w.heap.size w w') : Chg D w w' := (Chg.refl D w).below h
theorem Chg.to_below {B : Nat} (h : Chg D a w) (hB : B ≤ a.heap.size) (hd : ∀ k, D k → B ≤ k) : Below B a w :=
  ⟨h.os, h.tape, h.output, h.size, fun k hk => h.block k (by omega) (fun e => by have := hd k e; omega)⟩
theorem blk_chg {g : Nat} {t : TypeId} {cs : Array Value} (hb : Blk a g t cs) (h : Chg D a w) (hg : ¬ D g) : Blk w g t cs := (h.block g hb.lt hg).trans hb
theorem rd_chg {b off : Nat} {zs : List Int} (hr : RdI a (some ⟨b, off, none⟩) zs) (h : Chg D a w) (hg : ¬ D b) : RdI w (some ⟨b, off, none⟩) zs := by
  rcases hr with rfl | ⟨b', off', e, hc⟩
  · exact .inl rfl
  · injection e with e
    injection e with e1 e2
    subst e1 e2
    refine .inr ⟨b, off, rfl, fun j hj => ?_⟩
    have h1 := hc j hj
    have hl := World.block_lt_of_cell? _ _ h1
    rw [World.cell?_of_block (h.block b hl hg)]
    exact h1
theorem own_chg {base : Nat} {e : TypeId} {size n : Nat} {v : Value} {xs : List Value} (hb : a.ownsRow base e size v n xs) (h : Chg D a w) (hg : ∀ k, D k → k < base) : w.ownsRow base e size v n xs := by
  refine ⟨hb.1, ?_⟩
  rcases hb.2 with h2 | ⟨g1, cap, cur, h1, h2, h3, h4⟩
  · exact .inl h2
  · exact .inr ⟨g1, cap, cur, h1, h2, (h.block g1 (Array.getElem?_eq_some_iff.1 h3).1 (fun e => by have := hg _ e; omega)).trans h3, h4⟩
end

/-- is one cost less than another one -/
def ltB (a c : Co) : Bool := decide (a.b < c.b) || (a.b == c.b && decide (a.l < c.l))
theorem ltB_iff (a c : Co) : ltB a c = true ↔ Co.lt a c := by unfold ltB Co.lt; simp
theorem less_ok (a c : Co) (w : World) : Calls Try.prog 35 #[coV a, coV c] w fun e w' => e = .returned (.bool (ltB a c)) ∧ Below w.heap.size w w' := by
  obtain ⟨a1, a2⟩ := a
  obtain ⟨c1, c2⟩ := c
  have hb1 := (Below.refl w.heap.size w).alloc (Nat.le_refl _) (.cells #[.int .i64 a1, .int .i64 a2] 59)
  have hb2 := hb1.alloc hb1.size (.cells #[.int .i64 c1, .int .i64 c2] 59)
  have HB := hide hb2
  have HR : Hid (ltB ⟨a1, a2⟩ ⟨c1, c2⟩ = (decide (a1 < c1) || (a1 == c1 && decide (a2 < c2)))) := hide rfl
  generalize ltB ⟨a1, a2⟩ ⟨c1, c2⟩ = r at *
  clear hb1 hb2
  unfold coV
  cases h1 : decide (a1 < c1) with
  | true =>
    have HR2 : Hid (r = true) := hide (by rw [HR.out, h1]; rfl)
    clear HR
    go_enter Try.func35, Try.ntmps35
    go_wp2_with fail
    go_ret
    exact ⟨ret_bool HR2.out.symm, HB.out⟩
  | false =>
    cases h2 : (a1 == c1) with
    | false =>
      have HR2 : Hid (r = false) := hide (by rw [HR.out, h1, h2]; rfl)
      clear HR
      go_enter Try.func35, Try.ntmps35
      go_wp2_with fail
      go_ret
      exact ⟨ret_bool HR2.out.symm, HB.out⟩
    | true =>
      have HR2 : Hid (r = decide (a2 < c2)) := hide (by rw [HR.out, h1, h2]; simp)
      clear HR
      go_enter Try.func35, Try.ntmps35
      go_wp2_with fail
      go_ret
      exact ⟨ret_bool HR2.out.symm, HB.out⟩
end Go.Proofs.Ytegmokdhfmgdgaa.Rt
