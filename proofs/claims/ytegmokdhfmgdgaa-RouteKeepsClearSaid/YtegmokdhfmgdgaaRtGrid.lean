/- The grid of a search in memory; the contracts of index and (*grid).push. -/
import Derived.Test.YtegmokdhfmgdgaaRtPop
import Derived.Test.YtegmokdhfmgdgaaRtBlocked
namespace Go.Proofs.Ytegmokdhfmgdgaa.Rt
open Go.RowKit Go.Frm Go.Frm.Rt

theorem bool_info : (Try.prog.info? 4).map (fun i => (i.zero, i.size, i.bytes)) = some (some (.bool false), 1, 1) := by kernel_rfl
theorem make_bools (n : Nat) (hn : n ≤ 100000) (z : Int) (hz : z = (n : Int)) (wx : World) : (Instr.makeSlice 49 (.int .i64 z) (.int .i64 z)).run Try.prog wx = .ok (.slice (some ⟨wx.heap.size, 0, none⟩) n n) (wx.alloc (.cells (madeCells #[.bool false] n) 4)) := by
  obtain ⟨i, hi, hz0, hs, hby⟩ := info_parts bool_info
  have h := run_make (P := Try.prog) (w := wx) 49 4 i _ Try.underlying49 hi hz0 .i64 .i64 z z (by omega) (Int.le_refl _) (by rw [hby]; omega) (by omega)
  rw [hs, show z.toNat = n by omega, Nat.mul_one] at h
  exact h
theorem made_tab (v : Value) (m : Nat) : madeCells #[v] m = (tabV m fun _ => v).toArray := by
  have h := madeCells_tab v m
  rw [Nat.mul_one] at h
  rw [← h]
def BB (w : World) (g n : Nat) (F : Nat → Bool) : Prop := Blk w g 4 (tabV n fun i => .bool (F i)).toArray
section
variable {w w' : World} {g n : Nat} {T : Nat → Bool} {j : Nat}
theorem BB.blk (h : BB w g n T) : Blk w g 4 (tabV n fun i => .bool (T i)).toArray := h
theorem BB.set (h : BB w g n T) (j : Nat) (x : Bool) : BB (w.setCell ⟨g, j, none⟩ (.bool x)) g n (upd T j x) := by
  have h1 := h.blk.set_ j (.bool x)
  rw [List.setIfInBounds_toArray, tabV_set] at h1
  unfold BB
  rwa [tabV_congr (F := fun i => .bool (upd T j x i)) (G := upd (fun i => .bool (T i)) j (.bool x)) (fun i _ => by unfold upd; split <;> rfl)]
theorem BB.cell (h : BB w g n T) (hj : j < n) : w.cell? ⟨g, j, none⟩ = some (.bool (T j)) := by
  rw [h.blk.cell]
  simp only [List.getElem?_toArray]
  exact tabV_get _ hj
theorem BB.frozen (h : BB w g n T) (j : Nat) : w.frozen? ⟨g, j, none⟩ = false := h.blk.frozen j
theorem BB.lt (h : BB w g n T) : g < w.heap.size := h.blk.lt
theorem BB.congr {G : Nat → Bool} (h : BB w g n T) (e : ∀ i, i < n → T i = G i) : BB w g n G := by
  unfold BB
  rw [← tabV_congr (F := fun i => .bool (T i)) (fun i hi => by rw [e i hi])]
  exact h
theorem BB.below {B : Nat} (h : BB w g n T) (hb : Below B w w') (hg : g < B) : BB w' g n T := h.blk.below hb hg
theorem BB.new (w : World) (n : Nat) : BB (w.alloc (.cells (madeCells #[.bool false] n) 4)) w.heap.size n fun _ => false := by
  unfold BB
  rw [← made_tab]
  exact Blk.new _ _ _
end
theorem BB.chg {D : Nat → Prop} {a w : World} {g n : Nat} {F : Nat → Bool} (hb : BB a g n F) (h : Chg D a w) (hg : ¬ D g) : BB w g n F := blk_chg hb.blk h hg

theorem own_keep {D : Nat → Prop} {a w : World} {base : Nat} {e : TypeId} {size n : Nat} {v : Value} {xs : List Value} (hb : a.ownsRow base e size v n xs) (h : Chg D a w) (hg : ∀ k, v.ownBlock = some k → ¬ D k) : w.ownsRow base e size v n xs := by
  refine ⟨hb.1, ?_⟩
  rcases hb.2 with h2 | ⟨g1, cap, cur, h1, h2, h3, h4⟩
  · exact .inl h2
  · refine .inr ⟨g1, cap, cur, h1, h2, (h.block g1 (Array.getElem?_eq_some_iff.1 h3).1 (hg g1 (by subst h1; simp [Value.ownBlock]))).trans h3, h4⟩
/-- what a step of a search may change -/
def Dg (b base k : Nat) : Prop := k = b ∨ base ≤ k
/-- the grid of a search in memory -/
structure GQ (w : World) (b base gd N : Nat) (xV yV lV : Value) (dn : Nat → Bool) (cA : Option Addr) (cn cc : Nat) (cl : Nat → St) (qA : Option Addr) (qn qc : Nat) (f : Nat → St) : Prop where
  grid : Blk w b 53 #[xV, yV, lV, .slice (some ⟨gd, 0, none⟩) N N, .slice qA qn qc, .slice cA cn cc]
  dne : BB w gd N dn
  gdb : gd < base
  gdn : gd ≠ b
  bb : b < base
  bs : base ≤ w.heap.size
  que : w.ownsRow base 61 6 (.slice qA qn qc) qn (rowF qn 6 (stF f))
  clo : w.ownsRow base 61 6 (.slice cA cn cc) cn (rowF cn 6 (stF cl))
  sep : ∀ k, (Value.slice cA cn cc).ownBlock = some k → (Value.slice qA qn qc).ownBlock ≠ some k
  hp : HP qn f
section
variable {w w' : World} {b base gd N : Nat} {xV yV lV : Value} {dn : Nat → Bool} {cA : Option Addr} {cn cc : Nat} {cl : Nat → St} {qA : Option Addr} {qn qc : Nat} {f : Nat → St}
theorem own_blk_ge {v : Value} {e : TypeId} {size n : Nat} {xs : List Value} (h : w.ownsRow base e size v n xs) {k : Nat} (hk : v.ownBlock = some k) : base ≤ k ∧ k < w.heap.size := by
  rcases h.2 with ⟨h2, _⟩ | ⟨g1, cap, cur, h1, h2, h3, h4⟩
  · subst h2
    simp [Value.ownBlock] at hk
  · subst h1
    have : k = g1 := by simpa [Value.ownBlock] using hk.symm
    subst this
    exact ⟨h2, (Array.getElem?_eq_some_iff.1 h3).1⟩
theorem GQ.drewN (h : GQ w b base gd N xV yV lV dn cA cn cc cl qA qn qc f) (k : Nat) : GQ (w.drewN k) b base gd N xV yV lV dn cA cn cc cl qA qn qc f :=
  ⟨h.grid.drewN k, h.dne, h.gdb, h.gdn, h.bb, h.bs, own_drewN h.que k, own_drewN h.clo k, h.sep, h.hp⟩
theorem GQ.below (h : GQ w b base gd N xV yV lV dn cA cn cc cl qA qn qc f) (hb : Below w.heap.size w w') : GQ w' b base gd N xV yV lV dn cA cn cc cl qA qn qc f :=
  ⟨h.grid.below hb h.grid.lt, h.dne.below hb h.dne.lt, h.gdb, h.gdn, h.bb, Nat.le_trans h.bs hb.size, own_below h.que hb, own_below h.clo hb, h.sep, h.hp⟩
theorem GQ.alloc (h : GQ w b base gd N xV yV lV dn cA cn cc cl qA qn qc f) (o : Obj) : GQ (w.alloc o) b base gd N xV yV lV dn cA cn cc cl qA qn qc f := h.below ((Below.refl _ _).alloc (Nat.le_refl _) o)
/-- the place of a state in the list of those that are done -/
def ixN (nx x y d : Nat) : Nat := (y * nx + x) * 4 + d
theorem ixN_lt {nx ny x y d : Nat} (hx : x < nx) (hy : y < ny) (hd : d < 4) : ixN nx x y d < 4 * nx * ny := by
  unfold ixN
  have h1 : y * nx + x < nx * ny := by
    have : (y + 1) * nx ≤ ny * nx := Nat.mul_le_mul_right _ hy
    rw [Nat.add_mul, Nat.one_mul, Nat.mul_comm ny nx] at this
    omega
  rw [Nat.mul_assoc]
  omega
theorem ixN_inj {nx x y d x' y' d' : Nat} (hx : x < nx) (hx' : x' < nx) (hd : d < 4) (hd' : d' < 4) (h : ixN nx x y d = ixN nx x' y' d') : x = x' ∧ y = y' ∧ d = d' := by
  unfold ixN at h
  have e1 : y * nx + x = y' * nx + x' := by omega
  have e2 : d = d' := by omega
  have e3 : y = y' := by
    have h1 : (x + nx * y) / nx = y := by rw [Nat.add_mul_div_left _ _ (by omega), Nat.div_eq_of_lt hx]; omega
    have h2 : (x' + nx * y') / nx = y' := by rw [Nat.add_mul_div_left _ _ (by omega), Nat.div_eq_of_lt hx']; omega
    rw [← h1, ← h2]
    congr 1
    rw [Nat.mul_comm nx y, Nat.mul_comm nx y']
    omega
  subst e3
  exact ⟨by omega, rfl, e2⟩
set_option maxRecDepth 100000 in
set_option maxHeartbeats 4000000 in
theorem index_ok {cs : Array Value} {A : Option Addr} {nx c x y d : Nat} (hB : Blk w b 53 cs) (h0 : cs[0]? = some (.slice A nx c)) (hx : x < nx) (hn : nx ≤ 1000) (hy : y < 1000) (hd : d < 4) :
    Calls Try.prog 23 #[.pointer (some ⟨b, 0, none⟩), .int .i64 x, .int .i64 y, .int .i64 d] w fun e w' => e = .returned (.int .i64 (ixN nx x y d : Nat)) ∧ w' = w := by
  have p0 : w.cell? ⟨b, 0, none⟩ = some (.slice A nx c) := by rw [hB.cell]; exact h0
  have hyx : y * nx ≤ 1000 * 1000 := Nat.mul_le_mul (by omega) hn
  have e1 : (y : Int) * (nx : Int) = ((y * nx : Nat) : Int) := by rw [Int.natCast_mul]
  obtain ⟨m, Hm⟩ : ∃ m : Nat, Hid (m = y * nx) := ⟨_, rfl⟩
  have hm : m ≤ 1000000 := by have := Hm.out; omega
  rw [← Hm.out] at e1
  have HR : Hid (ixN nx x y d = (m + x) * 4 + d) := hide (by unfold ixN; rw [Hm.out])
  clear hyx hB h0
  have e2 : IntKind.i64.wrap ((y : Int) * (nx : Int)) = (m : Int) := by rw [e1]; exact IntWalk.i64_in _ (by omega)
  clear e1
  go_enter Try.func23, Try.ntmps23
  go_wp2_with fail
  go_ret
  exact ⟨ret_int (by rw [HR.out]; omega), rfl⟩
end
end Go.Proofs.Ytegmokdhfmgdgaa.Rt
