/- The contract of chart.edges. -/
import Derived.Test.YtoggpbbndoipdaaRangePlain
import Derived.Test.YtoggpbbndoipdaaChart
namespace Go.Proofs.Ytoggpbbndoipdaa.Chr
open Go.RowKit Go.Frm

def edg (long : Int) (n i : Nat) : Int := long * (i : Int) / (n : Int)
theorem edg_mono {long : Int} (h : 0 ≤ long) (n : Nat) {i j : Nat} (hij : i ≤ j) : edg long n i ≤ edg long n j := by
  unfold edg
  by_cases hn : n = 0
  · subst hn; simp
  · exact Int.ediv_le_ediv (by omega) (Int.mul_le_mul_of_nonneg_left (by omega) h)
theorem edg_zero (long : Int) (n : Nat) : edg long n 0 = 0 := by simp [edg]
theorem edg_end (long : Int) {n : Nat} (hn : 1 ≤ n) : edg long n n = long := by
  unfold edg
  exact Int.mul_ediv_cancel _ (by omega)
def edTo (long : Int) (n k : Nat) : Nat → Int := fun i => if i < k then edg long n i else 0
theorem edTo_succ (long : Int) (n k : Nat) : upd (edTo long n k) k (edg long n k) = edTo long n (k + 1) := by
  funext i
  unfold upd edTo
  by_cases h : i = k
  · rw [if_pos h, if_pos (by omega), h]
  · rw [if_neg h]
    by_cases h2 : i < k
    · rw [if_pos h2, if_pos (by omega)]
    · rw [if_neg h2, if_neg (by omega)]
def EdgesPost (w : World) (long : Int) (n : Nat) (e : Ending) (w' : World) : Prop := ∃ g, e = .returned (.slice (some ⟨g, 0, none⟩) (n + 1) (n + 1)) ∧
  w'.ownsRow w.heap.size 3 1 (.slice (some ⟨g, 0, none⟩) (n + 1) (n + 1)) (n + 1) (tabV (n + 1) (fun i => .int .i64 (edg long n i))) ∧ Below w.heap.size w w'

set_option maxRecDepth 100000 in
set_option maxHeartbeats 1000000 in
theorem edges_ok (long : Int) (n : Nat) (w : World) (n1 : 1 ≤ n) (n2 : n ≤ 1000) (l0 : 0 ≤ long) (l1 : long ≤ 100000) :
    Calls Try.prog 16 #[.int .i64 long, .int .i64 n] w (EdgesPost w long n) := by
  have hn0 : ((n : Int) == 0) = false := by simp; omega
  go_enter Try.func16, Try.ntmps16
  go_wp2_with (at_make; refine wpL_make1 (n := n + 1) (base := w.heap.size) rfl rfl Try.underlying42 int_info rfl rfl rfl (by simp) (by simp) (by omega) (by omega) (Nat.le_refl _) ?_; intro w1 hown1 hgrow1)
  have hbel1 : Below w.heap.size w w1 := below_made (Below.refl _ _) (Nat.le_refl _) hgrow1
  have hown0 : w1.ownsRow w.heap.size 3 1 (.slice (some ⟨w.heap.size, 0, none⟩) (n + 1) (n + 1)) (n + 1) (tabV (n + 1) (fun i => .int .i64 (edTo long n 0 i))) := hown1
  clear hown1 hgrow1
  go_loopw [12] (fun i wr => ∃ k : Nat, k ≤ n + 1 ∧ i = .int .i64 k ∧ wr.ownsRow w.heap.size 3 1 (.slice (some ⟨w.heap.size, 0, none⟩) (n + 1) (n + 1)) (n + 1) (tabV (n + 1) (fun i => .int .i64 (edTo long n k i))) ∧ Below w.heap.size w wr) (fun i _ => n + 1 - (intOf i).toNat)
  case atStart => exact ⟨0, by omega, rfl, hown0, hbel1⟩
  case round =>
    clear hown0 hbel1
    obtain ⟨k, hk, rfl, hown, hbel⟩ := hrel
    by_cases hlt : k < n + 1
    · have a1 := own_cell hown hlt
      have a3 := World.ownsRow.frozenAt hown k
      have hs := own_store hown k (.int .i64 (edg long n k))
      rw [tabV_congr (G := fun i => .int .i64 (edTo long n (k + 1) i)) (fun i _ => by
        rw [← edTo_succ]
        unfold upd
        split <;> rfl)] at hs
      have m1 : 0 ≤ long * (k : Int) := Int.mul_nonneg l0 (by omega)
      have m2 : long * (k : Int) ≤ 100000 * 1000 := Int.mul_le_mul l1 (by omega) (by omega) (by omega)
      unfold edg at hs
      have Hs := hide hs
      have hb2 := hbel.setCell (p := ⟨w.heap.size, k, none⟩) (Nat.le_refl _) (.int .i64 (long * (k : Int) / (n : Int)))
      clear hs hown
      go_wp2_with fail
      go_roundw
      case rel => exact ⟨k + 1, by omega, by go_num, Hs.out, hb2⟩
      case measure => simp [intOf]; omega
    · obtain rfl : k = n + 1 := by omega
      have hfin : tabV (n + 1) (fun i => Value.int .i64 (edTo long n (n + 1) i)) = tabV (n + 1) (fun i => .int .i64 (edg long n i)) := tabV_congr fun i hi => by unfold edTo; rw [if_pos hi]
      rw [hfin] at hown
      go_wp2_with fail
      go_ret
      exact ⟨_, rfl, hown, hbel⟩
end Go.Proofs.Ytoggpbbndoipdaa.Chr
