/- The contract of scale.Find. -/
import Derived.Test.YtoggpbbndoipdaaScale
namespace Go.Proofs.Ytoggpbbndoipdaa.Scl
open Go.RowKit Go.Frm

def pw (p : Nat) : Int := 10 ^ p
theorem pw_succ (p : Nat) : pw (p + 1) = pw p * 10 := by simp [pw, Int.pow_succ]
theorem pw_le : ∀ p, p ≤ 12 → 1 ≤ pw p ∧ pw p ≤ 1000000000000 ∧ (p ≤ 11 → pw p ≤ 100000000000) ∧ (p = 12 → pw p = 1000000000000) := by decide
def kk : Nat → Int
  | 0 => 1
  | 1 => 2
  | _ => 5

/-- what is known of a scale that was found -/
structure Found (low high steps A B S : Int) : Prop where
  lt : A < B
  few : B - A ≤ steps
  s1 : 1 ≤ S
  s2 : S ≤ 1000000000000
  l1 : A * S ≤ low
  l2 : low < A * S + S
  h1 : high ≤ B * S
  h2 : B * S ≤ high + S

theorem Found.sc {low high steps A B S : Int} (h : Found low high steps A B S) (l0 : -1000000000000 ≤ low) (l1 : low ≤ 1000000000000) (h0 : -1000000000000 ≤ high) (h1 : high ≤ 1000000000000) (s1 : steps ≤ 50) :
    Sc (A * S) (B * S) S ∧ (B * S - A * S) / S = B - A := by
  obtain ⟨lt, few, s1, s2, l1, l2, h1, h2⟩ := h
  have e : B * S - A * S = (B - A) * S := by rw [Int.sub_mul]
  have hq : (B * S - A * S) / S = B - A := by rw [e, Int.mul_ediv_cancel _ (by omega)]
  refine ⟨⟨by omega, by omega, by omega, by omega, s1, by omega, ?_, ?_, ?_, by omega⟩, hq⟩
  · exact Int.mul_lt_mul_of_pos_right lt (by omega)
  · rw [e]; exact Int.mul_emod_left _ _
  · rw [Int.mul_ediv_cancel _ (by omega)]

/-- where mark j of a scale of n steps stands -/
def pl (lo hi S long : Int) (j : Nat) : Int := (2 * (lo + (j : Int) * S - lo) * long + (hi - lo)) / (2 * (hi - lo))
theorem pl_eq {lo hi S long : Int} {n : Nat} (hS : 1 ≤ S) (hh : lo + (n : Int) * S = hi) (j : Nat) : pl lo hi S long j = (2 * (j : Int) * long + n) / (2 * n) := by
  have e1 : lo + (j : Int) * S - lo = j * S := by omega
  have e2 : hi - lo = n * S := by omega
  unfold pl
  rw [e1, e2]
  have e3 : 2 * ((j : Int) * S) * long + n * S = (2 * (j : Int) * long + n) * S := by rw [Int.add_mul]; congr 1; rw [← Int.mul_assoc, Int.mul_right_comm]
  have e4 : 2 * ((n : Int) * S) = 2 * n * S := by rw [Int.mul_assoc]
  rw [e3, e4, Int.mul_ediv_mul_of_pos_left _ _ (by omega)]
theorem pl_zero {lo hi S long : Int} {n : Nat} (hn : 1 ≤ n) (hS : 1 ≤ S) (hh : lo + (n : Int) * S = hi) : pl lo hi S long 0 = 0 := by
  rw [pl_eq hS hh, Int.ediv_eq_iff_of_pos (by omega)]
  simp
  omega
theorem pl_last {lo hi S long : Int} {n : Nat} (hn : 1 ≤ n) (hS : 1 ≤ S) (hh : lo + (n : Int) * S = hi) : pl lo hi S long n = long := by
  rw [pl_eq hS hh, Int.ediv_eq_iff_of_pos (by omega)]
  rw [Int.mul_comm long]
  omega
theorem pl_mono {lo hi S long : Int} {n : Nat} (hn : 1 ≤ n) (hS : 1 ≤ S) (hl : 0 ≤ long) (hh : lo + (n : Int) * S = hi) (j : Nat) : pl lo hi S long j ≤ pl lo hi S long (j + 1) := by
  rw [pl_eq hS hh, pl_eq hS hh]
  refine Int.ediv_le_ediv (by omega) ?_
  have : 2 * (j : Int) * long ≤ 2 * ((j + 1 : Nat) : Int) * long := Int.mul_le_mul_of_nonneg_right (by omega) hl
  omega

theorem quo_facts (low high S : Int) (hS : 1 ≤ S) (h : low ≤ high) (l0 : -1000000000000 ≤ low) (l1 : low ≤ 1000000000000) (h0 : -1000000000000 ≤ high) (h1 : high ≤ 1000000000000) :
    low / S * S ≤ low ∧ low < low / S * S + S ∧ high ≤ -((-high) / S) * S ∧ -((-high) / S) * S < high + S ∧ low / S ≤ -((-high) / S) ∧
    -1000000000000 ≤ low / S ∧ -1000000000000 ≤ (-high) / S ∧ low / S ≤ 1000000000000 ∧ (-high) / S ≤ 1000000000000 := by
  have a1 := Int.ediv_mul_le low (show S ≠ 0 by omega)
  have a2 := Int.lt_ediv_add_one_mul_self low (show 0 < S by omega)
  have b1 := Int.ediv_mul_le (-high) (show S ≠ 0 by omega)
  have b2 := Int.lt_ediv_add_one_mul_self (-high) (show 0 < S by omega)
  rw [Int.add_mul, Int.one_mul] at a2 b2
  rw [Int.neg_mul]
  have c1 : low / S ≤ -((-high) / S) := by
    refine Int.le_of_mul_le_mul_right (a := S) ?_ (by omega)
    rw [Int.neg_mul]
    omega
  have bd : ∀ x : Int, -1000000000000 ≤ x → x ≤ 1000000000000 → -1000000000000 ≤ x / S ∧ x / S ≤ 1000000000000 := by
    intro x hx hy
    constructor
    · rw [Int.le_ediv_iff_mul_le (by omega)]
      have : (-1000000000000) * S ≤ (-1000000000000) * 1 := Int.mul_le_mul_of_nonpos_left (by omega) (by omega)
      omega
    · by_cases h0 : 0 ≤ x
      · exact Int.le_trans (Int.ediv_le_self _ h0) hy
      · have := Int.ediv_neg_of_neg_of_pos (show x < 0 by omega) (show 0 < S by omega)
        omega
  have d1 := bd low l0 l1
  have d2 := bd (-high) (by omega) (by omega)
  refine ⟨a1, a2, by omega, by omega, c1, d1.1, d2.1, d1.2, d2.2⟩
/-- at the greatest power at most two steps are wanted -/
theorem quo_few (low high : Int) (l0 : -1000000000000 ≤ low) (h1 : high ≤ 1000000000000) : -((-high) / 1000000000000) - low / 1000000000000 ≤ 2 := by omega

set_option maxRecDepth 100000 in
set_option maxHeartbeats 2000000 in
theorem find_ok (low high steps : Int) (w : World) (l0 : -1000000000000 ≤ low) (l1 : low ≤ 1000000000000) (h0 : -1000000000000 ≤ high) (h1 : high ≤ 1000000000000) (hle : low ≤ high) (s0 : 2 ≤ steps) (s1 : steps ≤ 50) :
    Calls Try.prog 9 #[.int .i64 low, .int .i64 high, .int .i64 steps] w fun e w' => ∃ A B S : Int, e = .returned (.tuple #[.agg #[.int .i64 (A * S), .int .i64 (B * S), .int .i64 S], .int .i64 0]) ∧
      Found low high steps A B S ∧ Below w.heap.size w w' := by
  go_enter Try.func9, Try.ntmps9
  go_wp2_with fail
  have hbel0 : Below w.heap.size w (w.alloc (.cells #[.int .i64 0, .int .i64 0, .int .i64 0] 33)) := (Below.refl _ _).alloc (Nat.le_refl _) _
  have hblk : (w.alloc (.cells #[.int .i64 0, .int .i64 0, .int .i64 0] 33)).heap[w.heap.size]? = some (.cells #[.int .i64 0, .int .i64 0, .int .i64 0] 33 (0, 0)) := heap_alloc_new w _
  have hsz0 : (w.alloc (.cells #[.int .i64 0, .int .i64 0, .int .i64 0] 33)).heap.size = w.heap.size + 1 := by simp
  generalize w.alloc (.cells #[.int .i64 0, .int .i64 0, .int .i64 0] 33) = w0 at *
  have Hblk := hide hblk
  have Hsz0 := hide hsz0
  clear hblk hsz0
  go_loopw [8] (fun q wr => ∃ p : Nat, p ≤ 12 ∧ q = .int .i64 (pw p) ∧ Below w0.heap.size w0 wr) (fun q _ => (10000000000000 - intOf q).toNat)
  case atStart => exact ⟨0, by omega, rfl, Below.refl _ _⟩
  case round =>
    obtain ⟨p, hp, rfl, hbel⟩ := hrel
    obtain ⟨q1, q2, q3, q4⟩ := pw_le p hp
    have hsz := hbel.size
    go_wp2_with fail
    have hbel1 : Below w0.heap.size w0 (wr.alloc (.cells #[.int .i64 1, .int .i64 2, .int .i64 5] 3)) := hbel.alloc hsz _
    have hlit : ∀ j, j < 3 → (wr.alloc (.cells #[.int .i64 1, .int .i64 2, .int .i64 5] 3)).cell? ⟨wr.heap.size, j, none⟩ = some (.int .i64 (kk j)) := fun j hj => by
      match j, hj with
      | 0, _ => simp; rfl
      | 1, _ => simp; rfl
      | 2, _ => simp; rfl
    generalize wr.alloc (.cells #[.int .i64 1, .int .i64 2, .int .i64 5] 3) = wi at *
    have Hlit := hide hlit
    clear hlit
    go_loop [10, 11, 12, 13, 45] (fun _ _ _ _ i => ∃ j : Nat, j ≤ 3 ∧ (p = 12 → j = 0) ∧ i = .int .i64 j) (fun _ _ _ _ i => 3 - (intOf i).toNat)
    case atStart => exact ⟨0, by omega, fun _ => rfl, rfl⟩
    case round =>
      obtain ⟨j, hj, hp0, rfl⟩ := hrel
      by_cases hlt : j < 3
      · have hc := Hlit.out j hlt
        have k1 : 1 ≤ kk j ∧ kk j ≤ 5 ∧ (j = 0 → kk j = 1) := by
          match j, hlt with
          | 0, _ => decide
          | 1, _ => decide
          | 2, _ => decide
        obtain ⟨k1, k2, k3⟩ := k1
        have S1 : 1 ≤ kk j * pw p := Int.le_trans (by omega) (Int.mul_le_mul k1 q1 (by omega) (by omega))
        have S2 : kk j * pw p ≤ 1000000000000 := by
          by_cases hp12 : p = 12
          · rw [k3 (hp0 hp12)]; omega
          · have := Int.mul_le_mul k2 (q3 (by omega)) (by omega) (by omega); omega
        have S3 : p = 12 → kk j * pw p = 1000000000000 := fun hp12 => by rw [k3 (hp0 hp12), q4 hp12]; rfl
        clear k3 q3 q4
        go_wp2_with fail
        generalize kk j * pw p = S at *
        obtain ⟨f1, f2, f3, f4, f5, f6, f7, f8, f9⟩ := quo_facts low high S S1 hle l0 l1 h0 h1
        refine (floor_any _ _ _ (by omega) (by omega) (by omega)).mono ?_
        rintro e w2 ⟨rfl, rfl⟩
        go_wp2_with fail
        refine (floor_any _ _ _ (by omega) (by omega) (by omega)).mono ?_
        rintro e w2 ⟨rfl, rfl⟩
        have f10 : S = 1000000000000 → -(-high / S) - low / S ≤ 2 := fun hS => by rw [hS]; exact quo_few low high l0 h1
        generalize -high / S = nb at *
        generalize low / S = a at *
        have hb0 : wi.heap[w.heap.size]? = some (.cells #[.int .i64 0, .int .i64 0, .int .i64 0] 33 (0, 0)) := (hbel1.block _ (by have := Hsz0.out; omega)).trans Hblk.out
        have c0 : wi.cell? ⟨w.heap.size, 0, none⟩ = some (.int .i64 0) := cell_of_row _ _ 0 _ _ _ hb0
        have c1 : wi.cell? ⟨w.heap.size, 1, none⟩ = some (.int .i64 0) := cell_of_row _ _ 1 _ _ _ hb0
        have c2 : wi.cell? ⟨w.heap.size, 2, none⟩ = some (.int .i64 0) := cell_of_row _ _ 2 _ _ _ hb0
        have z0 : wi.frozen? ⟨w.heap.size, 0, none⟩ = false := frozen_of_row _ _ 0 _ _ hb0
        have z1 : wi.frozen? ⟨w.heap.size, 1, none⟩ = false := frozen_of_row _ _ 1 _ _ hb0
        have z2 : wi.frozen? ⟨w.heap.size, 2, none⟩ = false := frozen_of_row _ _ 2 _ _ hb0
        clear hb0
        by_cases hab : a = -nb
        · have hq : (a == -nb) = true := by simpa using hab
          have m1 : (-nb + 1) * S = -nb * S + S := by rw [Int.add_mul, Int.one_mul]
          have m2 : (-nb + 1) * S ≤ 9000000000000 := by omega
          have m3 : -9000000000000 ≤ (-nb + 1) * S := by omega
          have m4 : a * S = -nb * S := by rw [hab]
          have hF : Found low high steps a (-nb + 1) S := ⟨by omega, by omega, S1, S2, f1, f2, by omega, by omega⟩
          have HF := hide hF
          have e1 : -nb + 1 - a ≤ steps := by omega
          clear hab m1 m4 hF
          go_wp2
          refine bodyPost_ret (v := .tuple #[.agg #[.int .i64 (a * S), .int .i64 ((-nb + 1) * S), .int .i64 S], .int .i64 0]) (by simp [results, Try.results9, go_sem, c0, c1, c2]) rfl ⟨_, _, _, rfl, HF.out, ?_⟩
          exact (((hbel0.trans (hbel1.mono (by have := Hsz0.out; omega))).setCell (Nat.le_refl _) _).setCell (Nat.le_refl _) _).setCell (Nat.le_refl _) _
        · have hq : (a == -nb) = false := by simpa using hab
          have m2 : -nb * S ≤ 9000000000000 := by omega
          have m3 : -9000000000000 ≤ -nb * S := by omega
          by_cases hs : -nb - a ≤ steps
          · have hF : Found low high steps a (-nb) S := ⟨by omega, hs, S1, S2, f1, f2, by omega, by omega⟩
            have HF := hide hF
            clear hab hF
            go_wp2
            refine bodyPost_ret (v := .tuple #[.agg #[.int .i64 (a * S), .int .i64 (-nb * S), .int .i64 S], .int .i64 0]) (by simp [results, Try.results9, go_sem, c0, c1, c2]) rfl ⟨_, _, _, rfl, HF.out, ?_⟩
            exact (((hbel0.trans (hbel1.mono (by have := Hsz0.out; omega))).setCell (Nat.le_refl _) _).setCell (Nat.le_refl _) _).setCell (Nat.le_refl _) _
          · have hp12 : p ≠ 12 := fun h => by have := f10 (S3 h); omega
            clear f10 S3 hp0
            go_wp2
            go_round
            case rel => exact ⟨j + 1, by omega, fun h => absurd h hp12, by go_num⟩
            case measure => simp [intOf]; omega
      · have hp12 : p ≠ 12 := fun h => by have := hp0 h; omega
        have Hp := pw_succ p
        obtain ⟨r1, r2, r3, r4⟩ := pw_le (p + 1) (by omega)
        have hj3 : j = 3 := by omega
        subst hj3
        clear q3 q4 r3 r4 hp0
        go_wp2
        go_roundw
        case rel => exact ⟨p + 1, by omega, val_int Hp.symm, hbel1⟩
        case measure => simp [intOf]; omega
end Go.Proofs.Ytoggpbbndoipdaa.Scl
