/- The contract of chancerykeep3.cells. -/
import Derived.Test.YtmnbcpinlgklpaaBal
import Derived.Test.YtmnbcpinlgklpaaWithin
namespace Go.Proofs.Ytmnbcpinlgklpaa.Bal
open Go.RowKit Go.Frm Wi

theorem cell_info : (Try.prog.info? 80).map (fun i => (i.zero, i.size, i.bytes)) = some (some (.agg #[.int .i64 0, .int .i64 0, .int .i64 0, .int .i64 0]), 4, 32) := by kernel_rfl
def mkC (F : Nat → Nat → Int) (n N : Nat) : Cls := ⟨N, fun j => (wi (F j 0) 0 ((n : Int) - 1)).toNat, fun j => (wi (F j 1) 1 ((n : Int) - wi (F j 0) 0 ((n : Int) - 1))).toNat, fun j => wi (F j 2) 0 2000, fun j => wi (F j 3) 0 3000⟩
theorem vc_mk (F : Nat → Nat → Int) {n N : Nat} (n1 : 1 ≤ n) (n8 : n ≤ 8) (hN : N ≤ 20) : VC (mkC F n N) n := by
  refine ⟨hN, n1, n8, fun i _ => ?_, fun i _ => wi_bd _ (by omega), fun i _ => wi_bd _ (by omega)⟩
  have h1 := wi_bd (F i 0) (show (0 : Int) ≤ (n : Int) - 1 by omega)
  have h2 := wi_bd (F i 1) (show (1 : Int) ≤ (n : Int) - wi (F i 0) 0 ((n : Int) - 1) by omega)
  show 1 ≤ (wi (F i 1) 1 ((n : Int) - wi (F i 0) 0 ((n : Int) - 1))).toNat ∧ (wi (F i 0) 0 ((n : Int) - 1)).toNat + (wi (F i 1) 1 ((n : Int) - wi (F i 0) 0 ((n : Int) - 1))).toNat ≤ n
  omega
theorem mk_row (F : Nat → Nat → Int) {n : Nat} (n1 : 1 ≤ n) (k : Nat) : rowF (k + 1) 4 (clf (mkC F n k)) = rowF k 4 (clf (mkC F n k)) ++ [.int .i64 (wi (F k 0) 0 ((n : Int) - 1)), .int .i64 (wi (F k 1) 1 ((n : Int) - wi (F k 0) 0 ((n : Int) - 1))), .int .i64 (wi (F k 2) 0 2000), .int .i64 (wi (F k 3) 0 3000)] := by
  rw [rowF_succ]
  congr 1
  have h1 := wi_bd (F k 0) (show (0 : Int) ≤ (n : Int) - 1 by omega)
  have h2 := wi_bd (F k 1) (show (1 : Int) ≤ (n : Int) - wi (F k 0) 0 ((n : Int) - 1) by omega)
  show [Value.int .i64 ((wi (F k 0) 0 ((n : Int) - 1)).toNat : Int), Value.int .i64 ((wi (F k 1) 1 ((n : Int) - wi (F k 0) 0 ((n : Int) - 1))).toNat : Int), Value.int .i64 (wi (F k 2) 0 2000), Value.int .i64 (wi (F k 3) 0 3000)] = _
  rw [Int.toNat_of_nonneg (by omega), Int.toNat_of_nonneg (by omega)]
def CellsPost (w : World) (n : Nat) (e : Ending) (w' : World) : Prop := ∃ (C : Cls) (A : Option Addr) (c : Nat), e = .returned (.slice A C.N c) ∧ VC C n ∧
  w'.ownsRow w.heap.size 80 4 (.slice A C.N c) C.N (rowF C.N 4 (clf C)) ∧ Below w.heap.size w w'

set_option maxRecDepth 100000 in
set_option maxHeartbeats 4000000 in
theorem cells_ok (n : Nat) (A : Option Addr) (n0 c : Nat) (F : Nat → Nat → Int) (w : World) (n1 : 1 ≤ n) (n8 : n ≤ 8) (_hn : n0 ≤ 9223372036854775807) (hr : RdF w A n0 4 (fun i j => .int .i64 (F i j))) (hwf : ∀ i j, i < n0 → j < 4 → (Lit.int .i64 (F i j)).wf = true) :
    Calls Try.prog 28 #[.int .i64 n, .slice A n0 c] w (CellsPost w n) := by
  have Hwf := hide hwf
  clear hwf
  go_enter Try.func28, Try.ntmps28
  go_wp2_with fail
  go_loopw [5, 6] (fun v i wr => ∃ k : Nat, k ≤ n0 ∧ k ≤ 20 ∧ i = .int .i64 k ∧ wr.ownsRow w.heap.size 80 4 v k (rowF k 4 (clf (mkC F n k))) ∧ Below w.heap.size w wr) (fun _ i _ => 20 - (intOf i).toNat)
  case atStart => exact ⟨0, by omega, by omega, rfl, World.ownsRow_nil _ _ _ _, Below.refl _ _⟩
  case round =>
    obtain ⟨k, hk1, hk2, rfl, hown, hbel⟩ := hrel
    obtain ⟨Av, cv, rfl⟩ := own_form hown
    have hsz := hbel.size
    by_cases hlt : k < n0 ∧ k < 20
    · obtain ⟨hlt1, hlt2⟩ := hlt
      obtain ⟨b, off, rfl, hc⟩ := (hr.below hbel).at_ hlt1
      have c0 : wr.cell? ⟨b, off + k * 4, none⟩ = some (.int .i64 (F k 0)) := hc 0 (by omega)
      have c1 : wr.cell? ⟨b, off + k * 4 + 1, none⟩ = some (.int .i64 (F k 1)) := hc 1 (by omega)
      have c2 : wr.cell? ⟨b, off + k * 4 + 2, none⟩ = some (.int .i64 (F k 2)) := hc 2 (by omega)
      have c3 : wr.cell? ⟨b, off + k * 4 + 3, none⟩ = some (.int .i64 (F k 3)) := hc 3 (by omega)
      clear hc
      have w0 := Hwf.out k 0 hlt1 (by omega)
      have w1 := Hwf.out k 1 hlt1 (by omega)
      have w2 := Hwf.out k 2 hlt1 (by omega)
      have w3 := Hwf.out k 3 hlt1 (by omega)
      have a1 := wi_bd (F k 0) (show (0 : Int) ≤ (n : Int) - 1 by omega)
      go_wp2_with fail
      refine (within_any _ _ _ _ w0 (by omega) (by omega) (by omega)).mono ?_
      rintro e w5 ⟨rfl, rfl⟩
      go_upto_region 6 with fail
      have a2 := wi_bd (F k 1) (show (1 : Int) ≤ (n : Int) - wi (F k 0) 0 ((n : Int) - 1) by omega)
      have a3 := wi_bd (F k 2) (show (0 : Int) ≤ 2000 by omega)
      have a4 := wi_bd (F k 3) (show (0 : Int) ≤ 3000 by omega)
      have hrow := mk_row F n1 k
      have hbl : b < wr.heap.size := World.block_lt_of_cell? wr _ c0
      have hbw : b < w.heap.size := by
        obtain ⟨b2, off2, he, hc2⟩ := hr.at_ hlt1
        injection he with he
        injection he with he
        subst he
        exact World.block_lt_of_cell? w _ (hc2 0 (by omega))
      have hfar := own_not_low hown hbw
      have q1 := fun wx => within_any (F k 1) 1 ((n : Int) - wi (F k 0) 0 ((n : Int) - 1)) wx w1 (by omega) (by omega) (by omega)
      have q2 := fun wx => within_any (F k 2) 0 2000 wx w2 (by omega) (by omega) (by omega)
      have q3 := fun wx => within_any (F k 3) 0 3000 wx w3 (by omega) (by omega) (by omega)
      have hi0 : (0 : Int) ≤ (k : Int) := Int.natCast_nonneg _
      have hi1 : (k : Int) < (n0 : Int) := by omega
      have hk21 : (k + 1) * 32 ≤ 140737488355328 := by omega
      have hk22 : k + 1 ≤ maxLen := by simp only [maxLen]; omega
      have hwr : IntKind.i64.wrap ((n : Int) - wi (F k 0) 0 ((n : Int) - 1)) = (n : Int) - wi (F k 0) 0 ((n : Int) - 1) := IntWalk.i64_in _ (by omega)
      generalize wi (F k 0) 0 ((n : Int) - 1) = d at *
      generalize wi (F k 1) 1 ((n : Int) - d) = s at *
      generalize wi (F k 2) 0 2000 = lo at *
      generalize wi (F k 3) 0 3000 = hi at *
      obtain ⟨i0, hj0, hz0, hz1, hz2⟩ := info_parts cell_info
      have Hrow := hide hrow
      clear hrow
      go_region_held3 (fun w' => w'.cell? ⟨b, off + k * 4 + 1, none⟩ = some (.int .i64 (F k 1)) ∧ w'.cell? ⟨b, off + k * 4 + 2, none⟩ = some (.int .i64 (F k 2)) ∧ w'.cell? ⟨b, off + k * 4 + 3, none⟩ = some (.int .i64 (F k 3)))
        (first
          | go_keep
          | (go_split_ands
             refine ⟨?_, ?_, ?_⟩
             · (rw [hgrow.cell_far _ (by simp; omega) hfar]; assumption)
             · (rw [hgrow.cell_far _ (by simp; omega) hfar]; assumption)
             · (rw [hgrow.cell_far _ (by simp; omega) hfar]; assumption)))
        ((first
          | (go_at_call 13; with_reducible refine (q1 _).mono ?_; rintro e w' ⟨rfl, rfl⟩)
          | (go_at_call 13; with_reducible refine (q2 _).mono ?_; rintro e w' ⟨rfl, rfl⟩)
          | (go_at_call 13; with_reducible refine (q3 _).mono ?_; rintro e w' ⟨rfl, rfl⟩)
          | (refine step_append_lies _ (by rfl) _ _ _ (by rfl) w.heap.size 80 i0 _ 4 32 Try.underlying74 hj0 hz0 hz1 hz2 rfl (by omega) (.slice Av k cv) k (rowF k 4 (clf (mkC F n k))) (by rfl) ((hown.alloc _).drew)
              ⟨wr.heap.size, 0, none⟩ 1 1 [.int .i64 d, .int .i64 s, .int .i64 lo, .int .i64 hi] (by rfl) (by rfl) (World.news_of_block (cs := #[.int .i64 d, .int .i64 s, .int .i64 lo, .int .i64 hi]) (t := 80) (fr := (0, 0)) (heap_alloc_new wr _)) (by simp [Value.oneCell'])
              (by omega) hk22 hk21 (by simp; omega) (wr.heap.size + 1) (by simp) ?_; intro gg cap w6 hown6 hgrow hat hlt)))
      have hbel6 : Below w.heap.size w w6 := ((hbel.alloc hsz (.cells #[.int .i64 d, .int .i64 s, .int .i64 lo, .int .i64 hi] 80)).drew).grown hgrow (by simp; omega) (fun q hq => (hown.lt q hq).1)
      go_wp2_with fail
      go_roundw
      case rel => exact ⟨k + 1, by omega, by omega, by go_num, by rw [show rowF (k + 1) 4 (clf (mkC F n (k + 1))) = rowF (k + 1) 4 (clf (mkC F n k)) from rfl, Hrow.out]; exact hown6, hbel6⟩
      case measure => simp [intOf]; omega
    · have hfin : k = n0 ∨ k = 20 := by omega
      by_cases h1 : k < n0
      · obtain rfl : k = 20 := by omega
        go_wp2_with fail
        go_ret
        exact ⟨mkC F n 20, Av, cv, rfl, vc_mk F n1 n8 hk2, hown, hbel⟩
      · go_wp2_with fail
        go_ret
        exact ⟨mkC F n k, Av, cv, rfl, vc_mk F n1 n8 hk2, hown, hbel⟩
end Go.Proofs.Ytmnbcpinlgklpaa.Bal
