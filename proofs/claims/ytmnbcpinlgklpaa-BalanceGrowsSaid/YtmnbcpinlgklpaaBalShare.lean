/- The contract of balance.share. -/
import Derived.Test.YtmnbcpinlgklpaaBalLow
namespace Go.Proofs.Ytmnbcpinlgklpaa.Bal
open Go.RowKit Go.Frm

def shTo (x : Int) (P : Nat → Int) (n k : Nat) : Nat → Int := fun i => if i < k then x * fsum P (i + 1) / fsum P n - x * fsum P i / fsum P n else 0
theorem shTo_succ (x : Int) (P : Nat → Int) (n k : Nat) : upd (shTo x P n k) k (x * fsum P (k + 1) / fsum P n - x * fsum P k / fsum P n) = shTo x P n (k + 1) := by
  funext i
  unfold upd shTo
  by_cases h : i = k
  · rw [if_pos h, if_pos (by omega), h]
  · rw [if_neg h]
    by_cases h2 : i < k
    · rw [if_pos h2, if_pos (by omega)]
    · rw [if_neg h2, if_neg (by omega)]
theorem own_congr {w : World} {base g n : Nat} {F G : Nat → Int} (h : OwnI w base g n F) (he : ∀ i, i < n → F i = G i) : OwnI w base g n G := by
  unfold OwnI at h ⊢
  rw [tabV_congr (G := fun i => .int .i64 (G i)) (fun i hi => by rw [he i hi])] at h
  exact h

set_option maxRecDepth 100000 in
set_option maxHeartbeats 2000000 in
theorem share_ok (A : Option Addr) (c n : Nat) (P : Nat → Int) (x : Int) (w : World) (hr : RdI w A (tab n P)) (n1 : 1 ≤ n) (n8 : n ≤ 8) (hP : ∀ i, i < n → 0 ≤ P i ∧ P i ≤ 480160) (x0 : 0 ≤ x) (x1 : x ≤ 31680) :
    Calls Try.prog 40 #[.int .i64 x, .slice A n c] w (NeedsPost w n (shareF x P n)) := by
  have HP := hide hP
  have hall : ∀ k, k ≤ n → 0 ≤ fsum P k ∧ fsum P k ≤ k * 480160 := fun k hk => by
    refine ⟨fsum_nonneg fun i hi => (hP i (by omega)).1, ?_⟩
    rw [← fsum_const]
    exact fsum_le fun i hi => (hP i (by omega)).2
  have Hall := hide hall
  clear hP hall
  go_enter Try.func40, Try.ntmps40
  go_wp2_with (at_make; refine wpL_make1 (base := w.heap.size) rfl rfl Try.underlying29 int_info rfl rfl rfl rfl rfl (by omega) (by omega) (Nat.le_refl _) ?_; intro w1 hown1 hgrow1)
  have hbel1 : Below w.heap.size w w1 := below_made (Below.refl _ _) (Nat.le_refl _) hgrow1
  have hown0 : OwnI w1 w.heap.size w.heap.size n (fun _ => 0) := hown1
  clear hgrow1 hown1
  refine (sum_ok A c n P w1 (hr.below hbel1) (by omega) (fun i hi => by have := HP.out i hi; omega)).mono ?_
  rintro e w2 ⟨rfl, rfl⟩
  obtain ⟨T1, T2⟩ := Hall.out n (Nat.le_refl _)
  by_cases hT : fsum P n = 0
  · have hq : (fsum P n == 0) = true := by simpa using hT
    have he : ∀ i, i < n → spr (fun _ => 0) 0 n x n i = shareF x P n i := fun i hi => by
      unfold shareF spr
      rw [if_pos hT, if_pos (by omega)]
      simp
    have He := hide he
    clear hT he
    go_wp2_with fail
    refine (spread_ok w.heap.size w.heap.size w.heap.size n n 0 n n (fun _ => 0) x _ hown0 (Nat.le_refl _) (by omega) (by omega) (by omega) (fun i => by omega) (by omega) (by omega)).mono ?_
    rintro e w3 ⟨rfl, ho3, hbel3⟩
    go_wp2_with fail
    go_ret
    exact ⟨w.heap.size, rfl, own_congr ho3 He.out, Nat.le_refl _, hbel1.trans hbel3⟩
  · have hq : (fsum P n == 0) = false := by simpa using hT
    have hown2 : OwnI w1 w.heap.size w.heap.size n (shTo x P n 0) := own_congr hown0 fun i hi => by unfold shTo; rw [if_neg (by omega)]
    clear hown0
    have HT := hide hT
    have hTp : 0 < fsum P n := by omega
    clear hT
    go_wp2_with fail
    go_loopw [7, 23] (fun v i wr => ∃ k : Nat, k ≤ n ∧ i = .int .i64 k ∧ v = .int .i64 (fsum P k) ∧ OwnI wr w.heap.size w.heap.size n (shTo x P n k) ∧ Below w.heap.size w wr) (fun _ i _ => n - (intOf i).toNat)
    case atStart => exact ⟨0, by omega, rfl, rfl, hown2, hbel1⟩
    case round =>
      clear hown2 hbel1
      obtain ⟨k, hk, rfl, rfl, hown, hbel⟩ := hrel
      by_cases hlt : k < n
      · obtain ⟨b, off, rfl, hc⟩ := (hr.below hbel).at_ (show k < _ by rw [tab_length]; exact hlt)
        rw [tab_ix _ hlt] at hc
        have p1 := HP.out k hlt
        have p2 := Hall.out k hk
        have a3 := World.ownsRow.frozenAt hown k
        have a4 := own_cell hown hlt
        have hs := own_store hown k (.int .i64 (x * fsum P (k + 1) / fsum P n - x * fsum P k / fsum P n))
        rw [tabV_congr (G := fun i => .int .i64 (shTo x P n (k + 1) i)) (fun i _ => by
          rw [← shTo_succ]
          unfold upd
          split <;> rfl), fsum_succ] at hs
        have hsucc := fsum_succ P k
        have Hsucc := hide hsucc
        have m1 : 0 ≤ x * (fsum P k + P k) := Int.mul_nonneg x0 (by omega)
        have m2 : x * (fsum P k + P k) ≤ 31680 * 4000000 := Int.mul_le_mul x1 (by omega) (by omega) (by omega)
        have m3 : 0 ≤ x * fsum P k := Int.mul_nonneg x0 (by omega)
        have m4 : x * fsum P k ≤ 31680 * 4000000 := Int.mul_le_mul x1 (by omega) (by omega) (by omega)
        have m5 := Int.ediv_nonneg m1 (show 0 ≤ fsum P n by omega)
        have m6 := Int.ediv_nonneg m3 (show 0 ≤ fsum P n by omega)
        have m7 := Int.ediv_le_self (fsum P n) m1
        have m8 := Int.ediv_le_self (fsum P n) m3
        have hb2 := hbel.setCell (p := ⟨w.heap.size, k, none⟩) (Nat.le_refl _) (.int .i64 (x * (fsum P k + P k) / fsum P n - x * fsum P k / fsum P n))
        have Hs := hide hs
        clear hs hown hsucc
        go_wp2_with fail
        go_region
        go_wp2_with fail
        go_roundw
        case rel => exact ⟨k + 1, by omega, by go_num, val_int (by rw [Hsucc.out]), Hs.out, hb2.drew⟩
        case measure => simp [intOf]; omega
      · obtain rfl : k = n := by omega
        have hfin : OwnI wr w.heap.size w.heap.size k (shareF x P k) := own_congr hown fun i hi => by unfold shTo shareF; rw [if_pos hi, if_neg HT.out]
        go_wp2_with fail
        go_ret
        exact ⟨w.heap.size, rfl, hfin, Nat.le_refl _, hbel⟩
end Go.Proofs.Ytmnbcpinlgklpaa.Bal
