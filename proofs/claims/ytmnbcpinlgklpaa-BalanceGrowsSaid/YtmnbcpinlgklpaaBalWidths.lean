/- The contract of balance.Widths. -/
import Derived.Test.YtmnbcpinlgklpaaBalShare
namespace Go.Proofs.Ytmnbcpinlgklpaa.Bal
open Go.RowKit Go.Frm

/-- F, and G added in the first k places -/
def addTo (F G : Nat → Int) (k : Nat) : Nat → Int := fun i => if i < k then F i + G i else F i
theorem addTo_succ (F G : Nat → Int) (k : Nat) : upd (addTo F G k) k (F k + G k) = addTo F G (k + 1) := by
  funext i
  unfold upd addTo
  by_cases h : i = k
  · rw [if_pos h, if_pos (by omega), h]
  · rw [if_neg h]
    by_cases h2 : i < k
    · rw [if_pos h2, if_pos (by omega)]
    · rw [if_neg h2, if_neg (by omega)]
def gapTo (L H : Nat → Int) (k : Nat) : Nat → Int := fun i => if i < k then H i - L i else 0
theorem gapTo_succ (L H : Nat → Int) (k : Nat) : upd (gapTo L H k) k (H k - L k) = gapTo L H (k + 1) := by
  funext i
  unfold upd gapTo
  by_cases h : i = k
  · rw [if_pos h, if_pos (by omega), h]
  · rw [if_neg h]
    by_cases h2 : i < k
    · rw [if_pos h2, if_pos (by omega)]
    · rw [if_neg h2, if_neg (by omega)]
theorem share_le_all {x : Int} {P : Nat → Int} {n : Nat} (n1 : 1 ≤ n) (x0 : 0 ≤ x) (x1 : x ≤ 31680) (hP : ∀ i, i < n → 0 ≤ P i) : ∀ i, i < n → 0 ≤ shareF x P n i ∧ shareF x P n i ≤ 31680 := fun i hi => by
  have h0 : ∀ j, j < n → 0 ≤ shareF x P n j := fun j hj => share_nonneg x0 hP hj
  refine ⟨h0 i hi, ?_⟩
  have h1 : shareF x P n i ≤ fsum (shareF x P n) n := by
    have := fsum_upd (shareF x P n) (j := i) 0 hi
    have h2 : 0 ≤ fsum (upd (shareF x P n) i 0) n := fsum_nonneg fun j hj => by
      unfold upd
      split
      · exact Int.le_refl _
      · exact h0 j hj
    omega
  rw [share_sum n1] at h1
  omega
def WPost (w : World) (n : Nat) (F : Nat → Int) (e : Ending) (w' : World) : Prop := ∃ g, e = .returned (.tuple #[.slice (some ⟨g, 0, none⟩) n n, .int .i64 0]) ∧ OwnI w' w.heap.size g n F ∧ Below w.heap.size w w'
theorem win0 {w : World} {base g n : Nat} {F : Nat → Int} (h : OwnI w base g n F) : RdI w (some ⟨g, 0, none⟩) (tab n F) := by
  have := rdI_win (a := 0) (len := n) h (by omega)
  simpa using this

set_option maxRecDepth 100000 in
set_option maxHeartbeats 4000000 in
theorem widths_ok (C : Cls) (n : Nat) (A : Option Addr) (c : Nat) (x : Int) (w : World) (hvc : VC C n) (hr : RdF w A C.N 4 (clf C)) (x0 : 0 ≤ x) (x1 : x ≤ 31680) :
    Calls Try.prog 27 #[.int .i64 n, .slice A C.N c, .int .i64 x] w (WPost w n (widF (lowF C n) (highF C n) n x)) := by
  have n1 := hvc.n1
  have n8 := hvc.n8
  have hLb := low_bd hvc
  have hHb := high_bd hvc
  have hv := hvc
  have Hv := hide hvc
  have HL := hide hLb
  have HH := hide hHb
  clear hvc hLb hHb
  go_enter Try.func27, Try.ntmps27
  go_wp2_with fail
  refine (low_high C n A c w Hv.out hr).mono ?_
  rintro e w1 ⟨g1, g2, rfl, hlow, hhigh, hg1, hg12, hbel1⟩
  clear hv
  generalize lowF C n = L at *
  generalize highF C n = H at *
  go_wp2_with fail
  refine (sum_ok _ _ n L w1 (win0 hlow) (by omega) (fun i _ => by have := HL.out i; omega)).mono ?_
  rintro e w2 ⟨rfl, rfl⟩
  go_wp2_with fail
  refine (sum_ok _ _ n H w1 (win0 hhigh) (by omega) (fun i _ => by have := HL.out i; have := HH.out i; omega)).mono ?_
  rintro e w2 ⟨rfl, rfl⟩
  have sL0 : 0 ≤ fsum L n := fsum_nonneg fun i _ => (HL.out i).1
  have sLH : fsum L n ≤ fsum H n := fsum_le fun i _ => (HH.out i).1
  have sH1 : fsum H n ≤ n * 480160 := by
    rw [← fsum_const]
    exact fsum_le fun i _ => (HH.out i).2
  have dx0 : decide (x < 0) = false := by simp; omega
  have dx1 : decide (31680 < x) = false := by simp; omega
  by_cases hx0 : x = 0
  · have hW : widF L H n x = H := by unfold widF; rw [if_pos (.inl hx0)]
    subst hx0
    have HW := hide hW
    clear hW
    go_wp2_with fail
    go_ret2
    exact ⟨g2, rfl, by rw [HW.out]; exact hhigh, hbel1⟩
  · by_cases hxb : x = fsum H n
    · have hW : widF L H n x = H := by unfold widF; rw [if_pos (.inr hxb)]
      have HW := hide hW
      have hq : (x == 0) = false := by simpa using hx0
      have hq2 : (x == fsum H n) = true := by simpa using hxb
      clear hW hxb hx0
      go_wp2_with fail
      go_ret2
      exact ⟨g2, rfl, by rw [HW.out]; exact hhigh, hbel1⟩
    · have hq : (x == 0) = false := by simpa using hx0
      have hq2 : (x == fsum H n) = false := by simpa using hxb
      by_cases hxl : x ≤ fsum L n
      · have hW : widF L H n x = L := by unfold widF; rw [if_neg (by omega), if_pos hxl]
        have HW := hide hW
        clear hW hxb hx0
        go_wp2_with fail
        go_ret2
        exact ⟨g1, rfl, by rw [HW.out]; exact hlow, hbel1⟩
      · have dl : decide (x ≤ fsum L n) = false := by simp; omega
        by_cases hxh : fsum H n < x
        · have hW : widF L H n x = fun i => H i + shareF (x - fsum H n) H n i := by unfold widF; rw [if_neg (by omega), if_neg hxl, if_pos hxh]
          have HW := hide hW
          clear hW hxb hx0
          go_wp2_with fail
          refine (share_ok _ _ n H (x - fsum H n) w1 (win0 hhigh) n1 n8 (fun i _ => by have := HL.out i; have := HH.out i; omega) (by omega) (by omega)).mono ?_
          rintro e w3 ⟨g3, rfl, ho3, hg3, hbel3⟩
          go_wp2_with fail
          have hg2l := (hhigh.lt g2 rfl).2
          have hg23 : g2 < g3 := by have := (hhigh.lt g2 rfl).2; omega
          have hsz1 := hbel1.size
          have hhi2 : OwnI w3 w.heap.size g2 n (addTo H (shareF (x - fsum H n) H n) 0) := own_congr (own_below hhigh hbel3) (fun i _ => by unfold addTo; rw [if_neg (by omega)])
          have hbel4 := hbel1.trans (hbel3.mono hsz1)
          have hsh : ∀ i, i < n → 0 ≤ shareF (x - fsum H n) H n i ∧ shareF (x - fsum H n) H n i ≤ 31680 := share_le_all n1 (by omega) (by omega) (fun i _ => by have := HL.out i; have := HH.out i; omega)
          have Hsh := hide hsh
          clear hlow hhigh hbel1 hbel3 hsh
          go_loopw [63] (fun i wr => ∃ k : Nat, k ≤ n ∧ i = .int .i64 k ∧ OwnI wr w.heap.size g2 n (addTo H (shareF (x - fsum H n) H n) k) ∧ OwnI wr w1.heap.size g3 n (shareF (x - fsum H n) H n) ∧ Below w.heap.size w wr) (fun i _ => n - (intOf i).toNat)
          case atStart => exact ⟨0, by omega, rfl, hhi2, ho3, hbel4⟩
          case round =>
            clear hhi2 ho3 hbel4
            obtain ⟨k, hk, rfl, hhigh, ho3, hbel⟩ := hrel
            by_cases hlt : k < n
            · have a1 := own_cell hhigh hlt
              have a2 := own_cell ho3 hlt
              have a3 := World.ownsRow.frozenAt hhigh k
              have b1 := Hsh.out k hlt
              have b2 := HL.out k
              have b3 := HH.out k
              rw [show addTo H (shareF (x - fsum H n) H n) k k = H k by unfold addTo; rw [if_neg (by omega)]] at a1
              have hs := own_store hhigh k (.int .i64 (H k + shareF (x - fsum H n) H n k))
              rw [tabV_congr (G := fun i => .int .i64 (addTo H (shareF (x - fsum H n) H n) (k + 1) i)) (fun i _ => by
                rw [← addTo_succ]
                unfold upd
                split <;> rfl)] at hs
              have hs2 := own_setCell_low ho3 (a := ⟨g2, k, none⟩) (show g2 < w1.heap.size by omega) (.int .i64 (H k + shareF (x - fsum H n) H n k))
              have hb2 := hbel.setCell (p := ⟨g2, k, none⟩) (show w.heap.size ≤ g2 by omega) (.int .i64 (H k + shareF (x - fsum H n) H n k))
              have Hs := hide hs
              have Hs2 := hide hs2
              clear hs hs2 hhigh ho3
              go_wp2_with fail
              go_roundw
              case rel => exact ⟨k + 1, by omega, by go_num, Hs.out, Hs2.out, hb2⟩
              case measure => simp [intOf]; omega
            · obtain rfl : k = n := by omega
              have hfin : OwnI wr w.heap.size g2 k (fun i => H i + shareF (x - fsum H k) H k i) := own_congr hhigh fun i hi => by unfold addTo; rw [if_pos hi]
              go_wp2_with fail
              go_ret2
              exact ⟨g2, rfl, by rw [HW.out]; exact hfin, hbel⟩
        · have hW : widF L H n x = fun i => L i + shareF (x - fsum L n) (fun i => H i - L i) n i := by unfold widF; rw [if_neg (by omega), if_neg hxl, if_neg hxh]
          have HW := hide hW
          clear hW hxb hx0
          have dh : decide (fsum H n < x) = false := by simp; omega
          go_wp2_with (at_make; refine wpL_make1 (base := w1.heap.size) rfl rfl Try.underlying29 int_info rfl rfl rfl rfl rfl (by omega) (by omega) (Nat.le_refl _) ?_; intro w3 hown3 hgrow3)
          have hsz1 := hbel1.size
          have hg2l := (hhigh.lt g2 rfl).2
          have hg1l := (hlow.lt g1 rfl).2
          have hgap : OwnI w3 w1.heap.size w1.heap.size n (gapTo L H 0) := hown3
          have hlow3 : OwnI w3 w.heap.size g1 n L := own_made hlow hgrow3
          have hhigh3 : OwnI w3 w.heap.size g2 n H := own_made hhigh hgrow3
          have hbel3 := below_made hbel1 hsz1 hgrow3
          clear hown3 hgrow3 hlow hhigh hbel1
          go_loopw [81] (fun i wr => ∃ k : Nat, k ≤ n ∧ i = .int .i64 k ∧ OwnI wr w1.heap.size w1.heap.size n (gapTo L H k) ∧ OwnI wr w.heap.size g1 n L ∧ OwnI wr w.heap.size g2 n H ∧ Below w.heap.size w wr) (fun i _ => n - (intOf i).toNat)
          case atStart => exact ⟨0, by omega, rfl, hgap, hlow3, hhigh3, hbel3⟩
          case round =>
            clear hgap hlow3 hhigh3 hbel3
            obtain ⟨k, hk, rfl, hgap, hlow, hhigh, hbel⟩ := hrel
            by_cases hlt : k < n
            · have a1 := own_cell hhigh hlt
              have a2 := own_cell hlow hlt
              have a3 := World.ownsRow.frozenAt hgap k
              have a4 := own_cell hgap hlt
              have b2 := HL.out k
              have b3 := HH.out k
              have hs := own_store hgap k (.int .i64 (H k - L k))
              rw [tabV_congr (G := fun i => .int .i64 (gapTo L H (k + 1) i)) (fun i _ => by
                rw [← gapTo_succ]
                unfold upd
                split <;> rfl)] at hs
              have hs1 := ownsRow_setCell_other hlow (a := ⟨w1.heap.size, k, none⟩) (by simp [Value.ownBlock]; omega) (.int .i64 (H k - L k))
              have hs2 := ownsRow_setCell_other hhigh (a := ⟨w1.heap.size, k, none⟩) (by simp [Value.ownBlock]; omega) (.int .i64 (H k - L k))
              have hb2 := hbel.setCell (p := ⟨w1.heap.size, k, none⟩) hsz1 (.int .i64 (H k - L k))
              have Hs := hide hs
              have Hs1 := hide hs1
              have Hs2 := hide hs2
              clear hs hs1 hs2 hhigh hlow hgap
              go_wp2_with fail
              go_region
              go_wp2_with fail
              go_roundw
              case rel => exact ⟨k + 1, by omega, by go_num, Hs.out, Hs1.out, Hs2.out, hb2.drew⟩
              case measure => simp [intOf]; omega
            · obtain rfl : k = n := by omega
              have hgfin : OwnI wr w1.heap.size w1.heap.size k (fun i => H i - L i) := own_congr hgap fun i hi => by unfold gapTo; rw [if_pos hi]
              have hgs : fsum (fun i => H i - L i) k = fsum H k - fsum L k := gap_sum
              clear hgap hhigh
              go_wp2_with fail
              refine (share_ok _ _ k (fun i => H i - L i) (x - fsum L k) wr (win0 hgfin) n1 n8 (fun i _ => by have := HL.out i; have := HH.out i; omega) (by omega) (by omega)).mono ?_
              rintro e w5 ⟨g4, rfl, ho4, hg4, hbel4⟩
              have hszr := hbel.size
              have hlo5 : OwnI w5 w.heap.size g1 k (addTo L (shareF (x - fsum L k) (fun i => H i - L i) k) 0) := own_congr (own_below hlow hbel4) (fun i _ => by unfold addTo; rw [if_neg (by omega)])
              have hg1r := (hlow.lt g1 rfl).2
              have hbel5 := hbel.trans (hbel4.mono hszr)
              have hsh : ∀ i, i < k → 0 ≤ shareF (x - fsum L k) (fun i => H i - L i) k i ∧ shareF (x - fsum L k) (fun i => H i - L i) k i ≤ 31680 := share_le_all n1 (by omega) (by omega) (fun i _ => by have := HH.out i; omega)
              have Hsh := hide hsh
              clear hlow hgfin hbel4 hbel hsh
              generalize hS : shareF (x - fsum L k) (fun i => H i - L i) k = S at *
              clear hS hgs
              go_wp2_with fail
              obtain ⟨wo, rfl⟩ : ∃ wo : World, wo = wr := ⟨_, rfl⟩
              go_loopw [103] (fun i wr => ∃ j : Nat, j ≤ k ∧ i = .int .i64 j ∧ OwnI wr w.heap.size g1 k (addTo L S j) ∧ OwnI wr wo.heap.size g4 k S ∧ Below w.heap.size w wr) (fun i _ => k - (intOf i).toNat)
              case atStart => exact ⟨0, by omega, rfl, hlo5, ho4, hbel5⟩
              case round =>
                clear hlo5 ho4 hbel5
                obtain ⟨j, hj, rfl, hlow, ho4, hbel⟩ := hrel
                by_cases hlt2 : j < k
                · have a1 := own_cell hlow hlt2
                  have a2 := own_cell ho4 hlt2
                  have a3 := World.ownsRow.frozenAt hlow j
                  have b1 := Hsh.out j hlt2
                  have b2 := HL.out j
                  have b3 := HH.out j
                  rw [show addTo L S j j = L j by unfold addTo; rw [if_neg (by omega)]] at a1
                  have hs := own_store hlow j (.int .i64 (L j + S j))
                  rw [tabV_congr (G := fun i => .int .i64 (addTo L S (j + 1) i)) (fun i _ => by
                    rw [← addTo_succ]
                    unfold upd
                    split <;> rfl)] at hs
                  have hs2 := own_setCell_low ho4 (a := ⟨g1, j, none⟩) (show g1 < wo.heap.size by omega) (.int .i64 (L j + S j))
                  have hb2 := hbel.setCell (p := ⟨g1, j, none⟩) (show w.heap.size ≤ g1 by omega) (.int .i64 (L j + S j))
                  have Hs := hide hs
                  have Hs2 := hide hs2
                  clear hs hs2 hlow ho4
                  go_wp2_with fail
                  go_roundw
                  case rel => exact ⟨j + 1, by omega, by go_num, Hs.out, Hs2.out, hb2⟩
                  case measure => simp [intOf]; omega
                · obtain rfl : j = k := by omega
                  have hfin : OwnI wr w.heap.size g1 j (fun i => L i + S i) := own_congr hlow fun i hi => by unfold addTo; rw [if_pos hi]
                  go_wp2_with fail
                  go_ret2
                  exact ⟨g1, rfl, by rw [HW.out]; exact hfin, hbel⟩
end Go.Proofs.Ytmnbcpinlgklpaa.Bal
