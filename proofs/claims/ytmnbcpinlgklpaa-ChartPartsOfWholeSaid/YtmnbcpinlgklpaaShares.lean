/- The contract of chart.Shares. -/
import Derived.Test.YtmnbcpinlgklpaaSharesPlain
namespace Go.Proofs.Ytmnbcpinlgklpaa.Chr
open Go.RowKit Go.Frm

theorem bool_info : (Try.prog.info? 4).map (fun i => (i.zero, i.size, i.bytes)) = some (some (.bool false), 1, 1) := by kernel_rfl

theorem cnt_none (j : Nat) : cnt (fun _ => false) j = 0 := by
  unfold cnt
  exact (fsum_congr (G := fun _ => 0) (fun _ _ => rfl)).trans (by rw [fsum_const]; simp)
def outF (zs : List Int) (all : Int) (j i : Nat) : Int := if i < j then quo zs all i else 0
theorem outF_succ (zs : List Int) (all : Int) (n j : Nat) : tabV n (upd (fun i => Value.int .i64 (outF zs all j i)) j (.int .i64 (quo zs all j))) = tabV n (fun i => .int .i64 (outF zs all (j + 1) i)) := by
  refine tabV_congr fun i _ => ?_
  unfold upd outF
  by_cases h : i = j
  · rw [if_pos h, if_pos (by omega), h]
  · rw [if_neg h]
    show Value.int .i64 (if i < j then quo zs all i else 0) = _
    by_cases h2 : i < j
    · rw [if_pos h2, if_pos (by omega)]
    · rw [if_neg h2, if_neg (by omega)]

def SharesPost (w : World) (n : Nat) (zs : List Int) (e : Ending) (w' : World) : Prop := ∃ (A' : Option Addr) (c' : Nat) (x : Nat → Int), e = .returned (.tuple #[.slice A' n c', .int .i64 0]) ∧
      w'.ownsRow w.heap.size 3 1 (.slice A' n c') n (tabV n (fun i => .int .i64 (x i))) ∧ Shared zs n x ∧ Below w.heap.size w w'

set_option maxRecDepth 100000 in
set_option maxHeartbeats 4000000 in
theorem shares_ok (A : Option Addr) (c n : Nat) (zs : List Int) (w : World) (hr : RdI w A zs) (hl : zs.length = n) (n0 : 1 ≤ n) (n1 : n ≤ 200) (hv : ∀ j, j < n → 0 ≤ ix zs j ∧ ix zs j ≤ 1000) :
    Calls Try.prog 23 #[.slice A n c] w (SharesPost w n zs) := by
  have hpb := psum_bd zs 1000 n hv
  have Hv := hide hv
  have Hpb := hide hpb
  have Hl := hide hl
  clear hv hpb hl
  have hn0 : ((n : Int) == 0) = false := by simp; omega
  go_enter Try.func23, Try.ntmps23
  go_wp2_with fail
  go_loop [4, 23] (fun v i => ∃ k : Nat, k ≤ n ∧ i = .int .i64 k ∧ v = .int .i64 (psum zs k)) (fun _ i => n - (intOf i).toNat)
  case atStart => exact ⟨0, by omega, rfl, rfl⟩
  case round =>
    obtain ⟨k, hk, rfl, rfl⟩ := hrel
    have hp := Hpb.out k hk
    by_cases hlt : k < n
    · obtain ⟨b2, off2, rfl, hc2⟩ := hr.at_ (show k < _ by rw [Hl.out]; exact hlt)
      have hv := Hv.out k hlt
      go_wp2_with fail
      go_round
      case rel => exact ⟨k + 1, by omega, by go_num, rfl⟩
      case measure => simp [intOf]; omega
    · obtain rfl : k = n := by omega
      obtain ⟨hp1, hp2⟩ := hp
      by_cases hall0 : psum zs k = 0
      · have hq : (psum zs k == 0) = true := by simpa using hall0
        have HA := hide hall0
        clear hall0
        go_wp2_with (at_make; refine wpL_make1 (base := w.heap.size) rfl rfl Try.underlying29 int_info rfl rfl rfl rfl rfl (by omega) (by omega) (Nat.le_refl _) ?_; intro w1 hown1 hgrow1)
        go_ret2
        refine ⟨_, _, fun _ => 0, rfl, hown1, ⟨fun _ _ => by omega, fun _ => by rw [fsum_const]; simp, fun h => absurd HA.out h, fun _ _ _ _ _ => Int.le_refl _⟩, below_made (Below.refl _ _) (Nat.le_refl _) hgrow1⟩
      · have hq : (psum zs k == 0) = false := by simpa using hall0
        have hpos : 0 < psum zs k := by omega
        have hn2 : ((psum zs k : Int) == 0) = false := hq
        have HL := left_facts zs k n0 _ rfl hpos
        generalize hall : psum zs k = all at *
        have Hall := hide hall
        clear hall hall0
        have hqb : ∀ j, j < k → 0 ≤ quo zs all j ∧ quo zs all j ≤ 1000000 := fun j hj => by
          have := Hv.out j hj
          refine ⟨Int.ediv_nonneg (by omega) (by omega), ?_⟩
          have := Int.ediv_le_self all (show 0 ≤ 1000 * ix zs j by omega)
          unfold quo
          omega
        have hqs : ∀ j, j ≤ k → 0 ≤ fsum (quo zs all) j ∧ fsum (quo zs all) j ≤ 200000000 := fun j hj => by
          refine ⟨fsum_nonneg fun i hi => (hqb i (by omega)).1, ?_⟩
          have h1 : fsum (quo zs all) j ≤ fsum (fun _ => 1000000) j := fsum_le fun i hi => (hqb i (by omega)).2
          rw [fsum_const] at h1
          omega
        have Hqb := hide hqb
        have Hqs := hide hqs
        clear hqb hqs
        go_wp2_with (at_make; refine wpL_make1 (base := w.heap.size) rfl rfl Try.underlying29 int_info rfl rfl rfl rfl rfl (by omega) (by omega) (Nat.le_refl _) ?_; intro w1 hown1 hgrow1)
        have hbel1 : Below w.heap.size w w1 := below_made (Below.refl _ _) (Nat.le_refl _) hgrow1
        clear hgrow1
        go_loopw [8, 45] (fun v i wr => ∃ j : Nat, j ≤ k ∧ i = .int .i64 j ∧ v = .int .i64 (1000 - fsum (quo zs all) j) ∧
          wr.ownsRow w.heap.size 3 1 (.slice (some ⟨w.heap.size, 0, none⟩) k k) k (tabV k (fun i => .int .i64 (outF zs all j i))) ∧ Below w.heap.size w wr) (fun _ i _ => k - (intOf i).toNat)
        case atStart => exact ⟨0, by omega, rfl, rfl, hown1, hbel1⟩
        case round =>
          obtain ⟨j, hj, rfl, rfl, hown, hbel⟩ := hrel
          have hqj := Hqs.out j hj
          by_cases hlt : j < k
          · obtain ⟨b2, off2, rfl, hc2⟩ := (hr.below hbel).at_ (show j < _ by rw [Hl.out]; exact hlt)
            have hv := Hv.out j hlt
            have hq1 := Hqb.out j hlt
            have hc3 := own_cell hown hlt
            have hz3 := hown.frozenAt j
            have hs := own_store hown j (.int .i64 (quo zs all j))
            have Hs := hide hs
            clear hs
            change 0 ≤ 1000 * ix zs j / all ∧ 1000 * ix zs j / all ≤ 1000000 at hq1
            go_wp2_with fail
            go_roundw
            case rel => exact ⟨j + 1, by omega, by go_num, val_int (by rw [fsum_succ]; show _ = 1000 - (fsum (quo zs all) j + 1000 * ix zs j / all); omega), by rw [← outF_succ]; exact Hs.out, hbel.setCell (Nat.le_refl _) _⟩
            case measure => simp [intOf]; omega
          · obtain rfl : j = k := by omega
            clear hqj
            have hL : 1000 - fsum (quo zs all) j = left0 zs all j := rfl
            rw [hL]
            clear hL
            obtain ⟨L1, L2⟩ := HL
            go_wp2_with (at_make; refine wpL_make1 (base := w.heap.size) rfl rfl Try.underlying87 bool_info rfl rfl rfl rfl rfl (by omega) (by omega) hbel.size ?_; intro w2 hown2 hgrow2)
            have hown3 := own_made hown hgrow2
            have hbel3 := below_made hbel hbel.size hgrow2
            have hg2 : w.heap.size ≤ wr.heap.size := hbel.size
            clear hgrow2 hown hbel hown1 hbel1
            generalize wr.heap.size = g2 at *
            have hst : tabV j (fun i => Value.int .i64 (outF zs all j i)) = tabV j (fun i => .int .i64 (quo zs all i + b2i ((fun _ => false) i))) := tabV_congr fun i hi => by
              show Value.int .i64 (if i < j then quo zs all i else 0) = Value.int .i64 (quo zs all i + b2i false)
              rw [if_pos hi]
              simp [b2i]
            rw [hst] at hown3
            clear hst
            go_loopw [8] (fun v wr => ∃ U : Nat → Bool, v = .int .i64 (left0 zs all j - cnt U j) ∧ 0 ≤ left0 zs all j - cnt U j ∧ Inv zs all j U ∧
              wr.ownsRow w.heap.size 3 1 (.slice (some ⟨w.heap.size, 0, none⟩) j j) j (tabV j (fun i => .int .i64 (quo zs all i + b2i (U i)))) ∧
              wr.ownsRow w.heap.size 4 1 (.slice (some ⟨g2, 0, none⟩) j j) j (tabV j (fun i => .bool (U i))) ∧ Below w.heap.size w wr) (fun v _ => (intOf v).toNat)
            case atStart => exact ⟨fun _ => false, val_int (by rw [cnt_none]; omega), by rw [cnt_none]; omega, inv_start _ _ _, hown3, hown2, hbel3⟩
            case round =>
              obtain ⟨U, rfl, hleft, hinv, hownO, hownU, hbel⟩ := hrel
              have hcn := cnt_nonneg U j
              by_cases hmore : 0 < left0 zs all j - cnt U j
              · go_wp2_with fail
                go_loopw [12, 73] (fun best i wx => ∃ (t d : Nat) (bst : Int), t ≤ j ∧ i = .int .i64 t ∧ best = .int .i64 bst ∧ BestTo zs all U t bst ∧ wx = wr.drewN d) (fun _ i _ => j - (intOf i).toNat)
                case atStart => exact ⟨0, 0, -1, by omega, rfl, rfl, best_start _ _ _, rfl⟩
                case round =>
                  obtain ⟨t, d, bst, ht, rfl, rfl, hbest, rfl⟩ := hrel
                  by_cases hlt2 : t < j
                  · obtain ⟨b2, off2, rfl, hc2⟩ := (hr.below hbel).at_ (show t < _ by rw [Hl.out]; exact hlt2)
                    have hv := Hv.out t hlt2
                    have hu := own_cell hownU hlt2
                    cases hut : U t with
                    | true =>
                      rw [hut] at hu
                      have Hut := hide hut
                      clear hut
                      go_wp2_with fail
                      go_quiet (fail)
                      go_wp2
                      go_roundw
                      case rel => exact ⟨t + 1, _, bst, by omega, by go_num, rfl, best_up hbest Hut.out, rfl⟩
                      case measure => simp [intOf]; omega
                    | false =>
                      rw [hut] at hu
                      have Hut := hide hut
                      clear hut
                      by_cases hneg : bst < 0
                      · obtain rfl : bst = -1 := by
                          rcases hbest with ⟨h, _⟩ | ⟨b, _, h, _⟩
                          · exact h
                          · omega
                        go_wp2_with fail
                        go_quiet (fail)
                        go_wp2
                        go_roundw
                        case rel => exact ⟨t + 1, _, t, by omega, by go_num, rfl, best_first hbest Hut.out, rfl⟩
                        case measure => simp [intOf]; omega
                      · obtain ⟨b, rfl, hbt⟩ : ∃ b : Nat, bst = b ∧ b < t := by
                          rcases hbest with ⟨h, _⟩ | ⟨b, h1, h, _⟩
                          · omega
                          · exact ⟨b, h, h1⟩
                        obtain ⟨b3, off3, h3, hc3⟩ := (hr.below hbel).at_ (show b < _ by rw [Hl.out]; omega)
                        obtain ⟨rfl, rfl⟩ : b2 = b3 ∧ off2 = off3 := by simpa using h3
                        clear h3
                        have hv3 := Hv.out b (by omega)
                        have hd : decide ((b : Int) < 0) = false := by simp
                        have m1 := Int.emod_nonneg (1000 * ix zs t) (show all ≠ 0 by omega)
                        have m2 := Int.emod_nonneg (1000 * ix zs b) (show all ≠ 0 by omega)
                        by_cases hcmp : 1000 * ix zs b % all < 1000 * ix zs t % all
                        · go_wp2_with fail
                          go_quiet (fail)
                          go_wp2
                          go_roundw
                          case rel => exact ⟨t + 1, _, t, by omega, by go_num, rfl, best_new hbest Hut.out hcmp, rfl⟩
                          case measure => simp [intOf]; omega
                        · have hd2 : decide (1000 * ix zs b % all < 1000 * ix zs t % all) = false := by simpa using hcmp
                          go_wp2_with fail
                          go_quiet (fail)
                          go_wp2
                          go_roundw
                          case rel => exact ⟨t + 1, _, b, by omega, by go_num, rfl, best_old hbest Hut.out (Int.not_lt.2 hcmp), rfl⟩
                          case measure => simp [intOf]; omega
                  · obtain rfl : t = j := by omega
                    obtain ⟨b, hb1, rfl, hb2, hb3⟩ := best_end hbest (by omega)
                    have HcU := own_cell hownU hb1
                    have HzU := hownU.frozenAt b
                    have HcO := own_cell hownO hb1
                    have HzO := hownO.frozenAt b
                    rw [hb2] at HcU HcO
                    simp only [b2i, if_false, Bool.false_eq_true, Int.add_zero] at HcO
                    have hqb := Hqb.out b hb1
                    have hne : g2 ≠ w.heap.size := by
                      have := own_ne hownU hownO (by decide)
                      simpa [Value.ownBlock] using this
                    have hne2 := hne.symm
                    have oU := own_store (own_drewN hownU d) b (.bool true)
                    have oO := own_store (own_far (own_drewN hownO d) (own_drewN hownU d) (by decide) b (.bool true)) b (.int .i64 (quo zs all b + 1))
                    have oU2 := own_far oU (own_far (own_drewN hownO d) (own_drewN hownU d) (by decide) b (.bool true)) (by decide) b (.int .i64 (quo zs all b + 1))
                    have eU : tabV t (upd (fun i => Value.bool (U i)) b (.bool true)) = tabV t (fun i => .bool (upd U b true i)) := tabV_congr fun i _ => by
                      unfold upd
                      split <;> rfl
                    have eO : tabV t (upd (fun i => Value.int .i64 (quo zs all i + b2i (U i))) b (.int .i64 (quo zs all b + 1))) = tabV t (fun i => .int .i64 (quo zs all i + b2i (upd U b true i))) := tabV_congr fun i _ => by
                      unfold upd
                      split
                      · rename_i h; rw [h]; rfl
                      · rfl
                    rw [eU] at oU2
                    rw [eO] at oO
                    have hc9 := cnt_upd hb1 hb2
                    have Hc9 := hide hc9
                    have Hb2 := hide hb2
                    clear eU eO oU hc9 hb2
                    go_wp2_with fail
                    go_roundw
                    case rel => exact ⟨upd U b true, val_int (by rw [Hc9.out]; omega), by rw [Hc9.out]; omega, inv_next hinv hb3, oO, oU2, ((below_drewN hbel d).setCell hg2 _).setCell (Nat.le_refl _) _⟩
                    case measure => simp [intOf]; omega
              · go_wp2_with fail
                go_ret2
                exact ⟨_, _, _, rfl, hownO, shared_end Hall.out hpos (fun i hi => (Hv.out i hi).1) hinv (by omega), hbel⟩
end Go.Proofs.Ytmnbcpinlgklpaa.Chr
