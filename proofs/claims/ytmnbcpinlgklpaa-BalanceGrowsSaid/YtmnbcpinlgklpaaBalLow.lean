/- Contracts of package balance: Check, Needs. -/
import Derived.Test.YtmnbcpinlgklpaaBalNeeds
namespace Go.Proofs.Ytmnbcpinlgklpaa.Bal
open Go.RowKit Go.Frm

set_option maxRecDepth 100000 in
set_option maxHeartbeats 2000000 in
theorem check_ok (C : Cls) (n : Nat) (A : Option Addr) (c : Nat) (w : World) (hvc : VC C n) (hr : RdF w A C.N 4 (clf C)) :
    Calls Try.prog 41 #[.int .i64 n, .slice A C.N c] w fun e w' => e = .returned (.int .i64 0) ∧ Below w.heap.size w w' := by
  have n1 := hvc.n1
  have n8 := hvc.n8
  have hN := hvc.few
  have Hv := hide hvc
  clear hvc
  go_enter Try.func41, Try.ntmps41
  go_wp2_with fail
  go_loopw [18] (fun i wr => ∃ k : Nat, k ≤ C.N ∧ i = .int .i64 k ∧ Below w.heap.size w wr) (fun i _ => C.N - (intOf i).toNat)
  case atStart => exact ⟨0, by omega, rfl, Below.refl _ _⟩
  case round =>
    obtain ⟨k, hk, rfl, hbel⟩ := hrel
    have hsz := hbel.size
    by_cases hlt : k < C.N
    · obtain ⟨b, off, rfl, hc⟩ := (hr.below hbel).at_ hlt
      have c0 : wr.cell? ⟨b, off + k * 4, none⟩ = some (.int .i64 (C.at_ k)) := hc 0 (by omega)
      have c1 : wr.cell? ⟨b, off + k * 4 + 1, none⟩ = some (.int .i64 (C.sp k)) := hc 1 (by omega)
      have c2 : wr.cell? ⟨b, off + k * 4 + 2, none⟩ = some (.int .i64 (C.lo k)) := hc 2 (by omega)
      have c3 : wr.cell? ⟨b, off + k * 4 + 3, none⟩ = some (.int .i64 (C.hi k)) := hc 3 (by omega)
      clear hc
      obtain ⟨v1, v2⟩ := Hv.out.cols k hlt
      obtain ⟨l1, l2⟩ := Hv.out.lo k hlt
      obtain ⟨m1, m2⟩ := Hv.out.hi k hlt
      have d1 : decide ((n : Int) ≤ C.at_ k) = false := by simp; omega
      have d2 : decide ((C.sp k : Int) < 1) = false := by simp; omega
      have d3 : decide ((n : Int) - C.at_ k < C.sp k) = false := by simp; omega
      have d4 : decide (C.lo k < 0) = false := by simp; omega
      have d5 : decide (31680 < C.lo k) = false := by simp; omega
      have d6 : decide (C.hi k < 0) = false := by simp; omega
      have d7 : decide (31680 < C.hi k) = false := by simp; omega
      have d8 : decide ((C.at_ k : Int) < 0) = false := by simp
      go_wp2_with fail
      go_roundw
      case rel => exact ⟨k + 1, by omega, by go_num, hbel.alloc hsz _⟩
      case measure => simp [intOf]; omega
    · go_wp2_with fail
      go_ret
      exact ⟨rfl, hbel⟩

def highTo (C : Cls) (n k : Nat) : Nat → Int := fun i => if i < k then highF C n i else allS C (wantF C) n i
theorem highTo_succ (C : Cls) (n k : Nat) : upd (highTo C n k) k (highF C n k) = highTo C n (k + 1) := by
  funext i
  unfold upd highTo
  by_cases h : i = k
  · rw [if_pos h, if_pos (by omega), h]
  · rw [if_neg h]
    by_cases h2 : i < k
    · rw [if_pos h2, if_pos (by omega)]
    · rw [if_neg h2, if_neg (by omega)]
/-- what is told of the two needs -/
def NPost (w : World) (C : Cls) (n : Nat) (e : Ending) (w' : World) : Prop := ∃ g1 g2, e = .returned (.tuple #[.slice (some ⟨g1, 0, none⟩) n n, .slice (some ⟨g2, 0, none⟩) n n, .int .i64 0]) ∧
  OwnI w' w.heap.size g1 n (lowF C n) ∧ OwnI w' w.heap.size g2 n (highF C n) ∧ w.heap.size ≤ g1 ∧ g1 < g2 ∧ Below w.heap.size w w'

set_option maxRecDepth 100000 in
set_option maxHeartbeats 2000000 in
theorem low_high (C : Cls) (n : Nat) (A : Option Addr) (c : Nat) (w : World) (hvc : VC C n) (hr : RdF w A C.N 4 (clf C)) :
    Calls Try.prog 29 #[.int .i64 n, .slice A C.N c] w (NPost w C n) := by
  have n1 := hvc.n1
  have n8 := hvc.n8
  have hN := hvc.few
  have Hv := hide hvc
  clear hvc
  go_enter Try.func29, Try.ntmps29
  go_wp2_with fail
  refine (check_ok C n A c w Hv.out hr).mono ?_
  rintro e w1 ⟨rfl, hbel1⟩
  have hr1 := hr.below hbel1
  go_wp2_with fail
  refine (needs_ok C n A c 43 C.lo w1 Hv.out hr1 (fun j hj => by have := Hv.out.lo j hj; omega) (.inl rfl) (fun wx j => want_low C wx j)).mono ?_
  rintro e w2 ⟨g1, rfl, ho2, hg1, hbel2⟩
  have hr2 := hr1.below hbel2
  go_wp2_with fail
  refine (needs_ok C n A c 44 (wantF C) w2 Hv.out hr2 (fun j hj => by have := Hv.out.lo j hj; have := Hv.out.hi j hj; unfold wantF; omega) (.inr rfl) (fun wx j => want_high C wx j)).mono ?_
  rintro e w3 ⟨g2, rfl, ho3, hg2, hbel3⟩
  have hg12 : g1 < w2.heap.size := (ho2.lt g1 rfl).2
  have hlow := own_below ho2 hbel3
  have hbel := (hbel1.trans (hbel2.mono hbel1.size)).trans (hbel3.mono (by have := hbel1.size; have := hbel2.size; omega))
  have hs1 := hbel1.size
  have hs2 := hbel2.size
  have hlow' : OwnI w3 w.heap.size g1 n (lowF C n) := ownsRow_less hlow hs1
  have hhigh : OwnI w3 w.heap.size g2 n (highTo C n 0) := ownsRow_less ho3 (by omega)
  clear hlow ho2 ho3 hbel1 hbel2 hbel3 hr hr1 hr2
  go_wp2_with fail
  go_loopw [25] (fun i wr => ∃ k : Nat, k ≤ n ∧ i = .int .i64 k ∧ OwnI wr w.heap.size g1 n (lowF C n) ∧ OwnI wr w.heap.size g2 n (highTo C n k) ∧ Below w.heap.size w wr) (fun i _ => n - (intOf i).toNat)
  case atStart => exact ⟨0, by omega, rfl, hlow', hhigh, hbel⟩
  case round =>
    clear hlow' hhigh hbel
    obtain ⟨k, hk, rfl, hlow, hhigh, hbel⟩ := hrel
    by_cases hlt : k < n
    · have a1 := own_cell hlow hlt
      have a2 := own_cell hhigh hlt
      have a3 := World.ownsRow.frozenAt hhigh k
      have hx : highTo C n k k = allS C (wantF C) n k := by unfold highTo; rw [if_neg (by omega)]
      have hsz := hbel.size
      rw [hx] at a2
      have hm : highF C n k = max (allS C (wantF C) n k) (lowF C n k) := rfl
      have b1 := want_bd Hv.out k
      have b2 := low_bd Hv.out k
      generalize hq1 : allS C (wantF C) n k = p at *
      generalize hq2 : lowF C n k = q at *
      clear hq1 hq2 hx
      have hs := own_store hhigh k (.int .i64 (highF C n k))
      rw [tabV_congr (G := fun i => .int .i64 (highTo C n (k + 1) i)) (fun i _ => by
          rw [← highTo_succ]
          unfold upd
          split <;> rfl)] at hs
      have hl2 := ownsRow_setCell_other hlow (a := ⟨g2, k, none⟩) (by simp [Value.ownBlock]; omega) (.int .i64 (highF C n k))
      rw [hm] at hs hl2
      have hb2 := hbel.setCell (p := ⟨g2, k, none⟩) (show w.heap.size ≤ g2 by omega) (.int .i64 (max p q))
      rcases Int.lt_trichotomy p q with hpq | hpq | hpq
      · rw [show max p q = q by omega] at hs hl2 hb2
        have Hs := hide hs
        have Hl2 := hide hl2
        clear hs hl2 hlow hhigh
        go_wp2_with fail
        go_region
        go_wp2_with fail
        go_roundw
        case rel => exact ⟨k + 1, by omega, by go_num, Hl2.out, Hs.out, hb2.drew⟩
        case measure => simp [intOf]; omega
      · rw [show max p q = p by omega] at hs hl2 hb2
        subst hpq
        have Hs := hide hs
        have Hl2 := hide hl2
        clear hs hl2 hlow hhigh
        go_wp2_with fail
        go_region
        go_wp2_with fail
        go_roundw
        case rel => exact ⟨k + 1, by omega, by go_num, Hl2.out, Hs.out, hb2.drew⟩
        case measure => simp [intOf]; omega
      · rw [show max p q = p by omega] at hs hl2 hb2
        have Hs := hide hs
        have Hl2 := hide hl2
        clear hs hl2 hlow hhigh
        go_wp2_with fail
        go_region
        go_wp2_with fail
        go_roundw
        case rel => exact ⟨k + 1, by omega, by go_num, Hl2.out, Hs.out, hb2.drew⟩
        case measure => simp [intOf]; omega
    · obtain rfl : k = n := by omega
      have hfin : OwnI wr w.heap.size g2 k (highF C k) := by
        have he : tabV k (fun i => Value.int .i64 (highTo C k k i)) = tabV k (fun i => .int .i64 (highF C k i)) := tabV_congr fun i hi => by unfold highTo; rw [if_pos hi]
        unfold OwnI at hhigh ⊢
        rw [he] at hhigh
        exact hhigh
      go_wp2_with fail
      refine bodyPost_ret (v := .tuple #[.slice (some ⟨g1, 0, none⟩) k k, .slice (some ⟨g2, 0, none⟩) k k, .int .i64 0]) (by simp [results, Try.results29, go_sem]) rfl ?_
      exact ⟨g1, g2, rfl, hlow, hfin, by omega, by omega, hbel⟩
end Go.Proofs.Ytmnbcpinlgklpaa.Bal
