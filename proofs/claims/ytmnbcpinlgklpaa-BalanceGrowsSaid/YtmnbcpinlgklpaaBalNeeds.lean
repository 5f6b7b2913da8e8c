/- Contracts of package balance: needs, Check, Needs. -/
import Derived.Test.YtmnbcpinlgklpaaBal
namespace Go.Proofs.Ytmnbcpinlgklpaa.Bal
open Go.RowKit Go.Frm

def OwnI (w : World) (base g n : Nat) (F : Nat → Int) : Prop := w.ownsRow base 3 1 (.slice (some ⟨g, 0, none⟩) n n) n (tabV n (fun i => .int .i64 (F i)))
def NeedsPost (w : World) (n : Nat) (F : Nat → Int) (e : Ending) (w' : World) : Prop := ∃ g, e = .returned (.slice (some ⟨g, 0, none⟩) n n) ∧ OwnI w' w.heap.size g n F ∧ w.heap.size ≤ g ∧ Below w.heap.size w w'

set_option maxRecDepth 100000 in
set_option maxHeartbeats 2000000 in
theorem needs_ok (C : Cls) (n : Nat) (A : Option Addr) (c : Nat) (fid : Nat) (of : Nat → Int) (w : World) (hvc : VC C n) (hr : RdF w A C.N 4 (clf C)) (ho : ∀ j, j < C.N → 0 ≤ of j ∧ of j ≤ 3000)
    (hf : fid = 43 ∨ fid = 44)
    (hcall : ∀ (wx : World) (j : Nat), Calls Try.prog fid #[cellV C j] wx fun e w' => e = .returned (.int .i64 (of j)) ∧ Below wx.heap.size wx w') :
    Calls Try.prog 42 #[.int .i64 n, .slice A C.N c, .func (.func fid) #[] #[]] w (NeedsPost w n (allS C of n)) := by
  have n1 := hvc.n1
  have n8 := hvc.n8
  have hN := hvc.few
  have Hv := hide hvc
  have Ho := hide ho
  have Hcall := hide hcall
  clear hvc ho hcall
  go_enter Try.func42, Try.ntmps42
  go_wp2_with (at_make; refine wpL_make1 (base := w.heap.size) rfl rfl Try.underlying29 int_info rfl rfl rfl rfl rfl (by omega) (by omega) (Nat.le_refl _) ?_; intro w1 hown1 hgrow1)
  have hbel1 : Below w.heap.size w w1 := below_made (Below.refl _ _) (Nat.le_refl _) hgrow1
  clear hgrow1
  have hown1' : OwnI w1 w.heap.size w.heap.size n (allS C of 0) := hown1
  clear hown1
  generalize hB : w.heap.size = B at *
  have hBw : B ≤ w1.heap.size := hB ▸ hbel1.size
  go_loopw [8] (fun i wr => ∃ s : Nat, s ≤ n ∧ i = .int .i64 ((s : Int) + 1) ∧ OwnI wr B B n (allS C of s) ∧ Below B w wr) (fun i _ => n + 1 - (intOf i).toNat)
  case atStart => exact ⟨0, by omega, rfl, hown1', hbel1⟩
  case round =>
    obtain ⟨s, hs, rfl, hown, hbel⟩ := hrel
    clear hown1' hbel1
    by_cases hlt : s < n
    · have hd0 : decide ((s : Int) + 1 ≤ (n : Int)) = true := by simp; omega
      go_wp2_with fail
      clear hd0
      obtain ⟨wo, rfl⟩ : ∃ wo : World, wo = wr := ⟨_, rfl⟩
      go_loopw [22] (fun i wx => ∃ k : Nat, k ≤ C.N ∧ i = .int .i64 k ∧ OwnI wx B B n (rowS C of (s + 1) (allS C of s) k) ∧ Below B w wx) (fun i _ => C.N - (intOf i).toNat)
      case atStart => exact ⟨0, by omega, rfl, hown, hbel⟩
      case round =>
        clear hown hbel
        obtain ⟨k, hk, rfl, hown, hbel⟩ := hrel
        have hsz : B ≤ wr.heap.size := by have := hbel.size; omega
        by_cases hlt2 : k < C.N
        · obtain ⟨b, off, rfl, hc⟩ := (hr.below (hB ▸ hbel)).at_ hlt2
          have c0 : wr.cell? ⟨b, off + k * 4, none⟩ = some (.int .i64 (C.at_ k)) := hc 0 (by omega)
          have c1 : wr.cell? ⟨b, off + k * 4 + 1, none⟩ = some (.int .i64 (C.sp k)) := hc 1 (by omega)
          have c2 : wr.cell? ⟨b, off + k * 4 + 2, none⟩ = some (.int .i64 (C.lo k)) := hc 2 (by omega)
          have c3 : wr.cell? ⟨b, off + k * 4 + 3, none⟩ = some (.int .i64 (C.hi k)) := hc 3 (by omega)
          clear hc
          by_cases hsp : C.sp k = s + 1
          · have hsp' : ((C.sp k : Int) == (s : Int) + 1) = true := by simp; omega
            obtain ⟨v1, v2⟩ := Hv.out.cols k hlt2
            have o1 := Ho.out k hlt2
            have hF := rowS_all_bd (of := of) Hv.out.few (fun j hj => (Ho.out j hj).2) (show s < 8 by omega) hk
            have hF' := hide hF
            clear hF
            have hoa := World.ownsRow.alloc hown (.cells #[.int .i64 (C.at_ k), .int .i64 ((s : Int) + 1), .int .i64 (C.lo k), .int .i64 (C.hi k)] 80)
            have hcv : cellV C k = .agg #[.int .i64 (C.at_ k), .int .i64 ((s : Int) + 1), .int .i64 (C.lo k), .int .i64 (C.hi k)] := by unfold cellV; rw [hsp]; rfl
            have hcl := fun wx => Hcall.out wx k
            rw [hcv] at hcl
            have Hcl := hide hcl
            have hba := hbel.alloc hsz (.cells #[.int .i64 (C.at_ k), .int .i64 ((s : Int) + 1), .int .i64 (C.lo k), .int .i64 (C.hi k)] 80)
            clear hcl hcv hown
            rcases hf with rfl | rfl
            all_goals
              go_wp2_with fail
              refine (Hcl.out _).mono ?_
              rintro e w4 ⟨rfl, hbel4⟩
              have ho4 := own_below hoa hbel4
              have hb4 := hba.trans (hbel4.mono (by have := hba.size; omega))
              have hsz4 : B ≤ w4.heap.size := by have := hb4.size; omega
              clear hbel4 hoa hba
              have hlen : C.at_ k + (s + 1) - C.at_ k = s + 1 := by omega
              rw [hlen]
              clear hlen
              go_wp2_with fail
              refine (sum_ok _ _ (s + 1) (fun i => rowS C of (s + 1) (allS C of s) k (C.at_ k + i)) _ (rdI_win ho4 (by omega)) (by omega) (fun i _ => by have := hF'.out (C.at_ k + i); omega)).mono ?_
              rintro e w5 ⟨rfl, rfl⟩
              have hws := wsum_bd (a := C.at_ k) (len := s + 1) hF'.out
              have hcell : cellS C of (s + 1) (rowS C of (s + 1) (allS C of s) k) k = if wsum (rowS C of (s + 1) (allS C of s) k) (C.at_ k) (s + 1) < of k then spr (rowS C of (s + 1) (allS C of s) k) (C.at_ k) (s + 1) (of k - wsum (rowS C of (s + 1) (allS C of s) k) (C.at_ k) (s + 1)) (s + 1) else rowS C of (s + 1) (allS C of s) k := by
                unfold cellS
                rw [hsp]
                simp
              change 0 ≤ fsum (fun i => rowS C of (s + 1) (allS C of s) k (C.at_ k + i)) (s + 1) ∧ fsum (fun i => rowS C of (s + 1) (allS C of s) k (C.at_ k + i)) (s + 1) ≤ _ at hws
              unfold wsum at hcell
              generalize hwf : fsum (fun i => rowS C of (s + 1) (allS C of s) k (C.at_ k + i)) (s + 1) = ws at *
              have Hcell := hide hcell
              clear hcell hwf
              by_cases hmiss : ws < of k
              · have hd : decide (0 < of k - ws) = true := by simp; omega
                go_wp2_with fail
                refine (spread_ok B B B n n (C.at_ k) (s + 1) _ (rowS C of (s + 1) (allS C of s) k) (of k - ws) _ ho4 (Nat.le_refl _) (by omega) (by omega) (by omega) (fun i => by have := hF'.out i; omega) (by omega) (by omega)).mono ?_
                rintro e w6 ⟨rfl, ho6, hbel6⟩
                go_wp2_with fail
                go_roundw
                case rel => exact ⟨k + 1, by omega, by go_num, by show OwnI _ B B n (cellS C of (s + 1) (rowS C of (s + 1) (allS C of s) k) k); rw [Hcell.out, if_pos hmiss]; exact ho6, hb4.trans hbel6⟩
                case measure => simp [intOf]; omega
              · have hd : decide (0 < of k - ws) = false := by simp; omega
                have hd' : decide (ws < of k) = false := by simp; omega
                go_wp2_with fail
                go_roundw
                case rel => exact ⟨k + 1, by omega, by go_num, by show OwnI _ B B n (cellS C of (s + 1) (rowS C of (s + 1) (allS C of s) k) k); rw [Hcell.out, if_neg (by omega)]; exact ho4, hb4⟩
                case measure => simp [intOf]; omega
          · have hsp' : ((C.sp k : Int) == (s : Int) + 1) = false := by simp; omega
            have hd : cellS C of (s + 1) (rowS C of (s + 1) (allS C of s) k) k = rowS C of (s + 1) (allS C of s) k := by unfold cellS; rw [if_neg (by omega)]
            have Hd := hide hd
            clear hd
            go_wp2_with fail
            go_roundw
            case rel => exact ⟨k + 1, by omega, by go_num, by show OwnI _ B B n (cellS C of (s + 1) (rowS C of (s + 1) (allS C of s) k) k); rw [Hd.out]; exact World.ownsRow.alloc hown _, hbel.alloc hsz _⟩
            case measure => simp [intOf]; omega
        · obtain rfl : k = C.N := by omega
          go_wp2_with fail
          go_roundw
          case rel => exact ⟨s + 1, by omega, by go_num, hown, hbel⟩
          case measure => simp [intOf]; omega
    · obtain rfl : s = n := by omega
      go_wp2_with fail
      go_ret
      exact ⟨B, rfl, by rw [hB]; exact hown, by omega, by rw [hB]; exact hbel⟩
end Go.Proofs.Ytmnbcpinlgklpaa.Bal
