/- The contract of chart.Sectors. -/
import Derived.Test.YtoggpbbndoipdaaChart
namespace Go.Proofs.Ytoggpbbndoipdaa.Chr
open Go.RowKit Go.Frm

/-- the sum of the first k numbers -/
def psum (zs : List Int) : Nat → Int
  | 0 => 0
  | k + 1 => psum zs k + ix zs k
theorem psum_succ (zs : List Int) (k : Nat) : psum zs (k + 1) = psum zs k + ix zs k := rfl
theorem psum_bd (zs : List Int) (M : Int) (n : Nat) (hv : ∀ j, j < n → 0 ≤ ix zs j ∧ ix zs j ≤ M) : ∀ k, k ≤ n → 0 ≤ psum zs k ∧ psum zs k ≤ k * M := by
  intro k
  induction k with
  | zero => intro _; simp [psum]
  | succ k ih =>
    intro hk
    have h1 := ih (by omega)
    have h2 := hv k (by omega)
    have h3 : ((k + 1 : Nat) : Int) * M = k * M + M := by rw [Int.natCast_add, Int.add_mul]; simp
    rw [psum_succ, h3]
    omega
theorem psum_mono (zs : List Int) (n : Nat) (hv : ∀ j, j < n → 0 ≤ ix zs j) : ∀ k, k ≤ n → psum zs k ≤ psum zs n := by
  intro k hk
  induction n with
  | zero => have : k = 0 := by omega
            subst this; omega
  | succ n ih =>
    by_cases h : k = n + 1
    · subst h; omega
    · have h1 := ih (fun j hj => hv j (by omega)) (by omega)
      have h2 := hv n (by omega)
      rw [psum_succ]
      omega
/-- where the sum S ends on the circle -/
def ends (all S : Int) : Int := if 0 < all then (2 * S * 3600 + all) / (2 * all) else 0
def from_ (zs : List Int) (all : Int) : Nat → Int
  | 0 => 0
  | i + 1 => ends all (psum zs (i + 1))
def sec (zs : List Int) (all : Int) (i : Nat) : Nat → Int
  | 0 => (i : Int)
  | 1 => from_ zs all i
  | _ => ends all (psum zs (i + 1))
def secv (zs : List Int) (all : Int) (i j : Nat) : Value := .int .i64 (sec zs all i j)
theorem sec_row (zs : List Int) (all : Int) (j : Nat) : (List.range 3).map (secv zs all j) = [.int .i64 (j : Int), .int .i64 (from_ zs all j), .int .i64 (ends all (psum zs (j + 1)))] := rfl
theorem sector_info : (Try.prog.info? 50).map (fun i => (i.zero, i.size, i.bytes)) = some (some (.agg #[.int .i64 0, .int .i64 0, .int .i64 0]), 3, 24) := by kernel_rfl

set_option maxRecDepth 100000 in
set_option maxHeartbeats 2000000 in
theorem sectors_ok (An As : Option Addr) (n cn cs : Nat) (rows : Nat → List Int) (w : World) (h : Ch 3 n 1 rows) (hr : RdM w As 1 rows) :
    Calls Try.prog 12 #[.agg #[.int .i64 3, .slice An n cn, .slice As 1 cs]] w fun e w' => ∃ A c, e = .returned (.tuple #[.slice A n c, .int .i64 0]) ∧
      w'.ownsRow w.heap.size 50 3 (.slice A n c) n (rowF n 3 (secv (rows 0) (psum (rows 0) n))) ∧ Below w.heap.size w w' := by
  have H := hide h
  obtain ⟨_, _, n0, n1, _, _, _, len, val⟩ := h
  have hl := len 0 (by omega)
  have hv : ∀ j, j < n → 0 ≤ ix (rows 0) j ∧ ix (rows 0) j ≤ 83333333333 := fun j hj => ⟨(val 0 j (by omega) hj).2.2 (.inr rfl), (val 0 j (by omega) hj).2.1⟩
  clear len val
  have hpb := psum_bd (rows 0) 83333333333 n hv
  have hpm := psum_mono (rows 0) n (fun j hj => (hv j hj).1)
  have Hv := hide hv
  have Hpb := hide hpb
  have Hpm := hide hpm
  have Hl := hide hl
  clear hv hpb hpm hl
  go_enter Try.func12, Try.ntmps12
  go_wp2_with fail
  have hr0 := hr.alloc (.cells #[.int .i64 3, .slice An n cn, .slice As 1 cs] 25)
  refine (check_ok 3 An As n cn 1 cs rows _ H.out hr0).mono ?_
  rintro e w1 ⟨rfl, hb1⟩
  have hr1 := hr0.below hb1
  have k0 : w1.cell? ⟨w.heap.size, 0, none⟩ = some (.int .i64 3) := by rw [hb1.cell (by simp)]; simp
  have k2 : w1.cell? ⟨w.heap.size, 2, none⟩ = some (.slice As 1 cs) := by rw [hb1.cell (by simp)]; simp
  have hbel : Below w.heap.size w w1 := (((Below.refl _ _).alloc (Nat.le_refl _) _).trans (hb1.mono (by simp)))
  have hsz : w.heap.size < w1.heap.size := by have := hb1.size; simp at this; omega
  clear hb1 hr0
  obtain ⟨b, off, Ai, ci, rfl, hc, hri⟩ := hr1.at_ (show 0 < 1 by omega)
  simp only [Nat.add_zero] at hc
  rw [Hl.out] at hc
  go_wp2_with fail
  go_loop [5, 27] (fun v i => ∃ k : Nat, k ≤ n ∧ i = .int .i64 k ∧ v = .int .i64 (psum (rows 0) k)) (fun _ i => n - (intOf i).toNat)
  case atStart => exact ⟨0, by omega, rfl, rfl⟩
  case round =>
    obtain ⟨k, hk, rfl, rfl⟩ := hrel
    have hp := Hpb.out k hk
    by_cases hlt : k < n
    · obtain ⟨b2, off2, rfl, hc2⟩ := hri.at_ (show k < _ by rw [Hl.out]; exact hlt)
      have hv := Hv.out k hlt
      go_wp2_with fail
      go_round
      case rel => exact ⟨k + 1, by omega, by go_num, rfl⟩
      case measure => simp [intOf]; omega
    · obtain rfl : k = n := by omega
      obtain ⟨hp1, hp2⟩ := hp
      clear k0
      go_wp2_with fail
      have K2 := hide k2
      clear k2
      have Hc := hide hc
      clear hc
      generalize hall : psum (rows 0) k = all at *
      have Hall := hide hall
      clear hall
      go_loopw [8, 9, 10, 40] (fun v s f i wr => ∃ j : Nat, j ≤ k ∧ i = .int .i64 j ∧ s = .int .i64 (psum (rows 0) j) ∧ f = .int .i64 (from_ (rows 0) all j) ∧
        wr.ownsRow w1.heap.size 50 3 v j (rowF j 3 (secv (rows 0) all)) ∧ Below w1.heap.size w1 wr) (fun _ _ _ i _ => k - (intOf i).toNat)
      case atStart => exact ⟨0, by omega, rfl, rfl, rfl, World.ownsRow_nil _ _ _ _, Below.refl _ _⟩
      case round =>
        obtain ⟨j, hj, rfl, rfl, rfl, hown, hbel1⟩ := hrel
        have hsz1 := hbel1.size
        by_cases hlt : j < k
        · obtain ⟨b2, off2, rfl, hc2⟩ := (hri.below hbel1).at_ (show j < _ by rw [Hl.out]; exact hlt)
          have hv := Hv.out j hlt
          have hp := Hpb.out (j + 1) (by omega)
          have hpm := Hpm.out (j + 1) (by omega)
          rw [psum_succ] at hp hpm
          by_cases hpos : 0 < all
          · have hn : ((2 * all : Int) == 0) = false := by simp; omega
            have e3 : ends all (psum (rows 0) (j + 1)) = (2 * (psum (rows 0) j + ix (rows 0) j) * 3600 + all) / (2 * all) := if_pos hpos
            have E3 := hide e3
            clear e3
            have d0 : 0 ≤ (2 * (psum (rows 0) j + ix (rows 0) j) * 3600 + all) / (2 * all) := Int.ediv_nonneg (by omega) (by omega)
            go_wp2_with (at_builtin; refine wpL_append rfl rfl Try.underlying46 sector_info rfl (by decide) rfl rfl (hown.alloc _) (news_at _ _ _ _ (by simp)) rfl (by simp [Value.oneCell']) (by omega) (by omega) (by simp; omega) ?_; intro v1 w2 hown1 hgrow1)
            go_roundw
            case rel => exact ⟨j + 1, by omega, by go_num, rfl, val_int E3.out.symm, by rw [rowF_succ, sec_row, E3.out]; exact hown1, below_app (hbel1.alloc hsz1 _) (by simp; omega) (hown.alloc _) hgrow1⟩
            case measure => simp [intOf]; omega
          · have e3 : ends all (psum (rows 0) (j + 1)) = 0 := if_neg hpos
            have E3 := hide e3
            clear e3
            go_wp2_with (at_builtin; refine wpL_append rfl rfl Try.underlying46 sector_info rfl (by decide) rfl rfl (hown.alloc _) (news_at _ _ _ _ (by simp)) rfl (by simp [Value.oneCell']) (by omega) (by omega) (by simp; omega) ?_; intro v1 w2 hown1 hgrow1)
            go_roundw
            case rel => exact ⟨j + 1, by omega, by go_num, rfl, val_int E3.out.symm, by rw [rowF_succ, sec_row, E3.out]; exact hown1, below_app (hbel1.alloc hsz1 _) (by simp; omega) (hown.alloc _) hgrow1⟩
            case measure => simp [intOf]; omega
        · obtain rfl : j = k := by omega
          obtain ⟨A, c, rfl⟩ := own_form hown
          go_wp2_with fail
          go_ret2
          exact ⟨A, c, rfl, by rw [Hall.out]; exact ownsRow_less hown (by omega), hbel.trans (hbel1.mono (by omega))⟩
end Go.Proofs.Ytoggpbbndoipdaa.Chr
