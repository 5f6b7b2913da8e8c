/- Contracts of package chart: Check, Sectors. -/
import Derived.Test.YtoggpbbndoipdaaProg
import Derived.Test.YtoggpbbndoipdaaSlices
namespace Go.Proofs.Ytoggpbbndoipdaa.Chr
open Go.RowKit Go.Frm

theorem int_info : (Try.prog.info? 3).map (fun i => (i.zero, i.size, i.bytes)) = some (some (.int .i64 0), 1, 8) := by kernel_rfl
/-- what makes a chart valid -/
structure Ch (kind : Int) (n m : Nat) (rows : Nat → List Int) : Prop where
  k0 : 0 ≤ kind
  k1 : kind ≤ 3
  n0 : 1 ≤ n
  n1 : n ≤ 200
  m0 : 1 ≤ m
  m1 : m ≤ 12
  one : kind = 3 → m = 1
  len : ∀ i, i < m → (rows i).length = n
  val : ∀ i j, i < m → j < n → -83333333333 ≤ ix (rows i) j ∧ ix (rows i) j ≤ 83333333333 ∧ (kind = 1 ∨ kind = 3 → 0 ≤ ix (rows i) j)

set_option maxRecDepth 100000 in
set_option maxHeartbeats 2000000 in
theorem check_ok (kind : Int) (An As : Option Addr) (n cn m cs : Nat) (rows : Nat → List Int) (w : World) (h : Ch kind n m rows) (hr : RdM w As m rows) :
    Calls Try.prog 13 #[.agg #[.int .i64 kind, .slice An n cn, .slice As m cs]] w fun e w' => e = .returned (.int .i64 0) ∧ Below w.heap.size w w' := by
  obtain ⟨k0, k1, n0, n1, m0, m1, one, len, val⟩ := h
  have Len := hide len
  have Val := hide val
  clear len val
  have hn0 : ((n : Int) == 0) = false := by simp; omega
  have hm0 : ((m : Int) == 0) = false := by simp; omega
  have hd : (kind = 3 ∧ m ≤ 1) ∨ kind = 1 ∨ ((kind == 3) = false ∧ (kind == 1) = false) := by
    by_cases h3 : kind = 3
    · exact .inl ⟨h3, by have := one h3; omega⟩
    · by_cases h1 : kind = 1
      · exact .inr (.inl h1)
      · exact .inr (.inr ⟨by simpa using h3, by simpa using h1⟩)
  clear one
  have hbel : Below w.heap.size w (w.alloc (.cells #[.int .i64 kind, .slice An n cn, .slice As m cs] 25)) := (Below.refl _ _).alloc (Nat.le_refl _) _
  have hc0 : (w.alloc (.cells #[.int .i64 kind, .slice An n cn, .slice As m cs] 25)).cell? ⟨w.heap.size, 0, none⟩ = some (.int .i64 kind) := by simp
  have hc1 : (w.alloc (.cells #[.int .i64 kind, .slice An n cn, .slice As m cs] 25)).cell? ⟨w.heap.size, 1, none⟩ = some (.slice An n cn) := by simp
  have hr0 := hr.alloc (.cells #[.int .i64 kind, .slice An n cn, .slice As m cs] 25)
  rcases hd with ⟨rfl, hm1⟩ | rfl | ⟨q3, q1⟩
  all_goals
    go_enter Try.func13, Try.ntmps13
    go_wp2_with fail
    generalize w.alloc (.cells #[.int .i64 _, .slice An n cn, .slice As m cs] 25) = w0 at *
    go_loop [47] (fun i => ∃ k : Nat, k ≤ m ∧ i = .int .i64 k) (fun i => m - (intOf i).toNat)
    case atStart => exact ⟨0, by omega, rfl⟩
    case round =>
      obtain ⟨k, hk, rfl⟩ := hrel
      by_cases hlt : k < m
      · obtain ⟨b, off, Ai, ci, rfl, hc, hri⟩ := hr0.at_ hlt
        have hl := Len.out k hlt
        rw [hl] at hc
        have Hl := hide hl
        clear hl
        go_wp2_with fail
        go_loop [59] (fun i => ∃ j : Nat, j ≤ n ∧ i = .int .i64 j) (fun i => n - (intOf i).toNat)
        case atStart => exact ⟨0, by omega, rfl⟩
        case round =>
          obtain ⟨j, hj, rfl⟩ := hrel
          by_cases hlt2 : j < n
          · obtain ⟨b2, off2, rfl, hc2⟩ := hri.at_ (show j < _ by rw [Hl.out]; exact hlt2)
            have v1 := (Val.out k j hlt hlt2).1
            have v2 := (Val.out k j hlt hlt2).2.1
            have v3 := (Val.out k j hlt hlt2).2.2
            have V3 := hide v3
            clear v3
            by_cases hv : ix (rows k) j < 0
            · first
                | (exfalso; have h9 := V3.out; simp at h9; omega)
                | (go_wp2
                   go_round
                   case rel => exact ⟨j + 1, by omega, by go_num⟩
                   case measure => simp [intOf]; omega)
            · go_wp2
              go_round
              case rel => exact ⟨j + 1, by omega, by go_num⟩
              case measure => simp [intOf]; omega
          · go_wp2
            go_round
            case rel => exact ⟨k + 1, by omega, by go_num⟩
            case measure => simp [intOf]; omega
      · go_wp2
        go_ret
        exact ⟨rfl, hbel⟩
end Go.Proofs.Ytoggpbbndoipdaa.Chr
