/- PROVED HERE: whatever the four numbers, chancerykeep3.ScaleContainsValues returns true. No condition beside those of the given row. -/
import Derived.Test.YtmnbcpinlgklpaaRows
import Derived.Test.YtmnbcpinlgklpaaScaleFind
import Derived.Test.YtmnbcpinlgklpaaWithin
namespace Go.Proofs.Ytmnbcpinlgklpaa.ScaleContainsValuesDone
open Go.RowKit Go.Frm Go.ChangeShapes Go.WideShapes Go.ChangeAt Scl Wi

set_option maxRecDepth 100000 in
set_option maxHeartbeats 4000000 in
theorem walk (x y z t : Int) (w : World) (wx : (Lit.int .i64 x).wf = true) (wy : (Lit.int .i64 y).wf = true) (wz : (Lit.int .i64 z).wf = true) (wt : (Lit.int .i64 t).wf = true) :
    Calls Try.prog 5 #[.int .i64 x, .int .i64 y, .int .i64 z, .int .i64 t] w fun e w' => e = .returned (.bool true) ∧ Below w.heap.size w w' := by
  go_enter Try.func5, Try.ntmps5
  go_wp2_with fail
  refine (marks_ok 0 4 2 2 _ (by omega) (by decide) ⟨by decide, by decide, by decide, by decide, by decide, by decide, by decide, by decide, by decide, by decide⟩).mono ?_
  rintro e w1 ⟨A1, c1, rfl, hown1, hbel1⟩
  have hr1 := RdI.of_own hown1
  go_wp2_with fail
  have hl0 : RdI (w1.alloc (.cells #[.int .i64 0, .int .i64 2, .int .i64 4] 3)) (some ⟨w1.heap.size, 0, none⟩) [0, 2, 4] :=
    RdI.of_own (World.ownsRow_lit (base := 0) (size := 1) w1 _ 3 (by omega) (by decide) rfl)
  have hbel2 : Below w.heap.size w (w1.alloc (.cells #[.int .i64 0, .int .i64 2, .int .i64 4] 3)) := hbel1.alloc hbel1.size _
  refine (equal_any A1 _ c1 3 (marks 0 2 3) [0, 2, 4] _ (hr1.alloc _) hl0 (by decide) (by decide)).mono ?_
  rintro e w2 ⟨rfl, n2, rfl⟩
  rw [show decide (marks 0 2 3 = [0, 2, 4]) = true from by decide]
  have hbel3 := below_drewN hbel2 n2
  generalize (w1.alloc (.cells #[.int .i64 0, .int .i64 2, .int .i64 4] 3)).drewN n2 = w3 at *
  clear hl0 hr1 hown1 hbel2 hbel1
  go_wp2_with fail
  refine (within_any x _ _ _ wx (by omega) (by omega) (by omega)).mono ?_
  rintro e w4 ⟨rfl, rfl⟩
  go_wp2_with fail
  refine (within_any y _ _ _ wy (by omega) (by omega) (by omega)).mono ?_
  rintro e w4 ⟨rfl, rfl⟩
  obtain ⟨x1, x2⟩ := wi_bd x (show (-1000000000000 : Int) ≤ 1000000000000 by omega)
  obtain ⟨y1, y2⟩ := wi_bd y (show (-1000000000000 : Int) ≤ 1000000000000 by omega)
  generalize wi x (-1000000000000) 1000000000000 = xx at *
  generalize wi y (-1000000000000) 1000000000000 = yy at *
  go_upto_region 5 with fail
  go_cut [0, 1] (fun a b wc => ∃ L H : Int, a = .int .i64 L ∧ b = .int .i64 H ∧ -1000000000000 ≤ L ∧ L ≤ H ∧ H ≤ 1000000000000 ∧ wc = w3)
  case first =>
    rcases Int.lt_trichotomy xx yy with hxy | hxy | hxy
    · go_wp2
      go_meet
      exact ⟨xx, yy, rfl, rfl, x1, by omega, y2, rfl⟩
    · subst hxy
      go_wp2
      go_meet
      exact ⟨xx, xx, rfl, rfl, x1, by omega, y2, rfl⟩
    · go_wp2
      go_meet
      exact ⟨yy, xx, rfl, rfl, y1, by omega, x2, rfl⟩
  case rest =>
    obtain ⟨L, H, rfl, rfl, hL, hLH, hH, rfl⟩ := hcut
    clear x1 x2 y1 y2
    go_wp2_with fail
    refine (within_any z _ _ _ wz (by omega) (by omega) (by omega)).mono ?_
    rintro e w4 ⟨rfl, rfl⟩
    go_wp2_with fail
    refine (within_any t _ _ _ wt (by omega) (by omega) (by omega)).mono ?_
    rintro e w4 ⟨rfl, rfl⟩
    obtain ⟨z1, z2⟩ := wi_bd z (show (2 : Int) ≤ 50 by omega)
    obtain ⟨t1, t2⟩ := wi_bd t (show (0 : Int) ≤ 100000 by omega)
    generalize wi z 2 50 = steps at *
    generalize wi t 0 100000 = long at *
    go_wp2_with fail
    refine (find_ok L H steps _ hL (by omega) (by omega) hH hLH z1 z2).mono ?_
    rintro e w4 ⟨A, B, S, rfl, hF, hbel4⟩
    obtain ⟨hsc, hq⟩ := hF.sc hL (by omega) (by omega) hH z2
    obtain ⟨flt, few, fs1, fs2, fl1, fl2, fh1, fh2⟩ := hF
    have hh0 : A * S + ((B - A).toNat : Int) * S = B * S := by
      rw [Int.toNat_of_nonneg (by omega), ← Int.add_mul]; congr 1; omega
    have hn0 : ((B - A).toNat : Int) = B - A := Int.toNat_of_nonneg (by omega)
    generalize (B - A).toNat = n at hh0 hn0
    rw [← hn0] at hq
    generalize A * S = lo at *
    generalize B * S = hi at *
    have hn1 : 1 ≤ n := by omega
    have hn2 : n ≤ 50 := by omega
    have hst : (n : Int) ≤ steps := by omega
    have Hh := hide hh0
    have Hsc := hide hsc
    obtain ⟨a1, a2, b1, b2, _, _, slt, _, _, _⟩ := hsc
    clear hh0 hn0 flt few
    have hbel5 : Below w.heap.size w w4 := hbel3.trans (hbel4.mono hbel3.size)
    clear hbel4 hbel3
    go_wp2_with fail
    refine (check_ok lo hi S _ Hsc.out).mono ?_
    rintro e w5 ⟨rfl, hbel6⟩
    have k0 : w5.cell? ⟨w4.heap.size, 0, none⟩ = some (.int .i64 lo) := by rw [hbel6.cell (by simp)]; simp
    have k1 : w5.cell? ⟨w4.heap.size, 1, none⟩ = some (.int .i64 hi) := by rw [hbel6.cell (by simp)]; simp
    have k2 : w5.cell? ⟨w4.heap.size, 2, none⟩ = some (.int .i64 S) := by rw [hbel6.cell (by simp)]; simp
    have hbel7 : Below w.heap.size w w5 := (hbel5.alloc hbel5.size _).trans (hbel6.mono (by have := hbel5.size; simp; omega))
    have hz5 : w4.heap.size < w5.heap.size := by have := hbel6.size; simp at this; omega
    clear hbel6 hbel5
    go_wp2_with fail
    refine (marks_ok lo hi S n _ (by omega) Hh.out Hsc.out).mono ?_
    rintro e w6 ⟨A2, c2, rfl, hown2, hbel8⟩
    have j0 : w6.cell? ⟨w4.heap.size, 0, none⟩ = some (.int .i64 lo) := by rw [hbel8.cell hz5]; exact k0
    have j1 : w6.cell? ⟨w4.heap.size, 1, none⟩ = some (.int .i64 hi) := by rw [hbel8.cell hz5]; exact k1
    have j2 : w6.cell? ⟨w4.heap.size, 2, none⟩ = some (.int .i64 S) := by rw [hbel8.cell hz5]; exact k2
    have hz6 : w4.heap.size < w6.heap.size := by have := hbel8.size; omega
    have hbel9 : Below w.heap.size w w6 := hbel7.trans (hbel8.mono hbel7.size)
    have hr2 := RdI.of_own hown2
    clear hbel8 hbel7 hown2 k0 k1 k2
    go_wp2_with fail
    have J0 := hide j0
    have J1 := hide j1
    have J2 := hide j2
    have Hq := hide hq
    clear j0 j1 j2 hq
    go_loopw [15, 126] (fun v i wr => ∃ (j : Nat) (u : Int), j ≤ n + 1 ∧ i = .int .i64 j ∧ v = .int .i64 u ∧ (j ≤ n → u ≤ pl lo hi S long j) ∧ Below w6.heap.size w6 wr) (fun _ i _ => n + 1 - (intOf i).toNat)
    case atStart => exact ⟨0, 0, by omega, rfl, rfl, fun _ => by rw [pl_zero hn1 fs1 Hh.out]; omega, Below.refl _ _⟩
    case round =>
      obtain ⟨j, u, hj, rfl, rfl, hu, hbelr⟩ := hrel
      have Hu := hide hu
      clear hu
      by_cases hlt : j < n + 1
      · obtain ⟨b, off, rfl, hc⟩ := (hr2.below hbelr).at_ (show j < _ by rw [marks_length]; exact hlt)
        rw [marks_ix _ _ _ _ hlt] at hc
        have j0 : wr.cell? ⟨w4.heap.size, 0, none⟩ = some (.int .i64 lo) := by rw [hbelr.cell hz6]; exact J0.out
        have j1 : wr.cell? ⟨w4.heap.size, 1, none⟩ = some (.int .i64 hi) := by rw [hbelr.cell hz6]; exact J1.out
        have j2 : wr.cell? ⟨w4.heap.size, 2, none⟩ = some (.int .i64 S) := by rw [hbelr.cell hz6]; exact J2.out
        have m0 : 0 ≤ (j : Int) * S := Int.mul_nonneg (by omega) (by omega)
        have m1 : lo + (j : Int) * S ≤ hi := by
          have : (j : Int) * S ≤ (n : Int) * S := Int.mul_le_mul_of_nonneg_right (by omega) (by omega)
          have := Hh.out
          omega
        go_wp2_with fail
        refine (place_ok lo hi S _ long _ Hsc.out t1 t2 (by omega) m1).mono ?_
        rintro e w7 ⟨rfl, hbel10⟩
        have q1 : u ≤ pl lo hi S long j := Hu.out (by omega)
        have q2 : j = 0 → pl lo hi S long j = 0 := fun h => by rw [h]; exact pl_zero hn1 fs1 Hh.out
        have q3 : j = n → pl lo hi S long j = long := fun h => by rw [h]; exact pl_last hn1 fs1 Hh.out
        have q4 := pl_mono hn1 fs1 t1 Hh.out j
        change u ≤ (2 * (lo + (j : Int) * S - lo) * long + (hi - lo)) / (2 * (hi - lo)) at q1
        change j = 0 → (2 * (lo + (j : Int) * S - lo) * long + (hi - lo)) / (2 * (hi - lo)) = 0 at q2
        change j = n → (2 * (lo + (j : Int) * S - lo) * long + (hi - lo)) / (2 * (hi - lo)) = long at q3
        change (2 * (lo + (j : Int) * S - lo) * long + (hi - lo)) / (2 * (hi - lo)) ≤ _ at q4
        generalize (2 * (lo + (j : Int) * S - lo) * long + (hi - lo)) / (2 * (hi - lo)) = P at *
        have hbel11 : Below w6.heap.size w6 w7 := hbelr.trans (hbel10.mono hbelr.size)
        have Q4 := hide q4
        clear q4 j0 j1 j2 hc hbel10
        by_cases hj0 : j = 0
        · obtain rfl := q2 hj0
          subst hj0
          clear q2 q3
          go_wp2
          go_roundw
          case rel => exact ⟨1, 0, by omega, rfl, rfl, fun _ => Q4.out, hbel11⟩
          case measure => simp [intOf]
        · by_cases hjn : j = n
          · obtain rfl := q3 hjn
            clear q2 q3
            go_wp2
            go_roundw
            case rel => exact ⟨j + 1, _, by omega, by go_num, rfl, fun h => by omega, hbel11⟩
            case measure => simp [intOf]; omega
          · clear q2 q3
            go_wp2
            go_roundw
            case rel => exact ⟨j + 1, P, by omega, by go_num, rfl, fun _ => Q4.out, hbel11⟩
            case measure => simp [intOf]; omega
      · go_wp2
        go_ret
        exact ⟨rfl, hbel9.trans (hbelr.mono hbel9.size)⟩

theorem walked : Walked Try.checked.prog 5 Try.f5 := by
  intro H enc W args ds ps hval hA
  rw [Try.params5] at hA hval
  obtain ⟨v0, v1, v2, v3, d0, d1, d2, d3, p0, p1, p2, p3, hargs, rfl, _, h0, h1, h2, h3⟩ := trodAll_four hA
  obtain rfl : args = #[v0, v1, v2, v3] := by cases args; simp_all
  obtain ⟨x, rfl, _, _, wx⟩ := open_int Try.underlying3 (hval 0 _ _ rfl rfl) h0
  obtain ⟨y, rfl, _, _, wy⟩ := open_int Try.underlying3 (hval 1 _ _ rfl rfl) h1
  obtain ⟨z, rfl, _, _, wz⟩ := open_int Try.underlying3 (hval 2 _ _ rfl rfl) h2
  obtain ⟨t, rfl, _, _, wt⟩ := open_int Try.underlying3 (hval 3 _ _ rfl rfl) h3
  exact walk x y z t W wx wy wz wt

theorem lifted (os : Os) (started : os.Started) (H : Type) (enc : TypeId × Value → H) :
    ReturnsInHanded {} Try.checked os 5 .any (Rows.scaleContainsValuesSpec.pre6 enc Try.prog Try.f5 Rows.scaleContainsValuesRow.domain false) (Rows.scaleContainsValuesSpec.post enc Try.prog Try.f5 false true false false) :=
  law_lift (C := Try.checked) (tb := 4) (by kernel_rfl) started (by kernel_rfl) Try.func5 rfl
    (fun ds h => match ds, h with | [_, _, _, _], _ => rfl) rfl Try.underlying4 (by kernel_rfl) (by kernel_rfl)
    (ChangeSpec.witness6 (enc := enc) (C := Try.checked) false ⟨#[], #[.int .i64 0, .int .i64 0, .int .i64 0, .int .i64 0], []⟩ 8 (by kernel_rfl) (by kernel_rfl) (by kernel_rfl) (by kernel_rfl))
    walked

/-- THE STATEMENT -/
theorem proved : Rows.ScaleContainsValuesSaid :=
  OpenClaim.holds_of_wide 5 Try.f5 rfl rfl rfl rfl rfl rfl rfl ⟨rfl, rfl, rfl, rfl, rfl⟩ rfl rfl rfl rfl rfl (by kernel_rfl) Try.func5 (by kernel_rfl)
    (of_decide_eq_true (by kernel_rfl)) (by unfold Func.isWrapper; first | (rw [if_pos (by decide +kernel)]; kernel_rfl) | (rw [if_neg (by decide +kernel)]; exact ⟨rfl, rfl⟩))
    (fun os started H enc _ => lifted os started H enc)
#print axioms proved
end Go.Proofs.Ytmnbcpinlgklpaa.ScaleContainsValuesDone
