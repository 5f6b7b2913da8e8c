/- PROVED HERE: whatever the three arguments, chancerykeep3.BalanceAddsUp returns true, and its arguments read behind the call as before. No condition beside those of the given row. -/
import Derived.Test.YtmnbcpinlgklpaaRows
import Derived.Test.YtmnbcpinlgklpaaBalWidths
import Derived.Test.YtmnbcpinlgklpaaBalCells
import Derived.Test.YtmnbcpinlgklpaaScale
import Derived.Test.YtmnbcpinlgklpaaArgs
namespace Go.Proofs.Ytmnbcpinlgklpaa.BalanceAddsUpDone
open Go.RowKit Go.Frm Go.ChangeShapes Go.WideShapes Go.ChangeAt Bal Wi

def noC : Cls := ⟨0, fun _ => 0, fun _ => 0, fun _ => 0, fun _ => 0⟩
theorem vc_no : VC noC 2 := ⟨by decide, by decide, by decide, fun i hi => absurd hi (Nat.not_lt_zero i), fun i hi => absurd hi (Nat.not_lt_zero i), fun i hi => absurd hi (Nat.not_lt_zero i)⟩
theorem wid_no : tab 2 (widF (lowF noC 2) (highF noC 2) 2 5) = [3, 2] := by decide

set_option maxRecDepth 100000 in
set_option maxHeartbeats 4000000 in
theorem walk (x z : Int) (A0 : Option Addr) (n0 c0 : Nat) (F : Nat → Nat → Int) (w : World) (hn : n0 ≤ 9223372036854775807) (hr : RdF w A0 n0 4 (fun i j => .int .i64 (F i j))) (hwf : ∀ i j, i < n0 → j < 4 → (Lit.int .i64 (F i j)).wf = true)
    (wx : (Lit.int .i64 x).wf = true) (wz : (Lit.int .i64 z).wf = true) :
    Calls Try.prog 8 #[.int .i64 x, .slice A0 n0 c0, .int .i64 z] w fun e w' => e = .returned (.bool true) ∧ Below w.heap.size w w' := by
  have Hwf := hide hwf
  clear hwf
  go_enter Try.func8, Try.ntmps8
  go_wp2_with fail
  refine (widths_ok noC 2 none 0 5 w vc_no (.inl rfl) (by omega) (by omega)).mono ?_
  rintro e w1 ⟨g0, rfl, ho0, hbel1⟩
  have hr0 := win0 ho0
  rw [wid_no] at hr0
  go_wp2_with fail
  have hl0 : RdI (w1.alloc (.cells #[.int .i64 3, .int .i64 2] 3)) (some ⟨w1.heap.size, 0, none⟩) [3, 2] :=
    RdI.of_own (World.ownsRow_lit (base := 0) (size := 1) w1 _ 2 (by omega) (by decide) rfl)
  have hbel2 : Below w.heap.size w (w1.alloc (.cells #[.int .i64 3, .int .i64 2] 3)) := hbel1.alloc hbel1.size _
  refine (Scl.equal_any (some ⟨g0, 0, none⟩) _ 2 2 [3, 2] [3, 2] _ (hr0.alloc _) hl0 (by decide) (by decide)).mono ?_
  rintro e w2 ⟨rfl, d2, rfl⟩
  have hbel3 := below_drewN hbel2 d2
  generalize (w1.alloc (.cells #[.int .i64 3, .int .i64 2] 3)).drewN d2 = w3 at *
  rw [show decide (([3, 2] : List Int) = [3, 2]) = true from by decide]
  clear hl0 hr0 ho0 hbel2 hbel1
  have hr3 := hr.below hbel3
  go_wp2_with fail
  refine (within_any x _ _ _ wx (by omega) (by omega) (by omega)).mono ?_
  rintro e w4 ⟨rfl, rfl⟩
  have hx := wi_bd x (show (1 : Int) ≤ 8 by omega)
  obtain ⟨n, hn'⟩ : ∃ n : Nat, wi x 1 8 = (n : Int) := ⟨(wi x 1 8).toNat, by omega⟩
  rw [hn'] at hx ⊢
  clear hn'
  obtain ⟨n1, n8⟩ : 1 ≤ n ∧ n ≤ 8 := by omega
  go_wp2_with fail
  refine (cells_ok n A0 n0 c0 F w3 n1 n8 hn hr3 Hwf.out).mono ?_
  rintro e w4 ⟨C, A, c, rfl, hvc, hoC, hbel4⟩
  have hbelB := hbel3.trans (hbel4.mono hbel3.size)
  have Hvc := hide hvc
  clear hvc hr hr3 Hwf hbel3 hbel4 wx hx
  go_wp2_with fail
  refine (within_any z _ _ _ wz (by omega) (by omega) (by omega)).mono ?_
  rintro e w5 ⟨rfl, rfl⟩
  obtain ⟨z1, z2⟩ := wi_bd z (show (0 : Int) ≤ 31680 by omega)
  generalize wi z 0 31680 = t at *
  clear wz
  go_wp2_with fail
  refine (low_high C n A c w4 Hvc.out (RdF.of_own hoC)).mono ?_
  rintro e w5 ⟨g1, g2, rfl, hlow, hhigh, _, _, hbel5⟩
  have hoC5 := own_below hoC hbel5
  have hbelC := hbelB.trans (hbel5.mono hbelB.size)
  go_wp2_with fail
  refine (widths_ok C n A c t w5 Hvc.out (RdF.of_own hoC5) z1 z2).mono ?_
  rintro e w6 ⟨g3, rfl, hwid, hbel6⟩
  have hoC6 := own_below hoC5 hbel6
  have hbelD := hbelC.trans (hbel6.mono hbelC.size)
  have hrL := win0 (own_below hlow hbel6)
  have hrH := win0 (own_below hhigh hbel6)
  have hrW := win0 hwid
  have hLb := low_bd Hvc.out
  have hHb := high_bd Hvc.out
  have hsat : ∀ j, j < C.N → C.lo j ≤ wsum (lowF C n) (C.at_ j) (C.sp j) := fun j hj => low_sat Hvc.out hj
  clear hoC hoC5 hlow hhigh hwid hbelB hbelC hbel5 hbel6
  generalize lowF C n = L at *
  generalize highF C n = H at *
  have hWL : ∀ i, i < n → L i ≤ widF L H n t i := fun i hi => wid_low (fun i => (hHb i).1) (fun i => (hLb i).1) hi
  have hWH : t ≤ fsum H n → ∀ i, i < n → widF L H n t i ≤ H i := fun h i hi => wid_high (fun i => (hHb i).1) h hi
  have hWS := wid_sum (x := t) (n := n) (L := L) (H := H) n1 (fun i => (hHb i).1) (fsum_nonneg fun i _ => (hLb i).1) z1
  have hWt : ∀ i, i < n → widF L H n t i ≤ 512000 := by
    intro i hi
    by_cases ht : t ≤ fsum H n
    · have := hWH ht i hi
      have := (hHb i).2
      omega
    · have h1 : widF L H n t i ≤ fsum (widF L H n t) n := by
        have := fsum_upd (widF L H n t) (j := i) 0 hi
        have h2 : 0 ≤ fsum (upd (widF L H n t) i 0) n := fsum_nonneg fun j hj => by
          unfold upd
          split
          · exact Int.le_refl _
          · have := hWL j hj; have := (hLb j).1; omega
        omega
      have h3 : fsum L n ≤ fsum H n := fsum_le fun i _ => (hHb i).1
      rw [hWS] at h1
      split at h1 <;> omega
  generalize widF L H n t = W at *
  have HLb := hide hLb
  have HHb := hide hHb
  have Hsat := hide hsat
  have HWL := hide hWL
  have HWH := hide hWH
  have HWS := hide hWS
  have HWt := hide hWt
  clear hLb hHb hsat hWL hWH hWS hWt
  go_wp2_with fail
  have hWn : ∀ i, i < n → 0 ≤ W i := fun i hi => Int.le_trans (HLb.out i).1 (HWL.out i hi)
  have hsb : ∀ k, k ≤ n → (0 ≤ fsum L k ∧ fsum L k ≤ 4096000) ∧ (0 ≤ fsum H k ∧ fsum H k ≤ 4096000) ∧ (0 ≤ fsum W k ∧ fsum W k ≤ 4096000) := fun k hk => by
    have a1 : fsum L k ≤ k * 512000 := by rw [← fsum_const]; exact fsum_le fun i _ => by have := (HLb.out i).2; omega
    have a2 : fsum H k ≤ k * 512000 := by rw [← fsum_const]; exact fsum_le fun i _ => by have := (HHb.out i).2; omega
    have a3 : fsum W k ≤ k * 512000 := by rw [← fsum_const]; exact fsum_le fun i hi => HWt.out i (by omega)
    have b1 : 0 ≤ fsum L k := fsum_nonneg fun i _ => (HLb.out i).1
    have b2 : 0 ≤ fsum H k := fsum_nonneg fun i _ => by have := (HLb.out i).1; have := (HHb.out i).1; omega
    have b3 : 0 ≤ fsum W k := fsum_nonneg fun i hi => hWn i (by omega)
    omega
  have HWn := hide hWn
  have Hsb := hide hsb
  clear hWn hsb
  go_loopw [14, 15, 16, 84] (fun a b c i wr => ∃ k d : Nat, k ≤ n ∧ i = .int .i64 k ∧ a = .int .i64 (fsum L k) ∧ b = .int .i64 (fsum H k) ∧ c = .int .i64 (fsum W k) ∧ wr = w6.drewN d) (fun _ _ _ i _ => n - (intOf i).toNat)
  case atStart => exact ⟨0, 0, by omega, rfl, rfl, rfl, rfl, rfl⟩
  case round =>
    obtain ⟨k, d, hk, rfl, rfl, rfl, rfl, rfl⟩ := hrel
    obtain ⟨⟨p1, p2⟩, ⟨p3, p4⟩, ⟨p5, p6⟩⟩ := Hsb.out k hk
    by_cases hlt : k < n
    · have cL := hrL.get (show k < _ by rw [tab_length]; exact hlt)
      have cH := hrH.get (show k < _ by rw [tab_length]; exact hlt)
      have cW := hrW.get (show k < _ by rw [tab_length]; exact hlt)
      rw [tab_ix _ hlt, Nat.zero_add] at cL cH cW
      have q1 := HLb.out k
      have q2 := HHb.out k
      have q3 := HWn.out k hlt
      have q4 := HWt.out k hlt
      have s1 : IntKind.i64.wrap (fsum L k + L k) = fsum L k + L k := IntWalk.i64_in _ (by omega)
      have s2 : IntKind.i64.wrap (fsum H k + H k) = fsum H k + H k := IntWalk.i64_in _ (by omega)
      have s3 : IntKind.i64.wrap (fsum W k + W k) = fsum W k + W k := IntWalk.i64_in _ (by omega)
      go_wp2_with fail
      go_quiet (fail)
      clear s1 s2 s3
      go_wp2_with fail
      go_roundw
      case rel => exact ⟨k + 1, _, by omega, by go_num, rfl, rfl, rfl, rfl⟩
      case measure => simp [intOf]; omega
    · obtain rfl : k = n := by omega
      go_wp2_with fail
      go_loopw [108] (fun i wr => ∃ j d : Nat, j ≤ k ∧ i = .int .i64 j ∧ wr = w6.drewN d) (fun i _ => k - (intOf i).toNat)
      case atStart => exact ⟨0, _, by omega, rfl, rfl⟩
      case round =>
        obtain ⟨j, d, hj, rfl, rfl⟩ := hrel
        by_cases hlt2 : j < k
        · have cL := hrL.get (show j < _ by rw [tab_length]; exact hlt2)
          have cH := hrH.get (show j < _ by rw [tab_length]; exact hlt2)
          have cW := hrW.get (show j < _ by rw [tab_length]; exact hlt2)
          rw [tab_ix _ hlt2, Nat.zero_add] at cL cH cW
          have e1 : decide (W j < L j) = false := by have := HWL.out j hlt2; simp; omega
          by_cases hth : t ≤ fsum H k
          · have e2 : decide (t ≤ fsum H k) = true := by simpa using hth
            have e3 : decide (H j < W j) = false := by have := HWH.out hth j hlt2; simp; omega
            clear hth
            go_wp2_with fail
            go_quiet (fail)
            go_wp2_with fail
            go_roundw
            case rel => exact ⟨j + 1, _, by omega, by go_num, rfl⟩
            case measure => simp [intOf]; omega
          · have e2 : decide (t ≤ fsum H k) = false := by simpa using hth
            clear hth
            go_wp2_with fail
            go_quiet (fail)
            go_wp2_with fail
            go_roundw
            case rel => exact ⟨j + 1, _, by omega, by go_num, rfl⟩
            case measure => simp [intOf]; omega
        · obtain rfl : j = k := by omega
          have hbelE := below_drewN hbelD d
          have hoE : (w6.drewN d).ownsRow w3.heap.size 80 4 (.slice A C.N c) C.N (rowF C.N 4 (clf C)) := own_drewN hoC6 d
          have hrW7 : RdI (w6.drewN d) (some ⟨g3, 0, none⟩) (tab j W) := hrW.drewN d
          generalize w6.drewN d = w7 at *
          clear hoC6 hbelD hrL hrH hrW
          go_wp2_with fail
          go_loopw [139] (fun i wr => ∃ k : Nat, k ≤ C.N ∧ i = .int .i64 k ∧ Below w7.heap.size w7 wr) (fun i _ => C.N - (intOf i).toNat)
          case atStart => exact ⟨0, by omega, rfl, Below.refl _ _⟩
          case round =>
            obtain ⟨k, hk, rfl, hbel⟩ := hrel
            have hsz := hbel.size
            by_cases hlt3 : k < C.N
            · obtain ⟨b, off, rfl, hc⟩ := (RdF.of_own (own_below hoE hbel)).at_ hlt3
              have c0 : wr.cell? ⟨b, off + k * 4, none⟩ = some (.int .i64 (C.at_ k)) := hc 0 (by omega)
              have c1 : wr.cell? ⟨b, off + k * 4 + 1, none⟩ = some (.int .i64 (C.sp k)) := hc 1 (by omega)
              have c2 : wr.cell? ⟨b, off + k * 4 + 2, none⟩ = some (.int .i64 (C.lo k)) := hc 2 (by omega)
              have c3 : wr.cell? ⟨b, off + k * 4 + 3, none⟩ = some (.int .i64 (C.hi k)) := hc 3 (by omega)
              clear hc
              obtain ⟨v1, v2⟩ := Hvc.out.cols k hlt3
              have hN := Hvc.out.few
              have hlo := Hvc.out.lo k hlt3
              have hsw : C.lo k ≤ wsum W (C.at_ k) (C.sp k) := Int.le_trans (Hsat.out k hlt3) (wsum_le fun i hi => HWL.out i (by omega))
              have hrWr := (hrW7.below hbel).alloc (.cells #[.int .i64 (C.at_ k), .int .i64 (C.sp k), .int .i64 (C.lo k), .int .i64 (C.hi k)] 80)
              have hbela := hbel.alloc hsz (.cells #[.int .i64 (C.at_ k), .int .i64 (C.sp k), .int .i64 (C.lo k), .int .i64 (C.hi k)] 80)
              go_wp2_with fail
              rw [show C.at_ k + C.sp k - C.at_ k = C.sp k by omega]
              go_loop [21, 153] (fun v i => ∃ m : Nat, m ≤ C.sp k ∧ i = .int .i64 m ∧ v = .int .i64 (wsum W (C.at_ k) m)) (fun _ i => C.sp k - (intOf i).toNat)
              case atStart => exact ⟨0, by omega, rfl, rfl⟩
              case round =>
                obtain ⟨m, hm, rfl, rfl⟩ := hrel
                have f0 : 0 ≤ wsum W (C.at_ k) m := fsum_nonneg fun i hi => HWn.out _ (by omega)
                have f1 : wsum W (C.at_ k) m ≤ m * 512000 := by
                  rw [← fsum_const]
                  exact fsum_le fun i hi => HWt.out _ (by omega)
                by_cases hlt4 : m < C.sp k
                · have cW := hrWr.get (show C.at_ k + m < _ by rw [tab_length]; omega)
                  rw [tab_ix _ (by omega), Nat.zero_add] at cW
                  have q3 := HWn.out (C.at_ k + m) (by omega)
                  have q4 := HWt.out (C.at_ k + m) (by omega)
                  go_wp2_with fail
                  go_round
                  case rel => exact ⟨m + 1, by omega, by go_num, rfl⟩
                  case measure => simp [intOf]; omega
                · obtain rfl : m = C.sp k := by omega
                  have hd : decide (wsum W (C.at_ k) (C.sp k) < C.lo k) = false := by simp; omega
                  go_wp2_with fail
                  go_roundw
                  case rel => exact ⟨k + 1, by omega, by go_num, hbela⟩
                  case measure => simp [intOf]; omega
            · obtain rfl : k = C.N := by omega
              have hN := Hvc.out.few
              have hbelF := hbelE.trans (hbel.mono hbelE.size)
              have hWS := HWS.out
              by_cases ht0 : t = 0
              · rw [if_pos ht0] at hWS
                subst ht0
                have hq : (fsum W j == fsum H j) = true := by simpa using hWS
                have hm : max 0 (fsum L j) = fsum L j := by omega
                by_cases hL0 : 0 < fsum L j
                · go_wp2_with fail
                  go_ret
                  exact ⟨rfl, hbelF⟩
                · obtain h0 : fsum L j = 0 := by omega
                  rw [h0]
                  go_wp2_with fail
                  go_ret
                  exact ⟨rfl, hbelF⟩
              · rw [if_neg ht0] at hWS
                have hq0 : (t == 0) = false := by simpa using ht0
                rcases Int.lt_trichotomy t (fsum L j) with h | h | h
                · have hq : (fsum W j == fsum L j) = true := by simp; omega
                  clear hWS
                  go_wp2_with fail
                  go_ret
                  exact ⟨rfl, hbelF⟩
                · rw [← h]
                  have hq : (fsum W j == t) = true := by simp; omega
                  clear h hWS
                  go_wp2_with fail
                  go_ret
                  exact ⟨rfl, hbelF⟩
                · have hq : (fsum W j == t) = true := by simp; omega
                  clear hWS
                  go_wp2_with fail
                  go_ret
                  exact ⟨rfl, hbelF⟩

theorem walked : Walked Try.checked.prog 8 Try.f8 := by
  intro H enc W args ds ps hval hA
  rw [Try.params8] at hA hval
  obtain ⟨v0, v1, v2, d0, d1, d2, p0, p1, p2, hargs, rfl, rfl, h0, h1, h2⟩ := trodAll_three hA
  obtain rfl : args = #[v0, v1, v2] := by cases args; simp_all
  obtain ⟨x, rfl, _, _, wx⟩ := open_int Try.underlying3 (hval 0 _ _ rfl rfl) h0
  obtain ⟨y, rfl, _, _, wy⟩ := open_int Try.underlying3 (hval 2 _ _ rfl rfl) h2
  obtain ⟨a0, l0, k0, rfl⟩ := okWide_slice Try.underlying74 (hval 1 _ _ rfl rfl)
  obtain ⟨fuel, h1⟩ := h1
  obtain ⟨A, n, c, F, hs, hn, hr, hwf⟩ := int_structs_trod (v := .slice a0 l0 k0) Try.underlying74 Try.underlying80 (by kernel_rfl) (by kernel_rfl) (by decide) (fun j f hj => by
    match j, hj with
    | 0, hj => cases hj; exact Try.underlying3
    | 1, hj => cases hj; exact Try.underlying3
    | 2, hj => cases hj; exact Try.underlying3
    | 3, hj => cases hj; exact Try.underlying3) h1
  rw [hs]
  exact walk x y A n c F W hn hr hwf wx wy

theorem lifted (os : Os) (started : os.Started) (H : Type) (enc : TypeId × Value → H) :
    ReturnsInHanded {} Try.checked os 8 .any (Rows.balanceAddsUpSpec.pre6 enc Try.prog Try.f8 Rows.balanceAddsUpRow.domain false) (Rows.balanceAddsUpSpec.post enc Try.prog Try.f8 false true false false) :=
  law_lift (C := Try.checked) (tb := 4) (by kernel_rfl) started (by kernel_rfl) Try.func8 rfl
    (fun ds h => match ds, h with | [_, _, _], _ => rfl) rfl Try.underlying4 (by kernel_rfl) (by kernel_rfl)
    (ChangeSpec.witness6 (enc := enc) (C := Try.checked) false ⟨#[], #[.int .i64 0, .slice none 0 0, .int .i64 0], []⟩ 8 (by kernel_rfl) (by kernel_rfl) (by kernel_rfl) (by kernel_rfl))
    walked

/-- THE STATEMENT -/
theorem proved : Rows.BalanceAddsUpSaid :=
  OpenClaim.holds_of_wide 8 Try.f8 rfl rfl rfl rfl rfl rfl rfl ⟨rfl, rfl, rfl, rfl, rfl⟩ rfl rfl rfl rfl rfl (by kernel_rfl) Try.func8 (by kernel_rfl)
    (of_decide_eq_true (by kernel_rfl)) (by unfold Func.isWrapper; first | (rw [if_pos (by decide +kernel)]; kernel_rfl) | (rw [if_neg (by decide +kernel)]; exact ⟨rfl, rfl⟩))
    (fun os started H enc _ => lifted os started H enc)
#print axioms proved
end Go.Proofs.Ytmnbcpinlgklpaa.BalanceAddsUpDone
