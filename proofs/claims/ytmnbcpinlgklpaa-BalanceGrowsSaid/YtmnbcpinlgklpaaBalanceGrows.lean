/- PROVED HERE: whatever the four arguments, chancerykeep3.BalanceGrows returns true, and its arguments read behind the call as before. No condition beside those of the given row. -/
import Derived.Test.YtmnbcpinlgklpaaRows
import Derived.Test.YtmnbcpinlgklpaaBalWidths
import Derived.Test.YtmnbcpinlgklpaaBalCells
import Derived.Test.YtmnbcpinlgklpaaEqual
import Derived.Test.YtmnbcpinlgklpaaArgs
namespace Go.Proofs.Ytmnbcpinlgklpaa.BalanceGrowsDone
open Go.RowKit Go.Frm Go.ChangeShapes Go.WideShapes Go.ChangeAt Bal Wi

def noC : Cls := ⟨0, fun _ => 0, fun _ => 0, fun _ => 0, fun _ => 0⟩
theorem vc_no : VC noC 2 := ⟨by decide, by decide, by decide, fun i hi => absurd hi (Nat.not_lt_zero i), fun i hi => absurd hi (Nat.not_lt_zero i), fun i hi => absurd hi (Nat.not_lt_zero i)⟩
theorem wid_no : tab 2 (widF (lowF noC 2) (highF noC 2) 2 5) = [3, 2] := by decide

set_option maxRecDepth 100000 in
set_option maxHeartbeats 4000000 in
theorem walk (x z u : Int) (A0 : Option Addr) (n0 c0 : Nat) (F : Nat → Nat → Int) (w : World) (hn : n0 ≤ 9223372036854775807) (hr : RdF w A0 n0 4 (fun i j => .int .i64 (F i j))) (hwf : ∀ i j, i < n0 → j < 4 → (Lit.int .i64 (F i j)).wf = true)
    (wx : (Lit.int .i64 x).wf = true) (wz : (Lit.int .i64 z).wf = true) (wu : (Lit.int .i64 u).wf = true) :
    Calls Try.prog 9 #[.int .i64 x, .slice A0 n0 c0, .int .i64 z, .int .i64 u] w fun e w' => e = .returned (.bool true) ∧ Below w.heap.size w w' := by
  have Hwf := hide hwf
  clear hwf
  go_enter Try.func9, Try.ntmps9
  go_wp2_with fail
  refine (widths_ok noC 2 none 0 5 w vc_no (.inl rfl) (by omega) (by omega)).mono ?_
  rintro e w1 ⟨g0, rfl, ho0, hbel1⟩
  have hr0 := win0 ho0
  rw [wid_no] at hr0
  go_wp2_with fail
  have hl0 : RdI (w1.alloc (.cells #[.int .i64 3, .int .i64 2] 3)) (some ⟨w1.heap.size, 0, none⟩) [3, 2] :=
    RdI.of_own (World.ownsRow_lit (base := 0) (size := 1) w1 _ 2 (by omega) (by decide) rfl)
  have hbel2 : Below w.heap.size w (w1.alloc (.cells #[.int .i64 3, .int .i64 2] 3)) := hbel1.alloc hbel1.size _
  refine (Scl.equal_any (some ⟨g0, 0, none⟩) _ 2 2 [3, 2] [3, 2] _ (hr0.alloc _) hl0 (by decide) (by decide)).mono ?_
  rintro e w2 ⟨rfl, d2, rfl⟩
  have hbel3 := below_drewN hbel2 d2
  generalize (w1.alloc (.cells #[.int .i64 3, .int .i64 2] 3)).drewN d2 = w3 at *
  rw [show decide (([3, 2] : List Int) = [3, 2]) = true from by decide]
  clear hl0 hr0 ho0 hbel2 hbel1
  have hr3 := hr.below hbel3
  go_wp2_with fail
  refine (within_any x _ _ _ wx (by omega) (by omega) (by omega)).mono ?_
  rintro e w4 ⟨rfl, rfl⟩
  have hx := wi_bd x (show (1 : Int) ≤ 8 by omega)
  obtain ⟨n, hn'⟩ : ∃ n : Nat, wi x 1 8 = (n : Int) := ⟨(wi x 1 8).toNat, by omega⟩
  rw [hn'] at hx ⊢
  clear hn'
  obtain ⟨n1, n8⟩ : 1 ≤ n ∧ n ≤ 8 := by omega
  go_wp2_with fail
  refine (cells_ok n A0 n0 c0 F w3 n1 n8 hn hr3 Hwf.out).mono ?_
  rintro e w4 ⟨C, A, c, rfl, hvc, hoC, hbel4⟩
  have hbelB := hbel3.trans (hbel4.mono hbel3.size)
  have Hvc := hide hvc
  clear hvc hr hr3 Hwf hbel3 hbel4 wx hx
  go_wp2_with fail
  refine (low_high C n A c w4 Hvc.out (RdF.of_own hoC)).mono ?_
  rintro e w5 ⟨g1, g2, rfl, hlow, hhigh, _, _, hbel5⟩
  have hoC5 := own_below hoC hbel5
  have hbelC := hbelB.trans (hbel5.mono hbelB.size)
  have hrL := win0 hlow
  have hrH := win0 hhigh
  have hrCw := RdF.of_own hoC5
  have hLb := low_bd Hvc.out
  have hHb := high_bd Hvc.out
  have hwid : ∀ (t : Int) (wx : World), 0 ≤ t → t ≤ 31680 → RdF wx A C.N 4 (clf C) → Calls Try.prog 27 #[.int .i64 n, .slice A C.N c, .int .i64 t] wx (WPost wx n (widF (lowF C n) (highF C n) n t)) := fun t wx t0 t1 hrx => widths_ok C n A c t wx Hvc.out hrx t0 t1
  clear hoC hoC5 hlow hhigh hbelB hbel5
  generalize lowF C n = L at *
  generalize highF C n = H at *
  have HLb := hide hLb
  have HHb := hide hHb
  have Hwid := hide hwid
  clear hLb hHb hwid
  have hsb : ∀ k, k ≤ n → (0 ≤ fsum L k ∧ fsum L k ≤ 4096000) ∧ (0 ≤ fsum H k ∧ fsum H k ≤ 4096000) ∧ fsum L k ≤ fsum H k := fun k hk => by
    have a1 : fsum L k ≤ k * 512000 := by rw [← fsum_const]; exact fsum_le fun i _ => by have := (HLb.out i).2; omega
    have a2 : fsum H k ≤ k * 512000 := by rw [← fsum_const]; exact fsum_le fun i _ => by have := (HHb.out i).2; omega
    have b1 : 0 ≤ fsum L k := fsum_nonneg fun i _ => (HLb.out i).1
    have b2 : 0 ≤ fsum H k := fsum_nonneg fun i _ => by have := (HLb.out i).1; have := (HHb.out i).1; omega
    have b3 : fsum L k ≤ fsum H k := fsum_le fun i _ => (HHb.out i).1
    omega
  have Hsb := hide hsb
  clear hsb
  go_wp2_with fail
  go_loopw [14, 15, 50] (fun a b i wr => ∃ k d : Nat, k ≤ n ∧ i = .int .i64 k ∧ a = .int .i64 (fsum L k) ∧ b = .int .i64 (fsum H k) ∧ wr = w5.drewN d) (fun _ _ i _ => n - (intOf i).toNat)
  case atStart => exact ⟨0, 0, by omega, rfl, rfl, rfl, rfl⟩
  case round =>
    obtain ⟨k, d, hk, rfl, rfl, rfl, rfl⟩ := hrel
    obtain ⟨⟨p1, p2⟩, ⟨p3, p4⟩, p5⟩ := Hsb.out k hk
    by_cases hlt : k < n
    · have cL := hrL.get (show k < _ by rw [tab_length]; exact hlt)
      have cH := hrH.get (show k < _ by rw [tab_length]; exact hlt)
      rw [tab_ix _ hlt, Nat.zero_add] at cL cH
      have q1 := HLb.out k
      have q2 := HHb.out k
      have s1 : IntKind.i64.wrap (fsum L k + L k) = fsum L k + L k := IntWalk.i64_in _ (by omega)
      have s2 : IntKind.i64.wrap (fsum H k + H k) = fsum H k + H k := IntWalk.i64_in _ (by omega)
      go_wp2_with fail
      go_quiet (fail)
      clear s1 s2
      go_wp2_with fail
      go_roundw
      case rel => exact ⟨k + 1, _, by omega, by go_num, rfl, rfl, rfl⟩
      case measure => simp [intOf]; omega
    · obtain rfl : k = n := by omega
      have hbelE := below_drewN hbelC d
      have hrC6 : RdF (w5.drewN d) A C.N 4 (clf C) := hrCw.drewN d
      generalize w5.drewN d = w6 at *
      clear hrL hrH hrCw hbelC
      by_cases hout : fsum L k < 1 ∨ 31680 < fsum H k
      · rcases hout with h | h
        · have e1 : decide (fsum L k < 1) = true := by simpa using h
          go_wp2_with fail
          go_ret
          exact ⟨rfl, hbelE⟩
        · by_cases h1 : fsum L k < 1
          · have e1 : decide (fsum L k < 1) = true := by simpa using h1
            go_wp2_with fail
            go_ret
            exact ⟨rfl, hbelE⟩
          · have e1 : decide (fsum L k < 1) = false := by simpa using h1
            have e2 : decide (31680 < fsum H k) = true := by simpa using h
            go_wp2_with fail
            go_ret
            exact ⟨rfl, hbelE⟩
      · have e1 : decide (fsum L k < 1) = false := by simp; omega
        have e2 : decide (31680 < fsum H k) = false := by simp; omega
        go_wp2_with fail
        refine (within_any z _ _ _ wz (by omega) (by omega) (by omega)).mono ?_
        rintro e w7 ⟨rfl, rfl⟩
        obtain ⟨z1, z2⟩ := wi_bd z (show fsum L k ≤ fsum H k by omega)
        generalize wi z (fsum L k) (fsum H k) = t at *
        go_wp2_with fail
        refine (within_any u _ _ _ wu (by omega) (by omega) (by omega)).mono ?_
        rintro e w7 ⟨rfl, rfl⟩
        obtain ⟨u1, u2⟩ := wi_bd u (show t ≤ fsum H k by omega)
        generalize wi u t (fsum H k) = s at *
        clear wz wu
        go_wp2_with fail
        refine (Hwid.out t w6 (by omega) (by omega) hrC6).mono ?_
        rintro e w7 ⟨g3, rfl, ho7, hbel7⟩
        have hr7 := hrC6.below hbel7
        have hbelF := hbelE.trans (hbel7.mono hbelE.size)
        go_wp2_with fail
        refine (Hwid.out s w7 (by omega) (by omega) hr7).mono ?_
        rintro e w8 ⟨g4, rfl, ho8, hbel8⟩
        have hbelG := hbelF.trans (hbel8.mono hbelF.size)
        have hrA := win0 (own_below ho7 hbel8)
        have hrB := win0 ho8
        have hgrow : ∀ i, i < k → widF L H k t i - 1 ≤ widF L H k s i := fun i hi => wid_grow (fun i => (HHb.out i).1) (fun i => (HLb.out i).1) (by omega) (by omega) (by omega) (by omega) hi
        have hbdA : ∀ i, i < k → 0 ≤ widF L H k t i ∧ widF L H k t i ≤ 512000 := fun i hi => by
          have h1 := wid_low (x := t) (n := k) (fun i => (HHb.out i).1) (fun i => (HLb.out i).1) hi
          have h2 := wid_high (x := t) (n := k) (L := L) (H := H) (fun i => (HHb.out i).1) (by omega) hi
          have h3 := HLb.out i
          have h4 := HHb.out i
          omega
        generalize widF L H k t = U at *
        generalize widF L H k s = V at *
        have Hgrow := hide hgrow
        have HbdA := hide hbdA
        clear hgrow hbdA ho7 ho8 hbel7 hbel8 hbelF hr7 hrC6 hbelE
        go_wp2_with fail
        go_loopw [114] (fun i wr => ∃ j d : Nat, j ≤ k ∧ i = .int .i64 j ∧ wr = w8.drewN d) (fun i _ => k - (intOf i).toNat)
        case atStart => exact ⟨0, 0, by omega, rfl, rfl⟩
        case round =>
          obtain ⟨j, d, hj, rfl, rfl⟩ := hrel
          by_cases hlt2 : j < k
          · have cU := hrA.get (show j < _ by rw [tab_length]; exact hlt2)
            have cV := hrB.get (show j < _ by rw [tab_length]; exact hlt2)
            rw [tab_ix _ hlt2, Nat.zero_add] at cU cV
            have q1 := HbdA.out j hlt2
            have q2 := Hgrow.out j hlt2
            have s1 : IntKind.i64.wrap (U j - 1) = U j - 1 := IntWalk.i64_in _ (by omega)
            have e3 : decide (V j < U j - 1) = false := by simp; omega
            go_wp2_with fail
            go_quiet (fail)
            clear s1
            go_wp2_with fail
            go_roundw
            case rel => exact ⟨j + 1, _, by omega, by go_num, rfl⟩
            case measure => simp [intOf]; omega
          · obtain rfl : j = k := by omega
            go_wp2_with fail
            go_ret
            exact ⟨rfl, below_drewN hbelG d⟩

theorem walked : Walked Try.checked.prog 9 Try.f9 := by
  intro H enc W args ds ps hval hA
  rw [Try.params9] at hA hval
  obtain ⟨v0, v1, v2, v3, d0, d1, d2, d3, p0, p1, p2, p3, hargs, rfl, _, h0, h1, h2, h3⟩ := trodAll_four hA
  obtain rfl : args = #[v0, v1, v2, v3] := by cases args; simp_all
  obtain ⟨x, rfl, _, _, wx⟩ := open_int Try.underlying3 (hval 0 _ _ rfl rfl) h0
  obtain ⟨y, rfl, _, _, wy⟩ := open_int Try.underlying3 (hval 2 _ _ rfl rfl) h2
  obtain ⟨z, rfl, _, _, wz⟩ := open_int Try.underlying3 (hval 3 _ _ rfl rfl) h3
  obtain ⟨a0, l0, k0, rfl⟩ := okWide_slice Try.underlying74 (hval 1 _ _ rfl rfl)
  obtain ⟨fuel, h1⟩ := h1
  obtain ⟨A, n, c, F, hs, hn, hr, hwf⟩ := int_structs_trod (v := .slice a0 l0 k0) Try.underlying74 Try.underlying80 (by kernel_rfl) (by kernel_rfl) (by decide) (fun j f hj => by
    match j, hj with
    | 0, hj => cases hj; exact Try.underlying3
    | 1, hj => cases hj; exact Try.underlying3
    | 2, hj => cases hj; exact Try.underlying3
    | 3, hj => cases hj; exact Try.underlying3) h1
  rw [hs]
  exact walk x y z A n c F W hn hr hwf wx wy wz

theorem lifted (os : Os) (started : os.Started) (H : Type) (enc : TypeId × Value → H) :
    ReturnsInHanded {} Try.checked os 9 .any (Rows.balanceGrowsSpec.pre6 enc Try.prog Try.f9 Rows.balanceGrowsRow.domain false) (Rows.balanceGrowsSpec.post enc Try.prog Try.f9 false true false false) :=
  law_lift (C := Try.checked) (tb := 4) (by kernel_rfl) started (by kernel_rfl) Try.func9 rfl
    (fun ds h => match ds, h with | [_, _, _, _], _ => rfl) rfl Try.underlying4 (by kernel_rfl) (by kernel_rfl)
    (ChangeSpec.witness6 (enc := enc) (C := Try.checked) false ⟨#[], #[.int .i64 0, .slice none 0 0, .int .i64 0, .int .i64 0], []⟩ 8 (by kernel_rfl) (by kernel_rfl) (by kernel_rfl) (by kernel_rfl))
    walked

/-- THE STATEMENT -/
theorem proved : Rows.BalanceGrowsSaid :=
  OpenClaim.holds_of_wide 9 Try.f9 rfl rfl rfl rfl rfl rfl rfl ⟨rfl, rfl, rfl, rfl, rfl⟩ rfl rfl rfl rfl rfl (by kernel_rfl) Try.func9 (by kernel_rfl)
    (of_decide_eq_true (by kernel_rfl)) (by unfold Func.isWrapper; first | (rw [if_pos (by decide +kernel)]; kernel_rfl) | (rw [if_neg (by decide +kernel)]; exact ⟨rfl, rfl⟩))
    (fun os started H enc _ => lifted os started H enc)
#print axioms proved
end Go.Proofs.Ytmnbcpinlgklpaa.BalanceGrowsDone
