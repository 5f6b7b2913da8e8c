/- The contract of package bidi: resetBlanks. Printed by bdordgen.py. -/
import Derived.Test.YtdikfldogmbeaaaDoorBdMem
namespace Go.Proofs.YtdikfldogmbeaaaDoor.Bd
open Go.RowKit Go.Frm

/-- what is asked of a row of numbers that is written -/
structure RowLike (g n : Nat) (R : World → (Nat → Int) → Prop) : Prop where
  cell : ∀ {w F j}, R w F → j < n → w.cell? ⟨g, j, none⟩ = some (.int .i64 (F j))
  frozen : ∀ {w F j}, R w F → j < n → w.frozen? ⟨g, j, none⟩ = false
  set : ∀ {w F j}, R w F → j < n → ∀ x : Int, R (w.setCell ⟨g, j, none⟩ (.int .i64 x)) (upd F j x)
theorem rowLike_BI (g n : Nat) : RowLike g n (fun w F => BI w g n F) := ⟨fun h hj => BI.cell h hj, fun h _ => BI.frozen h _, fun h _ x => BI.set h _ x⟩
theorem rowLike_own (g n c base : Nat) : RowLike g n (fun w F => w.ownsRow base 3 1 (.slice (some ⟨g, 0, none⟩) n c) n (tabV n fun i => .int .i64 (F i))) :=
  ⟨fun h hj => own_cell h hj, fun h hj => World.ownsRow.frozenAt h _, fun {w F j} h hj x => by
    have h1 := own_store h j (.int .i64 x)
    rwa [tabV_congr (F := fun i => .int .i64 (upd F j x i)) (G := upd (fun i => .int .i64 (F i)) j (.int .i64 x)) (fun i _ => by unfold upd; split <;> rfl)]⟩

set_option maxRecDepth 100000 in
set_option maxHeartbeats 4000000 in
theorem resetBlanks_ok (b off cp n gl cl : Nat) (W L : Nat → Int) (base : Int) (R0 : World → (Nat → Int) → Prop) (hR : RowLike gl n R0) (w : World) (hw : RdI w (some ⟨b, off, none⟩) (tab n W)) (hL : R0 w L) (hb : b ≠ gl) (hn : n ≤ 100000) :
    Calls Tryd.prog 26 #[.slice (some ⟨b, off, none⟩) n cp, .slice (some ⟨gl, 0, none⟩) n cl, .int .i64 base] w fun e w' => e = .returned (.tuple #[]) ∧ R0 w' (blanks W base n true L) ∧ Chg (Is gl) w w' := by
  obtain ⟨R, HR⟩ : ∃ R, Hid (R = blanks W base n true L) := ⟨_, rfl⟩
  rw [← HR.out]
  have Hw := hide hw
  clear hw
  go_enter Tryd.func26, Tryd.ntmps26
  go_wp2_with fail
  go_loopw [6, 7] (fun v a wr => ∃ (k : Nat) (b : Bool) (E : Nat → Int), k ≤ n ∧ a = .int .i64 ((k : Int) - 1) ∧ v = .bool b ∧ Hid (R = blanks W base k b E) ∧ R0 wr E ∧ Chg (Is gl) w wr) (fun _ a _ => (intOf a + 1).toNat)
  case atStart => exact ⟨n, true, L, Nat.le_refl _, rfl, rfl, HR, hL, Chg.refl _ _⟩
  case round =>
    clear HR hL
    obtain ⟨k, b, E, hk, rfl, rfl, HE, hbi, hgr⟩ := hrel
    cases k with
    | zero =>
      have H2 : Hid (R = E) := hide HE.out
      go_wp2_with fail
      refine bodyPost_end (results_none rfl _ _ _) rfl ?_
      exact ⟨rfl, by rw [H2.out]; exact hbi, hgr⟩
    | succ k =>
      have hst := hide (HE.out.trans (show blanks W base (k + 1) b E = if (W k == 11 || W k == 10) = true then blanks W base k true (upd E k base) else if (W k == 12 || decide (14 ≤ W k) || W k == 9) = true then blanks W base k b (if b then upd E k base else E) else blanks W base k false E from rfl))
      have cw := (rd_chg Hw.out hgr hb).get (k := k) (by rw [tab_length]; omega)
      rw [tab_ix _ (by omega)] at cw
      have ce := hR.cell hbi (j := k) (by omega)
      have fe := hR.frozen hbi (j := k) (by omega)
      have i1 : ((k + 1 : Nat) : Int) - 1 = (k : Int) := by omega
      have lim : k < n := by omega
      rw [i1]
      generalize W k = v at *
      clear HE
      cases h11 : (v == 11) with
      | true =>
        have H2 : Hid (R = blanks W base k true (upd E k base)) := hide (hst.out.trans (by rw [h11]; rfl))
        go_wp2_with fail
        go_roundw
        case rel => exact ⟨k, true, upd E k base, by omega, by go_num, rfl, H2, hR.set hbi (by omega) base, hgr.setCell (p := ⟨gl, k, none⟩) (.inl (show Is gl gl from rfl)) _⟩
        case measure => simp [intOf]
      | false =>
        cases h10 : (v == 10) with
        | true =>
          have H2 : Hid (R = blanks W base k true (upd E k base)) := hide (hst.out.trans (by rw [h11, h10]; rfl))
          go_wp2_with fail
          go_roundw
          case rel => exact ⟨k, true, upd E k base, by omega, by go_num, rfl, H2, hR.set hbi (by omega) base, hgr.setCell (p := ⟨gl, k, none⟩) (.inl (show Is gl gl from rfl)) _⟩
          case measure => simp [intOf]
        | false =>
          cases h12 : (v == 12) with
          | true =>
            cases b with
            | true =>
              have H2 : Hid (R = blanks W base k true (upd E k base)) := hide (hst.out.trans (by rw [h11, h10, h12]; rfl))
              go_wp2_with fail
              go_roundw
              case rel => exact ⟨k, true, upd E k base, by omega, by go_num, rfl, H2, hR.set hbi (by omega) base, hgr.setCell (p := ⟨gl, k, none⟩) (.inl (show Is gl gl from rfl)) _⟩
              case measure => simp [intOf]
            | false =>
              have H2 : Hid (R = blanks W base k false E) := hide (hst.out.trans (by rw [h11, h10, h12]; rfl))
              go_wp2_with fail
              go_roundw
              case rel => exact ⟨k, false, E, by omega, by go_num, rfl, H2, hbi, hgr⟩
              case measure => simp [intOf]
          | false =>
            cases h14 : decide (14 ≤ v) with
            | true =>
              cases b with
              | true =>
                have H2 : Hid (R = blanks W base k true (upd E k base)) := hide (hst.out.trans (by rw [h11, h10, h12, h14]; rfl))
                go_wp2_with fail
                go_roundw
                case rel => exact ⟨k, true, upd E k base, by omega, by go_num, rfl, H2, hR.set hbi (by omega) base, hgr.setCell (p := ⟨gl, k, none⟩) (.inl (show Is gl gl from rfl)) _⟩
                case measure => simp [intOf]
              | false =>
                have H2 : Hid (R = blanks W base k false E) := hide (hst.out.trans (by rw [h11, h10, h12, h14]; rfl))
                go_wp2_with fail
                go_roundw
                case rel => exact ⟨k, false, E, by omega, by go_num, rfl, H2, hbi, hgr⟩
                case measure => simp [intOf]
            | false =>
              cases h9 : (v == 9) with
              | true =>
                cases b with
                | true =>
                  have H2 : Hid (R = blanks W base k true (upd E k base)) := hide (hst.out.trans (by rw [h11, h10, h12, h14, h9]; rfl))
                  go_wp2_with fail
                  go_roundw
                  case rel => exact ⟨k, true, upd E k base, by omega, by go_num, rfl, H2, hR.set hbi (by omega) base, hgr.setCell (p := ⟨gl, k, none⟩) (.inl (show Is gl gl from rfl)) _⟩
                  case measure => simp [intOf]
                | false =>
                  have H2 : Hid (R = blanks W base k false E) := hide (hst.out.trans (by rw [h11, h10, h12, h14, h9]; rfl))
                  go_wp2_with fail
                  go_roundw
                  case rel => exact ⟨k, false, E, by omega, by go_num, rfl, H2, hbi, hgr⟩
                  case measure => simp [intOf]
              | false =>
                have H2 : Hid (R = blanks W base k false E) := hide (hst.out.trans (by rw [h11, h10, h12, h14, h9]; rfl))
                go_wp2_with fail
                go_roundw
                case rel => exact ⟨k, false, E, by omega, by go_num, rfl, H2, hbi, hgr⟩
                case measure => simp [intOf]
end Go.Proofs.YtdikfldogmbeaaaDoor.Bd
