/- PROVED HERE: whatever the chart and the height, chancerykeep3.ChartStackedHeights returns true, and its arguments read behind the call as before. No condition beside those of the given row. -/
import Derived.Test.YtoggpbbndoipdaaRows
import Derived.Test.YtoggpbbndoipdaaBarsAll
import Derived.Test.YtoggpbbndoipdaaBars
import Derived.Test.YtoggpbbndoipdaaCharted
import Derived.Test.YtoggpbbndoipdaaScaleFind
import Derived.Test.YtoggpbbndoipdaaArgs
namespace Go.Proofs.Ytoggpbbndoipdaa.ChartStackedHeightsDone
open Go.RowKit Go.Frm Go.ChangeShapes Go.WideShapes Go.ChangeAt Chr Wi Scl

theorem found_zero {high steps A B S : Int} (h : Scl.Found 0 high steps A B S) : A * S = 0 := by
  have l1 := h.l1
  have l2 := h.l2
  have s1 := h.s1
  have h1 : A < 1 := by
    refine Int.not_le.1 fun hA => ?_
    have := Int.mul_le_mul_of_nonneg_right hA (show 0 ≤ S by omega)
    omega
  have h2 : -1 < A := by
    refine Int.not_le.1 fun hA => ?_
    have := Int.mul_le_mul_of_nonneg_right hA (show 0 ≤ S by omega)
    omega
  have h3 : A = 0 := by omega
  rw [h3, Int.zero_mul]
theorem rng_one (V : Nat → Nat → Int) (m : Nat) : ∀ n, (rngR 1 V m n).1 = 0
  | 0 => rfl
  | n + 1 => by
    have ih := rng_one V m n
    have hc : ∀ s, (colR 1 V n (rngR 1 V m n) s).1 = (rngR 1 V m n).1 := by
      intro s
      induction s with
      | zero => rfl
      | succ s ihs => exact ihs
    show (endR 1 V m n (rngR 1 V m n)).1 = 0
    unfold endR
    rw [if_pos rfl]
    show (colR 1 V n (rngR 1 V m n) m).1 = 0
    rw [hc, ih]
/-- what has been found of the one bar of height h at place t0 -/
def got (t0 : Nat) (h : Int) (t : Nat) : Int := if t0 < t then h else 0
theorem got_bd {t0 t : Nat} {h : Int} (h0 : 0 ≤ h) (h1 : h ≤ 5000) : 0 ≤ got t0 h t ∧ got t0 h t ≤ 5000 := by unfold got; split <;> omega
theorem got_ne {t0 t : Nat} {h : Int} (hn : t ≠ t0) : got t0 h (t + 1) = got t0 h t := by
  unfold got
  by_cases h1 : t0 < t
  · rw [if_pos h1, if_pos (by omega)]
  · rw [if_neg h1, if_neg (by omega)]
theorem got_eq {t0 : Nat} {h : Int} : got t0 h (t0 + 1) = got t0 h t0 + h := by unfold got; rw [if_pos (by omega), if_neg (by omega)]; omega
theorem got_all {t0 t : Nat} {h : Int} (hl : t0 < t) : got t0 h t = h := by unfold got; rw [if_pos hl]
theorem at_place {m i k t : Nat} (hk : k < m) : (t / m = i ∧ t % m = k) ↔ t = i * m + k := by
  constructor
  · rintro ⟨rfl, rfl⟩
    rw [Nat.mul_comm]
    exact (Nat.div_add_mod t m).symm
  · rintro rfl
    exact ⟨by rw [Nat.mul_comm, Nat.mul_add_div (by omega), Nat.div_eq_of_lt hk]; omega, by rw [Nat.mul_comm, Nat.mul_add_mod, Nat.mod_eq_of_lt hk]⟩

set_option maxRecDepth 100000 in
set_option maxHeartbeats 4000000 in
theorem walk (k0 height : Int) (Aa As : Option Addr) (na ca ms cs : Nat) (rows : Nat → List Int) (w : World) (hr : RdM w As ms rows) (hna : na ≤ 9223372036854775807) (hms : ms ≤ 9223372036854775807)
    (hlen : ∀ i, i < ms → (rows i).length ≤ 9223372036854775807) (hwf : ∀ i j, i < ms → j < (rows i).length → (Lit.int .i64 (ix (rows i) j)).wf = true) (f3 : (Lit.int .i64 height).wf = true) :
    Calls Try.prog 4 #[.agg #[.int .i64 k0, .slice Aa na ca, .slice As ms cs], .int .i64 height] w fun e w' => e = .returned (.bool true) ∧ Below w.heap.size w w' := by
  have Hlen := hide hlen
  have Hwf := hide hwf
  clear hlen hwf
  have hq3 := fun wx => within_any height 1 5000 wx f3 (by omega) (by omega) (by omega)
  have ht0 := wi_bd height (show (1 : Int) ≤ 5000 by omega)
  generalize wi height 1 5000 = ht at *
  have Q3 := hide hq3
  clear hq3
  go_enter Try.func4, Try.ntmps4
  go_wp2_with fail
  have hb0 := Blk.new w 25 #[.int .i64 k0, .slice Aa na ca, .slice As ms cs]
  have hr0 := hr.alloc (.cells #[.int .i64 k0, .slice Aa na ca, .slice As ms cs] 25)
  have hbel0 : Below w.heap.size w (w.alloc (.cells #[.int .i64 k0, .slice Aa na ca, .slice As ms cs] 25)) := (Below.refl _ _).alloc (Nat.le_refl _) _
  generalize w.alloc (.cells #[.int .i64 k0, .slice Aa na ca, .slice As ms cs] 25) = w0 at *
  refine (charted_ok _).mono ?_
  rintro e w1 ⟨rfl, hbel1⟩
  have hb1 := hb0.below hbel1 hb0.lt
  have hr1 := hr0.below hbel1
  have a0 : w1.cell? ⟨w.heap.size, 0, none⟩ = some (.int .i64 k0) := hb1.cell 0
  have a1 : w1.cell? ⟨w.heap.size, 1, none⟩ = some (.slice Aa na ca) := hb1.cell 1
  have a2 : w1.cell? ⟨w.heap.size, 2, none⟩ = some (.slice As ms cs) := hb1.cell 2
  have hbelA := hbel0.trans (hbel1.mono hbel0.size)
  clear hb0 hr hr0 hbel0 hbel1
  go_wp2_with fail
  refine (bars_ok k0 1 Aa As na ca ms cs rows w1 hr1 hna hms Hlen.out Hwf.out (by omega) (by omega)).mono ?_
  rintro e w2 ⟨An, Bs, n, cn, m, cm, rs, rfl, n0, n1, m0, m1, mk, hm, hv, hbel2⟩
  have hM := hb1.lt
  have hb2 := hb1.below hbel2 hM
  have c0 : w2.cell? ⟨w.heap.size, 0, none⟩ = some (.int .i64 k0) := hb2.cell 0
  have c1 : w2.cell? ⟨w.heap.size, 1, none⟩ = some (.slice Aa na ca) := hb2.cell 1
  have c2 : w2.cell? ⟨w.heap.size, 2, none⟩ = some (.slice As ms cs) := hb2.cell 2
  have z0 := hb2.frozen 0
  have z1 := hb2.frozen 1
  have z2 := hb2.frozen 2
  have hrm := hm _ ((((AboveEq.refl _ _).setCell (p := ⟨w.heap.size, 0, none⟩) hM (.int .i64 1)).setCell (p := ⟨w.heap.size, 1, none⟩) hM (.slice An n cn)).setCell (p := ⟨w.heap.size, 2, none⟩) hM (.slice Bs m cm))
  have hb := ((hb2.set_ 0 (.int .i64 1)).set_ 1 (.slice An n cn)).set_ 2 (.slice Bs m cm)
  have hbel := (((hbelA.trans (hbel2.mono hbelA.size)).setCell (p := ⟨w.heap.size, 0, none⟩) (Nat.le_refl _) (.int .i64 1)).setCell (p := ⟨w.heap.size, 1, none⟩) (Nat.le_refl _) (.slice An n cn)).setCell (p := ⟨w.heap.size, 2, none⟩) (Nat.le_refl _) (.slice Bs m cm)
  have hv2 : ∀ i, i < m → (rs i).length = n ∧ ∀ j, j < n → 0 ≤ ix (rs i) j ∧ ix (rs i) j ≤ 1000 := hv
  have hch : Ch 1 n m rs := ⟨by omega, by omega, n0, by omega, m0, by omega, fun h => by omega, fun i hi => (hv i hi).1, fun i j hi hj => by
    have h1 := (hv2 i hi).2 j hj
    exact ⟨by omega, by omega, fun _ => h1.1⟩⟩
  have hVb : ∀ s i, s < m → i < n → -1000 ≤ ix (rs s) i ∧ ix (rs s) i ≤ 1000 := fun i j hi hj => by
    have h1 := (hv2 i hi).2 j hj
    omega
  have hVn : ∀ s i, s < m → i < n → -1000 ≤ ix (rs s) i ∧ ix (rs s) i ≤ 1000 ∧ ((1 : Int) = 1 → 0 ≤ ix (rs s) i) := fun i j hi hj => by
    have h1 := (hv2 i hi).2 j hj
    exact ⟨by omega, by omega, fun _ => h1.1⟩
  have hlb := rngR_bd (k := 1) (V := fun s i => ix (rs s) i) m1 m0 n0 hVb n (Nat.le_refl _)
  have hle := rngR_zero (k := 1) (by decide) (fun s i => ix (rs s) i) m n
  have hr1z := rng_one (fun s i => ix (rs s) i) m n
  have hok : ∀ hi : Int, 0 < hi → (rngR 1 (fun s i => ix (rs s) i) m n).2 ≤ hi → BarOk ⟨1, 0, hi, ht, 1000, n, m, fun s i => ix (rs s) i⟩ := fun hi h1 h3 =>
    ⟨.inr (.inl rfl), n0, n1, m0, m1, h1, by show 1 ≤ ht; omega, by show ht ≤ _; omega, by show (1 : Int) ≤ 1000; omega, by show (1000 : Int) ≤ 100000; omega, hVn, by show 0 ≤ (rngR 1 _ m n).1; rw [hr1z]; exact Int.le_refl 0, h3⟩
  have Hch := hide hch
  have Hok := hide hok
  have Hm := hide hm
  have HVb := hide hVb
  have Hv2 := hide hv2
  have Mk := hide mk
  clear hv hVb hVn hch hok hm hr1 hb1 hbel2 hbelA a0 a1 a2 mk hv2 hr1z
  go_upto_region 4 with (go_at_call 7; with_reducible refine (Q3.out _).mono ?_; rintro e w' ⟨rfl, rfl⟩)
  generalize ((w2.setCell ⟨w.heap.size, 0, none⟩ (.int .i64 1)).setCell ⟨w.heap.size, 1, none⟩ (.slice An n cn)).setCell ⟨w.heap.size, 2, none⟩ (.slice Bs m cm) = wc at *
  clear c0 c1 c2 z0 z1 z2 hb2
  have a0 : wc.cell? ⟨w.heap.size, 0, none⟩ = some (.int .i64 1) := hb.cell 0
  have a1 : wc.cell? ⟨w.heap.size, 1, none⟩ = some (.slice An n cn) := hb.cell 1
  have a2 : wc.cell? ⟨w.heap.size, 2, none⟩ = some (.slice Bs m cm) := hb.cell 2
  have hrg := range_ok 1 An Bs n cn m cm rs wc Hch.out (.inr (.inl rfl)) m1 HVb.out hrm
  generalize (rngR 1 (fun s i => ix (rs s) i) m n).1 = rl at *
  generalize (rngR 1 (fun s i => ix (rs s) i) m n).2 = rh at *
  have Hrg := hide hrg
  clear hrg
  go_wp2_with fail
  refine Hrg.out.mono ?_
  rintro e w3 ⟨rfl, hbel3⟩
  have hb3 := hb.below hbel3 hb.lt
  have hr3 := hrm.below hbel3
  have hbelB := hbel.trans (hbel3.mono hbel.size)
  clear hb hrm hbel hbel3 a0 a1 a2
  go_wp2_with fail
  refine (find_ok 0 rh 10 w3 (by omega) (by omega) (by omega) (by omega) (by omega) (by omega) (by omega)).mono ?_
  rintro e w4 ⟨A, B, S, rfl, hF, hbel4⟩
  obtain ⟨hsc, _⟩ := hF.sc (by omega) (by omega) (by omega) (by omega) (by omega)
  have h1 := hF.h1
  have hz := found_zero hF
  rw [hz] at hsc ⊢
  have hlt := hsc.lt
  have hokk := Hok.out (B * S) hlt h1
  have hhb : B * S ≤ 4000000000000 := hsc.b2
  clear hF hz
  generalize B * S = hi at *
  have hb4 := hb3.below hbel4 hb3.lt
  have hr4 := hr3.below hbel4
  have hbelC := hbelB.trans (hbel4.mono hbelB.size)
  have hC4 := hb4.lt
  have a0 : w4.cell? ⟨w.heap.size, 0, none⟩ = some (.int .i64 1) := hb4.cell 0
  have a1 : w4.cell? ⟨w.heap.size, 1, none⟩ = some (.slice An n cn) := hb4.cell 1
  have a2 : w4.cell? ⟨w.heap.size, 2, none⟩ = some (.slice Bs m cm) := hb4.cell 2
  have Hokk := hide hokk
  have Hsc := hide hsc
  clear hokk hsc h1 hb3 hr3 hbelB hbel4
  go_wp2_with fail
  have hb5 := hb4.alloc (.cells #[.int .i64 0, .int .i64 hi, .int .i64 S] 33)
  have hs5 := Blk.new w4 33 #[.int .i64 0, .int .i64 hi, .int .i64 S]
  have hr5 := hr4.alloc (.cells #[.int .i64 0, .int .i64 hi, .int .i64 S] 33)
  have hbelD := hbelC.alloc hbelC.size (.cells #[.int .i64 0, .int .i64 hi, .int .i64 S] 33)
  generalize w4.alloc (.cells #[.int .i64 0, .int .i64 hi, .int .i64 S] 33) = w5 at *
  generalize w4.heap.size = G at *
  clear hb4 hr4 hbelC hC4 a0 a1 a2
  have hbars : Calls Try.prog 10 #[.agg #[.int .i64 1, .slice An n cn, .slice Bs m cm], .agg #[.int .i64 0, .int .i64 hi, .int .i64 S], .int .i64 1000, .int .i64 ht] w5 fun e w' => ∃ (A : Option Addr) (c N : Nat) (P Q X Y W H : Nat → Int), e = .returned (.tuple #[.slice A N c, .int .i64 0]) ∧ N = n * m ∧
      RdF w' A N 6 (fun t j => match j with | 0 => .int .i64 (P t) | 1 => .int .i64 (Q t) | 2 => .int .i64 (X t) | 3 => .int .i64 (Y t) | 4 => .int .i64 (W t) | _ => .int .i64 (H t)) ∧
      (∀ t, P t = ((t % m : Nat) : Int)) ∧ (∀ t, Q t = ((t / m : Nat) : Int)) ∧ (∀ t, H t = (BarIn.mk 1 0 hi ht 1000 n m fun s i => ix (rs s) i).bH (t / m) (t % m)) ∧ Below w5.heap.size w5 w' :=
    (barsAll_ok ⟨1, 0, hi, ht, 1000, n, m, fun s i => ix (rs s) i⟩ Hokk.out An Bs cn cm S rs w5 Hch.out hr5 (fun _ _ => rfl) Hsc.out).mono fun e w' ⟨A, c, he, hown, hbl⟩ =>
      ⟨A, c, n * m, fun t => ((t % m : Nat) : Int), fun t => ((t / m : Nat) : Int), _, _, _, _, he, rfl, by
        have h9 := RdF.of_own hown
        rcases h9 with h9 | ⟨b, off, h9, hc⟩
        · exact .inl h9
        · refine .inr ⟨b, off, h9, fun i j hi hj => ?_⟩
          rw [hc i j hi hj]
          match j, hj with
          | 0, _ => rfl
          | 1, _ => rfl
          | 2, _ => rfl
          | 3, _ => rfl
          | 4, _ => rfl
          | 5, _ => rfl, fun _ => rfl, fun _ => rfl, fun _ => rfl, hbl⟩
  refine hbars.mono ?_
  rintro e w6 ⟨Al, cl, N, P, Q, X, Y, W, Hh, rfl, hN, hrF, hP, hQ, hHh, hbel6⟩
  have hb6 := hb5.below hbel6 hb5.lt
  have hs6 := hs5.below hbel6 hs5.lt
  have hr6 := hr5.below hbel6
  have hbelE := hbelD.trans (hbel6.mono hbelD.size)
  have hnm : n * m ≤ 6 * 4 := Nat.mul_le_mul n1 m1
  have hN3 : N ≤ 24 := by omega
  have a1 : w6.cell? ⟨w.heap.size, 1, none⟩ = some (.slice An n cn) := hb6.cell 1
  have HP := hide hP
  have HQ := hide hQ
  have HHh := hide hHh
  have HN := hide hN
  have hst : ∀ i k, i < n → k ≤ m → fsum ((BarIn.mk 1 0 hi ht 1000 n m fun s i => ix (rs s) i).bH i) k = plc 0 hi ht (fsum (fun s => ix (rs s) i) k) ∧ 0 ≤ fsum (fun s => ix (rs s) i) k ∧ fsum (fun s => ix (rs s) i) k ≤ hi ∧ fsum (fun s => ix (rs s) i) k ≤ 4000 ∧ 0 ≤ fsum ((BarIn.mk 1 0 hi ht 1000 n m fun s i => ix (rs s) i).bH i) k ∧ fsum ((BarIn.mk 1 0 hi ht 1000 n m fun s i => ix (rs s) i).bH i) k ≤ 5000 := fun i k hi' hk => by
    have h1 := Hokk.out.stack rfl hi' k hk
    have h2 := Hokk.out.sm_bd hi' rfl hk
    obtain ⟨e, s0, s1, s2⟩ := h2
    rw [e] at s0 s1
    have h4 : fsum (fun s => ix (rs s) i) k ≤ k * 1000 := by rw [← fsum_const]; exact fsum_le fun s hs => (HVb.out s i (by omega) hi').2
    have hp0 : plc 0 hi ht 0 = 0 := plc_lo hlt
    have h5 : fsum ((BarIn.mk 1 0 hi ht 1000 n m fun s i => ix (rs s) i).bH i) k = plc 0 hi ht (fsum (fun s => ix (rs s) i) k) := by
      rw [h1]
      show (ht - plc 0 hi ht 0) - (ht - plc 0 hi ht (fsum (fun s => ix (rs s) i) k)) = _
      omega
    have h6 := plc_bd (high := ht) hlt (by omega) s0 s1
    exact ⟨h5, s0, s1, by omega, by rw [h5]; exact h6.1, by rw [h5]; exact Int.le_trans h6.2 (by omega)⟩
  have hHb : ∀ i k, i < n → k < m → 0 ≤ (BarIn.mk 1 0 hi ht 1000 n m fun s i => ix (rs s) i).bH i k ∧ (BarIn.mk 1 0 hi ht 1000 n m fun s i => ix (rs s) i).bH i k ≤ 5000 := fun i k hi' hk => by
    have h1 := Hokk.out.inside hi' hk
    have h2 : (BarIn.mk 1 0 hi ht 1000 n m fun s i => ix (rs s) i).bY i k + (BarIn.mk 1 0 hi ht 1000 n m fun s i => ix (rs s) i).bH i k ≤ ht := h1.2.2.2.2.2
    have h3 := h1.2.2.2.1
    have h4 := h1.2.1
    omega
  have Hst := hide hst
  have HHb := hide hHb
  clear hbars hb5 hs5 hr5 hbelD hbel6 hN hP hQ hHh hst hHb hnm
  go_wp2_with fail
  go_loopw [57] (fun a wr => ∃ i : Nat, i ≤ n ∧ a = .int .i64 i ∧ Below w6.heap.size w6 wr) (fun a _ => n - (intOf a).toNat)
  case atStart => exact ⟨0, by omega, rfl, Below.refl _ _⟩
  case round =>
    clear a1
    obtain ⟨i, hi', rfl, hbl⟩ := hrel
    by_cases hlt1 : i < n
    · have a2 : wr.cell? ⟨w.heap.size, 2, none⟩ = some (.slice Bs m cm) := (hb6.below hbl hb6.lt).cell 2
      have hst : ∀ k, k ≤ m → fsum ((BarIn.mk 1 0 hi ht 1000 n m fun s i => ix (rs s) i).bH i) k = plc 0 hi ht (fsum (fun s => ix (rs s) i) k) ∧ 0 ≤ fsum (fun s => ix (rs s) i) k ∧ fsum (fun s => ix (rs s) i) k ≤ hi ∧ fsum (fun s => ix (rs s) i) k ≤ 4000 ∧ 0 ≤ fsum ((BarIn.mk 1 0 hi ht 1000 n m fun s i => ix (rs s) i).bH i) k ∧ fsum ((BarIn.mk 1 0 hi ht 1000 n m fun s i => ix (rs s) i).bH i) k ≤ 5000 := fun k hk => Hst.out i k hlt1 hk
      have hHb := fun k hk => HHb.out i k hlt1 hk
      have hHh : ∀ k, k < m → Hh (i * m + k) = (BarIn.mk 1 0 hi ht 1000 n m fun s i => ix (rs s) i).bH i k := fun k hk => by
        rw [HHh.out, ((at_place hk).2 rfl).1, ((at_place hk).2 rfl).2]
      generalize (BarIn.mk 1 0 hi ht 1000 n m fun s i => ix (rs s) i).bH i = F at *
      have Hst1 := hide hst
      have HHb1 := hide hHb
      have HHh1 := hide hHh
      clear hst hHb hHh
      go_wp2_with fail
      clear a2
      go_loopw [13, 14, 63] (fun s a q wr => ∃ k : Nat, k ≤ m ∧ q = .int .i64 k ∧ s = .int .i64 (fsum F k) ∧ a = .int .i64 (fsum (fun s => ix (rs s) i) k) ∧ Below w6.heap.size w6 wr) (fun _ _ q _ => m - (intOf q).toNat)
      case atStart => exact ⟨0, by omega, rfl, rfl, rfl, hbl⟩
      case round =>
        clear hbl
        obtain ⟨k, hk, rfl, rfl, rfl, hbl⟩ := hrel
        obtain ⟨u0, u1, u2, u3, u4, u5⟩ := Hst1.out k hk
        by_cases hlt2 : k < m
        · have a2 : wr.cell? ⟨w.heap.size, 2, none⟩ = some (.slice Bs m cm) := (hb6.below hbl hb6.lt).cell 2
          obtain ⟨b, off, Ai, ci, rfl, hc, hri⟩ := (hr6.below hbl).at_ hlt2
          have hl := (Hv2.out k hlt2).1
          rw [hl] at hc
          obtain ⟨b2, off2, rfl, hc2⟩ := hri.at_ (show i < _ by rw [hl]; exact hlt1)
          have hval := (Hv2.out k hlt2).2 i hlt1
          have hF := HHb1.out k hlt2
          have hHk := HHh1.out k hlt2
          have hs1 : fsum F (k + 1) = fsum F k + F k := rfl
          have hs2 : fsum (fun s => ix (rs s) i) (k + 1) = fsum (fun s => ix (rs s) i) k + ix (rs k) i := rfl
          have Hs1 := hide hs1
          have Hs2 := hide hs2
          have HHk := hide hHk
          generalize fsum F k = s0 at *
          generalize fsum (fun s => ix (rs s) i) k = s9 at *
          generalize F k = fk at *
          clear u0 hl hs1 hs2 hHk
          have ht0N : i * m + k < N := by
            rw [HN.out]
            have : (i + 1) * m ≤ n * m := Nat.mul_le_mul_right _ hlt1
            rw [Nat.succ_mul] at this
            omega
          go_wp2_with fail
          clear hc hc2 a2
          go_loopw [13, 78] (fun s q wr => ∃ t : Nat, t ≤ N ∧ q = .int .i64 t ∧ s = .int .i64 (s0 + got (i * m + k) fk t) ∧ Below w6.heap.size w6 wr) (fun _ q _ => N - (intOf q).toNat)
          case atStart => exact ⟨0, by omega, rfl, val_int (by unfold got; rw [if_neg (by omega)]; omega), hbl⟩
          case round =>
            clear hbl
            obtain ⟨t, ht', rfl, rfl, hbl⟩ := hrel
            have hgb := got_bd (t0 := i * m + k) (t := t) hF.1 hF.2
            by_cases hlt3 : t < N
            · obtain ⟨b3, off3, rfl, hc⟩ := (hrF.below hbl).at_ hlt3
              have c0 : wr.cell? ⟨b3, off3 + t * 6, none⟩ = some (.int .i64 (P t)) := hc 0 (by omega)
              have c1 : wr.cell? ⟨b3, off3 + t * 6 + 1, none⟩ = some (.int .i64 (Q t)) := hc 1 (by omega)
              have c2 : wr.cell? ⟨b3, off3 + t * 6 + 2, none⟩ = some (.int .i64 (X t)) := hc 2 (by omega)
              have c3 : wr.cell? ⟨b3, off3 + t * 6 + 3, none⟩ = some (.int .i64 (Y t)) := hc 3 (by omega)
              have c4 : wr.cell? ⟨b3, off3 + t * 6 + 4, none⟩ = some (.int .i64 (W t)) := hc 4 (by omega)
              have c5 : wr.cell? ⟨b3, off3 + t * 6 + 5, none⟩ = some (.int .i64 (Hh t)) := hc 5 (by omega)
              have hbn := hbl.alloc hbl.size (.cells #[.int .i64 (P t), .int .i64 (Q t), .int .i64 (X t), .int .i64 (Y t), .int .i64 (W t), .int .i64 (Hh t)] 40)
              have hcase : (t = i * m + k ∧ (Q t == (i : Int)) = true ∧ (P t == (k : Int)) = true) ∨ (t ≠ i * m + k ∧ (Q t == (i : Int)) = true ∧ (P t == (k : Int)) = false) ∨ (t ≠ i * m + k ∧ (Q t == (i : Int)) = false) := by
                have h1 := at_place (i := i) (t := t) hlt2
                rw [HQ.out t, HP.out t]
                simp only [beq_iff_eq, beq_eq_false_iff_ne, ne_eq, Int.natCast_inj]
                by_cases h2 : t / m = i
                · by_cases h3 : t % m = k
                  · exact .inl ⟨h1.1 ⟨h2, h3⟩, h2, h3⟩
                  · exact .inr (.inl ⟨fun h => h3 (h1.2 h).2, h2, h3⟩)
                · exact .inr (.inr ⟨fun h => h2 (h1.2 h).1, h2⟩)
              clear hc hbl
              rcases hcase with ⟨he, g1, g2⟩ | ⟨he, g1, g2⟩ | ⟨he, g1⟩
              · have hHt : Hh t = fk := by rw [he]; exact HHk.out
                have hge : got (i * m + k) fk (t + 1) = got (i * m + k) fk t + fk := by rw [he]; exact got_eq
                rw [hHt] at c5 hbn
                have Hge := hide hge
                clear hHt hge he
                generalize got (i * m + k) fk t = gt at *
                go_wp2_with fail
                go_roundw
                case rel => exact ⟨t + 1, by omega, by go_num, val_int (by rw [Hge.out]; omega), hbn⟩
                case measure => simp [intOf]; omega
              all_goals
                have hge := got_ne (h := fk) he
                have Hge := hide hge
                clear hge he
                generalize got (i * m + k) fk t = gt at *
                go_wp2_with fail
                go_roundw
                case rel => exact ⟨t + 1, by omega, by go_num, val_int (by rw [Hge.out]), hbn⟩
                case measure => simp [intOf]; omega
            · obtain rfl : t = N := by omega
              have hga : got (i * m + k) fk t = fk := got_all ht0N
              rw [hga]
              have Hga := hide hga
              clear hga hgb
              go_wp2_with fail
              go_roundw
              case rel => exact ⟨k + 1, by omega, by go_num, val_int (by rw [Hs1.out]), val_int (by rw [Hs2.out]), hbl⟩
              case measure => simp [intOf]; omega
        · obtain rfl : k = m := by omega
          have hsr := hs6.below hbl hs6.lt
          have e0 : wr.cell? ⟨G, 0, none⟩ = some (.int .i64 0) := hsr.cell 0
          have e1 : wr.cell? ⟨G, 1, none⟩ = some (.int .i64 hi) := hsr.cell 1
          have e2 : wr.cell? ⟨G, 2, none⟩ = some (.int .i64 S) := hsr.cell 2
          have hpl : Calls Try.prog 11 #[.agg #[.int .i64 0, .int .i64 hi, .int .i64 S], .int .i64 (fsum (fun s => ix (rs s) i) k), .int .i64 ht] wr fun e w' => e = .returned (.tuple #[.int .i64 (plc 0 hi ht (fsum (fun s => ix (rs s) i) k)), .int .i64 0]) ∧ Below wr.heap.size wr w' := place_ok 0 hi S _ ht wr Hsc.out (by omega) (by omega) u1 u2
          rw [← u0] at hpl
          generalize fsum F k = s0 at *
          generalize fsum (fun s => ix (rs s) i) k = s9 at *
          have Hpl := hide hpl
          clear u0 hpl
          go_wp2_with fail
          refine Hpl.out.mono ?_
          rintro e w7 ⟨rfl, hbel7⟩
          go_wp2_with fail
          go_roundw
          case rel => exact ⟨i + 1, by omega, by go_num, hbl.trans (hbel7.mono hbl.size)⟩
          case measure => simp [intOf]; omega
    · obtain rfl : i = n := by omega
      go_wp2_with fail
      go_ret
      exact ⟨rfl, hbelE.trans (hbl.mono hbelE.size)⟩

theorem walked : Walked Try.checked.prog 4 Try.f4 := by
  intro H enc W args ds ps hval hA
  rw [Try.params4] at hA hval
  obtain ⟨v0, v1, d0, d1, p0, p1, hargs, rfl, _, h0, h1⟩ := trodAll_two hA
  obtain rfl : args = #[v0, v1] := by cases args; simp_all
  obtain ⟨c0, c1, c2, y0, y1, y2, m, rfl, rfl, rfl, hy0, hy1, hy2⟩ := Go.Joins.open_agg3 Try.underlying25 (by kernel_rfl) (by kernel_rfl) (hval 0 _ _ rfl rfl) h0
  obtain ⟨k0, e0, rfl, _⟩ := DataW.trod_int Try.underlying3 hy0
  simp at e0
  subst e0
  obtain ⟨Aa, na, ca, rfl, hna, _⟩ := slice_trod Try.underlying22 hy1
  obtain ⟨As, ms, cs, rows, rfl, hr, hms, hlen, hwf⟩ := ints2_trod Try.underlying23 Try.underlying42 Try.underlying3 (by kernel_rfl) (by kernel_rfl) hy2
  obtain ⟨x, rfl, _, _, wx⟩ := open_int Try.underlying3 (hval 1 _ _ rfl rfl) h1
  exact walk k0 x Aa As na ca ms cs rows W hr hna hms hlen hwf wx

theorem lifted (os : Os) (started : os.Started) (H : Type) (enc : TypeId × Value → H) :
    ReturnsInHanded {} Try.checked os 4 .any (Rows.chartStackedHeightsSpec.pre6 enc Try.prog Try.f4 Rows.chartStackedHeightsRow.domain false) (Rows.chartStackedHeightsSpec.post enc Try.prog Try.f4 false true false false) :=
  law_lift (C := Try.checked) (tb := 4) (by kernel_rfl) started (by kernel_rfl) Try.func4 rfl
    (fun ds h => match ds, h with | [_, _], _ => rfl) rfl Try.underlying4 (by kernel_rfl) (by kernel_rfl)
    (ChangeSpec.witness6 (enc := enc) (C := Try.checked) false ⟨#[], #[.agg #[.int .i64 0, .slice none 0 0, .slice none 0 0], .int .i64 0], []⟩ 8 (by kernel_rfl) (by kernel_rfl) (by kernel_rfl) (by kernel_rfl))
    walked

/-- THE STATEMENT -/
theorem proved : Rows.ChartStackedHeightsSaid :=
  OpenClaim.holds_of_wide 4 Try.f4 rfl rfl rfl rfl rfl rfl rfl ⟨rfl, rfl, rfl, rfl, rfl⟩ rfl rfl rfl rfl rfl (by kernel_rfl) Try.func4 (by kernel_rfl)
    (of_decide_eq_true (by kernel_rfl)) (by unfold Func.isWrapper; first | (rw [if_pos (by decide +kernel)]; kernel_rfl) | (rw [if_neg (by decide +kernel)]; exact ⟨rfl, rfl⟩))
    (fun os started H enc _ => lifted os started H enc)
#print axioms proved
end Go.Proofs.Ytoggpbbndoipdaa.ChartStackedHeightsDone
