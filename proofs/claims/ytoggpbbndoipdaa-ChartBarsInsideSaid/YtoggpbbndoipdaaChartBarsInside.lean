/- PROVED HERE: whatever the chart and the numbers, chancerykeep3.ChartBarsInside returns true, and its arguments read behind the call as before. No condition beside those of the given row. -/
import Derived.Test.YtoggpbbndoipdaaRows
import Derived.Test.YtoggpbbndoipdaaBarsAll
import Derived.Test.YtoggpbbndoipdaaBars
import Derived.Test.YtoggpbbndoipdaaCharted
import Derived.Test.YtoggpbbndoipdaaScaleFind
import Derived.Test.YtoggpbbndoipdaaArgs
import Derived.Test.YtoggpbbndoipdaaSink
namespace Go.Proofs.Ytoggpbbndoipdaa.ChartBarsInsideDone
open Go.RowKit Go.Frm Go.ChangeShapes Go.WideShapes Go.ChangeAt Chr Wi Scl

/-- bar number t -/
structure BarT (X Y W H : Nat → Int) (n : Nat) (width high : Int) : Prop where
  ins : ∀ t, t < n → 0 ≤ X t ∧ 0 ≤ Y t ∧ 0 ≤ W t ∧ 0 ≤ H t ∧ X t + W t ≤ width ∧ Y t + H t ≤ high
  apart : ∀ t u, t < n → u < t → X u + W u ≤ X t ∨ Y t + H t ≤ Y u
theorem barT {b : BarIn} (h : BarOk b) : BarT (fun t => b.bX (t / b.m) (t % b.m)) (fun t => b.bY (t / b.m) (t % b.m)) (fun t => b.bW (t / b.m) (t % b.m)) (fun t => b.bH (t / b.m) (t % b.m)) (b.n * b.m) b.width b.high := by
  have hm : 0 < b.m := h.m1
  have hd : ∀ t, t < b.n * b.m → t / b.m < b.n ∧ t % b.m < b.m := fun t ht => ⟨by rw [Nat.div_lt_iff_lt_mul hm]; exact ht, Nat.mod_lt _ hm⟩
  refine ⟨fun t ht => h.inside (hd t ht).1 (hd t ht).2, fun t u ht hu => h.apart (hd t ht).1 (hd t ht).2 (hd u (by omega)).2 ?_⟩
  have h1 : u / b.m ≤ t / b.m := Nat.div_le_div_right (by omega)
  have h2 := Nat.div_add_mod t b.m
  have h3 := Nat.div_add_mod u b.m
  by_cases he : u / b.m = t / b.m
  · right
    rw [he] at h3
    exact ⟨he, by omega⟩
  · left; omega
theorem lo_bd (k : Int) (V : Nat → Nat → Int) (m n : Nat) (m4 : m ≤ 4) (m1 : 1 ≤ m) (hn : 1 ≤ n) (hV : ∀ s i, s < m → i < n → -1000 ≤ V s i ∧ V s i ≤ 1000) : -1000 ≤ (rngR k V m n).1 ∧ (rngR k V m n).2 ≤ 4000 ∧ (rngR k V m n).1 ≤ (rngR k V m n).2 := by
  have h := rngR_bd (k := k) m4 m1 hn hV n (Nat.le_refl _)
  exact ⟨h.1, h.2, rngR_le V m n⟩

/-- the chart that was made -/
def Made (w : World) (C : Nat) (wc : World) : Prop := ∃ (kd : Int) (An Bs : Option Addr) (n cn m cm : Nat) (rs : Nat → List Int), (kd = 0 ∨ kd = 1 ∨ kd = 2) ∧ 1 ≤ n ∧ n ≤ 6 ∧ 1 ≤ m ∧ m ≤ 4 ∧
  Blk wc C 25 #[.int .i64 kd, .slice An n cn, .slice Bs m cm] ∧ RdM wc Bs m rs ∧ (∀ i, i < m → (rs i).length = n ∧ ∀ j, j < n → lowOf kd ≤ ix (rs i) j ∧ ix (rs i) j ≤ 1000) ∧ Below w.heap.size w wc

set_option maxRecDepth 100000 in
set_option maxHeartbeats 4000000 in
theorem walk (k0 kind width height steps : Int) (Aa As : Option Addr) (na ca ms cs : Nat) (rows : Nat → List Int) (w : World) (hr : RdM w As ms rows) (hna : na ≤ 9223372036854775807) (hms : ms ≤ 9223372036854775807)
    (hlen : ∀ i, i < ms → (rows i).length ≤ 9223372036854775807) (hwf : ∀ i j, i < ms → j < (rows i).length → (Lit.int .i64 (ix (rows i) j)).wf = true)
    (f1 : (Lit.int .i64 kind).wf = true) (f2 : (Lit.int .i64 width).wf = true) (f3 : (Lit.int .i64 height).wf = true) (f4 : (Lit.int .i64 steps).wf = true) :
    Calls Try.prog 3 #[.agg #[.int .i64 k0, .slice Aa na ca, .slice As ms cs], .int .i64 kind, .int .i64 width, .int .i64 height, .int .i64 steps] w fun e w' => e = .returned (.bool true) ∧ Below w.heap.size w w' := by
  have Hlen := hide hlen
  have Hwf := hide hwf
  have F2 := hide f2
  have F3 := hide f3
  have F4 := hide f4
  clear hlen hwf f2 f3 f4
  go_enter Try.func3, Try.ntmps3
  go_wp2_with fail
  have hb0 := Blk.new w 25 #[.int .i64 k0, .slice Aa na ca, .slice As ms cs]
  have hr0 := hr.alloc (.cells #[.int .i64 k0, .slice Aa na ca, .slice As ms cs] 25)
  have hbel0 : Below w.heap.size w (w.alloc (.cells #[.int .i64 k0, .slice Aa na ca, .slice As ms cs] 25)) := (Below.refl _ _).alloc (Nat.le_refl _) _
  generalize w.alloc (.cells #[.int .i64 k0, .slice Aa na ca, .slice As ms cs] 25) = w0 at *
  refine (charted_ok _).mono ?_
  rintro e w1 ⟨rfl, hbel1⟩
  have hb1 := hb0.below hbel1 hb0.lt
  have hr1 := hr0.below hbel1
  have a0 : w1.cell? ⟨w.heap.size, 0, none⟩ = some (.int .i64 k0) := hb1.cell 0
  have a1 : w1.cell? ⟨w.heap.size, 1, none⟩ = some (.slice Aa na ca) := hb1.cell 1
  have a2 : w1.cell? ⟨w.heap.size, 2, none⟩ = some (.slice As ms cs) := hb1.cell 2
  have hbelA := hbel0.trans (hbel1.mono hbel0.size)
  clear hb0 hr hr0 hbel0 hbel1
  go_upto_region 3 with fail
  go_cut [] (fun wc => Made w w.heap.size wc)
  case first =>
    have hw := fun wx => within_any kind 0 2 wx f1 (by omega) (by omega) (by omega)
    have hkb := wi_bd kind (show (0 : Int) ≤ 2 by omega)
    generalize wi kind 0 2 = kd at *
    have hba := fun wx (hrx : RdM wx As ms rows) => bars_ok k0 kd Aa As na ca ms cs rows wx hrx hna hms Hlen.out Hwf.out (by omega) (by omega)
    have Hw := hide hw
    have Hba := hide hba
    have Hr1 := hide hr1
    have hM := hb1.lt
    clear hw hba hr1
    refine wp_region_sink (S := fun w' => w'.cell? ⟨w.heap.size, 0, none⟩ = some (.int .i64 k0) ∧ w'.cell? ⟨w.heap.size, 1, none⟩ = some (.slice Aa na ca) ∧ w'.cell? ⟨w.heap.size, 2, none⟩ = some (.slice As ms cs)) 4 (by kernel_rfl) (by kernel_rfl) (by kernel_rfl) (by kernel_rfl) ?hSq (fun hHeld => ?_)
    case hSq => exact ⟨a0, a1, a2⟩
    simp only [List.take_succ_cons, List.take_zero]
    refine wpAnyH_take (i := 0) (v := ?vqn0) rfl (by kernel_rfl) (by kernel_rfl) (by kernel_rfl) (fun _ _ _ h => h) (Or.inl ⟨by rfl, ?hyqn0⟩) (by assumption) ?_
    case hyqn0 => (intro w hSw; (try dsimp only at hSw); go_simp; try with_reducible rfl)
    try simp only [Act.put]
    refine wpAnyH_take (i := 1) (v := ?vqn1) rfl (by kernel_rfl) (by kernel_rfl) (by kernel_rfl) (fun _ _ _ h => h) (Or.inl ⟨by rfl, ?hyqn1⟩) (by assumption) ?_
    case hyqn1 => (intro w hSw; (try dsimp only at hSw); go_simp; try with_reducible rfl)
    try simp only [Act.put]
    refine wpAnyH_ready (rs := [2]) (by kernel_rfl) (by simp) (AllReadyH.cons rfl (fun K hK => ?_) AllReadyH.nil)
    go_simp
    go_at_call 7
    refine (Hw.out _).mono ?_
    rintro e w' ⟨rfl, rfl⟩
    go_wp2_with fail
    refine hK.out _ _ ?hkqn2 (fun hHeld => ?_)
    case hkqn2 => exact hHeld
    clear hK K
    try simp only [Act.put]
    refine wpAnyH_ready (rs := [3]) (by kernel_rfl) (by simp) (AllReadyH.cons rfl (fun K hK => ?_) AllReadyH.nil)
    go_simp
    go_at_call 6
    refine (Hba.out _ (by exact Hr1.out)).mono ?_
    rintro e w2 ⟨An, Bs, n, cn, m, cm, rs, rfl, n0, n1, m0, m1, mk, hm, hv, hbel2⟩
    have hb2 : Blk w2 w.heap.size 25 #[.int .i64 k0, .slice Aa na ca, .slice As ms cs] := Blk.below (w := w1.drew) hb1 hbel2 hM
    have z0 := hb2.frozen 0
    have z1 := hb2.frozen 1
    have z2 := hb2.frozen 2
    have c0 : w2.cell? ⟨w.heap.size, 0, none⟩ = some (.int .i64 k0) := hb2.cell 0
    have c1 : w2.cell? ⟨w.heap.size, 1, none⟩ = some (.slice Aa na ca) := hb2.cell 1
    have c2 : w2.cell? ⟨w.heap.size, 2, none⟩ = some (.slice As ms cs) := hb2.cell 2
    have Hm := hide hm
    have Hv := hide hv
    clear hm hv
    go_wp2_with fail
    refine hK.out _ _ ?hkqn3 (fun hHeld => ?_)
    case hkqn3 => exact ⟨c0, c1, c2⟩
    clear hK K
    try simp only [Act.put]
    refine wpAnyH_done (by kernel_rfl) ?_ _
    refine sink_run rfl rfl ?_
    go_simp
    go_wp2_with fail
    go_meet
    exact ⟨kd, An, Bs, n, cn, m, cm, rs, by omega, n0, n1, m0, m1, ((hb2.set_ 0 _).set_ 1 _).set_ 2 _, Hm.out _ ((((AboveEq.refl _ _).setCell hM _).setCell hM _).setCell hM _), Hv.out,
        ((((below_drewN hbelA 1).trans (hbel2.mono hbelA.size)).setCell (p := ⟨w.heap.size, 0, none⟩) (Nat.le_refl _) _).setCell (p := ⟨w.heap.size, 1, none⟩) (Nat.le_refl _) _).setCell (p := ⟨w.heap.size, 2, none⟩) (Nat.le_refl _) _⟩
  case rest =>
    clear hb1 hr1 a0 a1 a2 hbelA
    obtain ⟨kd, An, Bs, n, cn, m, cm, rs, hk, n0, n1, m0, m1, hb, hrm, hv, hbel⟩ := hcut
    have hch : Ch kd n m rs := ⟨by omega, by omega, n0, by omega, m0, by omega, fun h => by omega, fun i hi => (hv i hi).1, fun i j hi hj => by
      have h1 := (hv i hi).2 j hj
      unfold lowOf at h1
      split at h1
      · exact ⟨by omega, by omega, fun h => by omega⟩
      · exact ⟨by omega, by omega, fun h => by omega⟩⟩
    have hVb : ∀ s i, s < m → i < n → -1000 ≤ ix (rs s) i ∧ ix (rs s) i ≤ 1000 := fun i j hi hj => by
      have h1 := (hv i hi).2 j hj
      unfold lowOf at h1
      split at h1 <;> omega
    have hq2 := fun wx => within_any width 1 5000 wx F2.out (by omega) (by omega) (by omega)
    have hq3 := fun wx => within_any height 1 5000 wx F3.out (by omega) (by omega) (by omega)
    have hq4 := fun wx => within_any steps 2 20 wx F4.out (by omega) (by omega) (by omega)
    have wd0 := wi_bd width (show (1 : Int) ≤ 5000 by omega)
    have ht0 := wi_bd height (show (1 : Int) ≤ 5000 by omega)
    have sp0 := wi_bd steps (show (2 : Int) ≤ 20 by omega)
    generalize wi width 1 5000 = wd at *
    generalize wi height 1 5000 = ht at *
    generalize wi steps 2 20 = sp at *
    have hrg := range_ok kd An Bs n cn m cm rs wc hch hk m1 hVb hrm
    have hlb := lo_bd kd (fun s i => ix (rs s) i) m n m1 m0 n0 hVb
    have hVn : ∀ s i, s < m → i < n → -1000 ≤ ix (rs s) i ∧ ix (rs s) i ≤ 1000 ∧ (kd = 1 → 0 ≤ ix (rs s) i) := fun i j hi hj => by
      have h1 := (hv i hi).2 j hj
      have h2 := hVb i j hi hj
      refine ⟨h2.1, h2.2, fun h => ?_⟩
      unfold lowOf at h1
      rw [if_neg (by omega)] at h1
      exact h1.1
    have hok : ∀ lo hi : Int, lo < hi → lo ≤ (rngR kd (fun s i => ix (rs s) i) m n).1 → (rngR kd (fun s i => ix (rs s) i) m n).2 ≤ hi → BarOk ⟨kd, lo, hi, ht, wd, n, m, fun s i => ix (rs s) i⟩ := fun lo hi h1 h2 h3 =>
      ⟨hk, n0, n1, m0, m1, h1, by show 1 ≤ ht; omega, by show ht ≤ _; omega, by show 1 ≤ wd; omega, by show wd ≤ _; omega, hVn, h2, h3⟩
    generalize (rngR kd (fun s i => ix (rs s) i) m n).1 = rl at *
    generalize (rngR kd (fun s i => ix (rs s) i) m n).2 = rh at *
    have a0 : wc.cell? ⟨w.heap.size, 0, none⟩ = some (.int .i64 kd) := hb.cell 0
    have a1 : wc.cell? ⟨w.heap.size, 1, none⟩ = some (.slice An n cn) := hb.cell 1
    have a2 : wc.cell? ⟨w.heap.size, 2, none⟩ = some (.slice Bs m cm) := hb.cell 2
    have Hrg := hide hrg
    have Hok := hide hok
    have Hch := hide hch
    have Q2 := hide hq2
    have Q3 := hide hq3
    have Q4 := hide hq4
    clear hrg hok hch hv hVb hVn hq2 hq3 hq4
    go_wp2_with (first
      | (go_at_call 7; with_reducible refine (Q2.out _).mono ?_; rintro e w' ⟨rfl, rfl⟩)
      | (go_at_call 7; with_reducible refine (Q3.out _).mono ?_; rintro e w' ⟨rfl, rfl⟩))
    refine Hrg.out.mono ?_
    rintro e w3 ⟨rfl, hbel3⟩
    have hb3 := hb.below hbel3 hb.lt
    have hr3 := hrm.below hbel3
    have hbelB := hbel.trans (hbel3.mono hbel.size)
    clear hb hrm hbel hbel3 a0 a1 a2
    go_wp2_with (go_at_call 7; with_reducible refine (Q4.out _).mono ?_; rintro e w' ⟨rfl, rfl⟩)
    refine (find_ok rl rh sp w3 (by omega) (by omega) (by omega) (by omega) (by omega) (by omega) (by omega)).mono ?_
    rintro e w4 ⟨A, B, S, rfl, hF, hbel4⟩
    obtain ⟨hsc, _⟩ := hF.sc (by omega) (by omega) (by omega) (by omega) (by omega)
    have l1 := hF.l1
    have h1 := hF.h1
    have hokk := Hok.out (A * S) (B * S) hsc.lt l1 h1
    generalize A * S = lo at *
    generalize B * S = hi at *
    have hb4 := hb3.below hbel4 hb3.lt
    have hr4 := hr3.below hbel4
    have hbelC := hbelB.trans (hbel4.mono hbelB.size)
    have hC4 := hb4.lt
    have a0 : w4.cell? ⟨w.heap.size, 0, none⟩ = some (.int .i64 kd) := hb4.cell 0
    have a1 : w4.cell? ⟨w.heap.size, 1, none⟩ = some (.slice An n cn) := hb4.cell 1
    have a2 : w4.cell? ⟨w.heap.size, 2, none⟩ = some (.slice Bs m cm) := hb4.cell 2
    have Hokk := hide hokk
    have Hsc := hide hsc
    clear hF hokk hsc l1 h1 hb3 hr3 hbelB hbel4
    go_wp2_with fail
    have hb5 := hb4.alloc (.cells #[.int .i64 lo, .int .i64 hi, .int .i64 S] 33)
    have hr5 := hr4.alloc (.cells #[.int .i64 lo, .int .i64 hi, .int .i64 S] 33)
    have hbelD := hbelC.alloc hbelC.size (.cells #[.int .i64 lo, .int .i64 hi, .int .i64 S] 33)
    generalize w4.alloc (.cells #[.int .i64 lo, .int .i64 hi, .int .i64 S] 33) = w5 at *
    clear hb4 hr4 hbelC hC4 a0 a1 a2
    have hbars : Calls Try.prog 10 #[.agg #[.int .i64 kd, .slice An n cn, .slice Bs m cm], .agg #[.int .i64 lo, .int .i64 hi, .int .i64 S], .int .i64 wd, .int .i64 ht] w5 fun e w' => ∃ (A : Option Addr) (c N : Nat) (P Q X Y W H : Nat → Int), e = .returned (.tuple #[.slice A N c, .int .i64 0]) ∧ N = n * m ∧ (N ≤ c ∧ c ≤ 9223372036854775807) ∧
        RdF w' A N 6 (fun t j => match j with | 0 => .int .i64 (P t) | 1 => .int .i64 (Q t) | 2 => .int .i64 (X t) | 3 => .int .i64 (Y t) | 4 => .int .i64 (W t) | _ => .int .i64 (H t)) ∧ BarT X Y W H N wd ht ∧ Below w5.heap.size w5 w' :=
      (barsAll_ok ⟨kd, lo, hi, ht, wd, n, m, fun s i => ix (rs s) i⟩ Hokk.out An Bs cn cm S rs w5 Hch.out hr5 (fun _ _ => rfl) Hsc.out).mono fun e w' ⟨A, c, he, hown, hbl⟩ =>
        ⟨A, c, n * m, fun t => ((t % m : Nat) : Int), fun t => ((t / m : Nat) : Int), _, _, _, _, he, rfl, own_cap hown, by
          have h9 := RdF.of_own hown
          rcases h9 with h9 | ⟨b, off, h9, hc⟩
          · exact .inl h9
          · refine .inr ⟨b, off, h9, fun i j hi hj => ?_⟩
            rw [hc i j hi hj]
            match j, hj with
            | 0, _ => rfl
            | 1, _ => rfl
            | 2, _ => rfl
            | 3, _ => rfl
            | 4, _ => rfl
            | 5, _ => rfl, barT Hokk.out, hbl⟩
    refine hbars.mono ?_
    rintro e w6 ⟨Al, cl, N, P, Q, X, Y, W, Hh, rfl, hN, ⟨hcap1, hcap2⟩, hrF, hT, hbel6⟩
    have hb6 := hb5.below hbel6 hb5.lt
    have hbelE := hbelD.trans (hbel6.mono hbelD.size)
    have a1 : w6.cell? ⟨w.heap.size, 1, none⟩ = some (.slice An n cn) := hb6.cell 1
    have a2 : w6.cell? ⟨w.heap.size, 2, none⟩ = some (.slice Bs m cm) := hb6.cell 2
    have hnm : n * m ≤ 6 * 4 := Nat.mul_le_mul n1 m1
    have hN2 : (N : Int) = (n : Int) * (m : Int) := by rw [hN]; exact Int.natCast_mul _ _
    have hN3 : N ≤ 24 := by omega
    have hq : ((N : Int) != (n : Int) * (m : Int)) = false := by rw [hN2]; simp
    have hp0 : 0 ≤ (n : Int) * (m : Int) := by omega
    have hp1 : (n : Int) * (m : Int) ≤ 24 := by omega
    have HT := hide hT
    clear hbars hb5 hr5 hbelD hbel6 hN hN2 hnm hT
    go_wp2_with fail
    go_loopw [78] (fun a wr => ∃ t : Nat, t ≤ N ∧ a = .int .i64 t ∧ Below w6.heap.size w6 wr) (fun a _ => N - (intOf a).toNat)
    case atStart => exact ⟨0, by omega, rfl, Below.refl _ _⟩
    case round =>
      obtain ⟨t, ht0', rfl, hbl⟩ := hrel
      by_cases hlt : t < N
      · obtain ⟨b, off, rfl, hc⟩ := (hrF.below hbl).at_ hlt
        have c0 : wr.cell? ⟨b, off + t * 6, none⟩ = some (.int .i64 (P t)) := hc 0 (by omega)
        have c1 : wr.cell? ⟨b, off + t * 6 + 1, none⟩ = some (.int .i64 (Q t)) := hc 1 (by omega)
        have c2 : wr.cell? ⟨b, off + t * 6 + 2, none⟩ = some (.int .i64 (X t)) := hc 2 (by omega)
        have c3 : wr.cell? ⟨b, off + t * 6 + 3, none⟩ = some (.int .i64 (Y t)) := hc 3 (by omega)
        have c4 : wr.cell? ⟨b, off + t * 6 + 4, none⟩ = some (.int .i64 (W t)) := hc 4 (by omega)
        have c5 : wr.cell? ⟨b, off + t * 6 + 5, none⟩ = some (.int .i64 (Hh t)) := hc 5 (by omega)
        obtain ⟨i0, i1, i2, i3, i4, i5⟩ := HT.out.ins t hlt
        generalize hXt : X t = Xt at *
        generalize hYt : Y t = Yt at *
        generalize hWt : W t = Wt at *
        generalize hHt : Hh t = Ht at *
        have HXt := hide hXt
        have HYt := hide hYt
        have HWt := hide hWt
        have HHt := hide hHt
        have d0 : decide (Xt < 0) = false := by simp; omega
        have d1 : decide (Yt < 0) = false := by simp; omega
        have d2 : decide (Wt < 0) = false := by simp; omega
        have d3 : decide (Ht < 0) = false := by simp; omega
        have d4 : decide (wd < Xt + Wt) = false := by simp; omega
        have d5 : decide (ht < Yt + Ht) = false := by simp; omega
        clear hc hXt hYt hWt hHt
        go_wp2_with fail
        have hbo := Blk.new wr 40 #[.int .i64 (P t), .int .i64 (Q t), .int .i64 Xt, .int .i64 Yt, .int .i64 Wt, .int .i64 Ht]
        have hblo := hbl.alloc hbl.size (.cells #[.int .i64 (P t), .int .i64 (Q t), .int .i64 Xt, .int .i64 Yt, .int .i64 Wt, .int .i64 Ht] 40)
        have hgo : wr.heap.size < (wr.alloc (.cells #[.int .i64 (P t), .int .i64 (Q t), .int .i64 Xt, .int .i64 Yt, .int .i64 Wt, .int .i64 Ht] 40)).heap.size := hbo.lt
        generalize wr.alloc (.cells #[.int .i64 (P t), .int .i64 (Q t), .int .i64 Xt, .int .i64 Yt, .int .i64 Wt, .int .i64 Ht] 40) = wo at *
        generalize wr.heap.size = G at *
        clear hbl c0 c1 c2 c3 c4 c5 d0 d1 d2 d3 d4 d5
        go_loopw [123] (fun a wx => ∃ u : Nat, u ≤ t ∧ a = .int .i64 u ∧ Below wo.heap.size wo wx) (fun a _ => t - (intOf a).toNat)
        case atStart => exact ⟨0, by omega, rfl, Below.refl _ _⟩
        case round =>
          obtain ⟨u, hu, rfl, hbx⟩ := hrel
          have hblx := hblo.trans (hbx.mono hblo.size)
          by_cases hlt2 : u < t
          · obtain ⟨b9, off9, h9, hc⟩ := (hrF.below hblx).at_ (show u < N by omega)
            injection h9 with h9
            injection h9 with h8 h9
            subst h8 h9
            have c0 : wr.cell? ⟨b, off + u * 6, none⟩ = some (.int .i64 (P u)) := hc 0 (by omega)
            have c1 : wr.cell? ⟨b, off + u * 6 + 1, none⟩ = some (.int .i64 (Q u)) := hc 1 (by omega)
            have c2 : wr.cell? ⟨b, off + u * 6 + 2, none⟩ = some (.int .i64 (X u)) := hc 2 (by omega)
            have c3 : wr.cell? ⟨b, off + u * 6 + 3, none⟩ = some (.int .i64 (Y u)) := hc 3 (by omega)
            have c4 : wr.cell? ⟨b, off + u * 6 + 4, none⟩ = some (.int .i64 (W u)) := hc 4 (by omega)
            have c5 : wr.cell? ⟨b, off + u * 6 + 5, none⟩ = some (.int .i64 (Hh u)) := hc 5 (by omega)
            obtain ⟨j0, j1, j2, j3, j4, j5⟩ := HT.out.ins u (by omega)
            have hap := HT.out.apart t u hlt hlt2
            rw [HXt.out, HYt.out, HHt.out] at hap
            generalize X u = Xu at *
            generalize Y u = Yu at *
            generalize W u = Wu at *
            generalize Hh u = Hu at *
            have hbx0 := hbo.below hbx hgo
            have e2 : wr.cell? ⟨G, 2, none⟩ = some (.int .i64 Xt) := hbx0.cell 2
            have e3 : wr.cell? ⟨G, 3, none⟩ = some (.int .i64 Yt) := hbx0.cell 3
            have e4 : wr.cell? ⟨G, 4, none⟩ = some (.int .i64 Wt) := hbx0.cell 4
            have e5 : wr.cell? ⟨G, 5, none⟩ = some (.int .i64 Ht) := hbx0.cell 5
            have hG := hbx0.lt
            have Hbx := hide (hbx.alloc hbx.size (.cells #[.int .i64 (P u), .int .i64 (Q u), .int .i64 Xu, .int .i64 Yu, .int .i64 Wu, .int .i64 Hu] 40))
            clear hc hbx hblx hbx0
            have hcase : decide (Xt < Xu + Wu) = false ∨ (decide (Xt < Xu + Wu) = true ∧ decide (Xu < Xt + Wt) = false) ∨ (decide (Xt < Xu + Wu) = true ∧ decide (Xu < Xt + Wt) = true ∧ decide (Yt < Yu + Hu) = false) ∨
                (decide (Xt < Xu + Wu) = true ∧ decide (Xu < Xt + Wt) = true ∧ decide (Yt < Yu + Hu) = true ∧ decide (Yu < Yt + Ht) = false) := by
              simp only [decide_eq_false_iff_not, decide_eq_true_eq]
              omega
            clear hap
            rcases hcase with g1 | ⟨g1, g2⟩ | ⟨g1, g2, g3⟩ | ⟨g1, g2, g3, g4⟩
            all_goals
              go_wp2_with fail
              go_roundw
              case rel => exact ⟨u + 1, by omega, by go_num, Hbx.out⟩
              case measure => simp [intOf]; omega
          · obtain rfl : u = t := by omega
            go_wp2_with fail
            go_roundw
            case rel => exact ⟨u + 1, by omega, by go_num, hblx⟩
            case measure => simp [intOf]; omega
      · obtain rfl : t = N := by omega
        go_wp2_with fail
        go_ret
        exact ⟨rfl, hbelE.trans (hbl.mono hbelE.size)⟩
theorem walked : Walked Try.checked.prog 3 Try.f3 := by
  intro H enc W args ds ps hval hA
  rw [Try.params3] at hA hval
  obtain ⟨v0, v1, v2, v3, v4, d0, d1, d2, d3, d4, p0, p1, p2, p3, p4, rfl, h0, h1, h2, h3, h4⟩ := trodAll_five hA
  obtain ⟨c0, c1, c2, y0, y1, y2, m, rfl, rfl, rfl, hy0, hy1, hy2⟩ := Go.Joins.open_agg3 Try.underlying25 (by kernel_rfl) (by kernel_rfl) (hval 0 _ _ rfl rfl) h0
  obtain ⟨k0, e0, rfl, _⟩ := DataW.trod_int Try.underlying3 hy0
  simp at e0
  subst e0
  obtain ⟨Aa, na, ca, rfl, hna, _⟩ := slice_trod Try.underlying22 hy1
  obtain ⟨As, ms, cs, rows, rfl, hr, hms, hlen, hwf⟩ := ints2_trod Try.underlying23 Try.underlying42 Try.underlying3 (by kernel_rfl) (by kernel_rfl) hy2
  obtain ⟨x, rfl, _, _, wx⟩ := open_int Try.underlying3 (hval 1 _ _ rfl rfl) h1
  obtain ⟨y, rfl, _, _, wy⟩ := open_int Try.underlying3 (hval 2 _ _ rfl rfl) h2
  obtain ⟨z, rfl, _, _, wz⟩ := open_int Try.underlying3 (hval 3 _ _ rfl rfl) h3
  obtain ⟨t, rfl, _, _, wt⟩ := open_int Try.underlying3 (hval 4 _ _ rfl rfl) h4
  exact walk k0 x y z t Aa As na ca ms cs rows W hr hna hms hlen hwf wx wy wz wt

theorem lifted (os : Os) (started : os.Started) (H : Type) (enc : TypeId × Value → H) :
    ReturnsInHanded {} Try.checked os 3 .any (Rows.chartBarsInsideSpec.pre6 enc Try.prog Try.f3 Rows.chartBarsInsideRow.domain false) (Rows.chartBarsInsideSpec.post enc Try.prog Try.f3 false true false false) :=
  law_lift (C := Try.checked) (tb := 4) (by kernel_rfl) started (by kernel_rfl) Try.func3 rfl
    (fun ds h => match ds, h with | [_, _, _, _, _], _ => rfl) rfl Try.underlying4 (by kernel_rfl) (by kernel_rfl)
    (ChangeSpec.witness6 (enc := enc) (C := Try.checked) false ⟨#[], #[.agg #[.int .i64 0, .slice none 0 0, .slice none 0 0], .int .i64 0, .int .i64 0, .int .i64 0, .int .i64 0], []⟩ 8 (by kernel_rfl) (by kernel_rfl) (by kernel_rfl) (by kernel_rfl))
    walked

/-- THE STATEMENT -/
theorem proved : Rows.ChartBarsInsideSaid :=
  OpenClaim.holds_of_wide 3 Try.f3 rfl rfl rfl rfl rfl rfl rfl ⟨rfl, rfl, rfl, rfl, rfl⟩ rfl rfl rfl rfl rfl (by kernel_rfl) Try.func3 (by kernel_rfl)
    (of_decide_eq_true (by kernel_rfl)) (by unfold Func.isWrapper; first | (rw [if_pos (by decide +kernel)]; kernel_rfl) | (rw [if_neg (by decide +kernel)]; exact ⟨rfl, rfl⟩))
    (fun os started H enc _ => lifted os started H enc)
#print axioms proved
end Go.Proofs.Ytoggpbbndoipdaa.ChartBarsInsideDone
