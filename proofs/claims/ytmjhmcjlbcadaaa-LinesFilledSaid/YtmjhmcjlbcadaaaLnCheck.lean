/- Contracts of Check, CheckShape and check at valid parts and shapes. -/
import Derived.Test.YtmjhmcjlbcadaaaLnBasics
namespace Go.Proofs.Ytmjhmcjlbcadaaa.Ln
open Go.RowKit Go.Frm

set_option maxRecDepth 100000 in
set_option maxHeartbeats 4000000 in
theorem Check_ok (A : Option Addr) (P : Pts) (c : Nat) (w : World) (hr : RdF w A P.n 6 (ptV P)) (hv : VP P) :
    Calls Try.prog 25 #[.slice A P.n c] w fun e w' => e = .returned (.int .i64 0) ∧ Below w.heap.size w w' := by
  have few := hv.few
  have Hv := hide hv
  clear hv
  go_enter Try.func25, Try.ntmps25
  go_wp2_with fail
  go_loopw [10] (fun a wr => ∃ k : Nat, k ≤ P.n ∧ a = .int .i64 k ∧ Below w.heap.size w wr) (fun a _ => P.n - (intOf a).toNat)
  case atStart => exact ⟨0, by omega, rfl, Below.refl _ _⟩
  case round =>
    obtain ⟨k, hk, rfl, hbl⟩ := hrel
    by_cases hlt : k < P.n
    · obtain ⟨bp, off, rfl, hc⟩ := (hr.below hbl).at_ hlt
      have k0 : wr.cell? ⟨bp, off + k * 6, none⟩ = some (.int .i64 (P.kd k)) := hc 0 (by omega)
      have k1 : wr.cell? ⟨bp, off + k * 6 + 1, none⟩ = some (.int .i64 (P.wd k)) := hc 1 (by omega)
      have k2 : wr.cell? ⟨bp, off + k * 6 + 2, none⟩ = some (.int .i64 (P.st k)) := hc 2 (by omega)
      have k3 : wr.cell? ⟨bp, off + k * 6 + 3, none⟩ = some (.int .i64 (P.sh k)) := hc 3 (by omega)
      have k4 : wr.cell? ⟨bp, off + k * 6 + 4, none⟩ = some (.int .i64 (P.co k)) := hc 4 (by omega)
      have k5 : wr.cell? ⟨bp, off + k * 6 + 5, none⟩ = some (.bool (P.fl k)) := hc 5 (by omega)
      obtain ⟨v1, v2⟩ := Hv.out.kind k hlt
      obtain ⟨v3, v4⟩ := Hv.out.wide k hlt
      obtain ⟨v5, v6⟩ := Hv.out.str k hlt
      obtain ⟨v7, v8⟩ := Hv.out.shr k hlt
      obtain ⟨v9, v10⟩ := Hv.out.cost k hlt
      have vg := Hv.out.glue k hlt
      have vp := Hv.out.pen k hlt
      generalize P.kd k = kd at *
      generalize P.wd k = wd at *
      generalize P.st k = st at *
      generalize P.sh k = sh at *
      generalize P.co k = co at *
      generalize P.fl k = fl at *
      clear hc
      go_upto_region 6 with fail
      have hbl1 := hbl.alloc hbl.size (.cells #[.int .i64 kd, .int .i64 wd, .int .i64 st, .int .i64 sh, .int .i64 co, .bool fl] 39)
      have bx := Blk.new wr 39 #[.int .i64 kd, .int .i64 wd, .int .i64 st, .int .i64 sh, .int .i64 co, .bool fl]
      clear k0 k1 k2 k3 k4 k5 hbl
      generalize wr.alloc (.cells #[.int .i64 kd, .int .i64 wd, .int .i64 st, .int .i64 sh, .int .i64 co, .bool fl] 39) = w0 at *
      generalize wr.heap.size = g at *
      have m0 : w0.cell? ⟨g, 0, none⟩ = some (.int .i64 kd) := bx.cell 0
      have m1 : w0.cell? ⟨g, 1, none⟩ = some (.int .i64 wd) := bx.cell 1
      have m2 : w0.cell? ⟨g, 2, none⟩ = some (.int .i64 st) := bx.cell 2
      have m3 : w0.cell? ⟨g, 3, none⟩ = some (.int .i64 sh) := bx.cell 3
      have m4 : w0.cell? ⟨g, 4, none⟩ = some (.int .i64 co) := bx.cell 4
      have m5 : w0.cell? ⟨g, 5, none⟩ = some (.bool fl) := bx.cell 5
      clear bx
      have e1 : decide (wd < 0) = false := by simp; omega
      have e2 : decide (wd > 100000) = false := by simp; omega
      have e3 : decide (st < 0) = false := by simp; omega
      have e4 : decide (st > 100000) = false := by simp; omega
      have e5 : decide (sh < 0) = false := by simp; omega
      have e6 : decide (sh > wd) = false := by simp; omega
      have e7 : decide (co < -10000) = false := by simp; omega
      have e8 : decide (co > 10000) = false := by simp; omega
      have hbs := hide hbl1
      clear hbl1
      rcases (show kd = 0 ∨ kd = 1 ∨ kd = 2 by omega) with rfl | rfl | rfl
      · obtain ⟨rfl, rfl⟩ := vg (by omega)
        obtain ⟨rfl, rfl⟩ := vp (by omega)
        clear vg vp
        go_wp2_with fail
        go_roundw
        case rel => exact ⟨k + 1, by omega, by go_num, hbs.out⟩
        case measure => simp [intOf]; omega
      · obtain ⟨rfl, rfl⟩ := vp (by omega)
        clear vg vp
        go_wp2_with fail
        go_roundw
        case rel => exact ⟨k + 1, by omega, by go_num, hbs.out⟩
        case measure => simp [intOf]; omega
      · obtain ⟨rfl, rfl⟩ := vg (by omega)
        clear vg vp
        go_wp2_with fail
        go_roundw
        case rel => exact ⟨k + 1, by omega, by go_num, hbs.out⟩
        case measure => simp [intOf]; omega
    · obtain rfl : k = P.n := by omega
      go_wp2_with fail
      go_ret
      exact ⟨rfl, hbl⟩

/-- a valid shape, as these laws have it -/
structure VS (ws : List Int) (D : Int) : Prop where
  some_ : 0 < ws.length
  few : ws.length ≤ 20
  wide : ∀ x, x ∈ ws → 1 ≤ x ∧ x ≤ 100000
  dbl : 0 ≤ D ∧ D ≤ 5000
theorem VS.ix {ws : List Int} {D : Int} (h : VS ws D) {k : Nat} (hk : k < ws.length) : 1 ≤ ix ws k ∧ ix ws k ≤ 100000 := by
  rw [ix_eq hk]
  exact h.wide _ (List.getElem_mem hk)
set_option maxRecDepth 100000 in
set_option maxHeartbeats 4000000 in
theorem CheckShape_ok (A : Option Addr) (ws : List Int) (D : Int) (c : Nat) (w : World) (hr : RdI w A ws) (hs : VS ws D) :
    Calls Try.prog 26 #[.agg #[.slice A ws.length c, .int .i64 D]] w fun e w' => e = .returned (.int .i64 0) ∧ Below w.heap.size w w' := by
  have s0 := hs.some_
  have s1 := hs.few
  obtain ⟨s2, s3⟩ := hs.dbl
  have Hs := hide hs
  clear hs
  have hbl := (Below.refl w.heap.size w).alloc (Nat.le_refl _) (.cells #[.slice A ws.length c, .int .i64 D] 25)
  have bx := Blk.new w 25 #[.slice A ws.length c, .int .i64 D]
  go_enter Try.func26, Try.ntmps26
  go_upto_region 1 with fail
  have hr1 := hr.below hbl
  generalize w.alloc (.cells #[.slice A ws.length c, .int .i64 D] 25) = w1 at *
  have m0 : w1.cell? ⟨w.heap.size, 0, none⟩ = some (.slice A ws.length c) := bx.cell 0
  have m1 : w1.cell? ⟨w.heap.size, 1, none⟩ = some (.int .i64 D) := bx.cell 1
  have Hbl := hide hbl
  clear bx hbl
  generalize hg : w.heap.size = g at *
  have d0 : ((ws.length : Int) == 0) = false := by rw [beq_eq_false_iff_ne]; omega
  have d1 : decide ((ws.length : Int) > 20) = false := by simp; omega
  have d2 : decide (D < 0) = false := by simp; omega
  have d3 : decide (D > 5000) = false := by simp; omega
  go_wp2_with fail
  go_loopw [16] (fun a wr => ∃ k : Nat, k ≤ ws.length ∧ a = .int .i64 k ∧ wr = w1) (fun a _ => ws.length - (intOf a).toNat)
  case atStart => exact ⟨0, by omega, rfl, rfl⟩
  case round =>
    obtain ⟨k, hk, rfl, rfl⟩ := hrel
    by_cases hlt : k < ws.length
    · obtain ⟨b, off, rfl, kc⟩ := hr1.at_ hlt
      obtain ⟨x0, x1⟩ := Hs.out.ix hlt
      have e1 : decide (ix ws k < 1) = false := by simp; omega
      have e2 : decide (ix ws k > 100000) = false := by simp; omega
      generalize ix ws k = x at *
      go_wp2_with fail
      go_roundw
      case rel => exact ⟨k + 1, by omega, by go_num, by first | trivial | rfl⟩
      case measure => simp [intOf]; omega
    · obtain rfl : k = ws.length := by omega
      go_wp2_with fail
      go_ret
      exact ⟨rfl, by first | exact Hbl.out | (rw [hg]; exact Hbl.out)⟩
set_option maxHeartbeats 4000000 in
theorem check_ok (A : Option Addr) (P : Pts) (c : Nat) (Aw : Option Addr) (ws : List Int) (D : Int) (cw : Nat) (w : World) (hr : RdF w A P.n 6 (ptV P)) (hv : VP P) (hw : RdI w Aw ws) (hs : VS ws D) :
    Calls Try.prog 15 #[.slice A P.n c, .agg #[.slice Aw ws.length cw, .int .i64 D]] w fun e w' => e = .returned (.int .i64 0) ∧ Below w.heap.size w w' := by
  have hbl := (Below.refl w.heap.size w).alloc (Nat.le_refl _) (.cells #[.slice Aw ws.length cw, .int .i64 D] 25)
  have bx := Blk.new w 25 #[.slice Aw ws.length cw, .int .i64 D]
  have hr1 := hr.below hbl
  have hw1 := hw.below hbl
  go_enter Try.func15, Try.ntmps15
  go_upto_region 1 with fail
  generalize w.alloc (.cells #[.slice Aw ws.length cw, .int .i64 D] 25) = w1 at *
  have HC := hide (Check_ok A P c w1 hr1 hv)
  have HS := hide (fun wx (h : RdI wx Aw ws) => CheckShape_ok Aw ws D cw wx h hs)
  clear hr hw hv hs hr1
  go_wp2_with fail
  refine HC.out.mono ?_
  rintro e w2 ⟨rfl, hb2⟩
  have bx2 := bx.below hb2 bx.lt
  have hw2 := hw1.below hb2
  have hbl2 := hbl.trans (hb2.mono hbl.size)
  clear bx hb2 hw1 hbl HC
  have m0 : w2.cell? ⟨w.heap.size, 0, none⟩ = some (.slice Aw ws.length cw) := bx2.cell 0
  have m1 : w2.cell? ⟨w.heap.size, 1, none⟩ = some (.int .i64 D) := bx2.cell 1
  clear bx2
  have HS2 := hide (HS.out w2 hw2)
  clear hw2 HS
  go_wp2_with fail
  refine HS2.out.mono ?_
  rintro e w3 ⟨rfl, hb3⟩
  have hbl3 := hbl2.trans (hb3.mono hbl2.size)
  clear hb3 hbl2 m0 m1
  go_wp2_with fail
  go_ret
  exact ⟨rfl, hbl3⟩
end Go.Proofs.Ytmjhmcjlbcadaaa.Ln
