/- The contract of chancerykeep3.effects: valid effects out of any ones. -/
import Derived.Test.YtlipdhoeklgdoaaTlTimes
import Derived.Test.YtlipdhoeklgdoaaWithin
namespace Go.Proofs.Ytlipdhoeklgdoaa.Tl
open Go.RowKit Go.Frm Wi

/-- the numbers of the effects that are made -/
def efG (F : Nat → Nat → Int) (i : Nat) : Nat → Int
  | 0 => wi (F i 0) 1 4
  | 1 => wi (F i 1) 0 2
  | 2 => wi (F i 2) 0 2
  | 3 => wi (F i 3) 0 500
  | 4 => wi (F i 4) 0 500
  | 5 => if wi (F i 1) 0 2 = 2 then wi (F i 5) (-500) 500 else 0
  | 6 => if wi (F i 1) 0 2 = 2 then wi (F i 6) (-500) 500 else 0
  | _ => 0
theorem efG_ok (F : Nat → Nat → Int) (n : Nat) : VF (efG F) (min n 12) where
  few := by omega
  item i _ := wi_bd (F i 0) (by omega)
  kind i _ := wi_bd (F i 1) (by omega)
  start i _ := wi_bd (F i 2) (by omega)
  delay i _ := wi_bd (F i 3) (by omega)
  takes i _ := wi_bd (F i 4) (by omega)
  xs i _ := by
    have := wi_bd (F i 5) (show (-500 : Int) ≤ 500 by omega)
    show -500 ≤ (if wi (F i 1) 0 2 = 2 then wi (F i 5) (-500) 500 else 0) ∧ (if wi (F i 1) 0 2 = 2 then wi (F i 5) (-500) 500 else 0) ≤ 500
    split <;> omega
  ys i _ := by
    have := wi_bd (F i 6) (show (-500 : Int) ≤ 500 by omega)
    show -500 ≤ (if wi (F i 1) 0 2 = 2 then wi (F i 6) (-500) 500 else 0) ∧ (if wi (F i 1) 0 2 = 2 then wi (F i 6) (-500) 500 else 0) ≤ 500
    split <;> omega
  form i _ h := ⟨if_neg h, if_neg h⟩
def EfPost (n : Nat) (F : Nat → Nat → Int) (w : World) (e : Ending) (w' : World) : Prop :=
  ∃ A' c', e = .returned (.slice A' (min n 12) c') ∧ w'.ownsRow w.heap.size 45 7 (.slice A' (min n 12) c') (min n 12) (rowF (min n 12) 7 (efV (efG F))) ∧ Below w.heap.size w w'
/-- the cells of the effect that is being made -/
def yC (a b c d e x y : Int) : Array Value := #[.int .i64 a, .int .i64 b, .int .i64 c, .int .i64 d, .int .i64 e, .int .i64 x, .int .i64 y]
structure Yat (i g gx : Nat) (F : Nat → Nat → Int) (out : Value) (cs : Array Value) (w wc : World) : Prop where
  bx : Blk wc gx 45 cs
  bs : Blk wc g 45 (efC F i)
  own : wc.ownsRow w.heap.size 45 7 out i (rowF i 7 (efV (efG F)))
  bel : Below w.heap.size w wc
  ne : gx ≠ g ∧ w.heap.size ≤ gx ∧ some gx ≠ out.ownBlock
section
variable {i g gx : Nat} {F : Nat → Nat → Int} {out : Value} {cs cs' : Array Value} {w wc : World}
theorem Yat.set_ (h : Yat i g gx F out cs w wc) (j : Nat) (u : Value) (he : cs.setIfInBounds j u = cs') : Yat i g gx F out cs' w (wc.setCell ⟨gx, j, none⟩ u) :=
  ⟨he ▸ h.bx.set_ j u, h.bs.far (p := ⟨gx, j, none⟩) (fun hh => h.ne.1 hh.symm) u, ownsRow_setCell_other h.own (a := ⟨gx, j, none⟩) (fun hh => h.ne.2.2 hh.symm) u, h.bel.setCell (p := ⟨gx, j, none⟩) h.ne.2.1 u, h.ne⟩
theorem Yat.drewN (h : Yat i g gx F out cs w wc) (n : Nat) : Yat i g gx F out cs w (wc.drewN n) := ⟨h.bx.drewN n, h.bs.drewN n, h.own, below_drewN h.bel n, h.ne⟩
end
theorem cast_yat {i g gx : Nat} {F : Nat → Nat → Int} {out : Value} {a b c d e x x' y y' : Int} {w wc : World} (hx : x = x') (hy : y = y') (h : Yat i g gx F out (yC a b c d e x' y') w wc) : Yat i g gx F out (yC a b c d e x y) w wc := hx ▸ hy ▸ h
theorem effect_info : (Try.prog.info? 45).map (fun i => (i.zero, i.size, i.bytes)) = some (some (.agg #[.int .i64 0, .int .i64 0, .int .i64 0, .int .i64 0, .int .i64 0, .int .i64 0, .int .i64 0]), 7, 56) := by kernel_rfl

set_option maxRecDepth 100000 in
set_option maxHeartbeats 4000000 in
theorem effects_ok (A : Option Addr) (n c : Nat) (F : Nat → Nat → Int) (w : World) (hr : RdF w A n 7 (efV F)) (hn : n ≤ 9223372036854775807) (hwf : ∀ i j, i < n → j < 7 → (Lit.int .i64 (F i j)).wf = true) :
    Calls Try.prog 13 #[.slice A n c] w (EfPost n F w) := by
  have Hwf := hide hwf
  clear hwf
  go_enter Try.func13, Try.ntmps13
  go_wp2_with fail
  go_loopw [3, 4] (fun a b wr => ∃ i : Nat, i ≤ min n 12 ∧ b = .int .i64 i ∧ wr.ownsRow w.heap.size 45 7 a i (rowF i 7 (efV (efG F))) ∧ Below w.heap.size w wr) (fun _ b _ => 12 - (intOf b).toNat)
  case atStart => exact ⟨0, by omega, rfl, World.ownsRow_nil _ _ _ _, Below.refl _ _⟩
  case round =>
    obtain ⟨i, hi, rfl, hown, hbl⟩ := hrel
    obtain ⟨A5, c5, rfl⟩ := own_form hown
    by_cases hlt : i < min n 12
    · have hin : i < n := by omega
      have hi10 : i < 12 := by omega
      obtain ⟨b, off, rfl, k0, k1, k2, k3, k4, k5, k6⟩ := cells7 (hr.below hbl) hin
      have d1 : decide ((i : Int) < (n : Int)) = true := by simp; omega
      go_upto_region 6 with fail
      have b7 : Blk (wr.alloc (.cells #[.int .i64 (F i 0), .int .i64 (F i 1), .int .i64 (F i 2), .int .i64 (F i 3), .int .i64 (F i 4), .int .i64 (F i 5), .int .i64 (F i 6)] 45)) wr.heap.size 45 (efC F i) := Blk.new wr _ _
      have hb7 := hbl.alloc hbl.size (.cells #[.int .i64 (F i 0), .int .i64 (F i 1), .int .i64 (F i 2), .int .i64 (F i 3), .int .i64 (F i 4), .int .i64 (F i 5), .int .i64 (F i 6)] 45)
      have ho7 := hown.alloc (.cells #[.int .i64 (F i 0), .int .i64 (F i 1), .int .i64 (F i 2), .int .i64 (F i 3), .int .i64 (F i 4), .int .i64 (F i 5), .int .i64 (F i 6)] 45)
      clear k0 k1 k2 k3 k4 k5 k6 hown
      have hgw : w.heap.size ≤ wr.heap.size := hbl.size
      clear hbl
      generalize wr.alloc (.cells #[.int .i64 (F i 0), .int .i64 (F i 1), .int .i64 (F i 2), .int .i64 (F i 3), .int .i64 (F i 4), .int .i64 (F i 5), .int .i64 (F i 6)] 45) = w0 at *
      generalize wr.heap.size = g at *
      have m0 : w0.cell? ⟨g, 0, none⟩ = some (.int .i64 (F i 0)) := b7.cell 0
      have m1 : w0.cell? ⟨g, 1, none⟩ = some (.int .i64 (F i 1)) := b7.cell 1
      have m2 : w0.cell? ⟨g, 2, none⟩ = some (.int .i64 (F i 2)) := b7.cell 2
      have m3 : w0.cell? ⟨g, 3, none⟩ = some (.int .i64 (F i 3)) := b7.cell 3
      have m4 : w0.cell? ⟨g, 4, none⟩ = some (.int .i64 (F i 4)) := b7.cell 4
      have v0 := hide (fun wx => within_any (F i 0) 1 4 wx (Hwf.out i 0 hin (by omega)) (by omega) (by omega) (by omega))
      have v1 := hide (fun wx => within_any (F i 1) 0 2 wx (Hwf.out i 1 hin (by omega)) (by omega) (by omega) (by omega))
      have v2 := hide (fun wx => within_any (F i 2) 0 2 wx (Hwf.out i 2 hin (by omega)) (by omega) (by omega) (by omega))
      have v3 := hide (fun wx => within_any (F i 3) 0 500 wx (Hwf.out i 3 hin (by omega)) (by omega) (by omega) (by omega))
      have v4 := hide (fun wx => within_any (F i 4) 0 500 wx (Hwf.out i 4 hin (by omega)) (by omega) (by omega) (by omega))
      have v5 := hide (fun wx => within_any (F i 5) (-500) 500 wx (Hwf.out i 5 hin (by omega)) (by omega) (by omega) (by omega))
      have v6 := hide (fun wx => within_any (F i 6) (-500) 500 wx (Hwf.out i 6 hin (by omega)) (by omega) (by omega) (by omega))
      go_cut [6] (fun p wc => ∃ gx, p = .pointer (some ⟨gx, 0, none⟩) ∧ Yat i g gx F (.slice A5 i c5) (yC (wi (F i 0) 1 4) (wi (F i 1) 0 2) (wi (F i 2) 0 2) (wi (F i 3) 0 500) (wi (F i 4) 0 500) 0 0) w wc)
      case first =>
        have hnx : w0.heap.size ≠ g ∧ w.heap.size ≤ w0.heap.size ∧ some w0.heap.size ≠ (Value.slice A5 i c5).ownBlock := ⟨by have := b7.lt; omega, hb7.size, fun hh => by have := (ho7.lt _ hh.symm).2; omega⟩
        have Hnx := hide hnx
        clear hnx
        go_region_held3 (fun w' => w'.cell? ⟨g, 0, none⟩ = some (.int .i64 (F i 0)) ∧ w'.cell? ⟨g, 1, none⟩ = some (.int .i64 (F i 1)) ∧ w'.cell? ⟨g, 2, none⟩ = some (.int .i64 (F i 2)) ∧ w'.cell? ⟨g, 3, none⟩ = some (.int .i64 (F i 3)) ∧ w'.cell? ⟨g, 4, none⟩ = some (.int .i64 (F i 4)))
          (first | go_keep | exact ⟨m0, m1, m2, m3, m4⟩)
          ((go_at_call 9; first | ((with_reducible refine (v0.out _).mono ?_); rintro e w1 ⟨rfl, rfl⟩) | ((with_reducible refine (v1.out _).mono ?_); rintro e w1 ⟨rfl, rfl⟩) | ((with_reducible refine (v2.out _).mono ?_); rintro e w1 ⟨rfl, rfl⟩) | ((with_reducible refine (v3.out _).mono ?_); rintro e w1 ⟨rfl, rfl⟩) | ((with_reducible refine (v4.out _).mono ?_); rintro e w1 ⟨rfl, rfl⟩)))
        all_goals
          go_wp2_with fail
          go_meet
          exact ⟨w0.heap.size, rfl, (Blk.new w0 _ _).drewN 1, (b7.alloc _).drewN 1, ho7.alloc _, below_drewN (hb7.alloc hb7.size _) 1, Hnx.out⟩
      case rest =>
        obtain ⟨gx, rfl, hx⟩ := hcut
        clear m0 m1 m2 m3 m4 b7 hb7 ho7 v0 v1 v2 v3 v4
        have x1 : wc.cell? ⟨gx, 1, none⟩ = some (.int .i64 (wi (F i 1) 0 2)) := hx.bx.cell 1
        go_upto_if 39 with fail
        go_cut [] (fun wc => Yat i g gx F (.slice A5 i c5) (yC (wi (F i 0) 1 4) (wi (F i 1) 0 2) (wi (F i 2) 0 2) (wi (F i 3) 0 500) (wi (F i 4) 0 500) (efG F i 5) (efG F i 6)) w wc)
        case first =>
          have m5 : wc.cell? ⟨g, 5, none⟩ = some (.int .i64 (F i 5)) := hx.bs.cell 5
          have m6 : wc.cell? ⟨g, 6, none⟩ = some (.int .i64 (F i 6)) := hx.bs.cell 6
          have w5 : wc.cell? ⟨gx, 5, none⟩ = some (.int .i64 0) := hx.bx.cell 5
          have w6 : wc.cell? ⟨gx, 6, none⟩ = some (.int .i64 0) := hx.bx.cell 6
          have z5 : wc.frozen? ⟨gx, 5, none⟩ = false := hx.bx.frozen 5
          have z6 : wc.frozen? ⟨gx, 6, none⟩ = false := hx.bx.frozen 6
          have hgx := hx.ne.1
          have hs5 : efG F i 5 = if wi (F i 1) 0 2 = 2 then wi (F i 5) (-500) 500 else 0 := rfl
          have hs6 : efG F i 6 = if wi (F i 1) 0 2 = 2 then wi (F i 6) (-500) 500 else 0 := rfl
          by_cases h6 : wi (F i 1) 0 2 = 2
          · have d6 : (wi (F i 1) 0 2 == 2) = true := by simpa using h6
            rw [if_pos h6] at hs5 hs6
            have S5 := hide hs5
            have S6 := hide hs6
            clear hs5 hs6 h6
            go_upto_region 8 with fail
            go_region_held3 (fun w' => w'.cell? ⟨g, 5, none⟩ = some (.int .i64 (F i 5)) ∧ w'.cell? ⟨g, 6, none⟩ = some (.int .i64 (F i 6)))
              (first | go_keep | exact ⟨m5, m6⟩)
              ((go_at_call 9; first | ((with_reducible refine (v5.out _).mono ?_); rintro e w1 ⟨rfl, rfl⟩) | ((with_reducible refine (v6.out _).mono ?_); rintro e w1 ⟨rfl, rfl⟩)))
            all_goals
              go_wp2_with fail
              go_meet
              exact cast_yat S5.out S6.out (((hx.drewN 1).set_ 5 (.int .i64 (wi (F i 5) (-500) 500)) rfl).set_ 6 (.int .i64 (wi (F i 6) (-500) 500)) (by simp [yC]))
          · have d6 : (wi (F i 1) 0 2 == 2) = false := by simpa using h6
            rw [if_neg h6] at hs5 hs6
            have S5 := hide hs5
            have S6 := hide hs6
            clear hs5 hs6 h6
            go_wp2_with fail
            go_meet
            exact cast_yat S5.out S6.out hx
        case rest =>
          clear hx v5 v6 x1
          have hx := hcut
          clear hcut
          have y0 : wc.cell? ⟨gx, 0, none⟩ = some (.int .i64 (wi (F i 0) 1 4)) := hx.bx.cell 0
          have y1 : wc.cell? ⟨gx, 1, none⟩ = some (.int .i64 (wi (F i 1) 0 2)) := hx.bx.cell 1
          have y2 : wc.cell? ⟨gx, 2, none⟩ = some (.int .i64 (wi (F i 2) 0 2)) := hx.bx.cell 2
          have y3 : wc.cell? ⟨gx, 3, none⟩ = some (.int .i64 (wi (F i 3) 0 500)) := hx.bx.cell 3
          have y4 : wc.cell? ⟨gx, 4, none⟩ = some (.int .i64 (wi (F i 4) 0 500)) := hx.bx.cell 4
          have y5 : wc.cell? ⟨gx, 5, none⟩ = some (.int .i64 (efG F i 5)) := hx.bx.cell 5
          have y6 : wc.cell? ⟨gx, 6, none⟩ = some (.int .i64 (efG F i 6)) := hx.bx.cell 6
          have hsz : gx < wc.heap.size := hx.bx.lt
          go_wp2_with (at_builtin; refine wpL_append rfl rfl Try.underlying33 effect_info rfl (by decide) rfl rfl (hx.own.alloc _) (news_at _ _ _ _ (by simp)) rfl (by simp [Value.oneCell']) (by omega) (by omega) (by have := hx.bel.size; simp; omega) ?_; intro v1 w3 hown3 hgrow3)
          exact ⟨⟨i + 1, by omega, by simp, by rw [rowF_succ]; exact hown3, below_app (hx.bel.alloc hx.bel.size _) (by have := hx.bel.size; simp; omega) (hx.own.alloc _) hgrow3⟩, by simp only [intOf]; omega⟩
    · obtain rfl : i = min n 12 := by omega
      by_cases h10 : n < 12
      · have e1 : min n 12 = n := by omega
        rw [e1] at hown ⊢
        have He := hide e1
        clear e1 hi hlt
        have d1 : decide ((n : Int) < (n : Int)) = false := by simp
        go_wp2_with fail
        go_ret
        exact ⟨A5, c5, by rw [He.out]; rfl, by rw [He.out]; exact hown, hbl⟩
      · have e1 : min n 12 = 12 := by omega
        rw [e1] at hown ⊢
        have He := hide e1
        clear e1 hi hlt
        go_wp2_with fail
        all_goals
          go_ret
          exact ⟨A5, c5, by rw [He.out]; rfl, by rw [He.out]; exact hown, hbl⟩
end Go.Proofs.Ytlipdhoeklgdoaa.Tl
