/- PROVED HERE: whatever the effects, chancerykeep3.TimelineLastPicture returns true. No condition beside those of the given statement. -/
import Derived.Test.YtlipdhoeklgdoaaTlTimed
import Derived.Test.YtlipdhoeklgdoaaTlState
import Derived.Test.YtlipdhoeklgdoaaTlMake
import Derived.Test.YtlipdhoeklgdoaaListed
import Derived.Test.YtlipdhoeklgdoaaChecked
import Derived.Test.YtlipdhoeklgdoaaRows
namespace Go.Proofs.Ytlipdhoeklgdoaa.TimelineLastPictureDone
open Go.RowKit Go.Frm Go.ChangeShapes Go.WideShapes Go.ChangeAt Tl Wi

theorem all_done {F : Nat → Nat → Int} {n : Nat} (hn : n ≤ 12) : ∀ i, i < n → pF F 200 0 i = 1000 := by
  intro i hi
  have := ck_bd F (i + 1)
  unfold pF pg
  rw [if_pos (.inl (by omega))]
theorem sn_last {F : Nat → Nat → Int} {p : Nat → Int} {z : Int} {i : Nat} (hp : p i = 1000) (hb : 0 ≤ sn F p z i ∧ sn F p z i ≤ 1000) : sn F p z (i + 1) = if F i 0 = z ∧ F i 1 ≠ 2 then (if F i 1 = 0 then 1000 else 0) else sn F p z i := by
  simp only [sn]
  rw [hp]
  by_cases h : F i 0 = z ∧ F i 1 ≠ 2
  · rw [if_pos h, if_pos h]
    by_cases h0 : F i 1 = 0
    · rw [if_pos h0, if_pos h0, if_pos (by omega)]
      by_cases hk : kn F z i = false
      · rw [if_pos hk]; decide
      · rw [if_neg hk]; split <;> omega
    · rw [if_neg h0, if_neg h0, if_pos (by omega)]
      split <;> omega
  · rw [if_neg h, if_neg h]
theorem xA_last {F : Nat → Nat → Int} {p : Nat → Int} {z : Int} {i j : Nat} (hp : p i = 1000) : xA F p j z (i + 1) = if F i 0 = z ∧ F i 1 = 2 then xA F p j z i + F i j else xA F p j z i := by
  simp only [xA]
  rw [hp, pt_all]
def wtC (F : Nat → Nat → Int) (p : Nat → Int) (z : Int) (j : Nat) : Array Value := #[.int .i64 z, .int .i64 (sn F p z j), .int .i64 (xA F p 5 z j), .int .i64 (xA F p 6 z j)]

set_option maxRecDepth 100000 in
set_option maxHeartbeats 8000000 in
theorem walk (A : Option Addr) (n c : Nat) (F : Nat → Nat → Int) (w : World) (hn : n ≤ 9223372036854775807) (hr : RdF w A n 7 (efV F)) (hwf : ∀ i j, i < n → j < 7 → (Lit.int .i64 (F i j)).wf = true) :
    Calls Try.prog 5 #[.slice A n c] w fun e w' => e = .returned (.bool true) ∧ Below w.heap.size w w' := by
  have hti := timed_ok w
  have hef := hide (fun wx (hb : Below w.heap.size w wx) => effects_ok A n c F wx (hr.below hb) hn hwf)
  clear hr hwf
  go_enter Try.func5, Try.ntmps5
  go_wp2_with fail
  refine hti.mono ?_
  rintro e w1 ⟨rfl, hb1⟩
  clear hti
  go_wp2_with fail
  refine (hef.out w1 hb1).mono ?_
  rintro e w2 ⟨A2, c2, rfl, hown2, hb2⟩
  have hbl2 := hb1.trans (hb2.mono hb1.size)
  have hv := efG_ok F n
  have hr2 := RdF.of_own hown2
  clear hef hb1 hb2 hown2
  generalize efG F = E at *
  generalize min n 12 = m at *
  have hcl := hide (clicks_ok A2 m c2 E w2 hv hr2)
  go_wp2_with fail
  refine hcl.out.mono ?_
  rintro e w3 ⟨A3, c3, rfl, hown3, hb3⟩
  have hbl3 := hbl2.trans (hb3.mono hbl2.size)
  have hr3 := hr2.below hb3
  have hm := hv.few
  have hN : cN E m ≤ m + 1 := by
    have := ck_bd E m
    unfold cN
    omega
  have hN1 : decide ((cN E m : Int) > (m : Int) + 1) = false := by simp; omega
  have hst := hide (state_ok A2 m c2 E 200 0 w3 hv hr3 (by omega) (by omega) (by omega) (by omega))
  have Hv := hide hv
  clear hcl hr2 hbl2 hb3 hown3 hv
  go_wp2_with fail
  refine hst.out.mono ?_
  rintro e w4 ⟨A4, c4, rfl, hown4, hb4⟩
  have hbl4 := hbl3.trans (hb4.mono hbl3.size)
  have hr4 := hr3.below hb4
  have ho4 := RdF.of_own hown4
  have hone := hide (all_done (F := E) hm)
  have hp : ∀ i, 0 ≤ pF E 200 0 i ∧ pF E 200 0 i ≤ 1000 := fun i => pg_bd
  have Hp := hide hp
  have hfew : (sD E m).length ≤ 12 := by have := D_len E m; rw [sD_len]; omega
  clear hst hown4 hb4 hr3 hbl3 hp
  generalize pF E 200 0 = p at *
  generalize sD E m = L at *
  go_wp2_with fail
  go_loopw [42] (fun s wr => ∃ a : Nat, a ≤ L.length ∧ s = .int .i64 a ∧ Below w4.heap.size w4 wr) (fun s _ => L.length - (intOf s).toNat)
  case atStart => exact ⟨0, by omega, rfl, Below.refl _ _⟩
  case round =>
    obtain ⟨a, ha, rfl, hbl⟩ := hrel
    obtain ⟨wo, rfl⟩ : ∃ wo : World, wo = wr := ⟨_, rfl⟩
    by_cases hlt : a < L.length
    · obtain ⟨b, off, rfl, k0, k1, k2, k3⟩ := cells4 (G := fun a b => stF E p m (ix L a) b) (ho4.below hbl) hlt
      simp only [stF] at k0 k1 k2 k3
      generalize ix L a = z at *
      go_upto_region 12 with fail
      have bx : Blk ((wo.alloc (.cells #[.int .i64 z, .int .i64 (sn E p z m), .int .i64 (xA E p 5 z m), .int .i64 (xA E p 6 z m)] 42)).alloc (.cells #[.int .i64 z, .int .i64 1000, .int .i64 0, .int .i64 0] 42)) wo.heap.size 42 (wtC E p z m) := (Blk.new wo _ _).alloc _
      have bw : Blk ((wo.alloc (.cells #[.int .i64 z, .int .i64 (sn E p z m), .int .i64 (xA E p 5 z m), .int .i64 (xA E p 6 z m)] 42)).alloc (.cells #[.int .i64 z, .int .i64 1000, .int .i64 0, .int .i64 0] 42)) (wo.heap.size + 1) 42 (wtC E p z 0) := by
        have h := Blk.new (wo.alloc (.cells #[.int .i64 z, .int .i64 (sn E p z m), .int .i64 (xA E p 5 z m), .int .i64 (xA E p 6 z m)] 42)) 42 #[.int .i64 z, .int .i64 1000, .int .i64 0, .int .i64 0]
        rw [hsz_alloc] at h
        exact h
      have hb5 := hbl.alloc hbl.size (.cells #[.int .i64 z, .int .i64 (sn E p z m), .int .i64 (xA E p 5 z m), .int .i64 (xA E p 6 z m)] 42)
      have hb6 := hb5.alloc hb5.size (.cells #[.int .i64 z, .int .i64 1000, .int .i64 0, .int .i64 0] 42)
      have hgo : w4.heap.size ≤ wo.heap.size := hbl.size
      clear k0 k1 k2 k3 hb5 hbl
      generalize (wo.alloc (.cells #[.int .i64 z, .int .i64 (sn E p z m), .int .i64 (xA E p 5 z m), .int .i64 (xA E p 6 z m)] 42)).alloc (.cells #[.int .i64 z, .int .i64 1000, .int .i64 0, .int .i64 0] 42) = w6 at *
      generalize hgx : wo.heap.size = gx at *
      obtain ⟨gw, hgw⟩ : ∃ gw, gw = gx + 1 := ⟨_, rfl⟩
      rw [← hgw] at bw ⊢
      have hne : gx ≠ gw := by omega
      have hgw4 : w4.heap.size ≤ gw := by omega
      clear hgw hgx
      go_wp2_with fail
      go_loopw [51] (fun s wr => ∃ j : Nat, j ≤ m ∧ s = .int .i64 j ∧ Blk wr gx 42 (wtC E p z m) ∧ Blk wr gw 42 (wtC E p z j) ∧ Below w4.heap.size w4 wr) (fun s _ => m - (intOf s).toNat)
      case atStart => exact ⟨0, by omega, rfl, bx, bw, hb6⟩
      case round =>
        clear bx bw hb6
        obtain ⟨j, hj, rfl, bx, bw, hbl⟩ := hrel
        by_cases hlj : j < m
        · obtain ⟨b7, o7, rfl, k0, k1, k2, k3, k4, k5, k6⟩ := cells7 (hr4.below hbl) hlj
          obtain ⟨xl0, xl1⟩ := Hv.out.xs j hlj
          obtain ⟨y0, y1⟩ := Hv.out.ys j hlj
          have hsb := sn_bd (F := E) Hp.out z j
          have q5 := xA_bd Hv.out.xs Hp.out z j hj
          have q6 := xA_bd Hv.out.ys Hp.out z j hj
          have Hs := hide (sn_last (z := z) (hone.out j hlj) hsb)
          have HX := hide (xA_last (F := E) (z := z) (j := 5) (hone.out j hlj))
          have HY := hide (xA_last (F := E) (z := z) (j := 6) (hone.out j hlj))
          obtain ⟨q50, q51⟩ : -6000 ≤ xA E p 5 z j ∧ xA E p 5 z j ≤ 6000 := by omega
          obtain ⟨q60, q61⟩ : -6000 ≤ xA E p 6 z j ∧ xA E p 6 z j ≤ 6000 := by omega
          clear hsb q5 q6
          go_upto_region 15 with fail
          have by7 : Blk (wr.alloc (.cells #[.int .i64 (E j 0), .int .i64 (E j 1), .int .i64 (E j 2), .int .i64 (E j 3), .int .i64 (E j 4), .int .i64 (E j 5), .int .i64 (E j 6)] 45)) wr.heap.size 45 (efC E j) := Blk.new wr _ _
          have bx7 := bx.alloc (.cells #[.int .i64 (E j 0), .int .i64 (E j 1), .int .i64 (E j 2), .int .i64 (E j 3), .int .i64 (E j 4), .int .i64 (E j 5), .int .i64 (E j 6)] 45)
          have bw7 := bw.alloc (.cells #[.int .i64 (E j 0), .int .i64 (E j 1), .int .i64 (E j 2), .int .i64 (E j 3), .int .i64 (E j 4), .int .i64 (E j 5), .int .i64 (E j 6)] 45)
          have hb7 := hbl.alloc hbl.size (.cells #[.int .i64 (E j 0), .int .i64 (E j 1), .int .i64 (E j 2), .int .i64 (E j 3), .int .i64 (E j 4), .int .i64 (E j 5), .int .i64 (E j 6)] 45)
          have hgy : gw ≠ wr.heap.size := by have := bw.lt; omega
          clear k0 k1 k2 k3 k4 k5 k6 bx bw hbl
          generalize wr.alloc (.cells #[.int .i64 (E j 0), .int .i64 (E j 1), .int .i64 (E j 2), .int .i64 (E j 3), .int .i64 (E j 4), .int .i64 (E j 5), .int .i64 (E j 6)] 45) = w7 at *
          generalize wr.heap.size = gy at *
          have m0 : w7.cell? ⟨gy, 0, none⟩ = some (.int .i64 (E j 0)) := by7.cell 0
          have m1 : w7.cell? ⟨gy, 1, none⟩ = some (.int .i64 (E j 1)) := by7.cell 1
          have m5 : w7.cell? ⟨gy, 5, none⟩ = some (.int .i64 (E j 5)) := by7.cell 5
          have m6 : w7.cell? ⟨gy, 6, none⟩ = some (.int .i64 (E j 6)) := by7.cell 6
          have z0 : w7.cell? ⟨gx, 0, none⟩ = some (.int .i64 z) := bx7.cell 0
          have x1 : w7.cell? ⟨gw, 1, none⟩ = some (.int .i64 (sn E p z j)) := bw7.cell 1
          have x2 : w7.cell? ⟨gw, 2, none⟩ = some (.int .i64 (xA E p 5 z j)) := bw7.cell 2
          have x3 : w7.cell? ⟨gw, 3, none⟩ = some (.int .i64 (xA E p 6 z j)) := bw7.cell 3
          have bw := bw7
          have f1 := bw.frozen 1
          have f2 := bw.frozen 2
          have f3 := bw.frozen 3
          by_cases hz : E j 0 = z
          · rw [hz] at m0
            by_cases h2 : E j 1 = 2
            · have d2 : (E j 1 == 2) = true := by simpa using h2
              have hs1 := hide (Hs.out.trans (if_neg (fun h => h.2 h2)))
              have hx1 := hide (HX.out.trans (if_pos ⟨hz, h2⟩))
              have hy1 := hide (HY.out.trans (if_pos ⟨hz, h2⟩))
              have v1 : IntKind.i64.wrap (xA E p 5 z j + E j 5) = xA E p 5 z j + E j 5 := IntWalk.i64_in _ (by omega)
              have v2 : IntKind.i64.wrap (xA E p 6 z j + E j 6) = xA E p 6 z j + E j 6 := IntWalk.i64_in _ (by omega)
              clear hz h2
              go_upto_region 19 with fail
              refine wp_region_listed (S := fun l w' => (l.getD 11 true = false → w'.cell? ⟨gw, 2, none⟩ = some (.int .i64 (xA E p 5 z j))) ∧ (l.getD 13 true = false → w'.cell? ⟨gw, 3, none⟩ = some (.int .i64 (xA E p 6 z j))) ∧ w'.cell? ⟨gy, 5, none⟩ = some (.int .i64 (E j 5)) ∧ w'.cell? ⟨gy, 6, none⟩ = some (.int .i64 (E j 6))) (by kernel_rfl) ?hSA (fun hHeld => ?_)
              case hSA => exact ⟨fun _ => x2, fun _ => x3, m5, m6⟩
              refine wpAnyL_take (i := 0) (v := ?vAn0) rfl (by kernel_rfl) (by kernel_rfl) (by kernel_rfl) (by kernel_rfl) (fun _ _ _ h => h) ?hsAn0 (Or.inl ⟨by rfl, ?hyAn0⟩) (by assumption) (fun hHeld => ?_)
              case hsAn0 => (intro l w; (try dsimp only); simp only [Go.getD_set_ne true (show (0 : Nat) ≠ 11 by decide), Go.getD_set_ne true (show (0 : Nat) ≠ 13 by decide)])
              case hyAn0 => (intro w hSw; obtain ⟨l, hl, hc, hSw⟩ := hSw; (try dsimp only at hSw); obtain ⟨cA0, cA1, cA2, cA3⟩ := hSw; clear hc hl; go_simp; try with_reducible rfl)
              try simp only [Act.put]
              refine wpAnyL_take (i := 1) (v := ?vAn1) rfl (by kernel_rfl) (by kernel_rfl) (by kernel_rfl) (by kernel_rfl) (fun _ _ _ h => h) ?hsAn1 (Or.inl ⟨by rfl, ?hyAn1⟩) (by assumption) (fun hHeld => ?_)
              case hsAn1 => (intro l w; (try dsimp only); simp only [Go.getD_set_ne true (show (1 : Nat) ≠ 11 by decide), Go.getD_set_ne true (show (1 : Nat) ≠ 13 by decide)])
              case hyAn1 => (intro w hSw; obtain ⟨l, hl, hc, hSw⟩ := hSw; (try dsimp only at hSw); obtain ⟨cA0, cA1, cA2, cA3⟩ := hSw; replace cA0 := cA0 (hc.waits 24 (by decide +kernel) hl); clear hc hl; go_simp; try with_reducible rfl)
              try simp only [Act.put]
              refine wpAnyL_take (i := 2) (v := ?vAn2) rfl (by kernel_rfl) (by kernel_rfl) (by kernel_rfl) (by kernel_rfl) (fun _ _ _ h => h) ?hsAn2 (Or.inl ⟨by rfl, ?hyAn2⟩) (by assumption) (fun hHeld => ?_)
              case hsAn2 => (intro l w; (try dsimp only); simp only [Go.getD_set_ne true (show (2 : Nat) ≠ 11 by decide), Go.getD_set_ne true (show (2 : Nat) ≠ 13 by decide)])
              case hyAn2 => (intro w hSw; obtain ⟨l, hl, hc, hSw⟩ := hSw; (try dsimp only at hSw); obtain ⟨cA0, cA1, cA2, cA3⟩ := hSw; clear hc hl; go_simp; try with_reducible rfl)
              try simp only [Act.put]
              refine wpAnyL_take (i := 3) (v := ?vAn3) rfl (by kernel_rfl) (by kernel_rfl) (by kernel_rfl) (by kernel_rfl) (fun _ _ _ h => h) ?hsAn3 (Or.inl ⟨by rfl, ?hyAn3⟩) (by assumption) (fun hHeld => ?_)
              case hsAn3 => (intro l w; (try dsimp only); simp only [Go.getD_set_ne true (show (3 : Nat) ≠ 11 by decide), Go.getD_set_ne true (show (3 : Nat) ≠ 13 by decide)])
              case hyAn3 => (intro w hSw; obtain ⟨l, hl, hc, hSw⟩ := hSw; (try dsimp only at hSw); obtain ⟨cA0, cA1, cA2, cA3⟩ := hSw; clear hc hl; go_simp; try with_reducible rfl)
              try simp only [Act.put]
              refine wpAnyL_take (i := 4) (v := ?vAn4) rfl (by kernel_rfl) (by kernel_rfl) (by kernel_rfl) (by kernel_rfl) (fun _ _ _ h => h) ?hsAn4 (Or.inl ⟨by rfl, ?hyAn4⟩) (by assumption) (fun hHeld => ?_)
              case hsAn4 => (intro l w; (try dsimp only); simp only [Go.getD_set_ne true (show (4 : Nat) ≠ 11 by decide), Go.getD_set_ne true (show (4 : Nat) ≠ 13 by decide)])
              case hyAn4 => (intro w hSw; obtain ⟨l, hl, hc, hSw⟩ := hSw; (try dsimp only at hSw); obtain ⟨cA0, cA1, cA2, cA3⟩ := hSw; clear hc hl; go_simp; try with_reducible rfl)
              try simp only [Act.put]
              refine wpAnyL_take (i := 5) (v := ?vAn5) rfl (by kernel_rfl) (by kernel_rfl) (by kernel_rfl) (by kernel_rfl) (fun _ _ _ h => h) ?hsAn5 (Or.inl ⟨by rfl, ?hyAn5⟩) (by assumption) (fun hHeld => ?_)
              case hsAn5 => (intro l w; (try dsimp only); simp only [Go.getD_set_ne true (show (5 : Nat) ≠ 11 by decide), Go.getD_set_ne true (show (5 : Nat) ≠ 13 by decide)])
              case hyAn5 => (intro w hSw; obtain ⟨l, hl, hc, hSw⟩ := hSw; (try dsimp only at hSw); obtain ⟨cA0, cA1, cA2, cA3⟩ := hSw; clear hc hl; go_simp; try with_reducible rfl)
              try simp only [Act.put]
              refine wpAnyL_take (i := 6) (v := ?vAn6) rfl (by kernel_rfl) (by kernel_rfl) (by kernel_rfl) (by kernel_rfl) (fun _ _ _ h => h) ?hsAn6 (Or.inl ⟨by rfl, ?hyAn6⟩) (by assumption) (fun hHeld => ?_)
              case hsAn6 => (intro l w; (try dsimp only); simp only [Go.getD_set_ne true (show (6 : Nat) ≠ 11 by decide), Go.getD_set_ne true (show (6 : Nat) ≠ 13 by decide)])
              case hyAn6 => (intro w hSw; obtain ⟨l, hl, hc, hSw⟩ := hSw; (try dsimp only at hSw); obtain ⟨cA0, cA1, cA2, cA3⟩ := hSw; replace cA1 := cA1 (hc.waits 24 (by decide +kernel) hl); clear hc hl; go_simp; try with_reducible rfl)
              try simp only [Act.put]
              refine wpAnyL_take (i := 7) (v := ?vAn7) rfl (by kernel_rfl) (by kernel_rfl) (by kernel_rfl) (by kernel_rfl) (fun _ _ _ h => h) ?hsAn7 (Or.inl ⟨by rfl, ?hyAn7⟩) (by assumption) (fun hHeld => ?_)
              case hsAn7 => (intro l w; (try dsimp only); simp only [Go.getD_set_ne true (show (7 : Nat) ≠ 11 by decide), Go.getD_set_ne true (show (7 : Nat) ≠ 13 by decide)])
              case hyAn7 => (intro w hSw; obtain ⟨l, hl, hc, hSw⟩ := hSw; (try dsimp only at hSw); obtain ⟨cA0, cA1, cA2, cA3⟩ := hSw; clear hc hl; go_simp; try with_reducible rfl)
              try simp only [Act.put]
              refine wpAnyL_take (i := 8) (v := ?vAn8) rfl (by kernel_rfl) (by kernel_rfl) (by kernel_rfl) (by kernel_rfl) (fun _ _ _ h => h) ?hsAn8 (Or.inl ⟨by rfl, ?hyAn8⟩) (by assumption) (fun hHeld => ?_)
              case hsAn8 => (intro l w; (try dsimp only); simp only [Go.getD_set_ne true (show (8 : Nat) ≠ 11 by decide), Go.getD_set_ne true (show (8 : Nat) ≠ 13 by decide)])
              case hyAn8 => (intro w hSw; obtain ⟨l, hl, hc, hSw⟩ := hSw; (try dsimp only at hSw); obtain ⟨cA0, cA1, cA2, cA3⟩ := hSw; clear hc hl; go_simp; try with_reducible rfl)
              try simp only [Act.put]
              refine wpAnyL_take (i := 9) (v := ?vAn9) rfl (by kernel_rfl) (by kernel_rfl) (by kernel_rfl) (by kernel_rfl) (fun _ _ _ h => h) ?hsAn9 (Or.inl ⟨by rfl, ?hyAn9⟩) (by assumption) (fun hHeld => ?_)
              case hsAn9 => (intro l w; (try dsimp only); simp only [Go.getD_set_ne true (show (9 : Nat) ≠ 11 by decide), Go.getD_set_ne true (show (9 : Nat) ≠ 13 by decide)])
              case hyAn9 => (intro w hSw; obtain ⟨l, hl, hc, hSw⟩ := hSw; (try dsimp only at hSw); obtain ⟨cA0, cA1, cA2, cA3⟩ := hSw; clear hc hl; go_simp; try with_reducible rfl)
              try simp only [Act.put]
              refine wpAnyL_take (i := 10) (v := ?vAn10) rfl (by kernel_rfl) (by kernel_rfl) (by kernel_rfl) (by kernel_rfl) (fun _ _ _ h => h) ?hsAn10 (Or.inl ⟨by rfl, ?hyAn10⟩) (by assumption) (fun hHeld => ?_)
              case hsAn10 => (intro l w; (try dsimp only); simp only [Go.getD_set_ne true (show (10 : Nat) ≠ 11 by decide), Go.getD_set_ne true (show (10 : Nat) ≠ 13 by decide)])
              case hyAn10 => (intro w hSw; obtain ⟨l, hl, hc, hSw⟩ := hSw; (try dsimp only at hSw); obtain ⟨cA0, cA1, cA2, cA3⟩ := hSw; clear hc hl; go_simp; try with_reducible rfl)
              try simp only [Act.put]
              refine wpAnyL_ready (rs := [11]) (by kernel_rfl) (by simp) (AllReadyL.cons rfl (fun K hK => ?_) AllReadyL.nil)
              go_simp
              refine hK.out _ _ ?hkAn11 (fun hHeld => ?_)
              case hkAn11 => first | (go_keep; done) | (refine ⟨?_, ?_, ?_, ?_⟩ <;> first | (go_keep; done) | (intro h; first | exact absurd h (by decide) | (go_keep; done) | ((try refine cell_drew ?_); (repeat (refine cell_other ?_ (by decide))); assumption)) | ((try refine cell_drew ?_); (repeat (refine cell_other ?_ (by decide))); assumption))
              clear hK K
              try simp only [Act.put]
              refine wpAnyL_take (i := 12) (v := ?vAn12) rfl (by kernel_rfl) (by kernel_rfl) (by kernel_rfl) (by kernel_rfl) (fun _ _ _ h => h) ?hsAn12 (Or.inl ⟨by rfl, ?hyAn12⟩) (by assumption) (fun hHeld => ?_)
              case hsAn12 => (intro l w; (try dsimp only); simp only [Go.getD_set_ne true (show (12 : Nat) ≠ 11 by decide), Go.getD_set_ne true (show (12 : Nat) ≠ 13 by decide)])
              case hyAn12 => (intro w hSw; obtain ⟨l, hl, hc, hSw⟩ := hSw; (try dsimp only at hSw); obtain ⟨cA0, cA1, cA2, cA3⟩ := hSw; clear hc hl; go_simp; try with_reducible rfl)
              try simp only [Act.put]
              refine wpAnyL_ready (rs := [13]) (by kernel_rfl) (by simp) (AllReadyL.cons rfl (fun K hK => ?_) AllReadyL.nil)
              go_simp
              refine hK.out _ _ ?hkAn13 (fun hHeld => ?_)
              case hkAn13 => first | (go_keep; done) | (refine ⟨?_, ?_, ?_, ?_⟩ <;> first | (go_keep; done) | (intro h; first | exact absurd h (by decide) | (go_keep; done) | ((try refine cell_drew ?_); (repeat (refine cell_other ?_ (by decide))); assumption)) | ((try refine cell_drew ?_); (repeat (refine cell_other ?_ (by decide))); assumption))
              clear hK K
              try simp only [Act.put]
              refine wpAnyL_done (by kernel_rfl) ?_ _
              go_wp2_with fail
              go_roundw
              case rel =>
                have e : wtC E p z (j + 1) = ((wtC E p z j).setIfInBounds 2 (.int .i64 (xA E p 5 z j + E j 5))).setIfInBounds 3 (.int .i64 (xA E p 6 z j + E j 6)) := by
                  simp [wtC, hs1.out, hx1.out, hy1.out]
                exact ⟨j + 1, by omega, by go_num, (((bx7.drewN 1).far (p := ⟨gw, 2, none⟩) hne _).far (p := ⟨gw, 3, none⟩) hne _), by rw [e]; exact ((bw.drewN 1).set_ 2 _).set_ 3 _, ((below_drewN hb7 1).setCell (p := ⟨gw, 2, none⟩) hgw4 _).setCell (p := ⟨gw, 3, none⟩) hgw4 _⟩
              case measure => simp [intOf]; omega
            · have d2 : (E j 1 == 2) = false := by simpa using h2
              have hx1 := hide (HX.out.trans (if_neg (fun h => h2 h.2)))
              have hy1 := hide (HY.out.trans (if_neg (fun h => h2 h.2)))
              have hs1 := Hs.out.trans (if_pos ⟨hz, h2⟩)
              by_cases h0 : E j 1 = 0
              · have d0 : (E j 1 == 0) = true := by simpa using h0
                rw [if_pos h0] at hs1
                have Hs1 := hide hs1
                clear hs1 hz h2 h0
                go_wp2_with fail
                go_roundw
                case rel =>
                  have e : wtC E p z (j + 1) = (wtC E p z j).setIfInBounds 1 (.int .i64 1000) := by simp [wtC, Hs1.out, hx1.out, hy1.out]
                  exact ⟨j + 1, by omega, by go_num, bx7.far (p := ⟨gw, 1, none⟩) hne _, by rw [e]; exact bw.set_ 1 _, hb7.setCell (p := ⟨gw, 1, none⟩) hgw4 _⟩
                case measure => simp [intOf]; omega
              · have d0 : (E j 1 == 0) = false := by simpa using h0
                rw [if_neg h0] at hs1
                have Hs1 := hide hs1
                clear hs1 hz h2 h0
                go_wp2_with fail
                go_roundw
                case rel =>
                  have e : wtC E p z (j + 1) = (wtC E p z j).setIfInBounds 1 (.int .i64 0) := by simp [wtC, Hs1.out, hx1.out, hy1.out]
                  exact ⟨j + 1, by omega, by go_num, bx7.far (p := ⟨gw, 1, none⟩) hne _, by rw [e]; exact bw.set_ 1 _, hb7.setCell (p := ⟨gw, 1, none⟩) hgw4 _⟩
                case measure => simp [intOf]; omega
          · have d0 : (E j 0 != z) = true := by simpa using hz
            have hs1 := hide (Hs.out.trans (if_neg (fun h => hz h.1)))
            have hx1 := hide (HX.out.trans (if_neg (fun h => hz h.1)))
            have hy1 := hide (HY.out.trans (if_neg (fun h => hz h.1)))
            clear hz
            go_wp2_with fail
            go_roundw
            case rel =>
              have e : wtC E p z (j + 1) = wtC E p z j := by simp [wtC, hs1.out, hx1.out, hy1.out]
              exact ⟨j + 1, by omega, by go_num, bx7, by rw [e]; exact bw7, hb7⟩
            case measure => simp [intOf]; omega
        · obtain rfl : j = m := by omega
          have p0 : wr.cell? ⟨gx, 0, none⟩ = some (.int .i64 z) := bx.cell 0
          have p1 : wr.cell? ⟨gx, 1, none⟩ = some (.int .i64 (sn E p z j)) := bx.cell 1
          have p2 : wr.cell? ⟨gx, 2, none⟩ = some (.int .i64 (xA E p 5 z j)) := bx.cell 2
          have p3 : wr.cell? ⟨gx, 3, none⟩ = some (.int .i64 (xA E p 6 z j)) := bx.cell 3
          have r0 : wr.cell? ⟨gw, 0, none⟩ = some (.int .i64 z) := bw.cell 0
          have r1 : wr.cell? ⟨gw, 1, none⟩ = some (.int .i64 (sn E p z j)) := bw.cell 1
          have r2 : wr.cell? ⟨gw, 2, none⟩ = some (.int .i64 (xA E p 5 z j)) := bw.cell 2
          have r3 : wr.cell? ⟨gw, 3, none⟩ = some (.int .i64 (xA E p 6 z j)) := bw.cell 3
          clear bx bw
          generalize sn E p z j = s1 at *
          generalize xA E p 5 z j = s2 at *
          generalize xA E p 6 z j = s3 at *
          go_wp2_with fail
          go_roundw
          case rel => exact ⟨a + 1, by omega, by go_num, hbl⟩
          case measure => simp [intOf]; omega
    · obtain rfl : a = L.length := by omega
      go_wp2_with fail
      go_ret
      exact ⟨rfl, hbl4.trans (hbl.mono hbl4.size)⟩

theorem walked : Walked Try.checked.prog 5 Try.f5 := by
  intro H enc W args ds ps hval hA
  rw [Try.params5] at hA hval
  obtain ⟨v0, d0, hargs, rfl, h0⟩ := trodAll_one hA
  obtain rfl : args = #[v0] := by cases args; simp_all
  obtain ⟨a0, l0, k0, rfl⟩ := okWide_slice Try.underlying33 (hval 0 _ _ rfl rfl)
  obtain ⟨fuel, h0⟩ := h0
  obtain ⟨A, n, c, F, hs, hn, hr, hwf⟩ := effects_trod (v := .slice a0 l0 k0) h0
  rw [hs]
  exact walk A n c F W hn hr hwf

theorem lifted (os : Os) (started : os.Started) (H : Type) (enc : TypeId × Value → H) :
    ReturnsInHanded {} Try.checked os 5 .any (Rows.timelineLastPictureSpec.pre6 enc Try.prog Try.f5 Rows.timelineLastPictureRow.domain false) (Rows.timelineLastPictureSpec.post enc Try.prog Try.f5 false true false false) :=
  law_lift (C := Try.checked) (tb := 4) (by kernel_rfl) started (by kernel_rfl) Try.func5 rfl
    (fun ds h => match ds, h with | [_], _ => rfl) rfl Try.underlying4 (by kernel_rfl) (by kernel_rfl)
    (ChangeSpec.witness6 (enc := enc) (C := Try.checked) false ⟨#[], #[.slice none 0 0], []⟩ 8 (by kernel_rfl) (by kernel_rfl) (by kernel_rfl) (by kernel_rfl))
    walked

/-- THE STATEMENT -/
theorem proved : Rows.TimelineLastPictureSaid :=
  OpenClaim.holds_of_wide 5 Try.f5 rfl rfl rfl rfl rfl rfl rfl ⟨rfl, rfl, rfl, rfl, rfl⟩ rfl rfl rfl rfl rfl (by kernel_rfl) Try.func5 (by kernel_rfl)
    (of_decide_eq_true (by kernel_rfl)) (by unfold Func.isWrapper; first | (rw [if_pos (by decide +kernel)]; kernel_rfl) | (rw [if_neg (by decide +kernel)]; exact ⟨rfl, rfl⟩))
    (fun os started H enc _ => lifted os started H enc)
#print axioms proved
end Go.Proofs.Ytlipdhoeklgdoaa.TimelineLastPictureDone
