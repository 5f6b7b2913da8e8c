/- The contract of (*grid).step. -/
import Derived.Test.YtegmokdhfmgdgaaRtStepPlain
import Derived.Test.YtegmokdhfmgdgaaRtGPush
import Derived.Test.YtegmokdhfmgdgaaBoxes
namespace Go.Proofs.Ytegmokdhfmgdgaa.Rt
open Go.RowKit Go.Frm Go.Frm.Rt

def ptc (x y : Int) : Array Value := #[.int .i64 x, .int .i64 y]
def ptz : Array Value := #[.int .i64 0, .int .i64 0]
theorem alloc_pt (w : World) : (Instr.alloc 24 true (.tuple #[])).run Try.prog w = .ok (.pointer (some ⟨w.heap.size, 0, none⟩)) (w.alloc (.cells ptz 24)) := by kernel_rfl
theorem store_pt (w : World) (g : Nat) (x y : Int) (h : Blk w g 24 ptz) :
    ∃ w', (Instr.storeAt 24 (.pointer (some ⟨g, 0, none⟩)) (.agg (ptc x y))).run Try.prog w = .ok () w' ∧ Blk w' g 24 (ptc x y) ∧ w.grownBy w' (some g) := by
  have c0 : w.cell? ⟨g, 0, none⟩ = some (.int .i64 0) := h.cell 0
  have c1 : w.cell? ⟨g, 1, none⟩ = some (.int .i64 0) := h.cell 1
  have z0 : w.frozen? ⟨g, 0, none⟩ = false := h.frozen 0
  have z1 : w.frozen? ⟨g, 1, none⟩ = false := h.frozen 1
  refine ⟨(w.setCell ⟨g, 0, none⟩ (.int .i64 x)).setCell ⟨g, 1, none⟩ (.int .i64 y), ?_, ?_, ?_⟩
  · unfold ptc
    go_simp
  · exact (h.set_ 0 (.int .i64 x)).set_ 1 (.int .i64 y)
  · have h1 : ∀ (W : World) (i : Nat) (v : Value), W.grownBy (W.setCell ⟨g, i, none⟩ v) (some g) := fun W i v =>
      ⟨rfl, rfl, rfl, by simp [World.setCell], fun k _ hk => Below.heap_setCell _ _ _ k (fun e => hk (by rw [e]))⟩
    have a := h1 w 0 (.int .i64 x)
    have b := h1 (w.setCell ⟨g, 0, none⟩ (.int .i64 x)) 1 (.int .i64 y)
    exact ⟨b.os.trans a.os, b.tape.trans a.tape, b.output.trans a.output, Nat.le_trans a.size b.size, fun k hk hne => (b.block k (Nat.lt_of_lt_of_le hk a.size) hne).trans (a.block k hk hne)⟩
theorem blk_ne_type {w : World} {g g' : Nat} {t t' : TypeId} {a b : Array Value} (h : Blk w g t a) (h' : Blk w g' t' b) (ht : t ≠ t') : g ≠ g' := fun e => by
  subst e
  have h1 := h.symm.trans h'
  injection h1 with h1
  injection h1 with _ h1
  exact ht h1
/-- the state that is gone on from lies in no row -/
structure StepW (w wr : World) (b base gd N g6 : Nat) (xA : Option Addr) (nx xc : Nat) (yA : Option Addr) (ny yc : Nat) (lA : Option Addr) (nl lc : Nat) (X Y : Nat → Int) (fs : Nat → Fr) (dn : Nat → Bool) (cA : Option Addr) (cn cc : Nat) (cl : Nat → St) (qA : Option Addr) (qn qc : Nat) (f : Nat → St) (s : St) : Prop where
  g : GQ wr b base gd N (.slice xA nx xc) (.slice yA ny yc) (.slice lA nl lc) dn cA cn cc cl qA qn qc f
  r : GR wr b base xA yA lA nx ny nl X Y fs
  s : Blk wr g6 61 (stC s)
  ne : (Value.slice qA qn qc).ownBlock ≠ some g6
  gb : g6 ≠ b
  gl : g6 < wr.heap.size
  c : Chg (Dg b base) w wr
section
variable {w wr w' : World} {b base gd N g6 : Nat} {xA : Option Addr} {nx xc : Nat} {yA : Option Addr} {ny yc : Nat} {lA : Option Addr} {nl lc : Nat} {X Y : Nat → Int} {fs : Nat → Fr} {dn : Nat → Bool} {cA : Option Addr} {cn cc : Nat} {cl : Nat → St} {qA : Option Addr} {qn qc : Nat} {f : Nat → St} {s : St}
theorem StepW.below (h : StepW w wr b base gd N g6 xA nx xc yA ny yc lA nl lc X Y fs dn cA cn cc cl qA qn qc f s) (hb : Below wr.heap.size wr w') : StepW w w' b base gd N g6 xA nx xc yA ny yc lA nl lc X Y fs dn cA cn cc cl qA qn qc f s :=
  ⟨h.g.below hb, h.r.below hb, h.s.below hb h.gl, h.ne, h.gb, Nat.lt_of_lt_of_le h.gl hb.size, h.c.below hb⟩
theorem StepW.queued (h : StepW w wr b base gd N g6 xA nx xc yA ny yc lA nl lc X Y fs dn cA cn cc cl qA qn qc f s) {qA' : Option Addr} {qn' qc' : Nat} {f' : Nat → St} (hg : GQ w' b base gd N (.slice xA nx xc) (.slice yA ny yc) (.slice lA nl lc) dn cA cn cc cl qA' qn' qc' f')
    (hc : Chg (Two b (Value.ownBlock (.slice qA qn qc))) wr w') (hs : ∀ k, Value.ownBlock (.slice qA' qn' qc') = some k → some k = Value.ownBlock (.slice qA qn qc) ∨ wr.heap.size ≤ k) : StepW w w' b base gd N g6 xA nx xc yA ny yc lA nl lc X Y fs dn cA cn cc cl qA' qn' qc' f' s := by
  have hd : Chg (Dg b base) wr w' := hc.mono (two_dg h.g.que)
  refine ⟨hg, h.r.chg hd, blk_chg h.s hc ?_, ?_, h.gb, Nat.lt_of_lt_of_le h.gl hc.size, h.c.trans hd⟩
  · rintro (h1 | h1)
    · exact h.gb h1
    · exact h.ne h1.symm
  · intro h1
    rcases hs _ h1 with h2 | h2
    · exact h.ne h2.symm
    · have := h.gl
      omega
end
section
variable {w : World} {b base gd N : Nat} {xA : Option Addr} {nx xc : Nat} {yA : Option Addr} {ny yc : Nat} {lA : Option Addr} {nl lc : Nat} {X Y : Nat → Int} {fs : Nat → Fr} {dn : Nat → Bool} {cA : Option Addr} {cn cc : Nat} {cl : Nat → St} {qA : Option Addr} {qn qc : Nat} {f : Nat → St}
/-- those that are done, by place and direction -/
def dnI (dn : Nat → Bool) (nx x y d : Nat) : Bool := dn (ixN nx x y d)
set_option maxRecDepth 100000 in
set_option maxHeartbeats 60000000 in
theorem step_ok (h : GQ w b base gd N (.slice xA nx xc) (.slice yA ny yc) (.slice lA nl lc) dn cA cn cc cl qA qn qc f) (hr : GR w b base xA yA lA nx ny nl X Y fs) (hN : N = 4 * nx * ny) (hnx : nx ≤ 1000) (hny : ny ≤ 1000) (hnl : nl ≤ 1000) (hqn : qn ≤ 9000000) (hcn : cn ≤ 9000000)
    (hX : ∀ i, i < nx → -1000000 ≤ X i ∧ X i ≤ 1000000) (hY : ∀ i, i < ny → -1000000 ≤ Y i ∧ Y i ≤ 1000000) {k : Nat} (hk : k < cn) {s : St} (hs : cl k = s) (hsx : s.x < nx) (hsy : s.y < ny) (hsd : s.d < 4) (hb0 : 0 ≤ s.co.b ∧ s.co.b ≤ 1000000000) (hl0 : 0 ≤ s.co.l ∧ s.co.l ≤ 1000000000000000) (first : Int) :
    Calls Try.prog 21 #[.pointer (some ⟨b, 0, none⟩), .int .i64 k, .int .i64 first] w fun e w' => e = .returned (.tuple #[]) ∧ ∃ qA' qn' qc' f', GQ w' b base gd N (.slice xA nx xc) (.slice yA ny yc) (.slice lA nl lc) dn cA cn cc cl qA' qn' qc' f' ∧
      Stp (gE X Y nx ny nl fs) first s k (dnI dn nx) qn f 4 qn' f' ∧ Chg (Dg b base) w w' := by
  obtain ⟨gc, hcA, hgc⟩ := own_at h.clo (by omega)
  have hcl := h.clo
  rw [hcA] at hcl
  obtain ⟨c0, c1, c2, c3, c4, c5⟩ := own_cells hcl hk
  rw [hs] at c0 c1 c2 c3 c4 c5
  have hcap := own_cap hcl
  have g5 : w.cell? ⟨b, 5, none⟩ = some (.slice (some ⟨gc, 0, none⟩) cn cc) := by rw [← hcA]; exact h.grid.cell 5
  have Hbx : Hid (stC s = #[.int .i64 (s.x : Nat), .int .i64 (s.y : Nat), .int .i64 (s.d : Nat), .int .i64 s.co.b, .int .i64 s.co.l, .int .i64 s.back]) := hide rfl
  have H0 : Hid (StepW w (w.alloc (.cells #[.int .i64 (s.x : Nat), .int .i64 (s.y : Nat), .int .i64 (s.d : Nat), .int .i64 s.co.b, .int .i64 s.co.l, .int .i64 s.back] 61)) b base gd N w.heap.size xA nx xc yA ny yc lA nl lc X Y fs dn cA cn cc cl qA qn qc f s) := hide
    ⟨h.alloc _, hr.below ((Below.refl _ _).alloc (Nat.le_refl _) _), by rw [Hbx.out]; exact Blk.new w _ _, fun e => by have := (own_blk_ge h.que e).2; omega, fun e => by have := h.grid.lt; omega, by simp, (Chg.refl _ _).alloc _⟩
  have HX := hide hX
  have HY := hide hY
  have HNN := hide hN
  have Hsx := hide hsx
  have Hsy := hide hsy
  have Hs := hide hs
  have k1 : (k : Int) < (cn : Int) := by omega
  have k2 : (0 : Int) ≤ (k : Int) := by omega
  clear h hr hX hY hN hcl hs hcA
  go_enter Try.func21, Try.ntmps21
  go_wp2_with fail
  obtain ⟨g6, Hg6⟩ : ∃ g, Hid (g = w.heap.size) := ⟨_, rfl⟩
  rw [← Hg6.out] at H0
  rw [← Hg6.out]
  generalize w.alloc (.cells #[.int .i64 (s.x : Nat), .int .i64 (s.y : Nat), .int .i64 (s.d : Nat), .int .i64 s.co.b, .int .i64 s.co.l, .int .i64 s.back] 61) = w1 at *
  clear c0 c1 c2 c3 c4 c5 g5
  go_loopw [18, 7, 8, 9, 10] (fun a _ _ _ _ wr => ∃ (d : Nat) (qA' : Option Addr) (qn' qc' : Nat) (f' : Nat → St), a = .int .i64 d ∧ d ≤ 4 ∧ Hid (StepW w wr b base gd N g6 xA nx xc yA ny yc lA nl lc X Y fs dn cA cn cc cl qA' qn' qc' f' s) ∧ Hid (Stp (gE X Y nx ny nl fs) first s k (dnI dn nx) qn f d qn' f')) (fun a _ _ _ _ _ => 4 - (intOf a).toNat)
  case atStart => exact ⟨0, qA, qn, qc, f, rfl, by omega, H0, hide Stp.zero⟩
  case round =>
    clear H0
    obtain ⟨wo, rfl⟩ : ∃ wx : World, wx = wr := ⟨_, rfl⟩
    obtain ⟨d, qA', qn', qc', f', rfl, hd4, HW, HP⟩ := hrel
    by_cases hlt : d < 4
    · have k3 : decide ((d : Int) < 4) = true := decide_eq_true (by omega)
      have k4 : (d : Int) < 4 := by omega
      have k5 : (0 : Int) ≤ (d : Int) := by omega
      have s0 : wo.cell? ⟨g6, 0, none⟩ = some (.int .i64 (s.x : Nat)) := HW.out.s.cell 0
      have s1 : wo.cell? ⟨g6, 1, none⟩ = some (.int .i64 (s.y : Nat)) := HW.out.s.cell 1
      have s2 : wo.cell? ⟨g6, 2, none⟩ = some (.int .i64 (s.d : Nat)) := HW.out.s.cell 2
      have s3 : wo.cell? ⟨g6, 3, none⟩ = some (.int .i64 s.co.b) := HW.out.s.cell 3
      have s4 : wo.cell? ⟨g6, 4, none⟩ = some (.int .i64 s.co.l) := HW.out.s.cell 4
      have s5 : wo.cell? ⟨g6, 5, none⟩ = some (.int .i64 s.back) := HW.out.s.cell 5
      clear hlt
      go_upto_region 4 with fail
      go_cut [45] (fun v wc => v = .bool (!mayB first s d) ∧ wo = wc)
      case first => as_aux_lemma =>
        clear HX HY HNN Hs Hbx HP
        by_cases hbk : s.back < 0
        · have b1 : decide (s.back < 0) = true := decide_eq_true hbk
          have b2 : decide (s.back ≥ 0) = false := decide_eq_false (by omega)
          have b3 : ¬ 0 ≤ s.back := by omega
          by_cases h1 : first = -1
          · have HM : Hid (mayB first s d = true) := hide (by unfold mayB; rw [if_pos hbk]; simp [h1])
            have h2 : (first != -1) = false := by simp [h1]
            clear h1
            go_wp2_with fail
            go_meet
            exact ⟨by rw [HM.out]; rfl, rfl⟩
          · have h2 : (first != -1) = true := by simp [h1]
            by_cases h3 : first = (d : Int)
            · have HM : Hid (mayB first s d = true) := hide (by unfold mayB; rw [if_pos hbk]; simp [h3])
              have h4 : (first != (d : Int)) = false := by simp [h3]
              clear h1 h3
              go_wp2_with fail
              go_meet
              exact ⟨by rw [HM.out]; rfl, rfl⟩
            · have HM : Hid (mayB first s d = false) := hide (by unfold mayB; rw [if_pos hbk]; simp [h1, h3])
              have h4 : (first != (d : Int)) = true := by simp [h3]
              clear h1 h3
              go_wp2_with fail
              go_meet
              exact ⟨by rw [HM.out]; rfl, rfl⟩
        · have b1 : decide (s.back < 0) = false := decide_eq_false hbk
          have b2 : decide (s.back ≥ 0) = true := decide_eq_true (by omega)
          have b3 : 0 ≤ s.back := by omega
          have e1 : IntKind.i64.wrap (Int.tmod ((d : Int) + 2) 4) = (((d + 2) % 4 : Nat) : Int) := by
            rw [Int.tmod_eq_emod_of_nonneg (by omega), show ((d : Int) + 2) % 4 = (((d + 2) % 4 : Nat) : Int) by omega]
            exact IntWalk.i64_in _ (by omega)
          have e2 : Int.tmod ((d : Int) + 2) 4 = (((d + 2) % 4 : Nat) : Int) := by
            rw [Int.tmod_eq_emod_of_nonneg (by omega)]
            omega
          by_cases h1 : (d + 2) % 4 = s.d
          · have HM : Hid (mayB first s d = false) := hide (by unfold mayB; rw [if_neg hbk]; simp [h1])
            have h2 : (((d : Int) + 2) % 4 == (s.d : Int)) = true := by simp; omega
            clear h1
            go_wp2_with fail
            go_meet
            exact ⟨by rw [HM.out]; rfl, rfl⟩
          · have HM : Hid (mayB first s d = true) := hide (by unfold mayB; rw [if_neg hbk]; simp [h1])
            have h2 : (((d : Int) + 2) % 4 == (s.d : Int)) = false := by simp; omega
            clear h1
            go_wp2_with fail
            go_meet
            exact ⟨by rw [HM.out]; rfl, rfl⟩
      case rest =>
        obtain ⟨rfl, rfl⟩ := hcut
        have HM := hide (mayB_iff first s d)
        generalize mayB first s d = mb at *
        cases mb with
        | false =>
          have HP2 := hide (HP.out.skip (.inl (fun h => by have := HM.out.2 h; cases this)))
          clear HP s0 s1 s2 s3 s4 s5
          go_wp2_with fail
          go_roundw
          case rel => exact ⟨d + 1, qA', qn', qc', f', by go_num, by omega, HW, HP2⟩
          case measure => (simp [intOf]; omega)
        | true =>
          have Hmay := hide (HM.out.1 rfl)
          clear HM
          go_upto_region 6 with fail
          have N8 : Blk (wo.alloc (.cells #[.int .i64 (s.x : Nat), .int .i64 (s.y : Nat), .int .i64 d, .int .i64 s.co.b, .int .i64 s.co.l, .int .i64 k] 61)) wo.heap.size 61 #[.int .i64 (s.x : Nat), .int .i64 (s.y : Nat), .int .i64 d, .int .i64 s.co.b, .int .i64 s.co.l, .int .i64 k] := Blk.new wo _ _
          have HB := hide ((Below.refl wo.heap.size wo).alloc (Nat.le_refl _) (.cells #[.int .i64 (s.x : Nat), .int .i64 (s.y : Nat), .int .i64 d, .int .i64 s.co.b, .int .i64 s.co.l, .int .i64 k] 61))
          obtain ⟨g8, Hg8⟩ : ∃ g, Hid (g = wo.heap.size) := ⟨_, rfl⟩
          rw [← Hg8.out] at N8
          rw [← Hg8.out]
          generalize wo.alloc (.cells #[.int .i64 (s.x : Nat), .int .i64 (s.y : Nat), .int .i64 d, .int .i64 s.co.b, .int .i64 s.co.l, .int .i64 k] 61) = wn at *
          clear s0 s1 s2 s3 s4 s5
          go_upto_block 2 with fail
          go_cut [] (fun wc => Blk wc g8 61 #[.int .i64 (mvX d (s.x : Nat)), .int .i64 (mvY d (s.y : Nat)), .int .i64 d, .int .i64 s.co.b, .int .i64 s.co.l, .int .i64 k] ∧ Below wo.heap.size wo wc)
          case first => as_aux_lemma =>
            clear HX HY HNN Hs Hbx HP
            have n0 : wn.cell? ⟨g8, 0, none⟩ = some (.int .i64 (s.x : Nat)) := N8.cell 0
            have n1 : wn.cell? ⟨g8, 1, none⟩ = some (.int .i64 (s.y : Nat)) := N8.cell 1
            have f0 := N8.frozen 0
            have f1 := N8.frozen 1
            have HZ := hide N8
            clear N8 HW
            have hd : d = 0 ∨ d = 1 ∨ d = 2 ∨ d = 3 := by omega
            have t0 : (s.x : Int) ≤ 1000 := by omega
            have t1 : (s.y : Int) ≤ 1000 := by omega
            rcases hd with hd | hd | hd | hd
            · have e0 : ((d : Int) == 0) = true := by simp [hd]
              have Hd := hide hd
              clear hd
              go_wp2_with fail
              go_meet
              refine ⟨?_, HB.out.setCell (by show wo.heap.size ≤ g8; rw [Hg8.out]; exact Nat.le_refl _) _⟩
              have := HZ.out.set_ 0 (.int .i64 ((s.x : Int) + 1))
              rw [show mvX d (s.x : Nat) = (s.x : Int) + 1 by rw [Hd.out]; rfl, show mvY d (s.y : Nat) = (s.y : Int) by rw [Hd.out]; rfl]
              exact this
            · have e0 : ((d : Int) == 0) = false := by simp [hd]
              have e1 : ((d : Int) == 1) = true := by simp [hd]
              have Hd := hide hd
              clear hd
              go_wp2_with fail
              go_meet
              refine ⟨?_, HB.out.setCell (by show wo.heap.size ≤ g8; rw [Hg8.out]; exact Nat.le_refl _) _⟩
              have := HZ.out.set_ 1 (.int .i64 ((s.y : Int) + 1))
              rw [show mvX d (s.x : Nat) = (s.x : Int) by rw [Hd.out]; rfl, show mvY d (s.y : Nat) = (s.y : Int) + 1 by rw [Hd.out]; rfl]
              exact this
            · have e0 : ((d : Int) == 0) = false := by simp [hd]
              have e1 : ((d : Int) == 1) = false := by simp [hd]
              have e2 : ((d : Int) == 2) = true := by simp [hd]
              have Hd := hide hd
              clear hd
              go_wp2_with fail
              go_meet
              refine ⟨?_, HB.out.setCell (by show wo.heap.size ≤ g8; rw [Hg8.out]; exact Nat.le_refl _) _⟩
              have := HZ.out.set_ 0 (.int .i64 ((s.x : Int) - 1))
              rw [show mvX d (s.x : Nat) = (s.x : Int) - 1 by rw [Hd.out]; rfl, show mvY d (s.y : Nat) = (s.y : Int) by rw [Hd.out]; rfl]
              exact this
            · have e0 : ((d : Int) == 0) = false := by simp [hd]
              have e1 : ((d : Int) == 1) = false := by simp [hd]
              have e2 : ((d : Int) == 2) = false := by simp [hd]
              have Hd := hide hd
              clear hd
              go_wp2_with fail
              go_meet
              refine ⟨?_, HB.out.setCell (by show wo.heap.size ≤ g8; rw [Hg8.out]; exact Nat.le_refl _) _⟩
              have := HZ.out.set_ 1 (.int .i64 ((s.y : Int) - 1))
              rw [show mvX d (s.x : Nat) = (s.x : Int) by rw [Hd.out]; rfl, show mvY d (s.y : Nat) = (s.y : Int) - 1 by rw [Hd.out]; rfl]
              exact this
          case rest =>
            clear N8 HB
            obtain ⟨N8, hB⟩ := hcut
            obtain ⟨wq, rfl⟩ : ∃ wx : World, wx = wc := ⟨_, rfl⟩
            obtain ⟨px, Hpx⟩ : ∃ z : Int, Hid (z = mvX d (s.x : Nat)) := ⟨_, rfl⟩
            obtain ⟨py, Hpy⟩ : ∃ z : Int, Hid (z = mvY d (s.y : Nat)) := ⟨_, rfl⟩
            rw [← Hpx.out, ← Hpy.out] at N8
            have HWq := hide (HW.out.below hB)
            have HBq := hide hB
            have n0 : wq.cell? ⟨g8, 0, none⟩ = some (.int .i64 px) := N8.cell 0
            have n1 : wq.cell? ⟨g8, 1, none⟩ = some (.int .i64 py) := N8.cell 1
            have z0 : wq.cell? ⟨b, 0, none⟩ = some (.slice xA nx xc) := HWq.out.g.grid.cell 0
            have z1 : wq.cell? ⟨b, 1, none⟩ = some (.slice yA ny yc) := HWq.out.g.grid.cell 1
            have HN8 := hide N8
            clear hB N8
            go_upto_region 14 with fail
            go_cut [105] (fun v wc => v = .bool (!inB nx ny px py) ∧ ∃ q, wc = wq.drewN q)
            case first => as_aux_lemma =>
              clear HX HY HNN Hs Hbx HP
              have HI : Hid (inB nx ny px py = (decide (0 ≤ px) && decide (0 ≤ py) && decide (px < nx) && decide (py < ny))) := hide rfl
              by_cases h1 : px < 0
              · have HI2 : Hid (inB nx ny px py = false) := hide (by rw [HI.out, decide_eq_false (by omega : ¬ 0 ≤ px)]; rfl)
                have h1b : decide (px < 0) = true := decide_eq_true h1
                clear HI HWq HN8
                go_quiet (fail)
                go_wp2_with fail
                go_meet
                exact ⟨by rw [HI2.out]; rfl, _, rfl⟩
              · have h1b : decide (px < 0) = false := decide_eq_false h1
                by_cases h2 : py < 0
                · have HI2 : Hid (inB nx ny px py = false) := hide (by rw [HI.out, decide_eq_false (by omega : ¬ 0 ≤ py)]; simp)
                  have h2b : decide (py < 0) = true := decide_eq_true h2
                  clear HI HWq HN8
                  go_quiet (fail)
                  go_wp2_with fail
                  go_meet
                  exact ⟨by rw [HI2.out]; rfl, _, rfl⟩
                · have h2b : decide (py < 0) = false := decide_eq_false h2
                  by_cases h3 : (nx : Int) ≤ px
                  · have HI2 : Hid (inB nx ny px py = false) := hide (by rw [HI.out, decide_eq_false (by omega : ¬ px < (nx : Int))]; simp)
                    have h3b : decide (px ≥ (nx : Int)) = true := decide_eq_true h3
                    clear HI HWq HN8
                    go_quiet (fail)
                    go_wp2_with fail
                    go_meet
                    exact ⟨by rw [HI2.out]; rfl, _, rfl⟩
                  · have h3b : decide (px ≥ (nx : Int)) = false := decide_eq_false h3
                    by_cases h4 : (ny : Int) ≤ py
                    · have HI2 : Hid (inB nx ny px py = false) := hide (by rw [HI.out, decide_eq_false (by omega : ¬ py < (ny : Int))]; simp)
                      have h4b : decide (py ≥ (ny : Int)) = true := decide_eq_true h4
                      clear HI HWq HN8
                      go_quiet (fail)
                      go_wp2_with fail
                      go_meet
                      exact ⟨by rw [HI2.out]; rfl, _, rfl⟩
                    · have h4b : decide (py ≥ (ny : Int)) = false := decide_eq_false h4
                      have HI2 : Hid (inB nx ny px py = true) := hide (by rw [HI.out, decide_eq_true (by omega : 0 ≤ px), decide_eq_true (by omega : 0 ≤ py), decide_eq_true (by omega : px < (nx : Int)), decide_eq_true (by omega : py < (ny : Int))]; rfl)
                      clear HI HWq HN8
                      go_quiet (fail)
                      go_wp2_with fail
                      go_meet
                      exact ⟨by rw [HI2.out]; rfl, _, rfl⟩
            case rest =>
              obtain ⟨rfl, q, rfl⟩ := hcut
              have HWr := hide (HWq.out.below (below_drewN (Below.refl _ _) q))
              have HE : Hid (gE X Y nx ny nl fs s.x s.y d = if inB nx ny px py = true then (if hitsB fs nl (X s.x, Y s.y) (X px.toNat, Y py.toNat) = true then none else some (px.toNat, py.toNat, dist (X s.x, Y s.y) (X px.toNat, Y py.toNat))) else none) := hide (by unfold gE; rw [← Hpx.out, ← Hpy.out])
              have HI : Hid (inB nx ny px py = true → 0 ≤ px ∧ 0 ≤ py ∧ px < nx ∧ py < ny) := hide (fun h => by unfold inB at h; simp at h; omega)
              generalize inB nx ny px py = ib at *
              cases ib with
              | false =>
                have HP2 := hide (HP.out.skip (.inr (by rw [HE.out, if_neg (by decide)])))
                clear HP HE HI HWq HBq HN8 Hpx Hpy n0 n1 z0 z1
                go_wp2_with fail
                go_roundw
                case rel => exact ⟨d + 1, qA', qn', qc', f', by go_num, by omega, HWr, HP2⟩
                case measure => (simp [intOf]; omega)
              | true =>
                have hI := HI.out rfl
                obtain ⟨tx, Htx⟩ : ∃ m : Nat, Hid (m = px.toNat) := ⟨_, rfl⟩
                obtain ⟨ty, Hty⟩ : ∃ m : Nat, Hid (m = py.toNat) := ⟨_, rfl⟩
                have htx : px = (tx : Int) := by have := Htx.out; omega
                have hty : py = (ty : Int) := by have := Hty.out; omega
                have htxl : tx < nx := by omega
                have htyl : ty < ny := by omega
                rw [← Htx.out, ← Hty.out] at HE
                clear Htx Hty Hpx Hpy
                subst htx hty
                obtain ⟨bx, ox, rfl, xs⟩ := HWr.out.r.xs.at_ (k := s.x) (by rw [tab_length]; exact hsx)
                have xt := HWr.out.r.xs.get (k := tx) (by rw [tab_length]; exact htxl)
                obtain ⟨bY, oy, rfl, ys⟩ := HWr.out.r.ys.at_ (k := s.y) (by rw [tab_length]; exact hsy)
                have yt := HWr.out.r.ys.get (k := ty) (by rw [tab_length]; exact htyl)
                rw [tab_ix _ hsx] at xs
                rw [tab_ix _ htxl] at xt
                rw [tab_ix _ hsy] at ys
                rw [tab_ix _ htyl] at yt
                have n0 : (wq.drewN q).cell? ⟨g8, 0, none⟩ = some (.int .i64 tx) := n0
                have n1 : (wq.drewN q).cell? ⟨g8, 1, none⟩ = some (.int .i64 ty) := n1
                have z0 : (wq.drewN q).cell? ⟨b, 0, none⟩ = some (.slice (some ⟨bx, ox, none⟩) nx xc) := z0
                have z1 : (wq.drewN q).cell? ⟨b, 1, none⟩ = some (.slice (some ⟨bY, oy, none⟩) ny yc) := z1
                have z2 : (wq.drewN q).cell? ⟨b, 2, none⟩ = some (.slice lA nl lc) := HWr.out.g.grid.cell 2
                have s0 : (wq.drewN q).cell? ⟨g6, 0, none⟩ = some (.int .i64 (s.x : Nat)) := HWr.out.s.cell 0
                have s1 : (wq.drewN q).cell? ⟨g6, 1, none⟩ = some (.int .i64 (s.y : Nat)) := HWr.out.s.cell 1
                have HN9 := hide (HN8.out.drewN q)
                have HBr := hide (below_drewN HBq.out q)
                clear HWq HBq HN8 hI HI
                generalize wq.drewN q = wr2 at *
                have bn0 := World.block_lt_of_cell? _ _ n0
                have bz0 := World.block_lt_of_cell? _ _ z0
                have bs0 := World.block_lt_of_cell? _ _ s0
                have bxs := World.block_lt_of_cell? _ _ xs
                have bys := World.block_lt_of_cell? _ _ ys
                have i1 : ((s.x : Nat) : Int) < (nx : Int) := by omega
                have i2 : ((s.y : Nat) : Int) < (ny : Int) := by omega
                have i3 : (tx : Int) < (nx : Int) := by omega
                have i4 : (ty : Int) < (ny : Int) := by omega
                have i5 : (0 : Int) ≤ (s.x : Int) := by omega
                have i6 : (0 : Int) ≤ (s.y : Int) := by omega
                have i7 : (0 : Int) ≤ (tx : Int) := by omega
                have i8 : (0 : Int) ≤ (ty : Int) := by omega
                obtain ⟨xa, Hxa⟩ : ∃ z : Int, Hid (z = X s.x) := ⟨_, rfl⟩
                obtain ⟨ya, Hya⟩ : ∃ z : Int, Hid (z = Y s.y) := ⟨_, rfl⟩
                obtain ⟨xb, Hxb⟩ : ∃ z : Int, Hid (z = X tx) := ⟨_, rfl⟩
                obtain ⟨yb, Hyb⟩ : ∃ z : Int, Hid (z = Y ty) := ⟨_, rfl⟩
                rw [← Hxa.out] at xs
                rw [← Hya.out] at ys
                rw [← Hxb.out] at xt
                rw [← Hyb.out] at yt
                have HE2 : Hid (gE X Y nx ny nl fs s.x s.y d = if hitsB fs nl (xa, ya) (xb, yb) = true then none else some (tx, ty, dist (xa, ya) (xb, yb))) := hide (by rw [HE.out, if_pos rfl, Hxa.out, Hya.out, Hxb.out, Hyb.out])
                have b1 : -1000000 ≤ xa ∧ xa ≤ 1000000 := by rw [Hxa.out]; exact HX.out _ hsx
                have b2 : -1000000 ≤ ya ∧ ya ≤ 1000000 := by rw [Hya.out]; exact HY.out _ hsy
                have b3 : -1000000 ≤ xb ∧ xb ≤ 1000000 := by rw [Hxb.out]; exact HX.out _ htxl
                have b4 : -1000000 ≤ yb ∧ yb ≤ 1000000 := by rw [Hyb.out]; exact HY.out _ htyl
                clear HE Hxa Hya Hxb Hyb
                go_upto_region 15 with fail
                go_cut [9, 10] (fun v9 v10 wc => ∃ g1 g2 : Nat, v9 = .pointer (some ⟨g1, 0, none⟩) ∧ v10 = .pointer (some ⟨g2, 0, none⟩) ∧ Blk wc g1 24 (ptc xa ya) ∧ Blk wc g2 24 (ptc xb yb) ∧ Below wr2.heap.size wr2 wc)
                case first =>
                  clear HX HY HNN Hs Hbx HP
                  refine wp_region_held (S := fun (w' : World) => w'.cell? ⟨b, 0, none⟩ = some (.slice (some ⟨bx, ox, none⟩) nx xc) ∧ w'.cell? ⟨b, 1, none⟩ = some (.slice (some ⟨bY, oy, none⟩) ny yc) ∧ w'.cell? ⟨g6, 0, none⟩ = some (.int .i64 (s.x : Nat)) ∧ w'.cell? ⟨g6, 1, none⟩ = some (.int .i64 (s.y : Nat)) ∧ w'.cell? ⟨g8, 0, none⟩ = some (.int .i64 tx) ∧ w'.cell? ⟨g8, 1, none⟩ = some (.int .i64 ty) ∧ w'.cell? ⟨bx, ox + s.x, none⟩ = some (.int .i64 xa) ∧ w'.cell? ⟨bx, ox + tx, none⟩ = some (.int .i64 xb) ∧ w'.cell? ⟨bY, oy + s.y, none⟩ = some (.int .i64 ya) ∧ w'.cell? ⟨bY, oy + ty, none⟩ = some (.int .i64 yb)) (by kernel_rfl) ?_
                  have hHeld : (fun (w' : World) => w'.cell? ⟨b, 0, none⟩ = some (.slice (some ⟨bx, ox, none⟩) nx xc) ∧ w'.cell? ⟨b, 1, none⟩ = some (.slice (some ⟨bY, oy, none⟩) ny yc) ∧ w'.cell? ⟨g6, 0, none⟩ = some (.int .i64 (s.x : Nat)) ∧ w'.cell? ⟨g6, 1, none⟩ = some (.int .i64 (s.y : Nat)) ∧ w'.cell? ⟨g8, 0, none⟩ = some (.int .i64 tx) ∧ w'.cell? ⟨g8, 1, none⟩ = some (.int .i64 ty) ∧ w'.cell? ⟨bx, ox + s.x, none⟩ = some (.int .i64 xa) ∧ w'.cell? ⟨bx, ox + tx, none⟩ = some (.int .i64 xb) ∧ w'.cell? ⟨bY, oy + s.y, none⟩ = some (.int .i64 ya) ∧ w'.cell? ⟨bY, oy + ty, none⟩ = some (.int .i64 yb)) _ := ⟨z0, z1, s0, s1, n0, n1, xs, xt, ys, yt⟩
                  refine wpAnyH_take (i := 0) (v := ?vr0q0) rfl (by kernel_rfl) (by kernel_rfl) (by kernel_rfl) (fun _ _ _ h => h) (Or.inl ⟨by rfl, ?hyr0q0⟩) (by assumption) ?_
                  case hyr0q0 => (intro w hSw; (try dsimp only at hSw); go_simp; try with_reducible rfl)
                  try simp only [Act.put]
                  refine wpAnyH_take (i := 1) (v := ?vr0q1) rfl (by kernel_rfl) (by kernel_rfl) (by kernel_rfl) (fun _ _ _ h => h) (Or.inl ⟨by rfl, ?hyr0q1⟩) (by assumption) ?_
                  case hyr0q1 => (intro w hSw; (try dsimp only at hSw); go_simp; try with_reducible rfl)
                  try simp only [Act.put]
                  refine wpAnyH_take (i := 2) (v := ?vr0q2) rfl (by kernel_rfl) (by kernel_rfl) (by kernel_rfl) (fun _ _ _ h => h) (Or.inl ⟨by rfl, ?hyr0q2⟩) (by assumption) ?_
                  case hyr0q2 => (intro w hSw; (try dsimp only at hSw); go_simp; try with_reducible rfl)
                  try simp only [Act.put]
                  refine wpAnyH_take (i := 3) (v := ?vr0q3) rfl (by kernel_rfl) (by kernel_rfl) (by kernel_rfl) (fun _ _ _ h => h) (Or.inl ⟨by rfl, ?hyr0q3⟩) (by assumption) ?_
                  case hyr0q3 => (intro w hSw; (try dsimp only at hSw); go_simp; try with_reducible rfl)
                  try simp only [Act.put]
                  refine wpAnyH_take (i := 4) (v := ?vr0q4) rfl (by kernel_rfl) (by kernel_rfl) (by kernel_rfl) (fun _ _ _ h => h) (Or.inl ⟨by rfl, ?hyr0q4⟩) (by assumption) ?_
                  case hyr0q4 => (intro w hSw; (try dsimp only at hSw); go_simp; try with_reducible rfl)
                  try simp only [Act.put]
                  refine wpAnyH_take (i := 5) (v := ?vr0q5) rfl (by kernel_rfl) (by kernel_rfl) (by kernel_rfl) (fun _ _ _ h => h) (Or.inl ⟨by rfl, ?hyr0q5⟩) (by assumption) ?_
                  case hyr0q5 => (intro w hSw; (try dsimp only at hSw); go_simp; try with_reducible rfl)
                  try simp only [Act.put]
                  refine wpAnyH_take (i := 6) (v := ?vr0q6) rfl (by kernel_rfl) (by kernel_rfl) (by kernel_rfl) (fun _ _ _ h => h) (Or.inl ⟨by rfl, ?hyr0q6⟩) (by assumption) ?_
                  case hyr0q6 => (intro w hSw; (try dsimp only at hSw); go_simp; try with_reducible rfl)
                  try simp only [Act.put]
                  refine wpAnyH_take (i := 7) (v := ?vr0q7) rfl (by kernel_rfl) (by kernel_rfl) (by kernel_rfl) (fun _ _ _ h => h) (Or.inl ⟨by rfl, ?hyr0q7⟩) (by assumption) ?_
                  case hyr0q7 => (intro w hSw; (try dsimp only at hSw); go_simp; try with_reducible rfl)
                  try simp only [Act.put]
                  refine wpAnyH_take (i := 8) (v := ?vr0q8) rfl (by kernel_rfl) (by kernel_rfl) (by kernel_rfl) (fun _ _ _ h => h) (Or.inl ⟨by rfl, ?hyr0q8⟩) (by assumption) ?_
                  case hyr0q8 => (intro w hSw; (try dsimp only at hSw); go_simp; try with_reducible rfl)
                  try simp only [Act.put]
                  refine wpAnyH_take (i := 9) (v := ?vr0q9) rfl (by kernel_rfl) (by kernel_rfl) (by kernel_rfl) (fun _ _ _ h => h) (Or.inl ⟨by rfl, ?hyr0q9⟩) (by assumption) ?_
                  case hyr0q9 => (intro w hSw; (try dsimp only at hSw); go_simp; try with_reducible rfl)
                  try simp only [Act.put]
                  refine wpAnyH_take (i := 10) (v := ?vr0q10) rfl (by kernel_rfl) (by kernel_rfl) (by kernel_rfl) (fun _ _ _ h => h) (Or.inl ⟨by rfl, ?hyr0q10⟩) (by assumption) ?_
                  case hyr0q10 => (intro w hSw; (try dsimp only at hSw); go_simp; try with_reducible rfl)
                  try simp only [Act.put]
                  refine wpAnyH_take (i := 11) (v := ?vr0q11) rfl (by kernel_rfl) (by kernel_rfl) (by kernel_rfl) (fun _ _ _ h => h) (Or.inl ⟨by rfl, ?hyr0q11⟩) (by assumption) ?_
                  case hyr0q11 => (intro w hSw; (try dsimp only at hSw); go_simp; try with_reducible rfl)
                  try simp only [Act.put]
                  refine wpAnyH_take (i := 12) (v := ?vr0q12) rfl (by kernel_rfl) (by kernel_rfl) (by kernel_rfl) (fun _ _ _ h => h) (Or.inl ⟨by rfl, ?hyr0q12⟩) (by assumption) ?_
                  case hyr0q12 => (intro w hSw; (try dsimp only at hSw); go_simp; try with_reducible rfl)
                  try simp only [Act.put]
                  refine wpAnyH_take (i := 13) (v := ?vr0q13) rfl (by kernel_rfl) (by kernel_rfl) (by kernel_rfl) (fun _ _ _ h => h) (Or.inl ⟨by rfl, ?hyr0q13⟩) (by assumption) ?_
                  case hyr0q13 => (intro w hSw; (try dsimp only at hSw); go_simp; try with_reducible rfl)
                  try simp only [Act.put]
                  refine wpAnyH_take (i := 14) (v := ?vr0q14) rfl (by kernel_rfl) (by kernel_rfl) (by kernel_rfl) (fun _ _ _ h => h) (Or.inl ⟨by rfl, ?hyr0q14⟩) (by assumption) ?_
                  case hyr0q14 => (intro w hSw; (try dsimp only at hSw); go_simp; try with_reducible rfl)
                  try simp only [Act.put]
                  refine wpAnyH_take (i := 15) (v := ?vr0q15) rfl (by kernel_rfl) (by kernel_rfl) (by kernel_rfl) (fun _ _ _ h => h) (Or.inl ⟨by rfl, ?hyr0q15⟩) (by assumption) ?_
                  case hyr0q15 => (intro w hSw; (try dsimp only at hSw); go_simp; try with_reducible rfl)
                  try simp only [Act.put]
                  refine wpAnyH_take (i := 16) (v := ?vr0q16) rfl (by kernel_rfl) (by kernel_rfl) (by kernel_rfl) (fun _ _ _ h => h) (Or.inl ⟨by rfl, ?hyr0q16⟩) (by assumption) ?_
                  case hyr0q16 => (intro w hSw; (try dsimp only at hSw); go_simp; try with_reducible rfl)
                  try simp only [Act.put]
                  refine wpAnyH_take (i := 17) (v := ?vr0q17) rfl (by kernel_rfl) (by kernel_rfl) (by kernel_rfl) (fun _ _ _ h => h) (Or.inl ⟨by rfl, ?hyr0q17⟩) (by assumption) ?_
                  case hyr0q17 => (intro w hSw; (try dsimp only at hSw); go_simp; try with_reducible rfl)
                  try simp only [Act.put]
                  refine wpAnyH_take (i := 18) (v := ?vr0q18) rfl (by kernel_rfl) (by kernel_rfl) (by kernel_rfl) (fun _ _ _ h => h) (Or.inl ⟨by rfl, ?hyr0q18⟩) (by assumption) ?_
                  case hyr0q18 => (intro w hSw; (try dsimp only at hSw); go_simp; try with_reducible rfl)
                  try simp only [Act.put]
                  refine wpAnyH_take (i := 19) (v := ?vr0q19) rfl (by kernel_rfl) (by kernel_rfl) (by kernel_rfl) (fun _ _ _ h => h) (Or.inl ⟨by rfl, ?hyr0q19⟩) (by assumption) ?_
                  case hyr0q19 => (intro w hSw; (try dsimp only at hSw); go_simp; try with_reducible rfl)
                  try simp only [Act.put]
                  refine wpAnyH_take (i := 20) (v := ?vr0q20) rfl (by kernel_rfl) (by kernel_rfl) (by kernel_rfl) (fun _ _ _ h => h) (Or.inl ⟨by rfl, ?hyr0q20⟩) (by assumption) ?_
                  case hyr0q20 => (intro w hSw; (try dsimp only at hSw); go_simp; try with_reducible rfl)
                  try simp only [Act.put]
                  refine wpAnyH_take (i := 21) (v := ?vr0q21) rfl (by kernel_rfl) (by kernel_rfl) (by kernel_rfl) (fun _ _ _ h => h) (Or.inl ⟨by rfl, ?hyr0q21⟩) (by assumption) ?_
                  case hyr0q21 => (intro w hSw; (try dsimp only at hSw); go_simp; try with_reducible rfl)
                  try simp only [Act.put]
                  refine wpAnyH_take (i := 22) (v := ?vr0q22) rfl (by kernel_rfl) (by kernel_rfl) (by kernel_rfl) (fun _ _ _ h => h) (Or.inl ⟨by rfl, ?hyr0q22⟩) (by assumption) ?_
                  case hyr0q22 => (intro w hSw; (try dsimp only at hSw); go_simp; try with_reducible rfl)
                  try simp only [Act.put]
                  refine wpAnyH_take (i := 23) (v := ?vr0q23) rfl (by kernel_rfl) (by kernel_rfl) (by kernel_rfl) (fun _ _ _ h => h) (Or.inl ⟨by rfl, ?hyr0q23⟩) (by assumption) ?_
                  case hyr0q23 => (intro w hSw; (try dsimp only at hSw); go_simp; try with_reducible rfl)
                  try simp only [Act.put]
                  refine wpAnyH_take (i := 24) (v := ?vr0q24) rfl (by kernel_rfl) (by kernel_rfl) (by kernel_rfl) (fun _ _ _ h => h) (Or.inl ⟨by rfl, ?hyr0q24⟩) (by assumption) ?_
                  case hyr0q24 => (intro w hSw; (try dsimp only at hSw); go_simp; try with_reducible rfl)
                  try simp only [Act.put]
                  refine wpAnyH_take (i := 25) (v := ?vr0q25) rfl (by kernel_rfl) (by kernel_rfl) (by kernel_rfl) (fun _ _ _ h => h) (Or.inl ⟨by rfl, ?hyr0q25⟩) (by assumption) ?_
                  case hyr0q25 => (intro w hSw; (try dsimp only at hSw); go_simp; try with_reducible rfl)
                  try simp only [Act.put]
                  refine wpAnyH_take (i := 26) (v := ?vr0q26) rfl (by kernel_rfl) (by kernel_rfl) (by kernel_rfl) (fun _ _ _ h => h) (Or.inl ⟨by rfl, ?hyr0q26⟩) (by assumption) ?_
                  case hyr0q26 => (intro w hSw; (try dsimp only at hSw); go_simp; try with_reducible rfl)
                  try simp only [Act.put]
                  refine wpAnyH_take (i := 27) (v := ?vr0q27) rfl (by kernel_rfl) (by kernel_rfl) (by kernel_rfl) (fun _ _ _ h => h) (Or.inl ⟨by rfl, ?hyr0q27⟩) (by assumption) ?_
                  case hyr0q27 => (intro w hSw; (try dsimp only at hSw); go_simp; try with_reducible rfl)
                  try simp only [Act.put]
                  refine wpAnyH_take (i := 28) (v := ?vr0q28) rfl (by kernel_rfl) (by kernel_rfl) (by kernel_rfl) (fun _ _ _ h => h) (Or.inl ⟨by rfl, ?hyr0q28⟩) (by assumption) ?_
                  case hyr0q28 => (intro w hSw; (try dsimp only at hSw); go_simp; try with_reducible rfl)
                  try simp only [Act.put]
                  refine wpAnyH_take (i := 29) (v := ?vr0q29) rfl (by kernel_rfl) (by kernel_rfl) (by kernel_rfl) (fun _ _ _ h => h) (Or.inl ⟨by rfl, ?hyr0q29⟩) (by assumption) ?_
                  case hyr0q29 => (intro w hSw; (try dsimp only at hSw); go_simp; try with_reducible rfl)
                  try simp only [Act.put]
                  refine wpAnyH_take (i := 30) (v := ?vr0q30) rfl (by kernel_rfl) (by kernel_rfl) (by kernel_rfl) (fun _ _ _ h => h) (Or.inl ⟨by rfl, ?hyr0q30⟩) (by assumption) ?_
                  case hyr0q30 => (intro w hSw; (try dsimp only at hSw); go_simp; try with_reducible rfl)
                  try simp only [Act.put]
                  refine wpAnyH_take (i := 31) (v := ?vr0q31) rfl (by kernel_rfl) (by kernel_rfl) (by kernel_rfl) (fun _ _ _ h => h) (Or.inl ⟨by rfl, ?hyr0q31⟩) (by assumption) ?_
                  case hyr0q31 => (intro w hSw; (try dsimp only at hSw); go_simp; try with_reducible rfl)
                  try simp only [Act.put]
                  refine wpAnyH_take (i := 32) (v := ?vr0q32) rfl (by kernel_rfl) (by kernel_rfl) (by kernel_rfl) (fun _ _ _ h => h) (Or.inl ⟨by rfl, ?hyr0q32⟩) (by assumption) ?_
                  case hyr0q32 => (intro w hSw; (try dsimp only at hSw); go_simp; try with_reducible rfl)
                  try simp only [Act.put]
                  refine wpAnyH_take (i := 33) (v := ?vr0q33) rfl (by kernel_rfl) (by kernel_rfl) (by kernel_rfl) (fun _ _ _ h => h) (Or.inl ⟨by rfl, ?hyr0q33⟩) (by assumption) ?_
                  case hyr0q33 => (intro w hSw; (try dsimp only at hSw); go_simp; try with_reducible rfl)
                  try simp only [Act.put]
                  refine boxes_run (k := 2) (al := fun i => 34 + i) (st := fun i => 36 + i) (ty := fun _ => 24) (d := fun i => 9 + i) (x := (fun bi : Nat => if bi = 0 then Operand.tmp 122 else Operand.tmp 139)) (V := fun bi => Value.agg ((fun bi : Nat => if bi = 0 then ptc xa ya else ptc xb yb) bi)) (zc := fun _ => ptz) (vc := (fun bi : Nat => if bi = 0 then ptc xa ya else ptc xb yb)) ⟨by kernel_rfl, fun i hi => ?har0, fun i hi => ?hbr0, by kernel_rfl, fun i hi => ?hur0, fun i j hi hj hij => ⟨fun e => hij (Nat.add_left_cancel e), fun e => hij (Nat.add_left_cancel e), fun e => hij (Nat.add_left_cancel e)⟩, fun i j hi hj => (by show 34 + i ≠ 36 + j; omega), fun i hi => ?hdr0, fun i hi a' h => ?hvr0, fun i hi w => alloc_pt w, fun i hi w g h => ?hsr0⟩ (Nat.le_of_ble_eq_true (by kernel_rfl)) rfl ?hSr0 ?her0
                  case har0 =>
                    match i, hi with
                    | 0, _ => exact ⟨_, rfl, rfl, rfl⟩
                    | 1, _ => exact ⟨_, rfl, rfl, rfl⟩
                  case hbr0 =>
                    match i, hi with
                    | 0, _ => exact ⟨_, rfl, rfl, rfl, by kernel_rfl⟩
                    | 1, _ => exact ⟨_, rfl, rfl, rfl, by kernel_rfl⟩
                  case hur0 =>
                    match i, hi with
                    | 0, _ => exact ⟨rfl, rfl⟩
                    | 1, _ => exact ⟨rfl, rfl⟩
                  case hdr0 =>
                    match i, hi with
                    | 0, _ => simp
                    | 1, _ => simp
                  case hvr0 =>
                    match i, hi with
                    | 0, _ => (show a'.tmps.getD 122 undef = _; rw [Array.getD_eq_getD_getElem?, h 122 (fun j hj => (by show 122 ≠ 9 + j; omega))]; simp [ptc])
                    | 1, _ => (show a'.tmps.getD 139 undef = _; rw [Array.getD_eq_getD_getElem?, h 139 (fun j hj => (by show 139 ≠ 9 + j; omega))]; simp [ptc])
                  case hsr0 =>
                    match i, hi with
                    | 0, _ => exact store_pt w g _ _ h
                    | 1, _ => exact store_pt w g _ _ h
                  case hSr0 => exact fun w' hb => ⟨(hb.cell (p := ⟨b, 0, none⟩) bz0).trans z0, (hb.cell (p := ⟨b, 1, none⟩) bz0).trans z1, (hb.cell (p := ⟨g6, 0, none⟩) bs0).trans s0, (hb.cell (p := ⟨g6, 1, none⟩) bs0).trans s1, (hb.cell (p := ⟨g8, 0, none⟩) bn0).trans n0, (hb.cell (p := ⟨g8, 1, none⟩) bn0).trans n1, (hb.cell (p := ⟨bx, ox + s.x, none⟩) bxs).trans xs, (hb.cell (p := ⟨bx, ox + tx, none⟩) bxs).trans xt, (hb.cell (p := ⟨bY, oy + s.y, none⟩) bys).trans ys, (hb.cell (p := ⟨bY, oy + ty, none⟩) bys).trans yt⟩
                  intro g w' hblk hne hbel
                  have h0 : Blk w' (g 0) 24 (ptc xa ya) := (hblk 0 (by omega)).2
                  have h1 : Blk w' (g 1) 24 (ptc xb yb) := (hblk 1 (by omega)).2
                  have hbel' : Below wr2.heap.size wr2 w' := ⟨hbel.os, hbel.tape, hbel.output, hbel.size, hbel.block⟩
                  simp only [boxed, Act.put, List.setIfInBounds_toArray, Nat.reduceAdd]
                  go_wp2_with fail
                  go_meet
                  exact ⟨g 0, g 1, rfl, rfl, h0, h1, hbel'⟩
                case rest =>
                  obtain ⟨g1, g2, rfl, rfl, hg1, hg2, hB⟩ := hcut
                  obtain ⟨w5, rfl⟩ : ∃ wx : World, wx = wc := ⟨_, rfl⟩
                  have HW5 := hide (HWr.out.below hB)
                  have HB5 := hide (HBr.out.trans (hB.mono HBr.out.size))
                  have HN5 := hide (HN9.out.below hB bn0)
                  have y2 : w5.cell? ⟨b, 2, none⟩ = some (.slice lA nl lc) := HW5.out.g.grid.cell 2
                  clear hB HWr HBr HN9 xs xt ys yt n0 n1 z0 z1 z2 s0 s1 bn0 bz0 bs0 bxs bys i1 i2 i3 i4 i5 i6 i7 i8
                  have bq2 := World.block_lt_of_cell? _ _ y2
                  have bg1 := hg1.lt
                  have bg2 := hg2.lt
                  have hbl := hide (fun m => blocked_ok (w := w5.drewN m) (A := lA) (n := nl) (c := lc) (fs := fs) (RdF.drewN HW5.out.r.l m) hnl (xa, ya) (xb, yb))
                  have HD : Hid (dist (xa, ya) (xb, yb) = mxI (xb - xa) (xa - xb) + mxI (yb - ya) (ya - yb)) := hide rfl
                  generalize hitsB fs nl (xa, ya) (xb, yb) = ht at *
                  have a0 : w5.cell? ⟨g1, 0, none⟩ = some (.int .i64 xa) := hg1.cell 0
                  have a1 : w5.cell? ⟨g1, 1, none⟩ = some (.int .i64 ya) := hg1.cell 1
                  have c0 : w5.cell? ⟨g2, 0, none⟩ = some (.int .i64 xb) := hg2.cell 0
                  have c1 : w5.cell? ⟨g2, 1, none⟩ = some (.int .i64 yb) := hg2.cell 1
                  unfold ptV at hbl
                  have Hg1 := hide hg1
                  have Hg2 := hide hg2
                  clear hg1 hg2
                  go_upto_region 16 with fail
                  go_cut [146] (fun v wc => v = .bool ht ∧ Below w5.heap.size w5 wc)
                  case first => as_aux_lemma =>
                    clear HX HY HNN Hs Hbx HP
                    go_region_held3 (fun w' => w'.cell? ⟨b, 2, none⟩ = some (.slice lA nl lc) ∧ w'.cell? ⟨g1, 0, none⟩ = some (.int .i64 xa) ∧ w'.cell? ⟨g1, 1, none⟩ = some (.int .i64 ya) ∧ w'.cell? ⟨g2, 0, none⟩ = some (.int .i64 xb) ∧ w'.cell? ⟨g2, 1, none⟩ = some (.int .i64 yb))
                      (first | go_keep | (go_split_ands; refine ⟨?_, ?_, ?_, ?_, ?_⟩ <;> first | (rw [hb9.cell bq2]; assumption) | (rw [hb9.cell bg1]; assumption) | (rw [hb9.cell bg2]; assumption)))
                      ((go_at_call 33; refine (hbl.out 1).mono ?_; rintro e9 w9 ⟨rfl, hb9⟩))
                    all_goals (go_wp2_with fail; go_meet; exact ⟨rfl, (below_drewN (Below.refl _ _) 1).trans (hb9.mono (Nat.le_refl _))⟩)
                  case rest =>
                    obtain ⟨rfl, hB⟩ := hcut
                    obtain ⟨w6, rfl⟩ : ∃ wx : World, wx = wc := ⟨_, rfl⟩
                    have HW6 := hide (HW5.out.below hB)
                    have HB6 := hide (HB5.out.trans (hB.mono HB5.out.size))
                    have HN6 := hide (HN5.out.below hB HN5.out.lt)
                    have hg1 := Hg1.out.below hB bg1
                    have hg2 := Hg2.out.below hB bg2
                    have a0 : w6.cell? ⟨g1, 0, none⟩ = some (.int .i64 xa) := hg1.cell 0
                    have a1 : w6.cell? ⟨g1, 1, none⟩ = some (.int .i64 ya) := hg1.cell 1
                    have c0 : w6.cell? ⟨g2, 0, none⟩ = some (.int .i64 xb) := hg2.cell 0
                    have c1 : w6.cell? ⟨g2, 1, none⟩ = some (.int .i64 yb) := hg2.cell 1
                    clear hB HW5 HB5 HN5 Hg1 Hg2 bq2 bg1 bg2 hbl y2
                    cases ht with
                    | true =>
                      have HP2 := hide (HP.out.skip (.inr (by rw [HE2.out, if_pos rfl])))
                      clear HP HE2 a0 a1 c0 c1 hg1 hg2 HN6 HB6
                      go_wp2_with fail
                      go_roundw
                      case rel => exact ⟨d + 1, qA', qn', qc', f', by go_num, by omega, HW6, HP2⟩
                      case measure => (simp [intOf]; omega)
                    | false =>
                      have HE3 : Hid (gE X Y nx ny nl fs s.x s.y d = some (tx, ty, dist (xa, ya) (xb, yb))) := hide (by rw [HE2.out, if_neg (by decide)])
                      clear HE2
                      have s2 : w6.cell? ⟨g6, 2, none⟩ = some (.int .i64 (s.d : Nat)) := HW6.out.s.cell 2
                      have s5 : w6.cell? ⟨g6, 5, none⟩ = some (.int .i64 s.back) := HW6.out.s.cell 5
                      go_upto_region 17 with fail
                      go_cut [155] (fun v wc => ∃ bb : Bool, v = .bool bb ∧ Hid (extra s d = if bb = true then 1 else 0) ∧ w6 = wc)
                      case first => as_aux_lemma =>
                        clear HX HY HNN Hs Hbx HP
                        by_cases hbk : s.back < 0
                        · have q1 : decide (s.back ≥ 0) = false := decide_eq_false (by omega)
                          have HX : Hid (extra s d = if false = true then 1 else 0) := hide (by unfold extra; rw [if_pos hbk]; rfl)
                          clear HW6 a0 a1 c0 c1 hg1 hg2 HN6 HB6
                          go_wp2_with fail
                          go_meet
                          exact ⟨false, rfl, HX, rfl⟩
                        · have q1 : decide (s.back ≥ 0) = true := decide_eq_true (by omega)
                          by_cases hds : d = s.d
                          · have q2 : ((d : Int) != (s.d : Int)) = false := by simp [hds]
                            have HX : Hid (extra s d = if false = true then 1 else 0) := hide (by unfold extra bend; rw [if_neg hbk, if_pos hds]; rfl)
                            clear HW6 a0 a1 c0 c1 hg1 hg2 HN6 HB6 hds
                            go_wp2_with fail
                            go_meet
                            exact ⟨false, rfl, HX, rfl⟩
                          · have q2 : ((d : Int) != (s.d : Int)) = true := by simp; omega
                            have HX : Hid (extra s d = if true = true then 1 else 0) := hide (by unfold extra bend; rw [if_neg hbk, if_neg hds]; rfl)
                            clear HW6 a0 a1 c0 c1 hg1 hg2 HN6 HB6 hds
                            go_wp2_with fail
                            go_meet
                            exact ⟨true, rfl, HX, rfl⟩
                      case rest =>
                        obtain ⟨bb, rfl, Hex, rfl⟩ := hcut
                        have hn81 := blk_ne_type HN6.out hg1 (by decide)
                        have hn82 := blk_ne_type HN6.out hg2 (by decide)
                        have Hg1 := hide hg1
                        have Hg2 := hide hg2
                        clear s2 s5 a0 a1 c0 c1 hg1 hg2
                        go_upto_if 155 with fail
                        go_cut [] (fun wc => Blk wc g8 61 #[.int .i64 tx, .int .i64 ty, .int .i64 d, .int .i64 (s.co.b + extra s d), .int .i64 s.co.l, .int .i64 k] ∧ Blk wc g1 24 (ptc xa ya) ∧ Blk wc g2 24 (ptc xb yb) ∧ Below wo.heap.size wo wc)
                        case first => as_aux_lemma =>
                          clear HX HY HNN Hs Hbx HP
                          have f3 := HN6.out.frozen 3
                          have n3 : w6.cell? ⟨g8, 3, none⟩ = some (.int .i64 s.co.b) := HN6.out.cell 3
                          cases bb with
                          | false =>
                            clear n3 f3
                            go_wp2_with fail
                            go_meet
                            exact ⟨by rw [Hex.out, if_neg (by decide), Int.add_zero]; exact HN6.out, Hg1.out, Hg2.out, HB6.out⟩
                          | true =>
                            clear HW6
                            go_wp2_with fail
                            go_meet
                            refine ⟨?_, Hg1.out.far (p := ⟨g8, 3, none⟩) (Ne.symm hn81) _, Hg2.out.far (p := ⟨g8, 3, none⟩) (Ne.symm hn82) _, HB6.out.setCell (by show wo.heap.size ≤ g8; rw [Hg8.out]; exact Nat.le_refl _) _⟩
                            have hx1 : extra s d = 1 := by have h := Hex.out; simpa using h
                            rw [hx1]
                            exact HN6.out.set_ 3 (.int .i64 (s.co.b + 1))
                        case rest =>
                          clear Hg1 Hg2 HB6 HN6 HW6
                          obtain ⟨hN7, hg1, hg2, hB7⟩ := hcut
                          obtain ⟨w7, rfl⟩ : ∃ wx : World, wx = wc := ⟨_, rfl⟩
                          obtain ⟨eb, Heb⟩ : ∃ z : Int, Hid (z = s.co.b + extra s d) := ⟨_, rfl⟩
                          rw [← Heb.out] at hN7
                          have a0 : w7.cell? ⟨g1, 0, none⟩ = some (.int .i64 xa) := hg1.cell 0
                          have a1 : w7.cell? ⟨g1, 1, none⟩ = some (.int .i64 ya) := hg1.cell 1
                          have c0 : w7.cell? ⟨g2, 0, none⟩ = some (.int .i64 xb) := hg2.cell 0
                          have c1 : w7.cell? ⟨g2, 1, none⟩ = some (.int .i64 yb) := hg2.cell 1
                          have n0 : w7.cell? ⟨g8, 0, none⟩ = some (.int .i64 tx) := hN7.cell 0
                          have n1 : w7.cell? ⟨g8, 1, none⟩ = some (.int .i64 ty) := hN7.cell 1
                          have n2 : w7.cell? ⟨g8, 2, none⟩ = some (.int .i64 d) := hN7.cell 2
                          have n3 : w7.cell? ⟨g8, 3, none⟩ = some (.int .i64 eb) := hN7.cell 3
                          have n4 : w7.cell? ⟨g8, 4, none⟩ = some (.int .i64 s.co.l) := hN7.cell 4
                          have n5 : w7.cell? ⟨g8, 5, none⟩ = some (.int .i64 k) := hN7.cell 5
                          have f4 := hN7.frozen 4
                          have hm1 := max2 (xb - xa) (xa - xb)
                          have hm2 := max2 (yb - ya) (ya - yb)
                          have bm1 : 0 ≤ mxI (xb - xa) (xa - xb) ∧ mxI (xb - xa) (xa - xb) ≤ 2000000 := by unfold mxI; split <;> omega
                          have bm2 : 0 ≤ mxI (yb - ya) (ya - yb) ∧ mxI (yb - ya) (ya - yb) ≤ 2000000 := by unfold mxI; split <;> omega
                          generalize mxI (xb - xa) (xa - xb) = m1 at *
                          generalize mxI (yb - ya) (ya - yb) = m2 at *
                          have Hb7 := hide hB7
                          have Hn7 := hide hN7
                          clear hB7 hg1 hg2 hN7
                          go_upto_region 20 with fail
                          have HN8 : Blk (w7.setCell ⟨g8, 4, none⟩ (.int .i64 (s.co.l + (m1 + m2)))) g8 61 #[.int .i64 tx, .int .i64 ty, .int .i64 d, .int .i64 eb, .int .i64 (s.co.l + (m1 + m2)), .int .i64 k] := Hn7.out.set_ 4 (.int .i64 (s.co.l + (m1 + m2)))
                          have HB8 := hide (Hb7.out.setCell (p := ⟨g8, 4, none⟩) (by show wo.heap.size ≤ g8; rw [Hg8.out]; exact Nat.le_refl _) (.int .i64 (s.co.l + (m1 + m2))))
                          clear Hn7 Hb7 n0 n1 n2 n3 n4 n5 a0 a1 c0 c1 f4
                          generalize w7.setCell ⟨g8, 4, none⟩ (.int .i64 (s.co.l + (m1 + m2))) = w8 at *
                          have HW8 := hide (HW.out.below HB8.out)
                          obtain ⟨lw, Hlw⟩ : ∃ z : Int, Hid (z = s.co.l + (m1 + m2)) := ⟨_, rfl⟩
                          have HPu := hide (gpush_ok HW8.out.g HNN.out hnx hny (show qn' ≤ 9999999 by have := HP.out.le; omega) ⟨tx, ty, d, ⟨eb, lw⟩, (k : Int)⟩ htxl htyl (show d < 4 by omega))
                          have HSt : Hid (stC ⟨tx, ty, d, ⟨eb, lw⟩, (k : Int)⟩ = #[.int .i64 (tx : Nat), .int .i64 (ty : Nat), .int .i64 (d : Nat), .int .i64 eb, .int .i64 lw, .int .i64 (k : Nat)]) := hide rfl
                          rw [HSt.out] at HPu
                          rw [← Hlw.out] at HN8
                          have n0 : w8.cell? ⟨g8, 0, none⟩ = some (.int .i64 tx) := HN8.cell 0
                          have n1 : w8.cell? ⟨g8, 1, none⟩ = some (.int .i64 ty) := HN8.cell 1
                          have n2 : w8.cell? ⟨g8, 2, none⟩ = some (.int .i64 d) := HN8.cell 2
                          have n3 : w8.cell? ⟨g8, 3, none⟩ = some (.int .i64 eb) := HN8.cell 3
                          have n4 : w8.cell? ⟨g8, 4, none⟩ = some (.int .i64 lw) := HN8.cell 4
                          have n5 : w8.cell? ⟨g8, 5, none⟩ = some (.int .i64 k) := HN8.cell 5
                          have HS : Hid (succS s k d tx ty (dist (xa, ya) (xb, yb)) = ⟨tx, ty, d, ⟨eb, lw⟩, (k : Int)⟩) := hide (by unfold succS Co.add; rw [Heb.out, Hlw.out, HD.out])
                          clear HW HN8 HB8
                          go_wp2_with fail
                          refine HPu.out.mono ?_
                          rintro e9 w9 ⟨rfl, qA2, qn2, qc2, f2, hg9, hle9, hm9, hc9, hs9⟩
                          have HW9 := hide (HW8.out.queued hg9 hc9 hs9)
                          have HP9 := hide (HP.out.push Hmay.out HE3.out hle9 (fun t => by rw [HS.out]; exact hm9 t))
                          clear HW8 HP HPu hg9 hle9 hm9 hc9 hs9 n0 n1 n2 n3 n4 n5
                          go_wp2_with fail
                          go_roundw
                          case rel => exact ⟨d + 1, qA2, qn2, qc2, f2, by go_num, by omega, HW9, HP9⟩
                          case measure => (simp [intOf]; omega)
    · obtain rfl : d = 4 := by omega
      have HP4 := hide HP.out
      go_wp2_with fail
      refine bodyPost_end (results_none rfl _ _ _) rfl ?_
      exact ⟨rfl, qA', qn', qc', f', HW.out.g, HP4.out, HW.out.c⟩
  end
  end Go.Proofs.Ytegmokdhfmgdgaa.Rt
