/- The contract of chancerykeep3.frames. -/
import Derived.Test.YtegmokdhfmgdgaaRtObst
namespace Go.Proofs.Ytegmokdhfmgdgaa.Rt
open Go.RowKit Go.Frm Go.Frm.Rt

/-- a valid rectangle -/
def mkF (f : Fr) : Fr := ⟨Wi.wi f.x0 (-900) 900, Wi.wi f.y0 (-900) 900, Wi.wi f.x0 (-900) 900 + Wi.wi f.x1 0 500, Wi.wi f.y0 (-900) 900 + Wi.wi f.y1 0 500⟩
theorem own_frames_congr {w : World} {base n c : Nat} {A : Option Addr} {P Q : Nat → Fr} (h : w.ownsRow base 34 4 (.slice A n c) n (rowF n 4 (frF P))) (e : ∀ i, i < n → P i = Q i) : w.ownsRow base 34 4 (.slice A n c) n (rowF n 4 (frF Q)) := by
  rw [rowF_congr (g := frF Q) (fun i j hi _ => by unfold frF; rw [e i hi])] at h
  exact h
set_option maxRecDepth 100000 in
set_option maxHeartbeats 40000000 in
theorem frames_ok {w : World} {A : Option Addr} {n c : Nat} {fs : Nat → Fr} (hr : RdF w A n 4 (frF fs)) (hn : n ≤ 9223372036854775807) (hf : ∀ i, i < n → (Lit.int .i64 (fs i).x0).wf = true ∧ (Lit.int .i64 (fs i).y0).wf = true ∧ (Lit.int .i64 (fs i).x1).wf = true ∧ (Lit.int .i64 (fs i).y1).wf = true) :
    Calls Try.prog 7 #[.slice A n c] w fun e w' => ∃ A' m c', e = .returned (.slice A' m c') ∧ m ≤ 8 ∧ m ≤ n ∧ w'.ownsRow w.heap.size 34 4 (.slice A' m c') m (rowF m 4 (frF fun i => mkF (fs i))) ∧ Below w.heap.size w w' ∧ (m = n ∨ m = 8) := by
  obtain ⟨M, hM⟩ : ∃ M, M = w.heap.size := ⟨_, rfl⟩
  have HM := hide hM
  rw [← hM]
  obtain ⟨if0, if1, if2, if3, if4⟩ := info_parts fr_info
  have HRb : Hid (∀ wx, Below M w wx → RdF wx A n 4 (frF fs)) := hide (fun wx h => hr.below (by rw [← hM]; exact h))
  have HF := hide hf
  have HO0 := hide (World.ownsRow_nil w M 34 4)
  have HB0 := hide (show Below M w w from Below.refl _ _)
  clear hr hM hf
  go_enter Try.func7, Try.ntmps7
  go_wp2_with fail
  go_loopw [4, 3, 5, 6] (fun a v _ _ wr => ∃ (k : Nat) (A2 : Option Addr) (c2 : Nat), a = .int .i64 k ∧ v = .slice A2 k c2 ∧ k ≤ n ∧ k ≤ 8 ∧ Hid (Below M w wr) ∧ Hid (wr.ownsRow M 34 4 (.slice A2 k c2) k (rowF k 4 (frF fun i => mkF (fs i))))) (fun a _ _ _ _ => 8 - (intOf a).toNat)
  case atStart => exact ⟨0, none, 0, rfl, rfl, Nat.zero_le _, by omega, HB0, HO0⟩
  case round =>
    clear HO0 HB0
    obtain ⟨wo, rfl⟩ : ∃ wx : World, wx = wr := ⟨_, rfl⟩
    obtain ⟨k, A2, c2, rfl, rfl, hk, hk8, HB, HO⟩ := hrel
    by_cases hlt : k < n
    · have k1 : decide ((k : Int) < (n : Int)) = true := decide_eq_true (by omega)
      by_cases h8 : k < 8
      · have k2 : decide ((k : Int) < 8) = true := decide_eq_true (by omega)
        obtain ⟨bf, of, rfl, hc⟩ := (HRb.out wo HB.out).at_ hlt
        have e0 := hc 0 (by omega)
        have e1 := hc 1 (by omega)
        have e2 := hc 2 (by omega)
        have e3 := hc 3 (by omega)
        have k3 : (k : Int) < (n : Int) := by omega
        have k4 : (0 : Int) ≤ (k : Int) := by omega
        have k5 : (k : Int) ≤ 8 := by omega
        change wo.cell? ⟨bf, of + k * 4 + 0, none⟩ = some (.int .i64 (fs k).x0) at e0
        change wo.cell? ⟨bf, of + k * 4 + 1, none⟩ = some (.int .i64 (fs k).y0) at e1
        change wo.cell? ⟨bf, of + k * 4 + 2, none⟩ = some (.int .i64 (fs k).x1) at e2
        change wo.cell? ⟨bf, of + k * 4 + 3, none⟩ = some (.int .i64 (fs k).y1) at e3
        rw [Nat.add_zero] at e0
        have hlow : bf < M := by
          obtain ⟨b9, o9, e9, h9⟩ := (HRb.out w (Below.refl _ _)).at_ hlt
          injection e9 with e9
          injection e9 with e9 _
          subst e9
          have := World.block_lt_of_cell? _ _ (h9 0 (by omega))
          rw [HM.out]
          exact this
        obtain ⟨w1, w2, w3, w4⟩ := HF.out k hlt
        have c1 := hide (fun wx => Wi.within_any (fs k).x0 (-900) 900 wx w1 (by decide) (by decide) (by decide))
        have c2' := hide (fun wx => Wi.within_any (fs k).y0 (-900) 900 wx w2 (by decide) (by decide) (by decide))
        have c3 := hide (fun wx => Wi.within_any (fs k).x1 0 500 wx w3 (by decide) (by decide) (by decide))
        have c4 := hide (fun wx => Wi.within_any (fs k).y1 0 500 wx w4 (by decide) (by decide) (by decide))
        have d1 := Wi.wi_bd (fs k).x0 (low := -900) (high := 900) (by decide)
        have d2 := Wi.wi_bd (fs k).y0 (low := -900) (high := 900) (by decide)
        have d3 := Wi.wi_bd (fs k).x1 (low := 0) (high := 500) (by decide)
        have d4 := Wi.wi_bd (fs k).y1 (low := 0) (high := 500) (by decide)
        have HMk : Hid (mkF (fs k) = ⟨Wi.wi (fs k).x0 (-900) 900, Wi.wi (fs k).y0 (-900) 900, Wi.wi (fs k).x0 (-900) 900 + Wi.wi (fs k).x1 0 500, Wi.wi (fs k).y0 (-900) 900 + Wi.wi (fs k).y1 0 500⟩) := hide rfl
        generalize Wi.wi (fs k).x0 (-900) 900 = x at *
        generalize Wi.wi (fs k).y0 (-900) 900 = y at *
        generalize Wi.wi (fs k).x1 0 500 = p at *
        generalize Wi.wi (fs k).y1 0 500 = q at *
        generalize (fs k).x0 = X0 at *
        generalize (fs k).y0 = Y0 at *
        generalize (fs k).x1 = X1 at *
        generalize (fs k).y1 = Y1 at *
        have v1 : IntKind.i64.wrap (x + p) = x + p := IntWalk.i64_in _ (by omega)
        have v2 : IntKind.i64.wrap (y + q) = y + q := IntWalk.i64_in _ (by omega)
        have nlow := own_not_low HO.out hlow
        have hMo : M ≤ wo.heap.size := Nat.le_trans (Nat.le_of_eq HM.out) HB.out.size
        clear hc w1 w2 w3 w4
        go_upto_region 5 with fail
        go_quiet ((go_at_call 9; first | with_reducible exact Calls.quiet_of_same ((c1.out _).mono fun e w' h => ⟨h.1, h.2.symm⟩) | with_reducible exact Calls.quiet_of_same ((c2'.out _).mono fun e w' h => ⟨h.1, h.2.symm⟩)))
        go_upto_region 6 with fail
        have f2 : (wo.drewN nq).cell? ⟨bf, of + k * 4 + 2, none⟩ = some (.int .i64 X1) := e2
        have f3 : (wo.drewN nq).cell? ⟨bf, of + k * 4 + 3, none⟩ = some (.int .i64 Y1) := e3
        have HB1 := hide (below_drewN HB.out nq)
        have HO1 := hide (own_drewN HO.out nq)
        have hM1 : M ≤ (wo.drewN nq).heap.size := hMo
        clear e0 e1 e2 e3 HB HO hMo
        generalize wo.drewN nq = w5 at *
        have bl5 := World.block_lt_of_cell? _ _ f2
        go_region_held3 (fun w' => w'.cell? ⟨bf, of + k * 4 + 2, none⟩ = some (.int .i64 X1) ∧ w'.cell? ⟨bf, of + k * 4 + 3, none⟩ = some (.int .i64 Y1))
          (first | go_keep | (go_split_ands; refine ⟨?_, ?_⟩ <;> (rw [hgrow.cell_far _ (by simp; omega) nlow]; assumption)))
          (first
            | (go_at_call 9; with_reducible refine (c3.out _).mono ?_; rintro e9 w9 ⟨rfl, rfl⟩)
            | (go_at_call 9; with_reducible refine (c4.out _).mono ?_; rintro e9 w9 ⟨rfl, rfl⟩)
            | (refine step_append_lies _ (by rfl) _ _ _ (by rfl) M 34 if0 _ 4 32 Try.underlying22 if1 if2 if3 if4 rfl (by omega) (.slice A2 k c2) k (rowF k 4 (frF fun i => mkF (fs i))) (by rfl) (World.ownsRow.alloc (own_drewN HO1.out 1) _) ⟨w5.heap.size, 0, none⟩ 1 1 [.int .i64 x, .int .i64 y, .int .i64 (x + p), .int .i64 (y + q)] (by rfl) (by rfl) (World.news_of_block (cs := #[.int .i64 x, .int .i64 y, .int .i64 (x + p), .int .i64 (y + q)]) (t := 34) (fr := (0, 0)) (by exact heap_alloc_new w5.drew _)) (by simp [Value.oneCell']) (by omega) (by simp only [maxLen]; omega) (by omega) (by simp; omega) (w5.heap.size + 1) (by simp) ?_; intro gA cap w6 hown6 hgrow hat hlt))
        all_goals (
          have HO6 : Hid (w6.ownsRow M 34 4 (.slice (some ⟨gA, 0, none⟩) (k + 1) cap) (k + 1) (rowF (k + 1) 4 (frF fun i => mkF (fs i)))) := hide (own_frames_congr (P := upd (fun i => mkF (fs i)) k ⟨x, y, x + p, y + q⟩) (by rw [frF_push]; exact hown6) (fun i hi => by
            by_cases e : i = k
            · subst e
              rw [upd_same]
              exact HMk.out.symm
            · rw [upd_other _ _ e]))
          have HB6 := hide (below_app ((below_drewN HB1.out 1).alloc (by simp; omega) _) (by simp; omega) (World.ownsRow.alloc (own_drewN HO1.out 1) _) hgrow)
          clear hown6 hgrow hat hlt HO1 HB1 f2 f3
          go_wp2_with fail
          go_roundw
          case rel => exact ⟨k + 1, some ⟨gA, 0, none⟩, cap, by go_num, rfl, by omega, by omega, HB6, HO6⟩
          case measure => (simp [intOf]; omega))
      · obtain rfl : k = 8 := by omega
        have k2 : decide (((8 : Nat) : Int) < 8) = false := decide_eq_false (by omega)
        go_wp2_with fail
        go_ret
        exact ⟨A2, 8, c2, rfl, by omega, hk, HO.out, HB.out, .inr rfl⟩
    · obtain rfl : k = n := by omega
      have k1 : decide ((k : Int) < (k : Int)) = false := decide_eq_false (by omega)
      go_wp2_with fail
      go_ret
      exact ⟨A2, k, c2, rfl, hk8, hk, HO.out, HB.out, .inl rfl⟩
end Go.Proofs.Ytegmokdhfmgdgaa.Rt
