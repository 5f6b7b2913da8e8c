/- The contract of Check, at valid arguments. -/
import Derived.Test.YtegmokdhfmgdgaaRtObst
namespace Go.Proofs.Ytegmokdhfmgdgaa.Rt
open Go.RowKit Go.Frm Go.Frm.Rt

def okR (z : Int) : Prop := -100000 ≤ z ∧ z ≤ 100000
theorem inRange_yes {z : Int} (h : okR z) (w : World) : Calls Try.prog 18 #[.int .i64 z] w fun e w' => e = .returned (.bool true) ∧ w' = w := by
  refine (inRange_ok z w).mono ?_
  rintro e w' ⟨rfl, rfl⟩
  refine ⟨ret_bool ?_, rfl⟩
  rw [decide_eq_true h.1, decide_eq_true h.2]
  rfl
def okF (f : Fr) : Prop := okR f.x0 ∧ okR f.y0 ∧ okR f.x1 ∧ okR f.y1 ∧ f.x0 ≤ f.x1 ∧ f.y0 ≤ f.y1
set_option maxRecDepth 100000 in
set_option maxHeartbeats 40000000 in
theorem check_ok {w : World} {A : Option Addr} {n c : Nat} {fs : Nat → Fr} (hr : RdF w A n 4 (frF fs)) (hn : n ≤ 60) (hf : ∀ i, i < n → okF (fs i)) (p q : Pt) (hp : okR p.1 ∧ okR p.2) (hq : okR q.1 ∧ okR q.2) (first last : Int) (h1 : -1 ≤ first ∧ first ≤ 3) (h2 : -1 ≤ last ∧ last ≤ 3) :
    Calls Try.prog 15 #[.slice A n c, ptV p, ptV q, .int .i64 first, .int .i64 last] w fun e w' => e = .returned (.int .i64 0) ∧ Below w.heap.size w w' := by
  obtain ⟨px, py⟩ := p
  obtain ⟨qx, qy⟩ := q
  obtain ⟨M, hM⟩ : ∃ M, M = w.heap.size := ⟨_, rfl⟩
  have HM := hide hM
  rw [← hM]
  have HRb : Hid (∀ wx, Below M w wx → RdF wx A n 4 (frF fs)) := hide (fun wx h => hr.below (by rw [← hM]; exact h))
  have hP := (Blk.new w 24 #[.int .i64 px, .int .i64 py]).alloc (.cells #[.int .i64 qx, .int .i64 qy] 24)
  have hQ := Blk.new (w.alloc (.cells #[.int .i64 px, .int .i64 py] 24)) 24 #[.int .i64 qx, .int .i64 qy]
  rw [hsz_alloc] at hQ
  have hB := ((Below.refl w.heap.size w).alloc (Nat.le_refl _) (.cells #[.int .i64 px, .int .i64 py] 24)).alloc (by simp) (.cells #[.int .i64 qx, .int .i64 qy] 24)
  have hsz : ((w.alloc (.cells #[.int .i64 px, .int .i64 py] 24)).alloc (.cells #[.int .i64 qx, .int .i64 qy] 24)).heap.size = w.heap.size + 2 := by simp
  have HP := hide hP
  have HQ := hide hQ
  have HB := hide hB
  have HFB := hide hf
  have v1 := hide (fun wx => inRange_yes hp.1 wx)
  have v2 := hide (fun wx => inRange_yes hp.2 wx)
  have v3 := hide (fun wx => inRange_yes hq.1 wx)
  have v4 := hide (fun wx => inRange_yes hq.2 wx)
  have hn1 : decide ((n : Int) > 60) = false := decide_eq_false (by omega)
  have hn2 : ¬ (60 : Int) < (n : Int) := by omega
  have t1 : decide (first < -1) = false := decide_eq_false (by omega)
  have t2 : decide (first > 3) = false := decide_eq_false (by omega)
  have t3 : decide (last < -1) = false := decide_eq_false (by omega)
  have t4 : decide (last > 3) = false := decide_eq_false (by omega)
  clear hr hM hP hQ hB hf hp hq
  unfold ptV
  dsimp only at v1 v2 v3 v4 ⊢
  go_enter Try.func15, Try.ntmps15
  go_wp2_with fail
  rw [← HM.out] at HP HQ HB hsz
  rw [← HM.out]
  generalize (w.alloc (.cells #[.int .i64 px, .int .i64 py] 24)).alloc (.cells #[.int .i64 qx, .int .i64 qy] 24) = w1 at *
  go_loopw [18, 12] (fun a _ wr => ∃ k : Nat, a = .int .i64 k ∧ k ≤ n ∧
    Hid (Blk wr M 24 #[.int .i64 px, .int .i64 py]) ∧ Hid (Blk wr (M + 1) 24 #[.int .i64 qx, .int .i64 qy]) ∧ Hid (Below M w wr) ∧ M + 2 ≤ wr.heap.size) (fun a _ _ => n - (intOf a).toNat)
  case atStart => exact ⟨0, rfl, Nat.zero_le _, HP, HQ, HB, by omega⟩
  case round =>
    clear HP HQ HB hsz
    obtain ⟨wo, rfl⟩ : ∃ wx : World, wx = wr := ⟨_, rfl⟩
    obtain ⟨k, rfl, hk, HP, HQ, HB, hsz⟩ := hrel
    by_cases hlt : k < n
    · obtain ⟨bf, of, rfl, hc⟩ := (HRb.out wo HB.out).at_ hlt
      have e0 := hc 0 (by omega)
      have e1 := hc 1 (by omega)
      have e2 := hc 2 (by omega)
      have e3 := hc 3 (by omega)
      have k1 : decide ((k : Int) < (n : Int)) = true := decide_eq_true (by omega)
      have k2 : (k : Int) < (n : Int) := by omega
      have k3 : (0 : Int) ≤ (k : Int) := by omega
      have k4 : (k : Int) ≤ 1000 := by omega
      change wo.cell? ⟨bf, of + k * 4 + 0, none⟩ = some (.int .i64 (fs k).x0) at e0
      change wo.cell? ⟨bf, of + k * 4 + 1, none⟩ = some (.int .i64 (fs k).y0) at e1
      change wo.cell? ⟨bf, of + k * 4 + 2, none⟩ = some (.int .i64 (fs k).x1) at e2
      change wo.cell? ⟨bf, of + k * 4 + 3, none⟩ = some (.int .i64 (fs k).y1) at e3
      rw [Nat.add_zero] at e0
      have hfb := HFB.out k hlt
      obtain ⟨f, Hf⟩ : ∃ f, Hid (f = fs k) := ⟨_, rfl⟩
      rw [← Hf.out] at e0 e1 e2 e3 hfb
      obtain ⟨x0, y0, x1, y1⟩ := f
      obtain ⟨f1, f2, f3, f4, f5, f6⟩ := hfb
      dsimp only at e0 e1 e2 e3 f1 f2 f3 f4 f5 f6
      have u1 := hide (fun wx => inRange_yes f1 wx)
      have u2 := hide (fun wx => inRange_yes f2 wx)
      have u3 := hide (fun wx => inRange_yes f3 wx)
      have u4 := hide (fun wx => inRange_yes f4 wx)
      have g1 : decide (x0 > x1) = false := decide_eq_false (by omega)
      have g2 : decide (y0 > y1) = false := decide_eq_false (by omega)
      have HB2 := hide (HB.out.alloc (by omega) (.cells #[.int .i64 x0, .int .i64 y0, .int .i64 x1, .int .i64 y1] 34))
      have HP2 := hide (HP.out.alloc (.cells #[.int .i64 x0, .int .i64 y0, .int .i64 x1, .int .i64 y1] 34))
      have HQ2 := hide (HQ.out.alloc (.cells #[.int .i64 x0, .int .i64 y0, .int .i64 x1, .int .i64 y1] 34))
      have HF2 := hide (Blk.new wo 34 #[.int .i64 x0, .int .i64 y0, .int .i64 x1, .int .i64 y1])
      have hsz2 : M + 2 ≤ (wo.alloc (.cells #[.int .i64 x0, .int .i64 y0, .int .i64 x1, .int .i64 y1] 34)).heap.size := by simp; omega
      clear hc hlt HFB f1 f2 f3 f4 v1 v2 v3 v4
      go_upto_region 6 with fail
      obtain ⟨gf, Hgf⟩ : ∃ g, Hid (g = wo.heap.size) := ⟨_, rfl⟩
      rw [← Hgf.out] at HF2
      rw [← Hgf.out]
      clear HP HQ HB e0 e1 e2 e3
      generalize wo.alloc (.cells #[.int .i64 x0, .int .i64 y0, .int .i64 x1, .int .i64 y1] 34) = w2 at *
      have y0' : w2.cell? ⟨gf, 0, none⟩ = some (.int .i64 x0) := HF2.out.cell 0
      have y1' : w2.cell? ⟨gf, 1, none⟩ = some (.int .i64 y0) := HF2.out.cell 1
      have y2' : w2.cell? ⟨gf, 2, none⟩ = some (.int .i64 x1) := HF2.out.cell 2
      have y3' : w2.cell? ⟨gf, 3, none⟩ = some (.int .i64 y1) := HF2.out.cell 3
      go_wp2_with fail
      refine (u1.out _).mono ?_
      rintro e4 w4 ⟨rfl, rfl⟩
      go_wp2_with fail
      refine (u2.out _).mono ?_
      rintro e4 w4 ⟨rfl, rfl⟩
      go_wp2_with fail
      refine (u3.out _).mono ?_
      rintro e4 w4 ⟨rfl, rfl⟩
      go_wp2_with fail
      refine (u4.out _).mono ?_
      rintro e4 w4 ⟨rfl, rfl⟩
      go_wp2_with fail
      go_roundw
      case rel => exact ⟨k + 1, by go_num, by omega, HP2, HQ2, HB2, hsz2⟩
      case measure => (simp [intOf]; omega)
    · obtain rfl : k = n := by omega
      have k1 : decide ((k : Int) < (k : Int)) = false := decide_eq_false (by omega)
      have p0 : wo.cell? ⟨M, 0, none⟩ = some (.int .i64 px) := HP.out.cell 0
      have p1 : wo.cell? ⟨M, 1, none⟩ = some (.int .i64 py) := HP.out.cell 1
      have q0 : wo.cell? ⟨M + 1, 0, none⟩ = some (.int .i64 qx) := HQ.out.cell 0
      have q1 : wo.cell? ⟨M + 1, 1, none⟩ = some (.int .i64 qy) := HQ.out.cell 1
      go_wp2_with fail
      refine (v1.out _).mono ?_
      rintro e4 w4 ⟨rfl, rfl⟩
      go_wp2_with fail
      refine (v2.out _).mono ?_
      rintro e4 w4 ⟨rfl, rfl⟩
      go_wp2_with fail
      refine (v3.out _).mono ?_
      rintro e4 w4 ⟨rfl, rfl⟩
      go_wp2_with fail
      refine (v4.out _).mono ?_
      rintro e4 w4 ⟨rfl, rfl⟩
      go_wp2_with fail
      go_ret
      exact ⟨rfl, HB.out⟩
end Go.Proofs.Ytegmokdhfmgdgaa.Rt
