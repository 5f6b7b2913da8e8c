/- The contract of obstacles. -/
import Derived.Test.YtegmokdhfmgdgaaRtSmall
import Derived.Test.YtegmokdhfmgdgaaRtLines
namespace Go.Proofs.Ytegmokdhfmgdgaa.Rt
open Go.RowKit Go.Frm Go.Frm.Rt

theorem fr_info : (Try.prog.info? 34).map (fun i => (i.zero, i.size, i.bytes)) = some (some (.agg #[.int .i64 0, .int .i64 0, .int .i64 0, .int .i64 0]), 4, 32) := by kernel_rfl
theorem frF_push (P : Nat → Fr) (n : Nat) (p : Fr) : rowF (n + 1) 4 (frF (upd P n p)) = rowF n 4 (frF P) ++ [.int .i64 p.x0, .int .i64 p.y0, .int .i64 p.x1, .int .i64 p.y1] := by
  rw [rowF_succ, rowF_congr (f := frF (upd P n p)) (g := frF P) (fun i j hi _ => by unfold frF; rw [upd_other _ _ (by omega)])]
  congr 1
  simp [frF, upd_same, List.range_succ]
theorem map_pushF (Q : Nat → Fr) (m : Nat) (p : Fr) : (List.range (m + 1)).map (upd Q m p) = (List.range m).map Q ++ [p] := by
  rw [List.range_succ, List.map_append]
  congr 1
  · exact List.map_congr_left fun i hi => upd_other _ _ (by have := List.mem_range.1 hi; omega)
  · simp [upd_same]
/-- what is left of a rectangle -/
def obF (f : Fr) (p q : Pt) (g : Int) : List Fr := if (insB f p || insB f q) = true then [] else if (insB (widF f g) p || insB (widF f g) q) = true then [f] else [widF f g]
def obs (fs : Nat → Fr) (n : Nat) (p q : Pt) (g : Int) : List Fr := (List.range n).flatMap fun i => obF (fs i) p q g
theorem obs_succ (fs : Nat → Fr) (n : Nat) (p q : Pt) (g : Int) : obs fs (n + 1) p q g = obs fs n p q g ++ obF (fs n) p q g := by unfold obs; rw [List.range_succ, List.flatMap_append]; simp
def frC (f : Fr) : Array Value := #[.int .i64 f.x0, .int .i64 f.y0, .int .i64 f.x1, .int .i64 f.y1]
structure ObW (w0 wx : World) (M gf gv : Nat) (p q : Pt) (f v : Fr) (A : Option Addr) (m c : Nat) (gs : Nat → Fr) : Prop where
  pB : Blk wx M 24 #[.int .i64 p.1, .int .i64 p.2]
  qB : Blk wx (M + 1) 24 #[.int .i64 q.1, .int .i64 q.2]
  fB : Blk wx gf 34 #[.int .i64 f.x0, .int .i64 f.y0, .int .i64 f.x1, .int .i64 f.y1]
  vB : Blk wx gv 34 #[.int .i64 v.x0, .int .i64 v.y0, .int .i64 v.x1, .int .i64 v.y1]
  bel : Below M w0 wx
  own : wx.ownsRow (M + 2) 34 4 (.slice A m c) m (rowF m 4 (frF gs))
theorem ObW.below {w0 wx wy : World} {M gf gv : Nat} {p q : Pt} {f v : Fr} {A : Option Addr} {m c : Nat} {gs : Nat → Fr} (h : ObW w0 wx M gf gv p q f v A m c gs) (hM : M ≤ wx.heap.size) (hb : Below wx.heap.size wx wy) : ObW w0 wy M gf gv p q f v A m c gs :=
  ⟨h.pB.below hb h.pB.lt, h.qB.below hb h.qB.lt, h.fB.below hb h.fB.lt, h.vB.below hb h.vB.lt, h.bel.trans (hb.mono hM), own_below h.own hb⟩
set_option maxRecDepth 100000 in
set_option maxHeartbeats 40000000 in
theorem obstacles_ok {w : World} {A : Option Addr} {n c : Nat} {fs : Nat → Fr} (hr : RdF w A n 4 (frF fs)) (hn : n ≤ 1000) (hf : ∀ i, i < n → frB (fs i)) (p q : Pt) (g : Int) (hg : 0 ≤ g ∧ g ≤ 1000) :
    Calls Try.prog 17 #[.slice A n c, ptV p, ptV q, .int .i64 g] w fun e w' => ∃ A' m c' gs, e = .returned (.slice A' m c') ∧ w'.ownsRow w.heap.size 34 4 (.slice A' m c') m (rowF m 4 (frF gs)) ∧ m ≤ n ∧ (List.range m).map gs = obs fs n p q g ∧ Below w.heap.size w w' := by
  obtain ⟨px, py⟩ := p
  obtain ⟨qx, qy⟩ := q
  obtain ⟨M, hM⟩ : ∃ M, M = w.heap.size := ⟨_, rfl⟩
  have HM := hide hM
  rw [← hM]
  have HRb : Hid (∀ wx, Below M w wx → RdF wx A n 4 (frF fs)) := hide (fun wx h => hr.below (by rw [← hM]; exact h))
  have hP := (Blk.new w 24 #[.int .i64 px, .int .i64 py]).alloc (.cells #[.int .i64 qx, .int .i64 qy] 24)
  have hQ := Blk.new (w.alloc (.cells #[.int .i64 px, .int .i64 py] 24)) 24 #[.int .i64 qx, .int .i64 qy]
  rw [hsz_alloc] at hQ
  have hB := ((Below.refl w.heap.size w).alloc (Nat.le_refl _) (.cells #[.int .i64 px, .int .i64 py] 24)).alloc (by simp) (.cells #[.int .i64 qx, .int .i64 qy] 24)
  have hsz : ((w.alloc (.cells #[.int .i64 px, .int .i64 py] 24)).alloc (.cells #[.int .i64 qx, .int .i64 qy] 24)).heap.size = w.heap.size + 2 := by simp
  have HO0 := hide (World.ownsRow_nil ((w.alloc (.cells #[.int .i64 px, .int .i64 py] 24)).alloc (.cells #[.int .i64 qx, .int .i64 qy] 24)) (M + 2) 34 4)
  have HP := hide hP
  have HQ := hide hQ
  have HB := hide hB
  have HFB := hide hf
  clear hr hM hP hQ hB hf
  unfold ptV
  dsimp only
  go_enter Try.func17, Try.ntmps17
  go_wp2_with fail
  rw [← HM.out] at HP HQ HB hsz
  rw [← HM.out]
  generalize (w.alloc (.cells #[.int .i64 px, .int .i64 py] 24)).alloc (.cells #[.int .i64 qx, .int .i64 qy] 24) = w1 at *
  go_loopw [15, 9, 11, 12] (fun a v _ _ wr => ∃ (k m : Nat) (A2 : Option Addr) (c2 : Nat) (gs : Nat → Fr), a = .int .i64 k ∧ v = .slice A2 m c2 ∧ k ≤ n ∧ m ≤ k ∧ Hid ((List.range m).map gs = obs fs k (px, py) (qx, qy) g) ∧
    Hid (Blk wr M 24 #[.int .i64 px, .int .i64 py]) ∧ Hid (Blk wr (M + 1) 24 #[.int .i64 qx, .int .i64 qy]) ∧ Hid (Below M w wr) ∧ M + 2 ≤ wr.heap.size ∧ Hid (wr.ownsRow (M + 2) 34 4 (.slice A2 m c2) m (rowF m 4 (frF gs)))) (fun a _ _ _ _ => n - (intOf a).toNat)
  case atStart => exact ⟨0, 0, none, 0, fs, rfl, rfl, Nat.zero_le _, Nat.le_refl _, hide rfl, HP, HQ, HB, by omega, HO0⟩
  case round =>
    clear HO0 HP HQ HB hsz
    obtain ⟨wo, rfl⟩ : ∃ wx : World, wx = wr := ⟨_, rfl⟩
    obtain ⟨k, m, A2, c2, gs, rfl, rfl, hk, hmk, HL, HP, HQ, HB, hsz, HO⟩ := hrel
    by_cases hlt : k < n
    · obtain ⟨bf, of, rfl, hc⟩ := (HRb.out wo HB.out).at_ hlt
      have e0 := hc 0 (by omega)
      have e1 := hc 1 (by omega)
      have e2 := hc 2 (by omega)
      have e3 := hc 3 (by omega)
      have k1 : decide ((k : Int) < (n : Int)) = true := decide_eq_true (by omega)
      have k2 : (k : Int) < (n : Int) := by omega
      have k3 : (0 : Int) ≤ (k : Int) := by omega
      have k4 : (k : Int) ≤ 1000 := by omega
      change wo.cell? ⟨bf, of + k * 4 + 0, none⟩ = some (.int .i64 (fs k).x0) at e0
      change wo.cell? ⟨bf, of + k * 4 + 1, none⟩ = some (.int .i64 (fs k).y0) at e1
      change wo.cell? ⟨bf, of + k * 4 + 2, none⟩ = some (.int .i64 (fs k).x1) at e2
      change wo.cell? ⟨bf, of + k * 4 + 3, none⟩ = some (.int .i64 (fs k).y1) at e3
      rw [Nat.add_zero] at e0
      have HS := hide (obs_succ fs k (px, py) (qx, qy) g)
      have hfb := HFB.out k hlt
      obtain ⟨f, Hf⟩ : ∃ f, Hid (f = fs k) := ⟨_, rfl⟩
      rw [← Hf.out] at e0 e1 e2 e3 hfb HS
      have HV := hide (fun wx => wider_ok f g hg (bnd_le hfb.1) (bnd_le hfb.2.1) (bnd_le hfb.2.2.1) (bnd_le hfb.2.2.2) wx)
      obtain ⟨v, Hv⟩ : ∃ v, Hid (v = widF f g) := ⟨_, rfl⟩
      have HOB : Hid (obF f (px, py) (qx, qy) g = if (insB f (px, py) || insB f (qx, qy)) = true then [] else if (insB v (px, py) || insB v (qx, qy)) = true then [f] else [v]) := hide (by rw [Hv.out]; rfl)
      rw [← Hv.out] at HV
      have HI := hide (fun wx => And.intro (within_ok f (px, py) wx) (within_ok f (qx, qy) wx))
      have HJ := hide (fun wx => And.intro (within_ok v (px, py) wx) (within_ok v (qx, qy) wx))
      unfold frV at HV
      unfold frV ptV at HI HJ
      dsimp only at HI HJ
      have HB2 := hide (HB.out.alloc (by omega) (.cells #[.int .i64 f.x0, .int .i64 f.y0, .int .i64 f.x1, .int .i64 f.y1] 34))
      have HBo := hide ((Below.refl wo.heap.size wo).alloc (Nat.le_refl _) (.cells #[.int .i64 f.x0, .int .i64 f.y0, .int .i64 f.x1, .int .i64 f.y1] 34))
      have HF2 := hide (Blk.new wo 34 #[.int .i64 f.x0, .int .i64 f.y0, .int .i64 f.x1, .int .i64 f.y1])
      clear hc hlt hfb HFB
      generalize insB f (px, py) = i1 at *
      generalize insB f (qx, qy) = i2 at *
      generalize insB v (px, py) = j1 at *
      generalize insB v (qx, qy) = j2 at *
      go_upto_region 5 with fail
      have HP2 := hide (HP.out.below HBo.out HP.out.lt)
      have HQ2 := hide (HQ.out.below HBo.out HQ.out.lt)
      have HO2 := hide (own_below HO.out HBo.out)
      have hsz2 : M + 2 ≤ (wo.alloc (.cells #[.int .i64 f.x0, .int .i64 f.y0, .int .i64 f.x1, .int .i64 f.y1] 34)).heap.size := by simp; omega
      obtain ⟨gf, Hgf⟩ : ∃ g, Hid (g = wo.heap.size) := ⟨_, rfl⟩
      rw [← Hgf.out] at HF2
      rw [← Hgf.out]
      clear HP HQ HO HB HBo e0 e1 e2 e3
      generalize wo.alloc (.cells #[.int .i64 f.x0, .int .i64 f.y0, .int .i64 f.x1, .int .i64 f.y1] 34) = w2 at *
      have y0 : w2.cell? ⟨gf, 0, none⟩ = some (.int .i64 f.x0) := HF2.out.cell 0
      have y1 : w2.cell? ⟨gf, 1, none⟩ = some (.int .i64 f.y0) := HF2.out.cell 1
      have y2 : w2.cell? ⟨gf, 2, none⟩ = some (.int .i64 f.x1) := HF2.out.cell 2
      have y3 : w2.cell? ⟨gf, 3, none⟩ = some (.int .i64 f.y1) := HF2.out.cell 3
      go_wp2_with fail
      refine (HV.out _).mono ?_
      rintro e3 w3 ⟨rfl, hb3⟩
      have hb4 := hb3.alloc hb3.size (.cells #[.int .i64 v.x0, .int .i64 v.y0, .int .i64 v.x1, .int .i64 v.y1] 34)
      have hW : ObW w (w3.alloc (.cells #[.int .i64 v.x0, .int .i64 v.y0, .int .i64 v.x1, .int .i64 v.y1] 34)) M gf w3.heap.size (px, py) (qx, qy) f v A2 m c2 gs :=
        ⟨HP2.out.below hb4 HP2.out.lt, HQ2.out.below hb4 HQ2.out.lt, HF2.out.below hb4 HF2.out.lt, Blk.new w3 _ _, HB2.out.trans (hb4.mono (by omega)), own_below HO2.out hb4⟩
      have hsz4 : M + 2 ≤ (w3.alloc (.cells #[.int .i64 v.x0, .int .i64 v.y0, .int .i64 v.x1, .int .i64 v.y1] 34)).heap.size := by have := hb3.size; simp; omega
      have HW := hide hW
      clear hb3 hb4 hW HP2 HQ2 HF2 HB2 HO2 hsz2 y0 y1 y2 y3 HV
      obtain ⟨gv, Hgv⟩ : ∃ g, Hid (g = w3.heap.size) := ⟨_, rfl⟩
      go_upto_region 7 with fail
      rw [← Hgv.out] at HW
      rw [← Hgv.out]
      generalize w3.alloc (.cells #[.int .i64 v.x0, .int .i64 v.y0, .int .i64 v.x1, .int .i64 v.y1] 34) = w4 at *
      go_cut [26] (fun x wc => x = .bool (i1 || i2) ∧ Hid (ObW w wc M gf gv (px, py) (qx, qy) f v A2 m c2 gs) ∧ M + 2 ≤ wc.heap.size)
      case first => as_aux_lemma =>
        have b0 : w4.cell? ⟨gf, 0, none⟩ = some (.int .i64 f.x0) := HW.out.fB.cell 0
        have b1 : w4.cell? ⟨gf, 1, none⟩ = some (.int .i64 f.y0) := HW.out.fB.cell 1
        have b2 : w4.cell? ⟨gf, 2, none⟩ = some (.int .i64 f.x1) := HW.out.fB.cell 2
        have b3 : w4.cell? ⟨gf, 3, none⟩ = some (.int .i64 f.y1) := HW.out.fB.cell 3
        have p0 : w4.cell? ⟨M, 0, none⟩ = some (.int .i64 px) := HW.out.pB.cell 0
        have p1 : w4.cell? ⟨M, 1, none⟩ = some (.int .i64 py) := HW.out.pB.cell 1
        go_wp2_with fail
        refine ((HI.out _).1).mono ?_
        rintro e5 w5 ⟨rfl, hb5⟩
        have HW5 := hide (HW.out.below (by omega) hb5)
        have hsz5 : M + 2 ≤ w5.heap.size := Nat.le_trans hsz4 hb5.size
        clear HW hb5 b0 b1 b2 b3 p0 p1
        cases i1 with
        | true =>
          go_wp2_with fail
          go_meet
          exact ⟨rfl, HW5, hsz5⟩
        | false =>
          have b0 : w5.cell? ⟨gf, 0, none⟩ = some (.int .i64 f.x0) := HW5.out.fB.cell 0
          have b1 : w5.cell? ⟨gf, 1, none⟩ = some (.int .i64 f.y0) := HW5.out.fB.cell 1
          have b2 : w5.cell? ⟨gf, 2, none⟩ = some (.int .i64 f.x1) := HW5.out.fB.cell 2
          have b3 : w5.cell? ⟨gf, 3, none⟩ = some (.int .i64 f.y1) := HW5.out.fB.cell 3
          have q0 : w5.cell? ⟨M + 1, 0, none⟩ = some (.int .i64 qx) := HW5.out.qB.cell 0
          have q1 : w5.cell? ⟨M + 1, 1, none⟩ = some (.int .i64 qy) := HW5.out.qB.cell 1
          go_wp2_with fail
          refine ((HI.out _).2).mono ?_
          rintro e6 w6 ⟨rfl, hb6⟩
          have HW6 := hide (HW5.out.below (by omega) hb6)
          have hsz6 : M + 2 ≤ w6.heap.size := Nat.le_trans hsz5 hb6.size
          clear HW5 hb6 b0 b1 b2 b3 q0 q1
          go_wp2_with fail
          go_meet
          exact ⟨by simp, HW6, hsz6⟩
      case rest =>
        clear HW hsz4
        obtain ⟨rfl, HW, hsz4⟩ := hcut
        obtain ⟨w4, rfl⟩ : ∃ wx : World, wx = wc := ⟨_, rfl⟩
        generalize (i1 || i2) = ib at *
        cases ib with
        | true =>
          have HL2 : Hid ((List.range m).map gs = obs fs (k + 1) (px, py) (qx, qy) g) := hide (by rw [HS.out, HOB.out, HL.out]; simp)
          clear HI HJ HS HOB
          go_wp2_with fail
          go_roundw
          case rel => exact ⟨k + 1, m, A2, c2, gs, by go_num, rfl, by omega, by omega, HL2, hide HW.out.pB, hide HW.out.qB, hide HW.out.bel, hsz4, hide HW.out.own⟩
          case measure => (simp [intOf]; omega)
        | false =>
          go_upto_region 8 with fail
          go_cut [35] (fun x wc => x = .bool (j1 || j2) ∧ Hid (ObW w wc M gf gv (px, py) (qx, qy) f v A2 m c2 gs) ∧ M + 2 ≤ wc.heap.size)
          case first => as_aux_lemma =>
            have b0 : w4.cell? ⟨gv, 0, none⟩ = some (.int .i64 v.x0) := HW.out.vB.cell 0
            have b1 : w4.cell? ⟨gv, 1, none⟩ = some (.int .i64 v.y0) := HW.out.vB.cell 1
            have b2 : w4.cell? ⟨gv, 2, none⟩ = some (.int .i64 v.x1) := HW.out.vB.cell 2
            have b3 : w4.cell? ⟨gv, 3, none⟩ = some (.int .i64 v.y1) := HW.out.vB.cell 3
            have p0 : w4.cell? ⟨M, 0, none⟩ = some (.int .i64 px) := HW.out.pB.cell 0
            have p1 : w4.cell? ⟨M, 1, none⟩ = some (.int .i64 py) := HW.out.pB.cell 1
            go_wp2_with fail
            refine ((HJ.out _).1).mono ?_
            rintro e5 w5 ⟨rfl, hb5⟩
            have HW5 := hide (HW.out.below (by omega) hb5)
            have hsz5 : M + 2 ≤ w5.heap.size := Nat.le_trans hsz4 hb5.size
            clear HW hb5 b0 b1 b2 b3 p0 p1
            cases j1 with
            | true =>
              go_wp2_with fail
              go_meet
              exact ⟨rfl, HW5, hsz5⟩
            | false =>
              have b0 : w5.cell? ⟨gv, 0, none⟩ = some (.int .i64 v.x0) := HW5.out.vB.cell 0
              have b1 : w5.cell? ⟨gv, 1, none⟩ = some (.int .i64 v.y0) := HW5.out.vB.cell 1
              have b2 : w5.cell? ⟨gv, 2, none⟩ = some (.int .i64 v.x1) := HW5.out.vB.cell 2
              have b3 : w5.cell? ⟨gv, 3, none⟩ = some (.int .i64 v.y1) := HW5.out.vB.cell 3
              have q0 : w5.cell? ⟨M + 1, 0, none⟩ = some (.int .i64 qx) := HW5.out.qB.cell 0
              have q1 : w5.cell? ⟨M + 1, 1, none⟩ = some (.int .i64 qy) := HW5.out.qB.cell 1
              go_wp2_with fail
              refine ((HJ.out _).2).mono ?_
              rintro e6 w6 ⟨rfl, hb6⟩
              have HW6 := hide (HW5.out.below (by omega) hb6)
              have hsz6 : M + 2 ≤ w6.heap.size := Nat.le_trans hsz5 hb6.size
              clear HW5 hb6 b0 b1 b2 b3 q0 q1
              go_wp2_with fail
              go_meet
              exact ⟨by simp, HW6, hsz6⟩
          case rest =>
            clear HW hsz4
            obtain ⟨rfl, HW, hsz4⟩ := hcut
            obtain ⟨w4, rfl⟩ : ∃ wx : World, wx = wc := ⟨_, rfl⟩
            generalize (j1 || j2) = jb at *
            cases jb with
            | true =>
              have HL2 : Hid ((List.range (m + 1)).map (upd gs m f) = obs fs (k + 1) (px, py) (qx, qy) g) := hide (by rw [HS.out, HOB.out, map_pushF, HL.out]; simp)
              have hO4 := HW.out.own
              have b0 : w4.cell? ⟨gf, 0, none⟩ = some (.int .i64 f.x0) := HW.out.fB.cell 0
              have b1 : w4.cell? ⟨gf, 1, none⟩ = some (.int .i64 f.y0) := HW.out.fB.cell 1
              have b2 : w4.cell? ⟨gf, 2, none⟩ = some (.int .i64 f.x1) := HW.out.fB.cell 2
              have b3 : w4.cell? ⟨gf, 3, none⟩ = some (.int .i64 f.y1) := HW.out.fB.cell 3
              clear HI HJ HS HOB
              go_wp2_with (at_builtin; refine wpL_append rfl rfl Try.underlying22 fr_info rfl (by decide) rfl rfl (hO4.alloc _) (news_at _ _ _ _ (by simp)) rfl (by simp [Value.oneCell']) (by omega) (by omega) (by simp; omega) ?_; intro v1 w5 hown5 hgrow5; obtain ⟨A5, c5, rfl⟩ := own_form hown5)
              have HP5 := hide ((HW.out.pB.alloc _).grown hgrow5 (own_not_low hO4 (by omega)))
              have HQ5 := hide ((HW.out.qB.alloc _).grown hgrow5 (own_not_low hO4 (by omega)))
              have HB5 := hide (below_app (HW.out.bel.alloc (by omega) _) (by simp; omega) (ownsRow_less (hO4.alloc _) (by omega)) hgrow5)
              have hsz5 : M + 2 ≤ w5.heap.size := by have h9 := hgrow5.size; simp at h9; omega
              rw [show rowF m 4 (frF gs) ++ [Value.int .i64 f.x0, Value.int .i64 f.y0, Value.int .i64 f.x1, Value.int .i64 f.y1] = rowF (m + 1) 4 (frF (upd gs m f)) by rw [frF_push]] at hown5
              have HO5 := hide hown5
              clear hown5 hgrow5 hO4 HW b0 b1 b2 b3
              go_roundw
              case rel => exact ⟨k + 1, m + 1, A5, c5, upd gs m f, by go_num, rfl, by omega, by omega, HL2, HP5, HQ5, HB5, hsz5, HO5⟩
              case measure => (simp [intOf]; omega)
            | false =>
              have HL2 : Hid ((List.range (m + 1)).map (upd gs m v) = obs fs (k + 1) (px, py) (qx, qy) g) := hide (by rw [HS.out, HOB.out, map_pushF, HL.out]; simp)
              have hO4 := HW.out.own
              have b0 : w4.cell? ⟨gv, 0, none⟩ = some (.int .i64 v.x0) := HW.out.vB.cell 0
              have b1 : w4.cell? ⟨gv, 1, none⟩ = some (.int .i64 v.y0) := HW.out.vB.cell 1
              have b2 : w4.cell? ⟨gv, 2, none⟩ = some (.int .i64 v.x1) := HW.out.vB.cell 2
              have b3 : w4.cell? ⟨gv, 3, none⟩ = some (.int .i64 v.y1) := HW.out.vB.cell 3
              clear HI HJ HS HOB
              go_wp2_with (at_builtin; refine wpL_append rfl rfl Try.underlying22 fr_info rfl (by decide) rfl rfl (hO4.alloc _) (news_at _ _ _ _ (by simp)) rfl (by simp [Value.oneCell']) (by omega) (by omega) (by simp; omega) ?_; intro v1 w5 hown5 hgrow5; obtain ⟨A5, c5, rfl⟩ := own_form hown5)
              have HP5 := hide ((HW.out.pB.alloc _).grown hgrow5 (own_not_low hO4 (by omega)))
              have HQ5 := hide ((HW.out.qB.alloc _).grown hgrow5 (own_not_low hO4 (by omega)))
              have HB5 := hide (below_app (HW.out.bel.alloc (by omega) _) (by simp; omega) (ownsRow_less (hO4.alloc _) (by omega)) hgrow5)
              have hsz5 : M + 2 ≤ w5.heap.size := by have h9 := hgrow5.size; simp at h9; omega
              rw [show rowF m 4 (frF gs) ++ [Value.int .i64 v.x0, Value.int .i64 v.y0, Value.int .i64 v.x1, Value.int .i64 v.y1] = rowF (m + 1) 4 (frF (upd gs m v)) by rw [frF_push]] at hown5
              have HO5 := hide hown5
              clear hown5 hgrow5 hO4 HW b0 b1 b2 b3
              go_roundw
              case rel => exact ⟨k + 1, m + 1, A5, c5, upd gs m v, by go_num, rfl, by omega, by omega, HL2, HP5, HQ5, HB5, hsz5, HO5⟩
              case measure => (simp [intOf]; omega)
    · obtain rfl : k = n := by omega
      have k1 : decide ((k : Int) < (k : Int)) = false := decide_eq_false (by omega)
      go_wp2_with fail
      go_ret
      exact ⟨A2, m, c2, gs, rfl, ownsRow_less HO.out (by omega), hmk, HL.out, HB.out⟩
end Go.Proofs.Ytegmokdhfmgdgaa.Rt
