/- The contract of Find, at valid arguments. -/
import Derived.Test.YtegmokdhfmgdgaaRtSearch
import Derived.Test.YtegmokdhfmgdgaaRtCheck
namespace Go.Proofs.Ytegmokdhfmgdgaa.Rt
open Go.RowKit Go.Frm Go.Frm.Rt

theorem results_tmp3 {fn : Func} {t u v : Tmp} (h : fn.results = #[.tmp t, .tmp u, .tmp v]) (tmps : Array Value) (P : Program) (w : World) : (results fn tmps).run P w = .ok (.tuple #[tmps.getD t undef, tmps.getD u undef, tmps.getD v undef]) w := by
  simp [results, h]
/-- a search around a list of rectangles -/
def SPx (p q : Pt) (first last : Int) (L : List Fr) (is : Bool) (l : List Pt) : Prop := ∃ gs m, (List.range m).map gs = L ∧ SPost p q first last gs m is l
def FPost (p q : Pt) (first last : Int) (fs : Nat → Fr) (n : Nat) (gap : Int) (l : List Pt) : Prop :=
  (gap = 100 ∧ SPx p q first last (obs fs n p q 100) true l) ∨
  (gap = 0 ∧ (∃ l1, SPx p q first last (obs fs n p q 100) false l1) ∧ SPx p q first last (obs fs n p q 0) true l) ∨
  (gap = -1 ∧ (∃ l1, SPx p q first last (obs fs n p q 100) false l1) ∧ (∃ l1, SPx p q first last (obs fs n p q 0) false l1) ∧ ∃ is, SPx p q first last [] is l)
/-- what Find gives -/
def FRes (w0 w' : World) (M : Nat) (p q : Pt) (first last : Int) (fs : Nat → Fr) (n : Nat) (e : Ending) : Prop := ∃ (A' : Option Addr) (m c' : Nat) (Q : Nat → Pt) (gap : Int), e = .returned (.tuple #[.slice A' m c', .int .i64 gap, .int .i64 0]) ∧
  (w'.ownsRow M 24 2 (.slice A' m c') m (rowF m 2 (ptF Q)) ∧ m ≤ 1000000) ∧ Below M w0 w' ∧ FPost p q first last fs n gap ((List.range m).map Q)
theorem obF_bnd {f : Fr} {p q : Pt} {g : Int} (hf : okF f) (hg : 0 ≤ g ∧ g ≤ 1000) : ∀ x, x ∈ obF f p q g → frB x := fun x hx => by
  obtain ⟨h1, h2, h3, h4, _⟩ := hf
  unfold okR at h1 h2 h3 h4
  unfold obF at hx
  unfold frB bnd
  split at hx
  · cases hx
  · split at hx
    · have : x = f := by simpa using hx
      subst this
      omega
    · have : x = widF f g := by simpa using hx
      subst this
      unfold widF
      dsimp only
      omega
theorem obs_bnd {fs : Nat → Fr} {n : Nat} {p q : Pt} {g : Int} (hf : ∀ i, i < n → okF (fs i)) (hg : 0 ≤ g ∧ g ≤ 1000) {gs : Nat → Fr} {m : Nat} (h : (List.range m).map gs = obs fs n p q g) : ∀ i, i < m → frB (gs i) := fun i hi => by
  have h1 : gs i ∈ obs fs n p q g := by rw [← h]; exact List.mem_map.2 ⟨i, List.mem_range.2 hi, rfl⟩
  unfold obs at h1
  obtain ⟨k, hk, h2⟩ := List.mem_flatMap.1 h1
  exact obF_bnd (hf k (List.mem_range.1 hk)) hg _ h2
set_option maxRecDepth 100000 in
set_option maxHeartbeats 40000000 in
theorem find_way_ok {w : World} {A : Option Addr} {n c : Nat} {fs : Nat → Fr} (hr : RdF w A n 4 (frF fs)) (hn : n ≤ 60) (hf : ∀ i, i < n → okF (fs i)) (p q : Pt) (hp : okR p.1 ∧ okR p.2) (hq : okR q.1 ∧ okR q.2) (first last : Int) (h1 : -1 ≤ first ∧ first ≤ 3) (h2 : -1 ≤ last ∧ last ≤ 3) :
    Calls Try.prog 10 #[.slice A n c, ptV p, ptV q, .int .i64 first, .int .i64 last] w fun e w' => FRes w w' w.heap.size p q first last fs n e := by
  obtain ⟨M, hM⟩ : ∃ M, M = w.heap.size := ⟨_, rfl⟩
  have HM := hide hM
  rw [← hM]
  have HRb : Hid (∀ wx, Below M w wx → RdF wx A n 4 (frF fs)) := hide (fun wx h => hr.below (by rw [← hM]; exact h))
  have hbp : bnd p.1 ∧ bnd p.2 := by unfold okR at hp; unfold bnd; omega
  have hbq : bnd q.1 ∧ bnd q.2 := by unfold okR at hq; unfold bnd; omega
  have hfb : ∀ i, i < n → frB (fs i) := fun i hi => by
    have h3 := hf i hi
    unfold okF okR at h3
    unfold frB bnd
    omega
  have HC := hide (fun wx (h : Below M w wx) => check_ok (w := wx) (c := c) (hr.below (by rw [← hM]; exact h)) hn hf p q hp hq first last h1 h2)
  have HO := hide (fun (g : Int) (hg : 0 ≤ g ∧ g ≤ 1000) wx (h : Below M w wx) => obstacles_ok (w := wx) (c := c) (hr.below (by rw [← hM]; exact h)) (by omega) hfb p q g hg)
  have HBd := hide (fun (g : Int) (hg : 0 ≤ g ∧ g ≤ 1000) (gs : Nat → Fr) (m : Nat) (h : (List.range m).map gs = obs fs n p q g) => obs_bnd hf hg h)
  have HSe := hide (fun wx (gs : Nat → Fr) (m c2 : Nat) (A2 : Option Addr) (h3 : RdF wx A2 m 4 (frF gs)) (h4 : m ≤ 60) (h5 : ∀ i, i < m → frB (gs i)) (h6 : ∀ ad, A2 = some ad → ad.block < wx.heap.size) => search_ok (w := wx) (c := c2) h3 h4 h5 h6 p q hbp hbq first last)
  have HPost : Hid (∀ gap l, FPost p q first last fs n gap l ↔ (gap = 100 ∧ SPx p q first last (obs fs n p q 100) true l) ∨
  (gap = 0 ∧ (∃ l1, SPx p q first last (obs fs n p q 100) false l1) ∧ SPx p q first last (obs fs n p q 0) true l) ∨
  (gap = -1 ∧ (∃ l1, SPx p q first last (obs fs n p q 100) false l1) ∧ (∃ l1, SPx p q first last (obs fs n p q 0) false l1) ∧ ∃ is, SPx p q first last [] is l)) := hide (fun _ _ => Iff.rfl)
  obtain ⟨px, py⟩ := p
  obtain ⟨qx, qy⟩ := q
  have hP := (Blk.new w 24 #[.int .i64 px, .int .i64 py]).alloc (.cells #[.int .i64 qx, .int .i64 qy] 24)
  have hQ := Blk.new (w.alloc (.cells #[.int .i64 px, .int .i64 py] 24)) 24 #[.int .i64 qx, .int .i64 qy]
  rw [hsz_alloc] at hQ
  have hB := ((Below.refl w.heap.size w).alloc (Nat.le_refl _) (.cells #[.int .i64 px, .int .i64 py] 24)).alloc (by simp) (.cells #[.int .i64 qx, .int .i64 qy] 24)
  unfold ptV at HC HO HSe ⊢
  dsimp only at HC HO HSe ⊢
  clear hr hM hbp hbq hfb hf hp hq
  go_enter Try.func10, Try.ntmps10
  go_upto_region 1 with fail
  rw [← HM.out] at hP hQ hB
  rw [← HM.out]
  generalize (w.alloc (.cells #[.int .i64 px, .int .i64 py] 24)).alloc (.cells #[.int .i64 qx, .int .i64 qy] 24) = w1 at *
  have p0 : w1.cell? ⟨M, 0, none⟩ = some (.int .i64 px) := hP.cell 0
  have p1 : w1.cell? ⟨M, 1, none⟩ = some (.int .i64 py) := hP.cell 1
  have q0 : w1.cell? ⟨M + 1, 0, none⟩ = some (.int .i64 qx) := hQ.cell 0
  have q1 : w1.cell? ⟨M + 1, 1, none⟩ = some (.int .i64 qy) := hQ.cell 1
  go_wp2_with fail
  refine (HC.out _ hB).mono ?_
  rintro e2 w2 ⟨rfl, hb2⟩
  have HP2 := hide (hP.below hb2 hP.lt)
  have HQ2 := hide (hQ.below hb2 hQ.lt)
  have hM1 : M ≤ w1.heap.size := Nat.le_trans (Nat.le_of_eq HM.out) hB.size
  have HB2 := hide (hB.trans (hb2.mono hM1))
  clear hP hQ hB hb2 p0 p1 q0 q1 HC
  have hM2 : M ≤ w2.heap.size := Nat.le_trans (Nat.le_of_eq HM.out) HB2.out.size
  have HG0 := hide (Blk.new w2 3 #[.int .i64 100, .int .i64 0])
  have HP3 := hide (HP2.out.alloc (.cells #[.int .i64 100, .int .i64 0] 3))
  have HQ3 := hide (HQ2.out.alloc (.cells #[.int .i64 100, .int .i64 0] 3))
  have HB3 := hide (HB2.out.alloc hM2 (.cells #[.int .i64 100, .int .i64 0] 3))
  clear HP2 HQ2 HB2
  go_wp2_with fail
  obtain ⟨gl, Hgl⟩ : ∃ g, Hid (g = w2.heap.size) := ⟨_, rfl⟩
  rw [← Hgl.out] at HG0
  rw [← Hgl.out]
  generalize w2.alloc (.cells #[.int .i64 100, .int .i64 0] 3) = w3 at *
  go_loopw [31, 15, 16, 17, 10, 11, 12] (fun a _ _ _ _ _ _ wr => ∃ (k : Nat), a = .int .i64 k ∧ k ≤ 2 ∧ Hid (1 ≤ k → ∃ l1, SPx (px, py) (qx, qy) first last (obs fs n (px, py) (qx, qy) 100) false l1) ∧ Hid (2 ≤ k → ∃ l1, SPx (px, py) (qx, qy) first last (obs fs n (px, py) (qx, qy) 0) false l1) ∧
    Hid (Blk wr M 24 #[.int .i64 px, .int .i64 py]) ∧ Hid (Blk wr (M + 1) 24 #[.int .i64 qx, .int .i64 qy]) ∧ Hid (Blk wr gl 3 #[.int .i64 100, .int .i64 0]) ∧ Hid (Below M w wr)) (fun a _ _ _ _ _ _ _ => 2 - (intOf a).toNat)
  case atStart => exact ⟨0, rfl, by omega, hide (fun h => by omega), hide (fun h => by omega), HP3, HQ3, HG0, HB3⟩
  case round =>
    clear HP3 HQ3 HG0 HB3 hM1 hM2
    obtain ⟨wo, rfl⟩ : ∃ wx : World, wx = wr := ⟨_, rfl⟩
    obtain ⟨k, rfl, hk, HL1, HL2, HP, HQ, HG, HB⟩ := hrel
    have p0 : wo.cell? ⟨M, 0, none⟩ = some (.int .i64 px) := HP.out.cell 0
    have p1 : wo.cell? ⟨M, 1, none⟩ = some (.int .i64 py) := HP.out.cell 1
    have q0 : wo.cell? ⟨M + 1, 0, none⟩ = some (.int .i64 qx) := HQ.out.cell 0
    have q1 : wo.cell? ⟨M + 1, 1, none⟩ = some (.int .i64 qy) := HQ.out.cell 1
    have hMo : M ≤ wo.heap.size := Nat.le_trans (Nat.le_of_eq HM.out) HB.out.size
    by_cases hlt : k < 2
    · obtain ⟨gap, Hgap⟩ : ∃ z : Int, Hid (z = if k = 0 then 100 else 0) := ⟨_, rfl⟩
      have hgap : 0 ≤ gap ∧ gap ≤ 1000 := by have := Hgap.out; split at this <;> omega
      have g0 : wo.cell? ⟨gl, k, none⟩ = some (.int .i64 gap) := by
        rw [HG.out.cell, Hgap.out]
        rcases (show k = 0 ∨ k = 1 by omega) with rfl | rfl <;> rfl
      have k1 : decide ((k : Int) < 2) = true := decide_eq_true (by omega)
      have k2 : (k : Int) < 2 := by omega
      have k3 : (0 : Int) ≤ (k : Int) := by omega
      have bp0 := World.block_lt_of_cell? _ _ p0
      have bq0 := World.block_lt_of_cell? _ _ q0
      have HOb := hide (HO.out gap hgap wo.drew (below_drewN HB.out 1))
      clear hlt
      go_upto_region 7 with fail
      go_cut [16, 17] (fun v x wc => ∃ (A' : Option Addr) (m' c' : Nat) (Q : Nat → Pt) (is : Bool), v = .slice A' m' c' ∧ x = .bool is ∧ Hid (wc.ownsRow M 24 2 (.slice A' m' c') m' (rowF m' 2 (ptF Q)) ∧ m' ≤ 1000000) ∧ Hid (Below wo.heap.size wo wc) ∧ Hid (SPx (px, py) (qx, qy) first last (obs fs n (px, py) (qx, qy) gap) is ((List.range m').map Q)))
      case first =>
        go_region_held3 (fun w' => w'.cell? ⟨M, 0, none⟩ = some (.int .i64 px) ∧ w'.cell? ⟨M, 1, none⟩ = some (.int .i64 py) ∧ w'.cell? ⟨M + 1, 0, none⟩ = some (.int .i64 qx) ∧ w'.cell? ⟨M + 1, 1, none⟩ = some (.int .i64 qy))
          (first | go_keep | (go_split_ands; refine ⟨?_, ?_, ?_, ?_⟩ <;> first | (rw [hb6.cell (Nat.lt_of_lt_of_le bp0 hb5.size)]; assumption) | (rw [hb6.cell (Nat.lt_of_lt_of_le bq0 hb5.size)]; assumption) | (rw [hb5.cell bp0]; assumption) | (rw [hb5.cell bq0]; assumption)))
          (first
            | (go_at_call 17; refine HOb.out.mono ?_; rintro e5 w5 ⟨A5, m5, c5, gs, rfl, ho5, hm5, hl5, hb5⟩)
            | (go_at_call 16; refine (HSe.out _ gs m5 c5 A5 (RdF.of_own ho5) (by omega) (HBd.out gap hgap gs m5 hl5) (fun ad e => by subst e; exact (own_blk_ge ho5 (by simp [Value.ownBlock])).2)).mono ?_; rintro e6 w6 ⟨A6, m6, c6, Q, is, rfl, ho6, hb6, hs6⟩))
        all_goals (
          have hM5 : M ≤ w5.heap.size := Nat.le_trans hMo hb5.size
          have F1 := hide (And.intro (ownsRow_less ho6.1 hM5) ho6.2)
          have F2 : Hid (Below wo.heap.size wo w6) := hide (((below_drewN (Below.refl _ _) 1).trans hb5).trans (hb6.mono hb5.size))
          have F3 : Hid (SPx (px, py) (qx, qy) first last (obs fs n (px, py) (qx, qy) gap) is ((List.range m6).map Q)) := hide ⟨gs, m5, hl5, hs6⟩
          clear ho5 hb5 hl5 ho6 hb6 hs6
          go_wp2_with fail
          go_meet
          exact ⟨A6, m6, c6, Q, is, rfl, rfl, F1, F2, F3⟩)
      case rest =>
        obtain ⟨A6, m6, c6, Q, is, rfl, rfl, F1, F2, F3⟩ := hcut
        obtain ⟨w6, rfl⟩ : ∃ wx : World, wx = wc := ⟨_, rfl⟩
        have HP6 := hide (HP.out.below F2.out HP.out.lt)
        have HQ6 := hide (HQ.out.below F2.out HQ.out.lt)
        have HG6 := hide (HG.out.below F2.out HG.out.lt)
        have HB6 := hide (HB.out.trans (F2.out.mono hMo))
        clear HP HQ HG HB p0 p1 q0 q1 g0 HOb F2
        cases is with
        | true =>
          have HF : Hid (FPost (px, py) (qx, qy) first last fs n gap ((List.range m6).map Q)) := hide (by
            rw [HPost.out]
            have h3 := Hgap.out
            have h4 := F3.out
            rcases (show k = 0 ∨ k = 1 by omega) with rfl | rfl
            · rw [if_pos rfl] at h3
              subst h3
              exact .inl ⟨rfl, h4⟩
            · rw [if_neg (by decide)] at h3
              subst h3
              exact .inr (.inl ⟨rfl, HL1.out (by omega), h4⟩))
          clear HL1 HL2 F3 HP6 HQ6 HG6 HPost
          go_wp2_with fail
          (try simp only [Exit.inBlock, Exit.then])
          refine bodyPost_ret (results_tmp3 rfl _ _ _) rfl ?_
          exact ⟨A6, m6, c6, Q, gap, rfl, F1.out, HB6.out, HF.out⟩
        | false =>
          have HL1' : Hid (1 ≤ k + 1 → ∃ l1, SPx (px, py) (qx, qy) first last (obs fs n (px, py) (qx, qy) 100) false l1) := hide (fun _ => by
            rcases (show k = 0 ∨ k = 1 by omega) with rfl | rfl
            · have h3 := Hgap.out
              rw [if_pos rfl] at h3
              rw [← h3]
              exact ⟨_, F3.out⟩
            · exact HL1.out (by omega))
          have HL2' : Hid (2 ≤ k + 1 → ∃ l1, SPx (px, py) (qx, qy) first last (obs fs n (px, py) (qx, qy) 0) false l1) := hide (fun h => by
            have h3 := Hgap.out
            rw [if_neg (by omega)] at h3
            rw [← h3]
            exact ⟨_, F3.out⟩)
          clear HL1 HL2 F3 F1
          go_wp2_with fail
          go_roundw
          case rel => exact ⟨k + 1, by go_num, by omega, HL1', HL2', HP6, HQ6, HG6, HB6⟩
          case measure => (simp [intOf]; omega)
    · obtain rfl : k = 2 := by omega
      have k1 : decide (((2 : Nat) : Int) < 2) = false := decide_eq_false (by omega)
      have hSe := hide (HSe.out wo (fun _ => ⟨0, 0, 0, 0⟩) 0 0 none (.inl rfl) (by omega) (fun i hi => by omega) (fun ad e => by cases e))
      go_wp2_with fail
      refine hSe.out.mono ?_
      rintro e6 w6 ⟨A6, m6, c6, Q, is, rfl, ho6, hb6, hs6⟩
      have F1 := hide (And.intro (ownsRow_less ho6.1 hMo) ho6.2)
      have HB6 := hide (HB.out.trans (hb6.mono hMo))
      have HF : Hid (FPost (px, py) (qx, qy) first last fs n (-1) ((List.range m6).map Q)) := hide (by
        rw [HPost.out]
        exact .inr (.inr ⟨rfl, HL1.out (by omega), HL2.out (by omega), is, _, 0, rfl, hs6⟩))
      clear ho6 hb6 hs6 hSe HL1 HL2 HP HQ HG HB HPost p0 p1 q0 q1
      go_wp2_with fail
      (try simp only [Exit.inBlock, Exit.then])
      refine bodyPost_ret (results_tmp3 rfl _ _ _) rfl ?_
      exact ⟨A6, m6, c6, Q, -1, rfl, F1.out, HB6.out, HF.out⟩
end Go.Proofs.Ytegmokdhfmgdgaa.Rt
