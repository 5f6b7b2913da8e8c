/- PROVED HERE: whatever the text, the look and the widths, chancerykeep3.MetricFitNarrows returns true, and its arguments read behind the call as before, where the listed tables of package metric hold what the row lists. No condition beside those of the given row. -/
import Derived.Test.YtdhhkcboejhoaaaDoorRows
import Derived.Test.YtdhhkcboejhoaaaDoorCards
import Derived.Test.YtdhhkcboejhoaaaDoorTie
import Derived.Test.YtdhhkcboejhoaaaDoorMetricTabs2
import Derived.Test.YtdhhkcboejhoaaaDoorChars
import Derived.Test.YtdhhkcboejhoaaaDoorSink
import Derived.Deep.CutBlock
import Derived.SevenTiedAt
namespace Go.Proofs.YtdhhkcboejhoaaaDoor.MetricFitNarrowsDone
open Go.RowKit Go.Frm Go.ChangeShapes Go.WideShapes Go.ChangeAt Mtr Wi Cha

section
variable (size : Int) (bold fixed : Bool) (C : Nat → Int) (N : Nat)
theorem fit_fits {width : Int} (hw : 0 ≤ width) : ∀ k, wid size bold fixed C (fitK size bold fixed C N width k) ≤ width
  | 0 => hw
  | k + 1 => by
    have ih := fit_fits hw k
    unfold fitK
    split
    · exact ih
    · split
      · assumption
      · exact ih
theorem fit_mono {width more : Int} (hm : 0 ≤ more) : ∀ k, fitK size bold fixed C N width k ≤ fitK size bold fixed C N (width + more) k
  | 0 => Nat.le_refl _
  | k + 1 => by
    have ih := fit_mono (width := width) hm k
    have h1 := fitK_le size bold fixed C N width k
    unfold fitK
    split
    · exact ih
    · split
      · rw [if_pos (by omega)]
        exact Nat.le_refl _
      · split
        · omega
        · exact ih
theorem fit_next {width : Int} (k : Nat) : fitK size bold fixed C N width k ≤ fitK size bold fixed C N width (k + 1) := by
  have h1 := fitK_le size bold fixed C N width k
  conv => rhs; unfold fitK
  split
  · exact Nat.le_refl _
  · split <;> omega
theorem fit_grow {width : Int} (k : Nat) : ∀ d, fitK size bold fixed C N width k ≤ fitK size bold fixed C N width (k + d)
  | 0 => Nat.le_refl _
  | d + 1 => Nat.le_trans (fit_grow k d) (fit_next size bold fixed C N (k + d))
/-- one cluster more is too wide -/
theorem fit_over {width : Int} {t : Nat} (h1 : fitK size bold fixed C N width N + 1 ≤ t) (h2 : t ≤ N) (h3 : t = N ∨ Mtr.mark (C t) = false) : width < wid size bold fixed C t := by
  refine Int.not_le.1 fun hle => ?_
  obtain ⟨k, rfl⟩ : ∃ k, t = k + 1 := ⟨t - 1, by omega⟩
  have e : fitK size bold fixed C N width (k + 1) = k + 1 := by
    unfold fitK
    rw [if_neg, if_pos hle]
    rintro ⟨h4, h5⟩
    rcases h3 with h3 | h3
    · omega
    · rw [h3] at h5; cases h5
  have h6 := fit_grow size bold fixed C N (width := width) (k + 1) (N - (k + 1))
  rw [show k + 1 + (N - (k + 1)) = N by omega, e] at h6
  omega
theorem wid_congr {D : Nat → Int} : ∀ k, (∀ j, j < k → C j = D j) → wid size bold fixed C k = wid size bold fixed D k
  | 0, _ => rfl
  | k + 1, h => by
    unfold wid
    rw [wid_congr k (fun j hj => h j (by omega)), h k (by omega)]
    by_cases hk : k = 0
    · rw [if_pos hk, if_pos hk]
    · rw [if_neg hk, if_neg hk, h (k - 1) (by omega)]
end
theorem ix_take {zs : List Int} {n j : Nat} (h : j < n) : ix (zs.take n) j = ix zs j := by simp [ix, h]
theorem rdI_take {w : World} {A : Option Addr} {zs : List Int} (h : RdI w A zs) (n : Nat) : RdI w A (zs.take n) := by
  rcases h with rfl | ⟨b, off, rfl, hc⟩
  · left; simp
  · right
    refine ⟨b, off, rfl, fun j hj => ?_⟩
    rw [List.length_take] at hj
    rw [hc j (by omega), ix_take (by omega)]
/-- the width of the first n characters of a text -/
theorem Width_take (A : Option Addr) (c n : Nat) (zs : List Int) (size : Int) (bold fixed : Bool) (w : World) (ht : Tabs w) (hr : RdI w A zs) (hn : n ≤ zs.length) (hl : zs.length ≤ 100000) (hv : ∀ j, j < zs.length → 0 ≤ ix zs j ∧ ix zs j ≤ 1114111) (h0 : 40 ≤ size) (h1 : size ≤ 4000) :
    Calls Tryd.prog 20 #[.slice A n c, .agg #[.int .i64 size, .bool bold, .bool fixed]] w fun e w' => e = .returned (.tuple #[.int .i64 (wid size bold fixed (ix zs) n), .int .i64 0]) ∧ Below w.heap.size w w' := by
  have hlen : (zs.take n).length = n := by rw [List.length_take]; omega
  have h := Width_ok A c (zs.take n) size bold fixed w ht (rdI_take hr n) (by omega) (fun j hj => by rw [ix_take (by omega)]; exact hv j (by omega)) h0 h1
  rw [hlen, wid_congr size bold fixed (ix (zs.take n)) (D := ix zs) n (fun j hj => ix_take hj)] at h
  exact h

set_option maxRecDepth 100000 in
set_option maxHeartbeats 4000000 in
theorem walk (B : Option Addr) (cb : Nat) (xs : List Int) (size width more : Int) (bold fixed : Bool) (w : World) (ht : Tabs w) (hr : RdI w B xs) (hl : xs.length ≤ 9223372036854775807) (hwf : ∀ j, j < xs.length → (Lit.int .i64 (ix xs j)).wf = true)
    (fs : (Lit.int .i64 size).wf = true) (fw : (Lit.int .i64 width).wf = true) (fm : (Lit.int .i64 more).wf = true) :
    Calls Tryd.prog 6 #[.slice B xs.length cb, .agg #[.int .i64 size, .bool bold, .bool fixed], .int .i64 width, .int .i64 more] w fun e w' => e = .returned (.bool true) ∧ Below w.heap.size w w' := by
  have hww := fun wx => within_any width 0 200000 wx fw (by omega) (by omega) (by omega)
  have hwm := fun wx => within_any more 0 5000 wx fm (by omega) (by omega) (by omega)
  have hlk := fun wx => look_ok size bold fixed wx fs
  have hch := fun wx hrx => chars_ok B cb xs 60 wx hrx hl (by omega) hwf
  have bw := wi_bd width (show (0 : Int) ≤ 200000 by omega)
  have bm := wi_bd more (show (0 : Int) ≤ 5000 by omega)
  have bs := wi_bd size (show (40 : Int) ≤ 4000 by omega)
  generalize wi width 0 200000 = wd at *
  generalize wi more 0 5000 = mo at *
  generalize wi size 40 4000 = s at *
  have Ww := hide hww
  have Wm := hide hwm
  have Hlk := hide hlk
  have Hch := hide hch
  have Ht := hide ht
  clear hww hwm hlk hch fw fm fs ht hwf
  go_enter Tryd.func6, Tryd.ntmps6
  go_wp2_with fail
  have hb0 := Blk.new w 46 #[.int .i64 size, .bool bold, .bool fixed]
  have hbel0 : Below w.heap.size w (w.alloc (.cells #[.int .i64 size, .bool bold, .bool fixed] 46)) := (Below.refl _ _).alloc (Nat.le_refl _) _
  generalize w.alloc (.cells #[.int .i64 size, .bool bold, .bool fixed] 46) = w0 at *
  refine (metrics_ok w0 (Ht.out.below hbel0)).mono ?_
  rintro e w1 ⟨rfl, hbel1⟩
  have hb1 := hb0.below hbel1 hb0.lt
  have hM := hb1.lt
  have hbelA := hbel0.trans (hbel1.mono hbel0.size)
  have Hr1 := hide (hr.below hbelA)
  have a0 : w1.cell? ⟨w.heap.size, 0, none⟩ = some (.int .i64 size) := hb1.cell 0
  have a1 : w1.cell? ⟨w.heap.size, 1, none⟩ = some (.bool bold) := hb1.cell 1
  have a2 : w1.cell? ⟨w.heap.size, 2, none⟩ = some (.bool fixed) := hb1.cell 2
  clear hb0 hbel0 hbel1 hr
  go_upto_region 3 with fail
  go_cut [0] (fun u wc => ∃ (A : Option Addr) (cp N : Nat) (zs : List Int), N ≤ 60 ∧ N = zs.length ∧ u = .slice A N cp ∧ N ≤ cp ∧ cp ≤ 9223372036854775807 ∧ RdI wc A zs ∧ (∀ j, 0 ≤ chv xs j ∧ chv xs j ≤ 1114111) ∧ (∀ j, j < N → ix zs j = chv xs j) ∧ Blk wc w.heap.size 46 #[.int .i64 s, .bool bold, .bool fixed] ∧ Below w.heap.size w wc)
  case first =>
    refine wp_region_sink (S := fun w' => w'.cell? ⟨w.heap.size, 0, none⟩ = some (.int .i64 size) ∧ w'.cell? ⟨w.heap.size, 1, none⟩ = some (.bool bold) ∧ w'.cell? ⟨w.heap.size, 2, none⟩ = some (.bool fixed)) 5 (by kernel_rfl) (by kernel_rfl) (by kernel_rfl) (by kernel_rfl) ?hSq (fun hHeld => ?_)
    case hSq => exact ⟨a0, a1, a2⟩
    simp only [List.take_succ_cons, List.take_zero]
    refine wpAnyH_take (i := 0) (v := ?vqn0) rfl (by kernel_rfl) (by kernel_rfl) (by kernel_rfl) (fun _ _ _ h => h) (Or.inl ⟨by rfl, ?hyqn0⟩) (by assumption) ?_
    case hyqn0 => (intro w hSw; (try dsimp only at hSw); go_simp; try with_reducible rfl)
    try simp only [Act.put]
    refine wpAnyH_take (i := 2) (v := ?vqn2) rfl (by kernel_rfl) (by kernel_rfl) (by kernel_rfl) (fun _ _ _ h => h) (Or.inl ⟨by rfl, ?hyqn2⟩) (by assumption) ?_
    case hyqn2 => (intro w hSw; (try dsimp only at hSw); go_simp; try with_reducible rfl)
    try simp only [Act.put]
    refine wpAnyH_ready (rs := [1]) (by kernel_rfl) (by simp) (AllReadyH.cons rfl (fun K hK => ?_) AllReadyH.nil)
    go_simp
    go_at_call 9
    refine (Hch.out _ (by exact Hr1.out)).mono ?_
    rintro e w8 ⟨A, cp, rfl, hown, hbel8⟩
    have hb8 : Blk w8 w.heap.size 46 #[.int .i64 size, .bool bold, .bool fixed] := Blk.below (w := w1.drew) hb1 hbel8 hM
    have k0 : w8.cell? ⟨w.heap.size, 0, none⟩ = some (.int .i64 size) := hb8.cell 0
    have k1 : w8.cell? ⟨w.heap.size, 1, none⟩ = some (.bool bold) := hb8.cell 1
    have k2 : w8.cell? ⟨w.heap.size, 2, none⟩ = some (.bool fixed) := hb8.cell 2
    have Hown := hide hown
    clear hown
    go_wp2_with fail
    refine hK.out _ _ ?hkqn1 (fun hHeld => ?_)
    case hkqn1 => exact ⟨k0, k1, k2⟩
    clear hK K
    try simp only [Act.put]
    refine wpAnyH_ready (rs := [3]) (by kernel_rfl) (by simp) (AllReadyH.cons rfl (fun K hK => ?_) AllReadyH.nil)
    go_simp
    go_at_call 18
    refine (Hlk.out _).mono ?_
    rintro e w2 ⟨rfl, hbel2⟩
    have hb2 := hb8.below hbel2 hb8.lt
    have z0 := hb2.frozen 0
    have z1 := hb2.frozen 1
    have z2 := hb2.frozen 2
    have c0 : w2.cell? ⟨w.heap.size, 0, none⟩ = some (.int .i64 size) := hb2.cell 0
    have c1 : w2.cell? ⟨w.heap.size, 1, none⟩ = some (.bool bold) := hb2.cell 1
    have c2 : w2.cell? ⟨w.heap.size, 2, none⟩ = some (.bool fixed) := hb2.cell 2
    go_wp2_with fail
    refine hK.out _ _ ?hkqn3 (fun hHeld => ?_)
    case hkqn3 => exact ⟨c0, c1, c2⟩
    clear hK K
    try simp only [Act.put]
    refine wpAnyH_take (i := 4) (v := ?vqn4) rfl (by kernel_rfl) (by kernel_rfl) (by kernel_rfl) (fun _ _ _ h => h) (Or.inl ⟨by rfl, ?hyqn4⟩) (by assumption) ?_
    case hyqn4 => (intro w hSw; (try dsimp only at hSw); go_simp; try with_reducible rfl)
    try simp only [Act.put]
    refine wpAnyH_done (by kernel_rfl) ?_ _
    refine sink_run rfl rfl ?_
    go_simp
    go_wp2_with fail
    go_meet
    have hlow : ∀ i, (⟨w.heap.size, i, none⟩ : Addr).block < w1.drew.heap.size := fun _ => hM
    have hown2 := own_setCell_low (own_setCell_low (own_setCell_low (own_below Hown.out hbel2) (hlow 0) (.int .i64 s)) (hlow 1) (.bool bold)) (hlow 2) (.bool fixed)
    have hcap := own_cap hown2
    rw [tabV_ints] at hown2
    refine ⟨A, cp, _, tab (min xs.length 60) (chv xs), by omega, (tab_length _ _).symm, rfl, hcap.1, hcap.2, RdI.of_own hown2, fun j => chv_bd xs j, fun j hj => tab_ix _ hj, ((hb2.set_ 0 _).set_ 1 _).set_ 2 _, ?_⟩
    have hbelB := (below_drewN hbelA 1).trans (hbel8.mono hbelA.size)
    exact (((hbelB.trans (hbel2.mono hbelB.size)).setCell (p := ⟨w.heap.size, 0, none⟩) (Nat.le_refl _) _).setCell (p := ⟨w.heap.size, 1, none⟩) (Nat.le_refl _) _).setCell (p := ⟨w.heap.size, 2, none⟩) (Nat.le_refl _) _
  case rest =>
    clear hb1 a0 a1 a2 hbelA hM Hr1
    obtain ⟨A, cp, N, zs, hN, hNl, rfl, hc1, hc2, hrz, hcb, hzv, hb, hbel⟩ := hcut
    have hzb : ∀ j, j < zs.length → 0 ≤ ix zs j ∧ ix zs j ≤ 1114111 := fun j hj => by rw [hzv j (by omega)]; exact hcb j
    have a0 : wc.cell? ⟨w.heap.size, 0, none⟩ = some (.int .i64 s) := hb.cell 0
    have a1 : wc.cell? ⟨w.heap.size, 1, none⟩ = some (.bool bold) := hb.cell 1
    have a2 : wc.cell? ⟨w.heap.size, 2, none⟩ = some (.bool fixed) := hb.cell 2
    have hfit := fun wx hrx htx wid' h0 h1 => Fit_ok A cp zs s wid' bold fixed wx htx hrx (by omega) hzb (by omega) (by omega) h0 h1
    have hwid := fun n wx hrx htx hn => Width_take A cp n zs s bold fixed wx htx hrx hn (by omega) hzb (by omega) (by omega)
    have hmono := fit_mono s bold fixed (ix zs) N (width := wd) bm.1 N
    have hfits := fit_fits s bold fixed (ix zs) N bw.1 N
    have hover := fun t => fit_over s bold fixed (ix zs) N (width := wd) (t := t)
    have hle := fitK_le s bold fixed (ix zs) N wd N
    rw [← hNl] at hfit
    have Hfit := hide hfit
    have Hwid := hide hwid
    have Hov := hide hover
    have Hzb := hide hzb
    have HNl := hide hNl
    have Hrz := hide hrz
    clear hfit hwid hover hzb hNl hzv hcb hrz
    go_wp2_with (first
      | (go_at_call 13; with_reducible refine (Ww.out _).mono ?_; rintro e w' ⟨rfl, rfl⟩)
      | (go_at_call 13; with_reducible refine (Wm.out _).mono ?_; rintro e w' ⟨rfl, rfl⟩))
    refine (Hfit.out _ Hrz.out (Ht.out.below hbel) _ bw.1 (by omega)).mono ?_
    rintro e w3 ⟨rfl, hbel3⟩
    have hb3 := hb.below hbel3 hb.lt
    have hbelB := hbel.trans (hbel3.mono hbel.size)
    have Hr3 := hide (Hrz.out.below hbel3)
    have a0 : w3.cell? ⟨w.heap.size, 0, none⟩ = some (.int .i64 s) := hb3.cell 0
    have a1 : w3.cell? ⟨w.heap.size, 1, none⟩ = some (.bool bold) := hb3.cell 1
    have a2 : w3.cell? ⟨w.heap.size, 2, none⟩ = some (.bool fixed) := hb3.cell 2
    clear hb hbel3 Hrz
    go_wp2_with fail
    refine (Hfit.out _ Hr3.out (Ht.out.below hbelB) _ (by omega) (by omega)).mono ?_
    rintro e w4 ⟨rfl, hbel4⟩
    have hb4 := hb3.below hbel4 hb3.lt
    have hbelC := hbelB.trans (hbel4.mono hbelB.size)
    have Hr4 := hide (Hr3.out.below hbel4)
    have a0 : w4.cell? ⟨w.heap.size, 0, none⟩ = some (.int .i64 s) := hb4.cell 0
    have a1 : w4.cell? ⟨w.heap.size, 1, none⟩ = some (.bool bold) := hb4.cell 1
    have a2 : w4.cell? ⟨w.heap.size, 2, none⟩ = some (.bool fixed) := hb4.cell 2
    have hM := hb4.lt
    generalize fitK s bold fixed (ix zs) N (wd + mo) N = m at *
    generalize hn : fitK s bold fixed (ix zs) N wd N = n at *
    have Hn := hide hn
    generalize hWn : wid s bold fixed (ix zs) n = Wn at *
    have HWn := hide hWn
    clear hb3 hbel hbelB hbel4 hn hWn Hr3
    have t1 : decide ((n : Int) < 0) = false := decide_eq_false (by omega)
    have t2 : decide ((N : Int) < (n : Int)) = false := decide_eq_false (by omega)
    have t3 : decide ((m : Int) < (n : Int)) = false := decide_eq_false (by omega)
    have hwn := fun wx hrx htx => Hwid.out n wx hrx htx (by have := HNl.out; omega)
    simp only [HWn.out] at hwn
    have Hwn := hide hwn
    clear hwn
    have t5 : decide (N < n) = false := decide_eq_false (by omega)
    have t6 : decide (m < n) = false := decide_eq_false (by omega)
    have t4 : decide (wd < Wn) = false := by simp; omega
    go_wp2_with fail
    have s1 : (0 : Int) ≤ (n : Int) := by omega
    have s2 : (n : Int) ≤ (cp : Int) := by omega
    have s3 : n ≤ cp := by omega
    go_region_held3 (fun w' => w'.cell? ⟨w.heap.size, 0, none⟩ = some (.int .i64 s) ∧ w'.cell? ⟨w.heap.size, 1, none⟩ = some (.bool bold) ∧ w'.cell? ⟨w.heap.size, 2, none⟩ = some (.bool fixed))
      (first
        | go_keep
        | exact ⟨(hbel8.cell (p := ⟨w.heap.size, 0, none⟩) hM).trans a0, (hbel8.cell (p := ⟨w.heap.size, 1, none⟩) hM).trans a1, (hbel8.cell (p := ⟨w.heap.size, 2, none⟩) hM).trans a2⟩)
      ((go_at_call 20; refine (Hwn.out _ (by exact Hr4.out) (by exact Ht.out.below (below_drewN hbelC 1))).mono ?_; rintro e w8 ⟨rfl, hbel8⟩))
    have hb8 : Blk w8 w.heap.size 46 #[.int .i64 s, .bool bold, .bool fixed] := Blk.below (w := w4.drew) hb4 hbel8 hM
    have hbelD := (below_drewN hbelC 1).trans (hbel8.mono hbelC.size)
    have Hr8 := hide (RdI.below (w := w4.drew) Hr4.out hbel8)
    clear a0 a1 a2 hb4 hbelC hbel8 Hr4 t1 t2 t3 t4 t5 t6 s1 s2 s3 hmono hM
    go_wp2_with fail
    go_loopw [17] (fun a wr => ∃ t : Nat, n + 1 ≤ t ∧ (t ≤ N ∨ t = n + 1) ∧ a = .int .i64 t ∧ Below w8.heap.size w8 wr) (fun a _ => N + 1 - (intOf a).toNat)
    case atStart => exact ⟨n + 1, by omega, .inr rfl, by go_num, Below.refl _ _⟩
    case round =>
      obtain ⟨t, ht1, ht2, rfl, hbl⟩ := hrel
      have hbr := hb8.below hbl hb8.lt
      have a0 : wr.cell? ⟨w.heap.size, 0, none⟩ = some (.int .i64 s) := hbr.cell 0
      have a1 : wr.cell? ⟨w.heap.size, 1, none⟩ = some (.bool bold) := hbr.cell 1
      have a2 : wr.cell? ⟨w.heap.size, 2, none⟩ = some (.bool fixed) := hbr.cell 2
      have hM := hbr.lt
      have hrr := Hr8.out.below hbl
      have hbelR := hbelD.trans (hbl.mono hbelD.size)
      by_cases hlt : t < N
      · obtain ⟨b, off, rfl, hc⟩ := hrr.at_ (show t < zs.length by have := HNl.out; omega)
        have hmk := mark_ok (ix zs t) wr (Ht.out.below hbelR).m
        have hov0 := Hov.out t ht1 (by omega)
        generalize Mtr.mark (ix zs t) = mk at *
        have Hmk := hide hmk
        have Hrr := hide hrr
        clear hmk hrr
        cases mk
        · have hov : Hid (wd < wid s bold fixed (ix zs) t) := hide (hov0 (.inr rfl))
          clear hov0
          have hne : ((n : Int) == (N : Int)) = false := by simp; omega
          have hne2 : ((n : Nat) == N) = false := by simp; omega
          go_wp2_with fail
          refine Hmk.out.mono ?_
          rintro e w9 ⟨rfl, hbel9⟩
          have hb9 := hbr.below hbel9 hbr.lt
          have Hr9 := hide (Hrr.out.below hbel9)
          have a0 : w9.cell? ⟨w.heap.size, 0, none⟩ = some (.int .i64 s) := hb9.cell 0
          have a1 : w9.cell? ⟨w.heap.size, 1, none⟩ = some (.bool bold) := hb9.cell 1
          have a2 : w9.cell? ⟨w.heap.size, 2, none⟩ = some (.bool fixed) := hb9.cell 2
          have hM9 := hb9.lt
          have hbelS := hbelR.trans (hbel9.mono hbelR.size)
          clear hbr hbel9
          go_wp2_with fail
          have s1 : (0 : Int) ≤ (t : Int) := by omega
          have s2 : (t : Int) ≤ (cp : Int) := by omega
          have s3 : t ≤ cp := by omega
          go_region_held3 (fun w' => w'.cell? ⟨w.heap.size, 0, none⟩ = some (.int .i64 s) ∧ w'.cell? ⟨w.heap.size, 1, none⟩ = some (.bool bold) ∧ w'.cell? ⟨w.heap.size, 2, none⟩ = some (.bool fixed))
            (first
              | go_keep
              | exact ⟨(hbel7.cell (p := ⟨w.heap.size, 0, none⟩) hM9).trans a0, (hbel7.cell (p := ⟨w.heap.size, 1, none⟩) hM9).trans a1, (hbel7.cell (p := ⟨w.heap.size, 2, none⟩) hM9).trans a2⟩)
            ((go_at_call 20; refine (Hwid.out t _ (by exact Hr9.out) (by exact Ht.out.below (below_drewN hbelS 1)) (by have := HNl.out; omega)).mono ?_; rintro e w7 ⟨rfl, hbel7⟩))
          have hov2 := hov.out
          go_wp2_with fail
          go_ret
          exact ⟨rfl, (below_drewN hbelS 1).trans (hbel7.mono hbelS.size)⟩
        · clear hov0
          go_wp2_with fail
          refine Hmk.out.mono ?_
          rintro e w9 ⟨rfl, hbel9⟩
          go_wp2_with fail
          go_roundw
          case rel => exact ⟨t + 1, by omega, .inl (by omega), by go_num, hbl.trans (hbel9.mono hbl.size)⟩
          case measure => simp [intOf]; omega
      · have hd : decide ((t : Int) < (N : Int)) = false := decide_eq_false (by omega)
        have hd2 : decide (t < N) = false := decide_eq_false hlt
        by_cases hnN : n = N
        · subst hnN
          go_wp2_with fail
          go_ret
          exact ⟨rfl, hbelR⟩
        · have htN : t = N := by omega
          subst htN
          have hne : ((n : Int) == (t : Int)) = false := by simp; omega
          have hne2 : ((n : Nat) == t) = false := by simp; omega
          have hov : Hid (wd < wid s bold fixed (ix zs) t) := hide (Hov.out t ht1 (Nat.le_refl _) (.inl rfl))
          have Hrr := hide hrr
          clear hrr
          go_wp2_with fail
          have s1 : (0 : Int) ≤ (t : Int) := by omega
          have s2 : (t : Int) ≤ (cp : Int) := by omega
          have s3 : t ≤ cp := by omega
          go_region_held3 (fun w' => w'.cell? ⟨w.heap.size, 0, none⟩ = some (.int .i64 s) ∧ w'.cell? ⟨w.heap.size, 1, none⟩ = some (.bool bold) ∧ w'.cell? ⟨w.heap.size, 2, none⟩ = some (.bool fixed))
            (first
              | go_keep
              | exact ⟨(hbel7.cell (p := ⟨w.heap.size, 0, none⟩) hM).trans a0, (hbel7.cell (p := ⟨w.heap.size, 1, none⟩) hM).trans a1, (hbel7.cell (p := ⟨w.heap.size, 2, none⟩) hM).trans a2⟩)
            ((go_at_call 20; refine (Hwid.out t _ (by exact Hrr.out) (by exact Ht.out.below (below_drewN hbelR 1)) (by have := HNl.out; omega)).mono ?_; rintro e w7 ⟨rfl, hbel7⟩))
          have hov2 := hov.out
          go_wp2_with fail
          go_ret
          exact ⟨rfl, (below_drewN hbelR 1).trans (hbel7.mono hbelR.size)⟩

theorem walked : WalkedL Tryd.checked.prog 6 Tryd.f6 [("chancery/metric.marks", Rows.laid_chancery_metric_marks), ("chancery/metric.others", Rows.laid_chancery_metric_others)] := by
  intro H enc W args ds ps hval hA hL
  have ht : Tabs W := tabs_of ⟨_, _, _, rfl, rfl, rfl⟩ (by kernel_rfl) hL
  rw [Tryd.params6] at hA hval
  obtain ⟨v0, v1, v2, v3, d0, d1, d2, d3, p0, p1, p2, p3, hargs, rfl, _, h0, h1, h2, h3⟩ := trodAll_four hA
  obtain rfl : args = #[v0, v1, v2, v3] := by cases args; simp_all
  obtain ⟨A, c, zs, rfl, hr, hl, hwf⟩ := ints_arg Tryd.underlying22 Tryd.underlying3 (by kernel_rfl) (hval 0 _ _ rfl rfl) h0
  obtain ⟨c0, c1, c2, y0, y1, y2, m, rfl, rfl, rfl, hy0, hy1, hy2⟩ := Go.Joins.open_agg3 Tryd.underlying46 (by kernel_rfl) (by kernel_rfl) (hval 1 _ _ rfl rfl) h1
  obtain ⟨s, e0, rfl, ws⟩ := DataW.trod_int Tryd.underlying3 hy0
  obtain ⟨b, e1, rfl⟩ := DataW.trod_bool Tryd.underlying4 hy1
  obtain ⟨f, e2, rfl⟩ := DataW.trod_bool Tryd.underlying4 hy2
  simp at e0 e1 e2
  subst e0 e1 e2
  obtain ⟨x, rfl, _, _, wx⟩ := open_int Tryd.underlying3 (hval 2 _ _ rfl rfl) h2
  obtain ⟨y, rfl, _, _, wy⟩ := open_int Tryd.underlying3 (hval 3 _ _ rfl rfl) h3
  exact walk A c zs s x y b f W ht hr hl hwf ws wx wy

def laidL : List (String × DataW Unit) := [("chancery/metric.marks", Rows.laid_chancery_metric_marks), ("chancery/metric.others", Rows.laid_chancery_metric_others)]
theorem door_met (os : Os) (args : Array Value) : laidMetH Tryd.prog laidL ((World.doorLaid Tryd.prog 400 os).forCall (fun _ _ => 0) ⟨#[], args, []⟩).memory :=
  laidMetH_of_parts3 (fuel := 8) (laidMet_of_run' 8 (by kernel_rfl) (by kernel_rfl)) (by kernel_rfl) (by kernel_rfl)

set_option maxRecDepth 100000 in
theorem lifted (os : Os) (started : os.Started) (H : Type) (enc : TypeId × Value → H) :
    ReturnsInHanded {} Tryd.checked os 6 .any (fun w args => (Rows.metricFitNarrowsSpec.pre enc Tryd.prog Tryd.f6 [] false w args ∧ laidMetH Tryd.prog laidL w) ∧ sizedMet enc Tryd.prog Tryd.f6 (OpenSpec.ofChange Rows.metricFitNarrowsSpec) false w args) (Rows.metricFitNarrowsSpec.post enc Tryd.prog Tryd.f6 false true false false) :=
  law_lift_laid (C := Tryd.checked) (tb := 4) (laid := laidL) (by kernel_rfl) started (by kernel_rfl) Tryd.func6 rfl
    (fun ds h => match ds, h with | [_, _, _, _], _ => rfl) rfl Tryd.underlying4 (by kernel_rfl) (by kernel_rfl)
    (ChangeSpec.witness_shaped (enc := enc) (C := Tryd.checked) (os := os) (X := fun w _ => laidMetH Tryd.prog laidL w) false (World.doorLaid Tryd.prog 400 os) #[.slice none 0 0, .agg #[.int .i64 0, .bool false, .bool false], .int .i64 0, .int .i64 0] 8 rfl (World.shaped_of_RefB (by kernel_rfl) (by kernel_rfl)) (by kernel_rfl) (by kernel_rfl) (by kernel_rfl) (door_met os _))
    walked

theorem said : Rows.MetricFitNarrowsSaid :=
  OpenClaim.holds_of_wide 6 Tryd.f6 rfl rfl rfl rfl rfl rfl rfl ⟨rfl, rfl, rfl, rfl, rfl⟩ rfl rfl rfl rfl rfl (by kernel_rfl) Tryd.func6 (by kernel_rfl)
    (of_decide_eq_true (by kernel_rfl)) (by unfold Func.isWrapper; first | (rw [if_pos (by decide +kernel)]; kernel_rfl) | (rw [if_neg (by decide +kernel)]; exact ⟨rfl, rfl⟩))
    (fun os started H enc _ => lifted os started H enc)

/-- THE STATEMENT: the tied card -/
theorem proved : Rows.MetricFitNarrowsCardSaid :=
  Claim7.holds_tied_plain_at .later [] [.widerDeep, .widerDeep] true (true, "615198ff36b7c7e435cabbe38a7256887dfbc5d265756060a0dddb598d2df81c") false
    said (fun _ h => by cases h) (by kernel_rfl) (fun _ h => by cases h) metricFitNarrows_row_tie rfl ⟨rfl, rfl⟩ (by kernel_rfl) rfl
    (fun f fn hf hfn => by
      obtain rfl : f = 6 := Option.some.inj ((show Tryd.prog.funcNamed "chancery/chancerykeep3.MetricFitNarrows" = some 6 by kernel_rfl).symm.trans hf) |>.symm
      obtain rfl : fn = Tryd.f6 := (Option.some.inj (Tryd.func6.symm.trans hfn)).symm
      exact ⟨by kernel_rfl, fun j t ht => by
        have hm : t ∈ Tryd.f6.params.toList := by simpa using Array.mem_of_getElem? ht
        have hall : (Tryd.f6.params.toList.all fun u => !Tryd.prog.wantsStandIn u) = true := by kernel_rfl
        exact (show Tryd.prog.wantsStandIn t = false by simpa using List.all_eq_true.1 hall t hm)⟩)
    (by kernel_rfl)
#print axioms proved
end Go.Proofs.YtdhhkcboejhoaaaDoor.MetricFitNarrowsDone
