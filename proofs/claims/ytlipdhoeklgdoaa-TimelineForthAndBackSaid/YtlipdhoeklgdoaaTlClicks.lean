/- The contract of timeline.Clicks. -/
import Derived.Test.YtlipdhoeklgdoaaTlTimes
import Derived.Test.YtlipdhoeklgdoaaSink
namespace Go.Proofs.Ytlipdhoeklgdoaa.Tl
open Go.RowKit Go.Frm

/-- how long the effects of a click take, of the first i ones -/
def cm (F : Nat → Nat → Int) (c : Int) : Nat → Int
  | 0 => 0
  | i + 1 => if ck F (i + 1) = c then max (cm F c i) (til F i) else cm F c i
theorem cm_bd {F : Nat → Nat → Int} {n : Nat} (h : VF F n) (c : Int) : ∀ i, i ≤ n → 0 ≤ cm F c i ∧ cm F c i ≤ 13000
  | 0, _ => by simp [cm]
  | i + 1, hi => by
    have ih := cm_bd h c i (by omega)
    have h1 := frm_bd h (show i < n by omega)
    simp only [cm]
    split <;> omega
theorem cm_none {F : Nat → Nat → Int} {c : Int} : ∀ i, ck F i < c → cm F c i = 0
  | 0, _ => rfl
  | i + 1, h => by
    have h1 := ck_mono F i
    simp only [cm]
    rw [if_neg (by omega)]
    exact cm_none i (by omega)
theorem til_le_cm {F : Nat → Nat → Int} : ∀ (n i : Nat), i < n → til F i ≤ cm F (ck F (i + 1)) n
  | 0, _, h => by omega
  | n + 1, i, h => by
    simp only [cm]
    by_cases hi : i = n
    · subst hi
      rw [if_pos rfl]
      omega
    · have ih := til_le_cm (F := F) n i (by omega)
      split <;> omega
/-- how many there are -/
def cN (F : Nat → Nat → Int) (i : Nat) : Nat := (ck F i).toNat + 1
def ClPost (n : Nat) (F : Nat → Nat → Int) (w : World) (e : Ending) (w' : World) : Prop :=
  ∃ A' c', e = .returned (.tuple #[.slice A' (cN F n) c', .int .i64 0]) ∧ w'.ownsRow w.heap.size 3 1 (.slice A' (cN F n) c') (cN F n) (tabV (cN F n) (fun a => .int .i64 (cm F a n))) ∧ Below w.heap.size w w'
theorem int_info : (Try.prog.info? 3).map (fun i => (i.zero, i.size, i.bytes)) = some (some (.int .i64 0), 1, 8) := by kernel_rfl
def tmC (F : Nat → Nat → Int) (i : Nat) : Array Value := #[.int .i64 (ck F (i + 1)), .int .i64 (frm F i), .int .i64 (til F i)]

theorem own_froz' {w : World} {base g n c size : Nat} {e : TypeId} {xs : List Value} (h : w.ownsRow base e size (.slice (some ⟨g, 0, none⟩) n c) n xs) (j : Nat) : w.frozen? ⟨g, j, none⟩ = false := by
  rcases h.2 with ⟨h1, _⟩ | ⟨g', cap, cur, h1, _, h2, _⟩
  · cases h1
  · have hg : g = g' := by injection h1 with h1; injection h1 with h1; injection h1
    subst hg
    simp [World.frozen?, h2]
theorem blk_ne' {w : World} {base g g' n c size : Nat} {t e : TypeId} {cs : Array Value} {xs : List Value} (hb : Blk w g' t cs) (h : w.ownsRow base e size (.slice (some ⟨g, 0, none⟩) n c) n xs) (hne : t ≠ e) : g' ≠ g := by
  rcases h.2 with ⟨h1, _⟩ | ⟨g1, cap, cur, h1, _, h2, _⟩
  · cases h1
  · have hg : g = g1 := by injection h1 with h1; injection h1 with h1; injection h1
    subst hg
    rintro rfl
    unfold Blk at hb
    rw [hb] at h2
    injection h2 with h2
    injection h2 with _ h3
    exact hne h3
theorem clicks_row {F : Nat → Nat → Int} {i K : Nat} (hK : ck F (i + 1) = (K : Int)) : tabV (K + 1) (upd (fun a => Value.int .i64 (cm F a i)) K (.int .i64 (if cm F (K : Int) i < til F i then til F i else cm F (K : Int) i))) = tabV (K + 1) (fun a => Value.int .i64 (cm F a (i + 1))) := by
  refine tabV_congr (fun a ha => ?_)
  by_cases hak : a = K
  · subst hak
    rw [upd_same]
    refine val_int ?_
    simp only [cm]
    rw [if_pos hK]
    split <;> omega
  · rw [upd_other _ _ hak]
    refine val_int ?_
    simp only [cm]
    rw [if_neg (by omega)]
def lenOf : Value → Nat
  | .slice _ n _ => n
  | _ => 0
set_option maxRecDepth 100000 in
set_option maxHeartbeats 4000000 in
theorem clicks_ok (A : Option Addr) (n c : Nat) (F : Nat → Nat → Int) (w : World) (hv : VF F n) (hr : RdF w A n 7 (efV F)) :
    Calls Try.prog 14 #[.slice A n c] w (ClPost n F w) := by
  have hn := hv.few
  have hch := check_ok A n c F w hv hr
  have htm := hide (fun wx (hx : Below w.heap.size w wx) => times_ok A n c F wx hv (hr.below hx))
  have Hv := hide hv
  clear hv
  go_enter Try.func14, Try.ntmps14
  go_wp2_with fail
  refine hch.mono ?_
  rintro e w1 ⟨rfl, hb1⟩
  clear hch
  have hb1a := hb1.alloc hb1.size (.cells #[.int .i64 0] 3)
  have hown1 := World.ownsRow_lit (base := w.heap.size) (e := 3) (size := 1) w1 #[.int .i64 0] 1 hb1.size (by decide) rfl
  go_wp2_with fail
  refine (htm.out _ hb1a).mono ?_
  rintro e w2 ⟨A2, c2, rfl, hown2, hb2⟩
  have hbl2 := hb1a.trans (hb2.mono hb1a.size)
  have hown1' := own_below hown1 hb2
  have hown2' := ownsRow_less hown2 hb1a.size
  clear htm hb1a hown1 hb1 hown2 hb2
  have hrow0 : tabV 1 (fun a => Value.int .i64 (cm F a 0)) = [.int .i64 0] := rfl
  go_wp2_with fail
  go_loopw [5, 17] (fun o s wr => ∃ (i : Nat) (Ac : Option Addr) (cc : Nat), i ≤ n ∧ s = .int .i64 i ∧ o = .slice Ac (cN F i) cc ∧ wr.ownsRow w.heap.size 3 1 (.slice Ac (cN F i) cc) (cN F i) (tabV (cN F i) (fun a => .int .i64 (cm F a i))) ∧
    wr.ownsRow w.heap.size 51 3 (.slice A2 n c2) n (rowF n 3 (tmV F)) ∧ Below w.heap.size w wr) (fun _ s _ => n - (intOf s).toNat)
  case atStart => exact ⟨0, some ⟨w1.heap.size, 0, none⟩, 1, by omega, rfl, rfl, by rw [show cN F 0 = 1 from rfl, hrow0]; exact hown1', hown2', hbl2⟩
  case round =>
    clear hown1' hown2' hbl2 hrow0 w2
    obtain ⟨i, Ac, cc, hin, rfl, rfl, ho, ht, hbl⟩ := hrel
    by_cases hlt : i < n
    · obtain ⟨b2, o2, rfl, hc⟩ := (RdF.of_own ht).at_ hlt
      have t0 : wr.cell? ⟨b2, o2 + i * 3, none⟩ = some (.int .i64 (ck F (i + 1))) := hc 0 (by omega)
      have t1 : wr.cell? ⟨b2, o2 + i * 3 + 1, none⟩ = some (.int .i64 (frm F i)) := hc 1 (by omega)
      have t2 : wr.cell? ⟨b2, o2 + i * 3 + 2, none⟩ = some (.int .i64 (til F i)) := hc 2 (by omega)
      clear hc
      obtain ⟨z0, z1, z2⟩ := frm_bd Hv.out hlt
      have hck := ck_bd F i
      have hck1 := ck_bd F (i + 1)
      have hmo := ck_mono F i
      have hst : ck F (i + 1) ≤ ck F i + 1 := by
        show (if F i 2 = 0 then ck F i + 1 else ck F i) ≤ ck F i + 1
        split <;> omega
      obtain ⟨K, hK⟩ : ∃ K : Nat, ck F (i + 1) = (K : Int) := ⟨(ck F (i + 1)).toNat, by omega⟩
      have hcN1 : cN F (i + 1) = K + 1 := by unfold cN; omega
      have hcN0 : cN F i ≤ K + 1 ∧ K ≤ cN F i := by unfold cN; omega
      have hlow : ck F i < (cN F i : Int) := by unfold cN; omega
      have HK := hide hK
      have HcN1 := hide hcN1
      rw [hK] at t0
      have ho7 := ho.alloc (.cells #[.int .i64 (K : Int), .int .i64 (frm F i), .int .i64 (til F i)] 51)
      have ht7 := ht.alloc (.cells #[.int .i64 (K : Int), .int .i64 (frm F i), .int .i64 (til F i)] 51)
      have hb7 := hbl.alloc hbl.size (.cells #[.int .i64 (K : Int), .int .i64 (frm F i), .int .i64 (til F i)] 51)
      have b7 := Blk.new wr 51 #[.int .i64 (K : Int), .int .i64 (frm F i), .int .i64 (til F i)]
      have hK13 : K ≤ 13 := by omega
      clear ho ht hbl hK hcN1 hck hck1 hmo hst
      generalize hm : cN F i = m at *
      have Hm := hide hm
      clear hm
      have hlow' := hide hlow
      clear hlow
      go_upto_region 8 with fail
      clear t0 t1 t2
      generalize wr.alloc (.cells #[.int .i64 (K : Int), .int .i64 (frm F i), .int .i64 (til F i)] 51) = w0 at *
      generalize wr.heap.size = g at *
      have hgsz := hb7.size
      go_loopw [5] (fun o wx => ∃ (q : Nat) (Aq : Option Addr) (cq : Nat), m ≤ q ∧ q ≤ K + 1 ∧ o = .slice Aq q cq ∧ wx.ownsRow w.heap.size 3 1 (.slice Aq q cq) q (tabV q (fun a => .int .i64 (cm F a i))) ∧
        wx.ownsRow w.heap.size 51 3 (.slice (some ⟨b2, o2, none⟩) n c2) n (rowF n 3 (tmV F)) ∧ Blk wx g 51 #[.int .i64 (K : Int), .int .i64 (frm F i), .int .i64 (til F i)] ∧ Below w.heap.size w wx) (fun o _ => K + 1 - lenOf o)
      case atStart => exact ⟨m, Ac, cc, Nat.le_refl _, hcN0.1, rfl, ho7, ht7, b7, hb7⟩
      case round =>
        clear ho7 ht7 b7 hb7
        obtain ⟨q, Aq, cq, hq0, hq1, rfl, ho, ht, bg, hbl⟩ := hrel
        have n0 : wr.cell? ⟨g, 0, none⟩ = some (.int .i64 (K : Int)) := bg.cell 0
        have n2 : wr.cell? ⟨g, 2, none⟩ = some (.int .i64 (til F i)) := bg.cell 2
        by_cases hqk : q = K + 1
        · subst hqk
          have dq : decide (((K + 1 : Nat) : Int) ≤ (K : Int)) = false := by simp; omega
          obtain ⟨gc, rfl, hgc⟩ := own_at ho (by omega)
          have nk : wr.cell? ⟨gc, K, none⟩ = some (.int .i64 (cm F (K : Int) i)) := own_cell ho (by omega)
          obtain ⟨e0, e1⟩ := cm_bd Hv.out (K : Int) i hin
          have hgg := blk_ne' bg ho (by decide)
          have zf := own_froz' ho K
          have s0 : (0 : Int) ≤ (K : Int) := by omega
          have s1 : (K : Int) < ((K + 1 : Nat) : Int) := by omega
          go_upto_region 10 with fail
          refine wp_region_sink (S := fun w' => w'.cell? ⟨g, 0, none⟩ = some (.int .i64 (K : Int)) ∧ w'.cell? ⟨g, 2, none⟩ = some (.int .i64 (til F i)) ∧ w'.cell? ⟨gc, K, none⟩ = some (.int .i64 (cm F (K : Int) i))) 12 (by kernel_rfl) (by kernel_rfl) (by kernel_rfl) (by kernel_rfl) ?hSA (fun hHeld => ?_)
          case hSA => exact ⟨n0, n2, nk⟩
          simp only [List.take_succ_cons, List.take_zero]
          refine wpAnyH_take (i := 0) (v := ?vAn0) rfl (by kernel_rfl) (by kernel_rfl) (by kernel_rfl) (fun _ _ _ h => h) (Or.inl ⟨by rfl, ?hyAn0⟩) (by assumption) ?_
          case hyAn0 => (intro w hSw; (try dsimp only at hSw); go_simp; try with_reducible rfl)
          try simp only [Act.put]
          refine wpAnyH_take (i := 1) (v := ?vAn1) rfl (by kernel_rfl) (by kernel_rfl) (by kernel_rfl) (fun _ _ _ h => h) (Or.inl ⟨by rfl, ?hyAn1⟩) (by assumption) ?_
          case hyAn1 => (intro w hSw; (try dsimp only at hSw); go_simp; try with_reducible rfl)
          try simp only [Act.put]
          refine wpAnyH_take (i := 2) (v := ?vAn2) rfl (by kernel_rfl) (by kernel_rfl) (by kernel_rfl) (fun _ _ _ h => h) (Or.inl ⟨by rfl, ?hyAn2⟩) (by assumption) ?_
          case hyAn2 => (intro w hSw; (try dsimp only at hSw); go_simp; try with_reducible rfl)
          try simp only [Act.put]
          refine wpAnyH_take (i := 3) (v := ?vAn3) rfl (by kernel_rfl) (by kernel_rfl) (by kernel_rfl) (fun _ _ _ h => h) (Or.inl ⟨by rfl, ?hyAn3⟩) (by assumption) ?_
          case hyAn3 => (intro w hSw; (try dsimp only at hSw); go_simp; try with_reducible rfl)
          try simp only [Act.put]
          refine wpAnyH_take (i := 4) (v := ?vAn4) rfl (by kernel_rfl) (by kernel_rfl) (by kernel_rfl) (fun _ _ _ h => h) (Or.inl ⟨by rfl, ?hyAn4⟩) (by assumption) ?_
          case hyAn4 => (intro w hSw; (try dsimp only at hSw); go_simp; try with_reducible rfl)
          try simp only [Act.put]
          refine wpAnyH_take (i := 5) (v := ?vAn5) rfl (by kernel_rfl) (by kernel_rfl) (by kernel_rfl) (fun _ _ _ h => h) (Or.inl ⟨by rfl, ?hyAn5⟩) (by assumption) ?_
          case hyAn5 => (intro w hSw; (try dsimp only at hSw); go_simp; try with_reducible rfl)
          try simp only [Act.put]
          refine wpAnyH_take (i := 6) (v := ?vAn6) rfl (by kernel_rfl) (by kernel_rfl) (by kernel_rfl) (fun _ _ _ h => h) (Or.inl ⟨by rfl, ?hyAn6⟩) (by assumption) ?_
          case hyAn6 => (intro w hSw; (try dsimp only at hSw); go_simp; try with_reducible rfl)
          try simp only [Act.put]
          refine wpAnyH_take (i := 7) (v := ?vAn7) rfl (by kernel_rfl) (by kernel_rfl) (by kernel_rfl) (fun _ _ _ h => h) (Or.inl ⟨by rfl, ?hyAn7⟩) (by assumption) ?_
          case hyAn7 => (intro w hSw; (try dsimp only at hSw); go_simp; try with_reducible rfl)
          try simp only [Act.put]
          refine wpAnyH_take (i := 8) (v := ?vAn8) rfl (by kernel_rfl) (by kernel_rfl) (by kernel_rfl) (fun _ _ _ h => h) (Or.inl ⟨by rfl, ?hyAn8⟩) (by assumption) ?_
          case hyAn8 => (intro w hSw; (try dsimp only at hSw); go_simp; try with_reducible rfl)
          try simp only [Act.put]
          refine wpAnyH_take (i := 9) (v := ?vAn9) rfl (by kernel_rfl) (by kernel_rfl) (by kernel_rfl) (fun _ _ _ h => h) (Or.inl ⟨by rfl, ?hyAn9⟩) (by assumption) ?_
          case hyAn9 => (intro w hSw; (try dsimp only at hSw); go_simp; try with_reducible rfl)
          try simp only [Act.put]
          refine wpAnyH_take (i := 10) (v := ?vAn10) rfl (by kernel_rfl) (by kernel_rfl) (by kernel_rfl) (fun _ _ _ h => h) (Or.inl ⟨by rfl, ?hyAn10⟩) (by assumption) ?_
          case hyAn10 => (intro w hSw; (try dsimp only at hSw); go_simp; try with_reducible rfl)
          try simp only [Act.put]
          refine wpAnyH_take (i := 11) (v := ?vAn11) rfl (by kernel_rfl) (by kernel_rfl) (by kernel_rfl) (fun _ _ _ h => h) (Or.inl ⟨by rfl, ?hyAn11⟩) (by assumption) ?_
          case hyAn11 => (intro w hSw; (try dsimp only at hSw); go_simp; try with_reducible rfl)
          try simp only [Act.put]
          refine wpAnyH_done (by kernel_rfl) ?_ _
          refine sink_run rfl rfl ?_
          go_simp

          go_wp2_with fail
          go_roundw
          case rel =>
            have hst := own_store ho K (.int .i64 (if cm F (K : Int) i < til F i then til F i else cm F (K : Int) i))
            rw [clicks_row HK.out] at hst
            exact ⟨i + 1, some ⟨gc, 0, none⟩, cq, by omega, by go_num, by rw [HcN1.out], by rw [HcN1.out]; exact hst.drew, (own_far ht ho (by decide) K _).drew, below_drewN (hbl.setCell (p := ⟨gc, K, none⟩) hgc _) 1⟩
          case measure => simp [intOf]; omega
        · obtain rfl : q = K := by omega
          have hz : cm F (q : Int) i = 0 := cm_none i (by have := hlow'.out; omega)
          have ho5 := ho.alloc (.cells #[.int .i64 0] 3)
          have ht5 := ht.alloc (.cells #[.int .i64 0] 3)
          have hb5 := hbl.alloc hbl.size (.cells #[.int .i64 0] 3)
          have bg5 := bg.alloc (.cells #[.int .i64 0] 3)
          have hng : some g ≠ (Value.slice Aq q cq).ownBlock := fun hh => by
            rcases ho.2 with ⟨h1, _⟩ | ⟨g1, cap, cur, h1, _, h2, _⟩
            · rw [h1] at hh; cases hh
            · rw [h1] at hh
              have e1 : g = g1 := by injection hh
              subst e1
              unfold Blk at bg
              rw [bg] at h2
              injection h2 with h2
              injection h2 with _ h3
              exact absurd h3 (by decide)
          have hnt := own_ne ht5 ho5 (by decide)
          have Hz := hide hz
          have hq13 : q ≤ 13 := hK13
          clear hz
          go_wp2_with (at_builtin; refine wpL_append (size := 1) rfl rfl Try.underlying22 int_info rfl (by decide) rfl rfl ho5 (news_at _ _ _ _ rfl) rfl (by simp [Value.oneCell']) (by omega) (by omega) (by have := hb5.size; omega) ?_; intro v1 w6 hown6 hgrow6)
          obtain ⟨A6, c6, rfl⟩ := own_form hown6
          refine ⟨⟨q + 1, A6, c6, by omega, by omega, rfl, ?_, ht5.kept hgrow6 hnt, bg5.grown hgrow6 hng, below_app hb5 hb5.size ho5 hgrow6⟩, ?_⟩
          · rw [tabV_succ, Hz.out]
            exact hown6
          · simp only [lenOf]; omega
    · obtain rfl : i = n := by omega
      go_wp2_with fail
      go_ret2
      exact ⟨Ac, cc, rfl, ho, hbl⟩
end Go.Proofs.Ytlipdhoeklgdoaa.Tl
