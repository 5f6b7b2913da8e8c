/- The contract of metric.Fit. -/
import Derived.Test.YtdhhkcboejhoaaaDoorMetricFit
namespace Go.Proofs.YtdhhkcboejhoaaaDoor.Mtr
open Go.RowKit Go.Frm Wi

set_option maxRecDepth 100000 in
set_option maxHeartbeats 4000000 in
theorem Fit_ok (A : Option Addr) (c : Nat) (zs : List Int) (size width : Int) (bold fixed : Bool) (w : World) (ht : Tabs w) (hr : RdI w A zs) (hl : zs.length ≤ 100000) (hv : ∀ j, j < zs.length → 0 ≤ ix zs j ∧ ix zs j ≤ 1114111) (h0 : 40 ≤ size) (h1 : size ≤ 4000) (w0' : 0 ≤ width) (w1' : width ≤ 1000000000) :
    Calls Tryd.prog 19 #[.slice A zs.length c, .agg #[.int .i64 size, .bool bold, .bool fixed], .int .i64 width] w fun e w' =>
      e = .returned (.tuple #[.int .i64 ((fitK size bold fixed (ix zs) zs.length width zs.length : Nat) : Int), .int .i64 (wid size bold fixed (ix zs) (fitK size bold fixed (ix zs) zs.length width zs.length)), .int .i64 0]) ∧ Below w.heap.size w w' := by
  have Hv := hide hv
  have Ht := hide ht
  clear hv ht
  have hb0 := Blk.new w 46 #[.int .i64 size, .bool bold, .bool fixed]
  have hbel0 : Below w.heap.size w (w.alloc (.cells #[.int .i64 size, .bool bold, .bool fixed] 46)) := (Below.refl _ _).alloc (Nat.le_refl _) _
  go_enter Tryd.func19, Tryd.ntmps19
  go_wp2_with fail
  generalize w.alloc (.cells #[.int .i64 size, .bool bold, .bool fixed] 46) = w0 at *
  refine (check_ok size bold fixed w0 h0 h1).mono ?_
  rintro e w1 ⟨rfl, hbel1⟩
  have hb1 := hb0.below hbel1 hb0.lt
  have hbelA := hbel0.trans (hbel1.mono hbel0.size)
  have t1 : decide (width < 0) = false := by simp; omega
  have t2 : decide (1073741824 < width) = false := by simp; omega
  clear hbel0 hbel1 hb0
  go_wp2_with fail
  refine (checkText_ok A c zs w1 (hr.below hbelA) hl Hv.out).mono ?_
  rintro e w2 ⟨rfl, rfl⟩
  go_wp2_with fail
  clear t1 t2
  go_loopw [11, 12, 13, 34] (fun n v a i wr => ∃ k : Nat, k ≤ zs.length ∧ i = .int .i64 k ∧ n = .int .i64 ((fitK size bold fixed (ix zs) zs.length width k : Nat) : Int) ∧ v = .int .i64 (wid size bold fixed (ix zs) (fitK size bold fixed (ix zs) zs.length width k)) ∧ a = .int .i64 (wid size bold fixed (ix zs) k) ∧ Below w1.heap.size w1 wr) (fun _ _ _ i _ => zs.length - (intOf i).toNat)
  case atStart => exact ⟨0, by omega, rfl, rfl, rfl, rfl, Below.refl _ _⟩
  case round =>
    obtain ⟨k, hk, rfl, rfl, rfl, rfl, hbl⟩ := hrel
    have hbd := wid_bd bold fixed (ix zs) h0 h1 k
    have hbr := hb1.below hbl hb1.lt
    by_cases hlt : k < zs.length
    · have c0 : wr.cell? ⟨w.heap.size, 0, none⟩ = some (.int .i64 size) := hbr.cell 0
      have c1 : wr.cell? ⟨w.heap.size, 1, none⟩ = some (.bool bold) := hbr.cell 1
      have c2 : wr.cell? ⟨w.heap.size, 2, none⟩ = some (.bool fixed) := hbr.cell 2
      have hrr := hr.below (hbelA.trans (hbl.mono hbelA.size))
      obtain ⟨b, off, rfl, hc⟩ := hrr.at_ hlt
      have hav := adv_bd bold fixed (ix zs k) h0 h1
      have hkn := krn_bd fixed (ix zs (k - 1)) (ix zs k) h0 h1
      have hs : wid size bold fixed (ix zs) (k + 1) = wid size bold fixed (ix zs) k + adv size bold fixed (ix zs k) + (if k = 0 then 0 else krn size fixed (ix zs (k - 1)) (ix zs k)) := rfl
      have had := fun wx htx => advance_ok (ix zs k) size bold fixed wx htx h0 h1
      have htr := Ht.out.below (hbelA.trans (hbl.mono hbelA.size))
      have hfs : fitK size bold fixed (ix zs) zs.length width (k + 1) = if k + 1 < zs.length ∧ mark (ix zs (k + 1)) = true then fitK size bold fixed (ix zs) zs.length width k else if wid size bold fixed (ix zs) (k + 1) ≤ width then k + 1 else fitK size bold fixed (ix zs) zs.length width k := rfl
      have hgo : ∀ F1 : Nat, F1 = fitK size bold fixed (ix zs) zs.length width (k + 1) → (F1 = fitK size bold fixed (ix zs) zs.length width k ∨ F1 = k + 1) := fun F1 h => by
        rw [h, hfs]
        split
        · exact .inl rfl
        · split
          · exact .inr rfl
          · exact .inl rfl
      have hF0 := fitK_le size bold fixed (ix zs) zs.length width k
      generalize hW1 : wid size bold fixed (ix zs) (k + 1) = W1 at *
      generalize hF1 : fitK size bold fixed (ix zs) zs.length width (k + 1) = F1 at *
      generalize fitK size bold fixed (ix zs) zs.length width k = F0 at *
      generalize hWF : wid size bold fixed (ix zs) F0 = WF at *
      generalize wid size bold fixed (ix zs) k = W0 at *
      generalize adv size bold fixed (ix zs k) = av at *
      have HW1 := hide hW1
      have HF1 := hide hF1
      have HWF := hide hWF
      have Had := hide had
      have Htr := hide htr
      have Hfs := hide hfs
      have Hs := hide hs
      have hWb : -(100001 * 6000 : Int) ≤ W1 ∧ W1 ≤ 100001 * 6000 := by
        have := wid_bd bold fixed (ix zs) h0 h1 (k + 1)
        rw [hW1] at this
        omega
      clear hW1 had htr hfs hF1 hgo hs hWF
      go_wp2_with fail
      refine (Had.out _ Htr.out).mono ?_
      rintro e w3 ⟨rfl, hbel3⟩
      have hb3 := hbr.below hbel3 hbr.lt
      have d0 : w3.cell? ⟨w.heap.size, 0, none⟩ = some (.int .i64 size) := hb3.cell 0
      have d1 : w3.cell? ⟨w.heap.size, 1, none⟩ = some (.bool bold) := hb3.cell 1
      have d2 : w3.cell? ⟨w.heap.size, 2, none⟩ = some (.bool fixed) := hb3.cell 2
      have hr3 := hrr.below hbel3
      have lb := hb3.lt
      clear c0 c1 c2 hc
      go_upto_if 45 with fail
      go_cut [13] (fun v wc => v = .int .i64 W1 ∧ Below w3.heap.size w3 wc)
      case first =>
        by_cases hk0 : k = 0
        · have hs := Hs.out
          rw [if_pos hk0] at hs
          have HH : Hid (W1 = W0 + av) := by rw [hs]; exact Int.add_zero _
          subst hk0
          clear hs
          go_wp2_with fail
          go_meet
          exact ⟨val_int HH.out.symm, Below.refl _ _⟩
        · have hs := Hs.out
          rw [if_neg hk0] at hs
          have hd0 : (0 : Int) < (k : Int) := by omega
          have hkn0 := fun wx => kern_ok (ix zs (k - 1)) (ix zs k) size bold fixed wx h0 h1
          generalize krn size fixed (ix zs (k - 1)) (ix zs k) = kn at *
          have HH : Hid (W1 = W0 + av + kn) := hs
          have Hkn := hide hkn0
          have dp := hr3.get (show k - 1 < zs.length by omega)
          have lp := World.block_lt_of_cell? w3 _ dp
          clear hs hkn0
          go_wp2_with fail
          have s1 : IntKind.i64.wrap ((k : Int) - 1) = (k : Int) - 1 := IntWalk.i64_in _ (by omega)
          have s2 : (0 : Int) ≤ (k : Int) - 1 := by omega
          have s3 : ((k : Int) - 1).toNat = k - 1 := by omega
          have s4 : (k : Int) - 1 < (zs.length : Int) := by omega
          have s6 : (1 : Int) ≤ (k : Int) := by omega
          have s7 : (k : Int) ≤ (zs.length : Int) := by omega
          have s8 : (k : Int) < (zs.length : Int) + 1 := by omega
          have s5 : IntKind.i64.wrap (W0 + av + kn) = W0 + av + kn := IntWalk.i64_in _ (by omega)
          go_region_held3 (fun w' => w'.cell? ⟨w.heap.size, 0, none⟩ = some (.int .i64 size) ∧ w'.cell? ⟨w.heap.size, 1, none⟩ = some (.bool bold) ∧ w'.cell? ⟨w.heap.size, 2, none⟩ = some (.bool fixed) ∧ w'.cell? ⟨b, off + (k - 1), none⟩ = some (.int .i64 (ix zs (k - 1))))
            (first
              | go_keep
              | exact ⟨(hbel8.cell (p := ⟨w.heap.size, 0, none⟩) lb).trans d0, (hbel8.cell (p := ⟨w.heap.size, 1, none⟩) lb).trans d1, (hbel8.cell (p := ⟨w.heap.size, 2, none⟩) lb).trans d2, (hbel8.cell (p := ⟨b, off + (k - 1), none⟩) lp).trans dp⟩)
            ((go_at_call 38; refine (Hkn.out _).mono ?_; rintro e w8 ⟨rfl, hbel8⟩))
          clear s1 s2 s3 s4 s5 s6 s7 s8
          go_wp2_with fail
          go_meet
          exact ⟨val_int HH.out.symm, (Below.refl _ _).drew.trans hbel8⟩
      case rest =>
        obtain ⟨rfl, hblc⟩ := hcut
        have hblr : Below w1.heap.size w1 wc := hbl.trans ((hbel3.mono hbl.size).trans (hblc.mono (by have := hbl.size; have := hbel3.size; omega)))
        have hrc := hr3.below hblc
        clear d0 d1 d2
        by_cases hn : k + 1 < zs.length
        · have hcn := hrc.get hn
          have hmk := mark_ok (ix zs (k + 1)) wc ((Htr.out.below hbel3).below hblc).m
          have hfs : F1 = if mark (ix zs (k + 1)) = true then F0 else if W1 ≤ width then k + 1 else F0 := by
            rw [Hfs.out]
            by_cases hm : mark (ix zs (k + 1)) = true
            · rw [if_pos ⟨hn, hm⟩, if_pos hm]
            · rw [if_neg (fun h => hm h.2), if_neg hm]
          generalize mark (ix zs (k + 1)) = mk at *
          have Hmk := hide hmk
          clear hmk
          cases mk
          · rw [if_neg (by decide)] at hfs
            by_cases hw : W1 ≤ width
            · rw [if_pos hw] at hfs
              have HH := hide hfs
              clear hfs
              go_wp2_with fail
              refine Hmk.out.mono ?_
              rintro e w4 ⟨rfl, hbel4⟩
              go_wp2_with fail
              go_roundw
              case rel => exact ⟨k + 1, by omega, by go_num, by rw [HF1.out, HH.out]; go_num, val_int (by rw [HF1.out, HH.out, HW1.out]), val_int HW1.out.symm, hblr.trans (hbel4.mono hblr.size)⟩
              case measure => simp [intOf]; omega
            · rw [if_neg hw] at hfs
              have HH := hide hfs
              have hw' : width < W1 := by omega
              clear hfs hw
              go_wp2_with fail
              refine Hmk.out.mono ?_
              rintro e w4 ⟨rfl, hbel4⟩
              go_wp2_with fail
              go_roundw
              case rel => exact ⟨k + 1, by omega, by go_num, by rw [HF1.out, HH.out], val_int (by rw [HF1.out, HH.out, HWF.out]), val_int HW1.out.symm, hblr.trans (hbel4.mono hblr.size)⟩
              case measure => simp [intOf]; omega
          · rw [if_pos rfl] at hfs
            have HH := hide hfs
            clear hfs
            go_wp2_with fail
            refine Hmk.out.mono ?_
            rintro e w4 ⟨rfl, hbel4⟩
            go_wp2_with fail
            go_roundw
            case rel => exact ⟨k + 1, by omega, by go_num, by rw [HF1.out, HH.out], val_int (by rw [HF1.out, HH.out, HWF.out]), val_int HW1.out.symm, hblr.trans (hbel4.mono hblr.size)⟩
            case measure => simp [intOf]; omega
        · have hfs := Hfs.out
          rw [if_neg (fun h => hn h.1)] at hfs
          have hd : decide ((k : Int) + 1 < (zs.length : Int)) = false := by simp; omega
          by_cases hw : W1 ≤ width
          · rw [if_pos hw] at hfs
            have HH := hide hfs
            clear hfs
            go_wp2_with fail
            go_roundw
            case rel => exact ⟨k + 1, by omega, by go_num, by rw [HF1.out, HH.out]; go_num, val_int (by rw [HF1.out, HH.out, HW1.out]), val_int HW1.out.symm, hblr⟩
            case measure => simp [intOf]; omega
          · rw [if_neg hw] at hfs
            have HH := hide hfs
            have hw' : width < W1 := by omega
            clear hfs hw
            go_wp2_with fail
            go_roundw
            case rel => exact ⟨k + 1, by omega, by go_num, by rw [HF1.out, HH.out], val_int (by rw [HF1.out, HH.out, HWF.out]), val_int HW1.out.symm, hblr⟩
            case measure => simp [intOf]; omega
    · have : k = zs.length := by omega
      subst this
      go_wp2_with fail
      go_ret3
      exact ⟨rfl, hbelA.trans (hbl.mono hbelA.size)⟩
end Go.Proofs.YtdhhkcboejhoaaaDoor.Mtr
