/- Contracts of package timeline: times. -/
import Derived.Test.YtlipdhoeklgdoaaTlBasics
import Derived.Deep.CutBlock
namespace Go.Proofs.Ytlipdhoeklgdoaa.Tl
open Go.RowKit Go.Frm

theorem time_info : (Try.prog.info? 51).map (fun i => (i.zero, i.size, i.bytes)) = some (some (.agg #[.int .i64 0, .int .i64 0, .int .i64 0]), 3, 24) := by kernel_rfl
theorem time_one (F : Nat → Nat → Int) (i : Nat) : ∀ u ∈ (List.range 3).map (tmV F i), u.oneCell' = true := by
  intro u hu
  obtain ⟨j, _, rfl⟩ := List.mem_map.1 hu
  rfl
theorem time_cells (F : Nat → Nat → Int) (i : Nat) : (List.range 3).map (tmV F i) = [.int .i64 (ck F (i + 1)), .int .i64 (frm F i), .int .i64 (til F i)] := rfl

def TimesPost (n : Nat) (F : Nat → Nat → Int) (w : World) (e : Ending) (w' : World) : Prop :=
  ∃ A' c', e = .returned (.slice A' n c') ∧ w'.ownsRow w.heap.size 51 3 (.slice A' n c') n (rowF n 3 (tmV F)) ∧ Below w.heap.size w w'

set_option maxRecDepth 100000 in
set_option maxHeartbeats 2000000 in
theorem times_ok (A : Option Addr) (n c : Nat) (F : Nat → Nat → Int) (w : World) (hv : VF F n) (hr : RdF w A n 7 (efV F)) :
    Calls Try.prog 26 #[.slice A n c] w (TimesPost n F w) := by
  have hn := hv.few
  have Hv := hide hv
  clear hv
  go_enter Try.func26, Try.ntmps26
  go_wp2_with fail
  go_loopw [3, 4, 5, 6, 12] (fun o a b' e' s wr => ∃ (i : Nat), i ≤ n ∧ s = .int .i64 i ∧ a = .int .i64 (ck F i) ∧ b' = .int .i64 (bs F i) ∧ e' = .int .i64 (en F i) ∧ wr.ownsRow w.heap.size 51 3 o i (rowF i 3 (tmV F)) ∧ Below w.heap.size w wr) (fun _ _ _ _ s _ => n - (intOf s).toNat)
  case atStart => exact ⟨0, by omega, rfl, rfl, rfl, rfl, World.ownsRow_nil _ _ _ _, Below.refl _ _⟩
  case round =>
    obtain ⟨i, hin, rfl, rfl, rfl, rfl, hown, hbl⟩ := hrel
    obtain ⟨A3, c3, rfl⟩ := own_form hown
    by_cases hlt : i < n
    · obtain ⟨b, off, rfl, k0, k1, k2, k3, k4, k5, k6⟩ := cells7 (hr.below hbl) hlt
      obtain ⟨d0, d1⟩ := Hv.out.delay i hlt
      obtain ⟨e0, e1⟩ := Hv.out.takes i hlt
      obtain ⟨z0, z1, z2⟩ := be_bd Hv.out i hin
      obtain ⟨x0, x1⟩ := ck_bd F i
      go_upto_block 2 with fail
      have b7 : Blk (wr.alloc (.cells #[.int .i64 (F i 0), .int .i64 (F i 1), .int .i64 (F i 2), .int .i64 (F i 3), .int .i64 (F i 4), .int .i64 (F i 5), .int .i64 (F i 6)] 45)) wr.heap.size 45 (efC F i) := Blk.new wr _ _
      have hb7 := hbl.alloc hbl.size (.cells #[.int .i64 (F i 0), .int .i64 (F i 1), .int .i64 (F i 2), .int .i64 (F i 3), .int .i64 (F i 4), .int .i64 (F i 5), .int .i64 (F i 6)] 45)
      have ho7 := hown.alloc (.cells #[.int .i64 (F i 0), .int .i64 (F i 1), .int .i64 (F i 2), .int .i64 (F i 3), .int .i64 (F i 4), .int .i64 (F i 5), .int .i64 (F i 6)] 45)
      clear k0 k1 k2 k3 k4 k5 k6 hown
      have hgw : w.heap.size ≤ wr.heap.size := hbl.size
      clear hbl
      generalize wr.alloc (.cells #[.int .i64 (F i 0), .int .i64 (F i 1), .int .i64 (F i 2), .int .i64 (F i 3), .int .i64 (F i 4), .int .i64 (F i 5), .int .i64 (F i 6)] 45) = w0 at *
      generalize wr.heap.size = g at *
      have m2 : w0.cell? ⟨g, 2, none⟩ = some (.int .i64 (F i 2)) := b7.cell 2
      have m3 : w0.cell? ⟨g, 3, none⟩ = some (.int .i64 (F i 3)) := b7.cell 3
      have m4 : w0.cell? ⟨g, 4, none⟩ = some (.int .i64 (F i 4)) := b7.cell 4
      obtain ⟨y0, y1, y2⟩ := be_bd Hv.out (i + 1) (by omega)
      have Hk := hide (show ck F (i + 1) = if F i 2 = 0 then ck F i + 1 else ck F i from rfl)
      have Hb := hide (show bs F (i + 1) = nb F i (bs F i) (en F i) from rfl)
      have He := hide (show en F (i + 1) = ne F i (bs F i) (en F i) from rfl)
      go_cut [4, 5, 6] (fun a b' e' wc => a = .int .i64 (ck F (i + 1)) ∧ b' = .int .i64 (bs F (i + 1)) ∧ e' = .int .i64 (if F i 2 = 0 then 0 else en F i) ∧ w0 = wc)
      case first =>
        clear m3 m4
        by_cases c0 : F i 2 = 0
        · have d0 : (F i 2 == 0) = true := by simpa using c0
          have hk1 := hide (Hk.out.trans (if_pos c0))
          have hb1 := hide (Hb.out.trans (if_pos c0))
          have C0 := hide c0
          clear c0
          go_wp2_with fail
          go_meet
          exact ⟨by rw [hk1.out], by rw [hb1.out], by rw [if_pos C0.out], rfl⟩
        · have hk1 := hide (Hk.out.trans (if_neg c0))
          have C0 := hide c0
          by_cases c2 : F i 2 = 2
          · have hb1 := hide (show bs F (i + 1) = en F i by rw [Hb.out]; unfold nb; rw [if_neg c0, if_pos c2])
            have f0 : (F i 2 == 0) = false := by simpa using c0
            have f2 : (F i 2 == 2) = true := by simpa using c2
            clear c0 c2
            go_wp2_with fail
            go_meet
            exact ⟨by rw [hk1.out], by rw [hb1.out], by rw [if_neg C0.out], rfl⟩
          · have hb1 := hide (show bs F (i + 1) = bs F i by rw [Hb.out]; unfold nb; rw [if_neg c0, if_neg c2])
            have f0 : (F i 2 == 0) = false := by simpa using c0
            have f2 : (F i 2 == 2) = false := by simpa using c2
            clear c0 c2
            go_wp2_with fail
            go_meet
            exact ⟨by rw [hk1.out], by rw [hb1.out], by rw [if_neg C0.out], rfl⟩
      case rest =>
        obtain ⟨rfl, rfl, rfl, rfl⟩ := hcut
        have u0 : 0 ≤ (if F i 2 = 0 then 0 else en F i) := by split <;> omega
        have u1 : (if F i 2 = 0 then 0 else en F i) ≤ 13000 := by split <;> omega
        have He2 := hide (show en F (i + 1) = if (if F i 2 = 0 then 0 else en F i) < bs F (i + 1) + F i 3 + F i 4 then bs F (i + 1) + F i 3 + F i 4 else (if F i 2 = 0 then 0 else en F i) from by
          rw [He.out, Hb.out]; rfl)
        clear Hk Hb He
        generalize (if F i 2 = 0 then 0 else en F i) = ee at *
        have ho9 := ho7.alloc (.cells #[.int .i64 (ck F (i + 1)), .int .i64 (frm F i), .int .i64 (til F i)] 51)
        have ho10 := ho9.alloc (.cells #[.int .i64 (ck F (i + 1)), .int .i64 (frm F i), .int .i64 (til F i)] 51)
        have hb9 := hb7.alloc hb7.size (.cells #[.int .i64 (ck F (i + 1)), .int .i64 (frm F i), .int .i64 (til F i)] 51)
        have hb10 := hb9.alloc hb9.size (.cells #[.int .i64 (ck F (i + 1)), .int .i64 (frm F i), .int .i64 (til F i)] 51)
        have hnew := news_at (w0.alloc (.cells #[.int .i64 (ck F (i + 1)), .int .i64 (frm F i), .int .i64 (til F i)] 51)) #[.int .i64 (ck F (i + 1)), .int .i64 (frm F i), .int .i64 (til F i)] 51 (w0.heap.size + 1) (by simp)
        have hfr := hide (show frm F i = bs F (i + 1) + F i 3 from rfl)
        have htl := hide (show til F i = bs F (i + 1) + F i 3 + F i 4 from rfl)
        have hone := time_one F i
        rw [time_cells] at hone
        rw [hfr.out, htl.out] at ho9 ho10 hb9 hb10 hnew hone
        clear ho7 hb7 b7 m2 ho9 hb9
        go_wp2_with (at_builtin; refine wpL_append (size := 3) rfl rfl Try.underlying47 time_info rfl (by decide) rfl rfl ho10 hnew rfl hone (by omega) (by omega) (by have := hb10.size; omega) ?_; intro v1 w1 hown1 hgrow1)
        refine ⟨⟨i + 1, by omega, by go_num, rfl, rfl, val_int He2.out.symm, ?_, below_app hb10 hb10.size ho10 hgrow1⟩, by simp [intOf]; omega⟩
        rw [rowF_succ, time_cells, hfr.out, htl.out]
        exact hown1
    · obtain rfl : i = n := by omega
      go_wp2_with fail
      go_ret
      exact ⟨A3, c3, rfl, hown, hbl⟩

def TimesAll (n : Nat) (F : Nat → Nat → Int) (w : World) (e : Ending) (w' : World) : Prop :=
  ∃ A' c', e = .returned (.tuple #[.slice A' n c', .int .i64 0]) ∧ w'.ownsRow w.heap.size 51 3 (.slice A' n c') n (rowF n 3 (tmV F)) ∧ Below w.heap.size w w'
set_option maxRecDepth 100000 in
set_option maxHeartbeats 1000000 in
theorem Times_ok (A : Option Addr) (n c : Nat) (F : Nat → Nat → Int) (w : World) (hv : VF F n) (hr : RdF w A n 7 (efV F)) :
    Calls Try.prog 17 #[.slice A n c] w (TimesAll n F w) := by
  have hch := check_ok A n c F w hv hr
  have htm := hide (fun wx (hx : Below w.heap.size w wx) => times_ok A n c F wx hv (hr.below hx))
  go_enter Try.func17, Try.ntmps17
  go_wp2_with fail
  refine hch.mono ?_
  rintro e w1 ⟨rfl, hb1⟩
  go_wp2_with fail
  refine (htm.out w1 hb1).mono ?_
  rintro e w2 ⟨A2, c2, rfl, hown2, hb2⟩
  go_wp2_with fail
  go_ret2
  exact ⟨A2, c2, rfl, ownsRow_less hown2 hb1.size, hb1.trans (hb2.mono hb1.size)⟩
end Go.Proofs.Ytlipdhoeklgdoaa.Tl
