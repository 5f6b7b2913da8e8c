/- The contract of (*maker).cost. -/
import Derived.Test.YtmjhmcjlbcadaaaLnLine
import Derived.Deep.CutBlock
namespace Go.Proofs.Ytmjhmcjlbcadaaa.Ln
open Go.RowKit Go.Frm

section
variable {w : World} {b : Nat} {P : Pts} {ws : List Int} {D : Int} {Ap Aw A2 A3 A4 A5 : Option Addr} {cp cw c2 c3 c4 c5 : Nat}
theorem Mk.drewN (h : Mk w b P ws D Ap Aw A2 A3 A4 A5 cp cw c2 c3 c4 c5) (m : Nat) : Mk (w.drewN m) b P ws D Ap Aw A2 A3 A4 A5 cp cw c2 c3 c4 c5 := ⟨h.blk, h.parts, h.wide, h.w2, h.w3, h.w4, h.w5⟩
set_option maxRecDepth 100000 in
set_option maxHeartbeats 4000000 in
theorem cost_ok (h : Mk w b P ws D Ap Aw A2 A3 A4 A5 cp cw c2 c3 c4 c5) (hv : VP P) {x : Lin} (hx : VL P x) :
    Calls Try.prog 23 #[.pointer (some ⟨b, 0, none⟩), linA x] w fun e w' => e = .returned (.int .i64 (cost P x)) ∧ Below w.heap.size w w' := by
  have hb := h.blk.lt
  have hbl := (Below.refl w.heap.size w).alloc (Nat.le_refl _) (.cells #[.int .i64 x.fr, .int .i64 x.en, .int .i64 x.nat, .int .i64 x.str, .int .i64 x.shr, .int .i64 x.wid] 35)
  have bx := Blk.new w 35 #[.int .i64 x.fr, .int .i64 x.en, .int .i64 x.nat, .int .i64 x.str, .int .i64 x.shr, .int .i64 x.wid]
  have M := hide (h.below hbl)
  have Hbl := hide hbl
  unfold linA
  go_enter Try.func23, Try.ntmps23
  go_upto_region 1 with fail
  clear h hbl
  generalize w.alloc (.cells #[.int .i64 x.fr, .int .i64 x.en, .int .i64 x.nat, .int .i64 x.str, .int .i64 x.shr, .int .i64 x.wid] 35) = w1 at *
  have p1 : w1.cell? ⟨w.heap.size, 1, none⟩ = some (.int .i64 x.en) := bx.cell 1
  have p2 : w1.cell? ⟨w.heap.size, 2, none⟩ = some (.int .i64 x.nat) := bx.cell 2
  have p3 : w1.cell? ⟨w.heap.size, 3, none⟩ = some (.int .i64 x.str) := bx.cell 3
  have p4 : w1.cell? ⟨w.heap.size, 4, none⟩ = some (.int .i64 x.shr) := bx.cell 4
  have p5 : w1.cell? ⟨w.heap.size, 5, none⟩ = some (.int .i64 x.wid) := bx.cell 5
  have Bx := hide bx
  clear bx
  generalize hg : w.heap.size = g at *
  obtain ⟨n0, n1⟩ := hx.nat
  obtain ⟨s0, s1⟩ := hx.str
  obtain ⟨y0, y1⟩ := hx.shr
  obtain ⟨d0, d1⟩ := hx.wid
  go_upto_region 2 with fail
  go_upto_block 0 with fail
  go_cut [6] (fun v wc => v = .int .i64 (cost0 P x) ∧ ∃ d, wc = w1.drewN d)
  case first =>
    by_cases h1 : x.wid - x.nat < -x.shr
    · have hc := hide (show cost0 P x = 1099511627776 + 1000 * (-(x.wid - x.nat) - x.shr) from if_pos h1)
      generalize cost0 P x = C at *
      clear hx hv
      go_wp2_with fail
      go_meet
      exact ⟨by rw [hc.out], 0, rfl⟩
    · by_cases h2 : x.wid - x.nat < 0
      · have hc := hide (show cost0 P x = (10 + bad (-(x.wid - x.nat)) x.shr) * (10 + bad (-(x.wid - x.nat)) x.shr) from (if_neg h1).trans (if_pos h2))
        obtain ⟨b0, b1⟩ := bad_bd (show 0 ≤ -(x.wid - x.nat) by omega) y0
        obtain ⟨e0, e1⟩ := sq_bd (show 0 ≤ 10 + bad (-(x.wid - x.nat)) x.shr by omega) (show _ ≤ (10010 : Int) by omega)
        have HB := hide (badness_ok (-(x.wid - x.nat)) x.shr w1 (by omega) (by omega) y0 (by omega))
        generalize cost0 P x = C at *
        generalize bad (-(x.wid - x.nat)) x.shr = B at *
        clear hx hv
        go_wp2_with fail
        refine HB.out.mono ?_
        rintro e wa ⟨rfl, rfl⟩
        go_wp2_with fail
        go_meet
        exact ⟨by rw [hc.out], 0, rfl⟩
      · have h3 : ¬ x.wid - x.nat < 0 := h2
        have HM := hide (must_ok M.out hx.en)
        have HL := hide (last_ok M.out hv.few hx.en)
        cases hm : must P x.en with
        | true =>
          have hc := hide (show cost0 P x = 100 from ((if_neg h1).trans (if_neg h2)).trans (if_pos (by rw [hm]; rfl)))
          generalize cost0 P x = C at *
          rw [hm] at HM
          clear hx hv hm
          go_wp2_with fail
          refine HM.out.mono ?_
          rintro e wa ⟨rfl, rfl⟩
          go_wp2_with fail
          go_meet
          exact ⟨by rw [hc.out], 0, rfl⟩
        | false =>
          cases hl : last P x.en with
          | true =>
            have hc := hide (show cost0 P x = 100 from ((if_neg h1).trans (if_neg h2)).trans (if_pos (by rw [hm, hl]; rfl)))
            generalize cost0 P x = C at *
            rw [hm] at HM
            rw [hl] at HL
            clear hx hv hm hl
            go_wp2_with fail
            refine HM.out.mono ?_
            rintro e wa ⟨rfl, rfl⟩
            go_wp2_with fail
            refine HL.out.mono ?_
            rintro e wa ⟨rfl, dn, rfl⟩
            go_wp2_with fail
            go_meet
            exact ⟨by rw [hc.out], dn, rfl⟩
          | false =>
            have hc := hide (show cost0 P x = (10 + bad (x.wid - x.nat) x.str) * (10 + bad (x.wid - x.nat) x.str) from ((if_neg h1).trans (if_neg h2)).trans (if_neg (by rw [hm, hl]; decide)))
            obtain ⟨b0, b1⟩ := bad_bd (show 0 ≤ x.wid - x.nat by omega) s0
            obtain ⟨e0, e1⟩ := sq_bd (show 0 ≤ 10 + bad (x.wid - x.nat) x.str by omega) (show _ ≤ (10010 : Int) by omega)
            have HB := hide (fun wx => badness_ok (x.wid - x.nat) x.str wx (by omega) (by omega) s0 (by omega))
            generalize cost0 P x = C at *
            generalize bad (x.wid - x.nat) x.str = B at *
            rw [hm] at HM
            rw [hl] at HL
            clear hx hv hm hl
            go_wp2_with fail
            refine HM.out.mono ?_
            rintro e wa ⟨rfl, rfl⟩
            go_wp2_with fail
            refine HL.out.mono ?_
            rintro e wa ⟨rfl, dn, rfl⟩
            go_wp2_with fail
            refine (HB.out _).mono ?_
            rintro e wa ⟨rfl, rfl⟩
            go_wp2_with fail
            go_meet
            exact ⟨by rw [hc.out], dn, rfl⟩
  case rest =>
    obtain ⟨rfl, dn, rfl⟩ := hcut
    have M2 := M.out.drewN dn
    have Hbz := hide (below_drewN Hbl.out dn)
    have Bx2 := Bx.out.drewN dn
    clear p1 p2 p3 p4 p5
    generalize w1.drewN dn = w2 at *
    have p1 : w2.cell? ⟨g, 1, none⟩ = some (.int .i64 x.en) := Bx2.cell 1
    have k0 := M2.c0
    obtain ⟨c0, c1⟩ := cost0_bd hx
    by_cases hlt : x.en < P.n
    · obtain ⟨bp, off, rfl, m0, -, -, -, m4, -⟩ := M2.cells6 hlt
      have i1 : decide ((x.en : Int) < (P.n : Int)) = true := by simp; omega
      have i2 : (x.en : Int) < (P.n : Int) := by omega
      have hco := hv.cost _ hlt
      by_cases h2 : P.kd x.en = 2
      · have d2 : (P.kd x.en == 2) = true := by simpa using h2
        by_cases h3 : P.co x.en = -10000
        · have d3 : (P.co x.en != -10000) = false := by simpa using h3
          have hc := hide (show cost P x = cost0 P x from if_neg (fun hh => hh.2.2 h3))
          clear hlt h2 h3 M M2 Bx Bx2 hv hx Hbl
          generalize cost0 P x = C at *
          generalize P.n = n at *
          go_upto_region 12 with fail
          go_quiet (fail)
          go_wp2_with fail
          go_ret
          exact ⟨ret_int hc.out.symm, by first | exact below_drewN Hbz.out _ | (rw [hg]; exact below_drewN Hbz.out _)⟩
        · have d3 : (P.co x.en != -10000) = true := by simpa using h3
          by_cases h4 : P.co x.en < 0
          · have hc := hide (show cost P x = cost0 P x - P.co x.en * P.co x.en from (if_pos ⟨hlt, h2, h3⟩).trans (if_pos h4))
            have s := sq_bd (x := -P.co x.en) (m := 10000) (by omega) (by omega)
            rw [Int.neg_mul_neg] at s
            obtain ⟨e0, e1⟩ := s
            clear hlt h2 h3 M M2 Bx Bx2 hv hx Hbl
            generalize cost0 P x = C at *
            generalize P.n = n at *
            go_upto_region 12 with fail
            go_quiet (fail)
            go_upto_region 13 with fail
            go_quiet (fail)
            go_wp2_with fail
            go_ret
            exact ⟨ret_int hc.out.symm, by first | exact below_drewN Hbz.out _ | (rw [hg]; exact below_drewN Hbz.out _)⟩
          · have hc := hide (show cost P x = cost0 P x + P.co x.en * P.co x.en from (if_pos ⟨hlt, h2, h3⟩).trans (if_neg h4))
            obtain ⟨e0, e1⟩ := sq_bd (x := P.co x.en) (m := 10000) (by omega) (by omega)
            clear hlt h2 h3 M M2 Bx Bx2 hv hx Hbl
            generalize cost0 P x = C at *
            generalize P.n = n at *
            go_upto_region 12 with fail
            go_quiet (fail)
            go_upto_region 13 with fail
            go_quiet (fail)
            go_wp2_with fail
            go_ret
            exact ⟨ret_int hc.out.symm, by first | exact below_drewN Hbz.out _ | (rw [hg]; exact below_drewN Hbz.out _)⟩
      · have d2 : (P.kd x.en == 2) = false := by simpa using h2
        have hc := hide (show cost P x = cost0 P x from if_neg (fun hh => h2 hh.2.1))
        clear hlt h2 M M2 Bx Bx2 hv hx Hbl
        generalize cost0 P x = C at *
        generalize P.n = n at *
        go_upto_region 12 with fail
        go_quiet (fail)
        go_wp2_with fail
        go_ret
        exact ⟨ret_int hc.out.symm, by first | exact below_drewN Hbz.out _ | (rw [hg]; exact below_drewN Hbz.out _)⟩
    · have i1 : decide ((x.en : Int) < (P.n : Int)) = false := by simp; omega
      have i6 : (P.n : Int) ≤ (x.en : Int) := by omega
      have i7 : ¬ ((x.en : Int) < (P.n : Int)) := by omega
      have hc := hide (show cost P x = cost0 P x from if_neg (fun hh => hlt hh.1))
      clear hlt M M2 Bx Bx2 hv hx Hbl
      generalize cost0 P x = C at *
      generalize P.n = n at *
      go_upto_region 12 with fail
      go_quiet (fail)
      go_wp2_with fail
      go_ret
      exact ⟨ret_int hc.out.symm, by first | exact below_drewN Hbz.out _ | (rw [hg]; exact below_drewN Hbz.out _)⟩
end
end Go.Proofs.Ytmjhmcjlbcadaaa.Ln
