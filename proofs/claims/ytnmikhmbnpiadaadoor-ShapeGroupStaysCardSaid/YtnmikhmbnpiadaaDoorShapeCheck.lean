/- Contracts of package shape: Check. -/
import Derived.Test.YtnmikhmbnpiadaaDoorShapeParents
namespace Go.Proofs.YtnmikhmbnpiadaaDoor.Shp
open Go.RowKit Go.Frm

set_option maxRecDepth 100000 in
set_option maxHeartbeats 4000000 in
theorem check_ok (A : Option Addr) (n c : Nat) (G : Nat → Nat → Int) (T : Nat → Nat → ByteArray) (w : World) (ho : ShOk G n) (hr : RdF w A n 12 (shV G T)) (hnc : n ≤ c) :
    Calls Tryd.prog 22 #[.slice A n c] w fun e w' => e = .returned (.int .i64 0) ∧ Below w.heap.size w w' := by
  have Ho := hide ho
  have hn := ho.few
  have hn3 : ((n : Int) > 1000) = False := by simp; omega
  clear ho
  go_enter Tryd.func22, Tryd.ntmps22
  go_wp2_with fail
  go_loopw [13] (fun a wr => ∃ (i : Nat), i ≤ n ∧ a = .int .i64 i ∧ Below w.heap.size w wr) (fun a _ => n - (intOf a).toNat)
  case atStart => exact ⟨0, by omega, rfl, Below.refl _ _⟩
  case round =>
    obtain ⟨i, hin, rfl, hbl⟩ := hrel
    by_cases hlt : i < n
    · obtain ⟨b, off, rfl, k0, k1, k2, k3, k4, k5, k6, k7, k8, k9, k10, k11⟩ := cells12 (hr.below hbl) hlt
      have hri := rdF_take hr (Nat.le_of_lt hlt)
      have hpa := fun (wx : World) (hx : Below w.heap.size w wx) => parents_ok (some ⟨b, off, none⟩) n i c G T wx Ho.out (hr.below hx) hlt
      have Hpa := hide hpa
      clear hpa
      go_upto_region 6 with fail
      have hb0 : Blk (wr.alloc (.cells (shC G T i) 23)) wr.heap.size 23 (shC G T i) := Blk.new wr _ _
      have hbel0 : Below w.heap.size w (wr.alloc (.cells (shC G T i) 23)) := hbl.alloc hbl.size _
      unfold shC at hb0 hbel0
      clear k0 k1 k2 k3 k4 k5 k6 k7 k8 k9 k10 k11
      generalize wr.alloc (.cells #[.int .i64 (G i 0), .int .i64 (G i 1), .int .i64 (G i 2), .int .i64 (G i 3), .int .i64 (G i 4), .int .i64 (G i 5), .int .i64 (G i 6), .int .i64 (G i 7), .int .i64 (G i 8), .int .i64 (G i 9), .string (T i 10), .string (T i 11)] 23) = w0 at *
      have hgw : w.heap.size ≤ wr.heap.size := hbl.size
      clear hbl
      generalize wr.heap.size = g at *
      have m0 : w0.cell? ⟨g, 0, none⟩ = some (.int .i64 (G i 0)) := hb0.cell 0
      have m1 : w0.cell? ⟨g, 1, none⟩ = some (.int .i64 (G i 1)) := hb0.cell 1
      have m2 : w0.cell? ⟨g, 2, none⟩ = some (.int .i64 (G i 2)) := hb0.cell 2
      have m3 : w0.cell? ⟨g, 3, none⟩ = some (.int .i64 (G i 3)) := hb0.cell 3
      have m4 : w0.cell? ⟨g, 4, none⟩ = some (.int .i64 (G i 4)) := hb0.cell 4
      have m5 : w0.cell? ⟨g, 5, none⟩ = some (.int .i64 (G i 5)) := hb0.cell 5
      have m6 : w0.cell? ⟨g, 6, none⟩ = some (.int .i64 (G i 6)) := hb0.cell 6
      have m7 : w0.cell? ⟨g, 7, none⟩ = some (.int .i64 (G i 7)) := hb0.cell 7
      have m8 : w0.cell? ⟨g, 8, none⟩ = some (.int .i64 (G i 8)) := hb0.cell 8
      have m9 : w0.cell? ⟨g, 9, none⟩ = some (.int .i64 (G i 9)) := hb0.cell 9
      obtain ⟨i1, i2⟩ := Ho.out.item i hlt
      obtain ⟨p1, p2⟩ := Ho.out.par i hlt
      obtain ⟨q1, q2⟩ := Ho.out.kind i hlt
      obtain ⟨⟨x1, x2⟩, ⟨y1, y2⟩⟩ := Ho.out.xy i hlt
      obtain ⟨⟨v1, v2⟩, ⟨h1, h2⟩⟩ := Ho.out.wh i hlt
      obtain ⟨t1, t2⟩ := Ho.out.turn i hlt
      obtain ⟨⟨f1, f2⟩, ⟨e1, e2⟩⟩ := Ho.out.ft i hlt
      have hlink := Ho.out.link i hlt
      have Hl := hide hlink
      clear hlink
      go_upto_region 12 with fail
      clear p1 p2 q1 q2 x1 x2 y1 y2 v1 v2 h1 h2 t1 t2 f1 f2 e1 e2 i1 i2
      go_cut [124] (fun v wc => v = .bool false ∧ w0 = wc)
      case first =>
        by_cases h6 : G i 2 = 6
        · have z1 : (G i 2 != 6) = false := by simp [h6]
          clear h6
          go_wp2_with fail
          go_meet
          exact ⟨rfl, rfl⟩
        · obtain ⟨z8, z9⟩ := Hl.out h6
          have z1 : (G i 2 != 6) = true := by simp [h6]
          have z2 : (G i 8 != 0) = false := by simp [z8]
          have z3 : (G i 9 != 0) = false := by simp [z9]
          clear h6 z8 z9
          go_wp2_with fail
          go_meet
          exact ⟨rfl, rfl⟩
      case rest =>
        obtain ⟨rfl, rfl⟩ := hcut
        have hone := fun j (hj : j < i) => Ho.out.one j i hj hlt
        have Hone := hide hone
        have hic : i ≤ c := by omega
        clear hone m1 m2 m3 m4 m5 m6 m7 m8 m9
        go_wp2_with fail
        go_loopw [129] (fun a wr2 => ∃ (j : Nat), j ≤ i ∧ a = .int .i64 j ∧ Blk wr2 g 23 (shC G T i) ∧ Below w.heap.size w wr2) (fun a _ => i - (intOf a).toNat)
        case atStart => exact ⟨0, by omega, rfl, hb0, hbel0⟩
        case round =>
          clear hb0 hbel0 m0
          obtain ⟨j, hji, rfl, hb, hbl⟩ := hrel
          have m0 : wr.cell? ⟨g, 0, none⟩ = some (.int .i64 (G i 0)) := hb.cell 0
          by_cases hjl : j < i
          · obtain ⟨b', off', hbb, k0, k1, k2, k3, k4, k5, k6, k7, k8, k9, k10, k11⟩ := cells12 (hr.below hbl) (Nat.lt_trans hjl hlt)
            obtain ⟨rfl, rfl⟩ : b = b' ∧ off = off' := by simpa using hbb
            have hne : (G j 0 == G i 0) = false := by simpa using Hone.out j hjl
            have hbx := hb.alloc (.cells (shC G T j) 23)
            have hbelx := hbl.alloc hbl.size (.cells (shC G T j) 23)
            unfold shC at hbx hbelx
            clear hbb
            go_upto_region 17 with fail
            clear m0 k0 k1 k2 k3 k4 k5 k6 k7 k8 k9 k10 k11 hb hbl
            have n0 := Blk.new wr 23 (shC G T j)
            unfold shC at n0
            generalize wr.alloc (.cells #[.int .i64 (G j 0), .int .i64 (G j 1), .int .i64 (G j 2), .int .i64 (G j 3), .int .i64 (G j 4), .int .i64 (G j 5), .int .i64 (G j 6), .int .i64 (G j 7), .int .i64 (G j 8), .int .i64 (G j 9), .string (T j 10), .string (T j 11)] 23) = wx at *
            have x0 : wx.cell? ⟨wr.heap.size, 0, none⟩ = some (.int .i64 (G j 0)) := n0.cell 0
            have y0 : wx.cell? ⟨g, 0, none⟩ = some (.int .i64 (G i 0)) := hbx.cell 0
            clear n0
            go_wp2_with fail
            exact ⟨⟨j + 1, by omega, rfl, hbx, hbelx⟩, by simp only [intOf]; omega⟩
          · have m1 : wr.cell? ⟨g, 1, none⟩ = some (.int .i64 (G i 1)) := hb.cell 1
            have m2 : wr.cell? ⟨g, 2, none⟩ = some (.int .i64 (G i 2)) := hb.cell 2
            have m3 : wr.cell? ⟨g, 3, none⟩ = some (.int .i64 (G i 3)) := hb.cell 3
            have m4 : wr.cell? ⟨g, 4, none⟩ = some (.int .i64 (G i 4)) := hb.cell 4
            have m5 : wr.cell? ⟨g, 5, none⟩ = some (.int .i64 (G i 5)) := hb.cell 5
            have m6 : wr.cell? ⟨g, 6, none⟩ = some (.int .i64 (G i 6)) := hb.cell 6
            have m7 : wr.cell? ⟨g, 7, none⟩ = some (.int .i64 (G i 7)) := hb.cell 7
            have m8 : wr.cell? ⟨g, 8, none⟩ = some (.int .i64 (G i 8)) := hb.cell 8
            have m9 : wr.cell? ⟨g, 9, none⟩ = some (.int .i64 (G i 9)) := hb.cell 9
            have m10 : wr.cell? ⟨g, 10, none⟩ = some (.string (T i 10)) := hb.cell 10
            have m11 : wr.cell? ⟨g, 11, none⟩ = some (.string (T i 11)) := hb.cell 11
            have hp := Hpa.out
            unfold shA at hp
            have Hp := hide hp
            have hgl := hb.lt
            have s1 : (0 : Int) ≤ (i : Int) := by omega
            have s2 : (i : Int) ≤ (c : Int) := by omega
            clear hp hb
            go_wp2_with fail
            go_region_held3 (fun w' => w'.cell? ⟨g, 0, none⟩ = some (.int .i64 (G i 0)) ∧ w'.cell? ⟨g, 1, none⟩ = some (.int .i64 (G i 1)) ∧ w'.cell? ⟨g, 2, none⟩ = some (.int .i64 (G i 2)) ∧ w'.cell? ⟨g, 3, none⟩ = some (.int .i64 (G i 3)) ∧ w'.cell? ⟨g, 4, none⟩ = some (.int .i64 (G i 4)) ∧ w'.cell? ⟨g, 5, none⟩ = some (.int .i64 (G i 5)) ∧ w'.cell? ⟨g, 6, none⟩ = some (.int .i64 (G i 6)) ∧ w'.cell? ⟨g, 7, none⟩ = some (.int .i64 (G i 7)) ∧ w'.cell? ⟨g, 8, none⟩ = some (.int .i64 (G i 8)) ∧ w'.cell? ⟨g, 9, none⟩ = some (.int .i64 (G i 9)) ∧ w'.cell? ⟨g, 10, none⟩ = some (.string (T i 10)) ∧ w'.cell? ⟨g, 11, none⟩ = some (.string (T i 11)))
              (first
                | go_keep
                | exact ⟨(hb1.cell (p := ⟨g, 0, none⟩) hgl).trans m0, (hb1.cell (p := ⟨g, 1, none⟩) hgl).trans m1, (hb1.cell (p := ⟨g, 2, none⟩) hgl).trans m2, (hb1.cell (p := ⟨g, 3, none⟩) hgl).trans m3, (hb1.cell (p := ⟨g, 4, none⟩) hgl).trans m4, (hb1.cell (p := ⟨g, 5, none⟩) hgl).trans m5, (hb1.cell (p := ⟨g, 6, none⟩) hgl).trans m6, (hb1.cell (p := ⟨g, 7, none⟩) hgl).trans m7, (hb1.cell (p := ⟨g, 8, none⟩) hgl).trans m8, (hb1.cell (p := ⟨g, 9, none⟩) hgl).trans m9, (hb1.cell (p := ⟨g, 10, none⟩) hgl).trans m10, (hb1.cell (p := ⟨g, 11, none⟩) hgl).trans m11⟩)
              ((go_at_call 34; refine (Hp.out _ (below_drewN hbl 1)).mono ?_; rintro e w1 ⟨rfl, hb1⟩))
            have hbelw := (below_drewN hbl 1).trans (hb1.mono hbl.size)
            go_wp2_with fail
            exact ⟨⟨i + 1, by omega, rfl, hbelw⟩, by simp only [intOf]; omega⟩
    · go_wp2_with fail
      go_ret
      exact ⟨rfl, hbl⟩
end Go.Proofs.YtnmikhmbnpiadaaDoor.Shp
