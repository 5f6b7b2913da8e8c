/- The contract of (*maker).line, its first half: the box of a line. Printed by lnlinegen.py. -/
import Derived.Test.YtmjhmcjlbcadaaaLnLinePlain
import Derived.Test.YtmjhmcjlbcadaaaLnMay
import Derived.Test.YtmjhmcjlbcadaaaBoxes
namespace Go.Proofs.Ytmjhmcjlbcadaaa.Ln
open Go.RowKit Go.Frm

/-- a line as one value -/
def linA (x : Lin) : Value := .agg #[.int .i64 x.fr, .int .i64 x.en, .int .i64 x.nat, .int .i64 x.str, .int .i64 x.shr, .int .i64 x.wid]
def lbc (f t n s h d : Int) : Array Value := #[.int .i64 f, .int .i64 t, .int .i64 n, .int .i64 s, .int .i64 h, .int .i64 d]
theorem alloc_lb (w : World) : (Instr.alloc 35 true (.tuple #[])).run Try.prog w = .ok (.pointer (some ⟨w.heap.size, 0, none⟩)) (w.alloc (.cells (lbc 0 0 0 0 0 0) 35)) := by kernel_rfl
theorem grown_set {w w' : World} {g i : Nat} {v : Value} (h : w.grownBy w' (some g)) : w.grownBy (w'.setCell ⟨g, i, none⟩ v) (some g) :=
  ⟨h.os, h.tape, h.output, by simpa [World.setCell] using h.size, fun k hk hne => (Below.heap_setCell _ _ _ k (fun e => hne (by rw [e]))).trans (h.block k hk hne)⟩
theorem grown_refl (w : World) (r : Option Nat) : w.grownBy w r := ⟨rfl, rfl, rfl, Nat.le_refl _, fun _ _ _ => rfl⟩
theorem blk_cells {w : World} {g : Nat} {t : TypeId} {a b : Array Value} (h : a = b) (hb : Blk w g t a) : Blk w g t b := h ▸ hb
set_option maxRecDepth 100000 in
set_option maxHeartbeats 2000000 in
theorem store_lb (w : World) (g : Nat) (f t n s h d : Int) (hb : Blk w g 35 (lbc 0 0 0 0 0 0)) :
    ∃ w', (Instr.storeAt 35 (.pointer (some ⟨g, 0, none⟩)) (.agg (lbc f t n s h d))).run Try.prog w = .ok () w' ∧ Blk w' g 35 (lbc f t n s h d) ∧ w.grownBy w' (some g) := by
  unfold lbc
  have c0 : w.cell? ⟨g, 0, none⟩ = some (.int .i64 0) := hb.cell 0
  have c1 : w.cell? ⟨g, 1, none⟩ = some (.int .i64 0) := hb.cell 1
  have c2 : w.cell? ⟨g, 2, none⟩ = some (.int .i64 0) := hb.cell 2
  have c3 : w.cell? ⟨g, 3, none⟩ = some (.int .i64 0) := hb.cell 3
  have c4 : w.cell? ⟨g, 4, none⟩ = some (.int .i64 0) := hb.cell 4
  have c5 : w.cell? ⟨g, 5, none⟩ = some (.int .i64 0) := hb.cell 5
  have z : ∀ i, w.frozen? ⟨g, i, none⟩ = false := hb.frozen
  have z0 := z 0
  have z1 := z 1
  have z2 := z 2
  have z3 := z 3
  have z4 := z 4
  have z5 := z 5
  refine ⟨(((((w.setCell ⟨g, 0, none⟩ (.int .i64 f)).setCell ⟨g, 1, none⟩ (.int .i64 t)).setCell ⟨g, 2, none⟩ (.int .i64 n)).setCell ⟨g, 3, none⟩ (.int .i64 s)).setCell ⟨g, 4, none⟩ (.int .i64 h)).setCell ⟨g, 5, none⟩ (.int .i64 d), ?_, ?_, ?_⟩
  · go_simp
  · refine blk_cells (by simp [lbc]) ((((((hb.set_ 0 (.int .i64 f)).set_ 1 (.int .i64 t)).set_ 2 (.int .i64 n)).set_ 3 (.int .i64 s)).set_ 4 (.int .i64 h)).set_ 5 (.int .i64 d))
  · exact grown_set (grown_set (grown_set (grown_set (grown_set (grown_set (grown_refl w _))))))

section
variable {w : World} {b : Nat} {P : Pts} {ws : List Int} {D : Int} {Ap Aw A2 A3 A4 A5 : Option Addr} {cp cw c2 c3 c4 c5 : Nat}
set_option maxRecDepth 100000 in
set_option maxHeartbeats 4000000 in
theorem line_ok (h : Mk w b P ws D Ap Aw A2 A3 A4 A5 cp cw c2 c3 c4 c5) (hv : VP P) {i j k : Nat} (hij : i ≤ j) (hj : j ≤ P.n) (hk : k ≤ 100000) (hws : 0 < ws.length) (hw2 : ws.length ≤ 1000) :
    Calls Try.prog 18 #[.pointer (some ⟨b, 0, none⟩), .int .i64 i, .int .i64 j, .int .i64 k] w fun e w' => e = .returned (linA (line P ws i j k)) ∧ Below w.heap.size w w' := by
  have hb := h.blk.lt
  have c0 := h.c0
  have c1 : w.cell? ⟨b, 1, none⟩ = some (.slice Aw ws.length cw) := h.blk.cell 1
  have c3' : w.cell? ⟨b, 3, none⟩ = some (.slice A2 (P.n + 1) c2) := h.blk.cell 3
  have c4' : w.cell? ⟨b, 4, none⟩ = some (.slice A3 (P.n + 1) c3) := h.blk.cell 4
  have c5' : w.cell? ⟨b, 5, none⟩ = some (.slice A4 (P.n + 1) c4) := h.blk.cell 5
  obtain ⟨b2, o2, rfl, k2⟩ := h.w2.at_ (k := i) (by rw [tab_length]; omega)
  obtain ⟨b2', o2', e2, l2⟩ := h.w2.at_ (k := j) (by rw [tab_length]; omega)
  injection e2 with e2; injection e2 with e2 e2'; subst e2 e2'
  obtain ⟨b3, o3, rfl, k3⟩ := h.w3.at_ (k := i) (by rw [tab_length]; omega)
  obtain ⟨b3', o3', e3, l3⟩ := h.w3.at_ (k := j) (by rw [tab_length]; omega)
  injection e3 with e3; injection e3 with e3 e3'; subst e3 e3'
  obtain ⟨b4, o4, rfl, k4⟩ := h.w4.at_ (k := i) (by rw [tab_length]; omega)
  obtain ⟨b4', o4', e4, l4⟩ := h.w4.at_ (k := j) (by rw [tab_length]; omega)
  injection e4 with e4; injection e4 with e4 e4'; subst e4 e4'
  rw [tab_ix _ (by omega)] at k2 l2 k3 l3 k4 l4
  obtain ⟨m, hm⟩ : ∃ m, m = min k (ws.length - 1) := ⟨_, rfl⟩
  obtain ⟨bw, ow, rfl, kw⟩ := h.wide.at_ (k := m) (by omega)
  have hif : (if (ws.length : Int) - 1 < (k : Int) then (ws.length : Int) - 1 else (k : Int)) = (m : Int) := by rw [hm]; split <;> omega
  have hmn : min (k : Int) ((ws.length : Int) - 1) = (m : Int) := by omega
  have q4 : IntKind.i64.wrap ((ws.length : Int) - 1) = (ws.length : Int) - 1 := IntWalk.i64_in _ (by omega)
  have i5 : (m : Int) < (ws.length : Int) := by omega
  have hwid := hide (show (line P ws i j k).wid = ix ws m from by rw [hm]; rfl)
  generalize ix ws m = wdm at *
  generalize hL : ws.length = L at *
  clear hm
  have s1 := sW_bd hv i (by omega)
  have s2 := sW_bd hv j (by omega)
  have s3 := sG_bd hv i (by omega)
  have s4 := sG_bd hv j (by omega)
  have s5 := sY_bd hv i (by omega)
  have s6 := sY_bd hv j (by omega)
  have few := hv.few
  have i1 : (i : Int) < (P.n : Int) + 1 := by omega
  have i2 : (j : Int) < (P.n : Int) + 1 := by omega
  have i3 : (i : Int) ≤ 1000 := by omega
  have i4 : (j : Int) ≤ 1000 := by omega
  have q1 : IntKind.i64.wrap (sW P j - sW P i) = sW P j - sW P i := IntWalk.i64_in _ (by omega)
  have q2 : IntKind.i64.wrap (sG P j - sG P i) = sG P j - sG P i := IntWalk.i64_in _ (by omega)
  have q3 : IntKind.i64.wrap (sY P j - sY P i) = sY P j - sY P i := IntWalk.i64_in _ (by omega)
  have hbl : Below w.heap.size w (w.alloc (.cells #[.int .i64 0, .int .i64 0, .int .i64 0, .int .i64 0, .int .i64 0, .int .i64 0] 35)) := (Below.refl _ _).alloc (Nat.le_refl _) _
  have hMk := hide (h.below hbl)
  have f0 := Blk.new w 35 #[.int .i64 0, .int .i64 0, .int .i64 0, .int .i64 0, .int .i64 0, .int .i64 0]
  have hsz := Below.size hbl
  have Hbl := hide hbl
  have HJ := hide (show j < P.n → ∃ bp off, Ap = some ⟨bp, off, none⟩ ∧ w.cell? ⟨bp, off + j * 6, none⟩ = some (.int .i64 (P.kd j)) ∧ w.cell? ⟨bp, off + j * 6 + 1, none⟩ = some (.int .i64 (P.wd j)) from fun hlt => by
    obtain ⟨bp, off, e, k0, k1, _⟩ := h.cells6 hlt
    exact ⟨bp, off, e, k0, k1⟩)
  have HA := hide (show added P j = if j < P.n ∧ P.kd j = 2 then P.wd j else 0 from rfl)
  have HW := hide (show j < P.n → 0 ≤ P.wd j ∧ P.wd j ≤ 300 from fun hlt => hv.wide j hlt)
  have HL := hide (show line P ws i j k = { fr := i, en := j, nat := sW P j - sW P i + added P j, str := sG P j - sG P i, shr := sY P j - sY P i, wid := (line P ws i j k).wid } by unfold line; rw [show min i j = i by omega])
  clear hv
  generalize line P ws i j k = LL at *
  generalize added P j = ad at *
  generalize sW P i = wi at *
  generalize sW P j = wj at *
  generalize sG P i = gi at *
  generalize sG P j = gj at *
  generalize sY P i = yi at *
  generalize sY P j = yj at *
  go_enter Try.func18, Try.ntmps18
  go_upto_region 2 with fail
  clear h
  replace c0 := (hbl.cell (World.block_lt_of_cell? _ _ c0)).trans c0
  replace c1 := (hbl.cell (World.block_lt_of_cell? _ _ c1)).trans c1
  have c3x := (hbl.cell (World.block_lt_of_cell? _ _ c3')).trans c3'
  have c4x := (hbl.cell (World.block_lt_of_cell? _ _ c4')).trans c4'
  have c5x := (hbl.cell (World.block_lt_of_cell? _ _ c5')).trans c5'
  replace k2 := (hbl.cell (World.block_lt_of_cell? _ _ k2)).trans k2
  replace l2 := (hbl.cell (World.block_lt_of_cell? _ _ l2)).trans l2
  replace k3 := (hbl.cell (World.block_lt_of_cell? _ _ k3)).trans k3
  replace l3 := (hbl.cell (World.block_lt_of_cell? _ _ l3)).trans l3
  replace k4 := (hbl.cell (World.block_lt_of_cell? _ _ k4)).trans k4
  replace l4 := (hbl.cell (World.block_lt_of_cell? _ _ l4)).trans l4
  replace kw := (hbl.cell (World.block_lt_of_cell? _ _ kw)).trans kw
  clear c3' c4' c5' hbl
  generalize w.alloc (.cells #[.int .i64 0, .int .i64 0, .int .i64 0, .int .i64 0, .int .i64 0, .int .i64 0] 35) = w1 at *
  generalize P.n = n at *
  have c1b := World.block_lt_of_cell? _ _ c1
  go_cut [9] (fun p wc => ∃ g0, p = .pointer (some ⟨g0, 0, none⟩) ∧ Blk wc g0 35 (lbc i j (wj - wi) (gj - gi) (yj - yi) 0) ∧ w1.heap.size ≤ g0 ∧ Below w1.heap.size w1 wc)
  case first =>
    clear c0 c1 kw
    refine wp_region_held (S := fun w' : World => w'.cell? ⟨b, 3, none⟩ = some (.slice (some ⟨b2, o2, none⟩) (n + 1) c2) ∧ w'.cell? ⟨b, 4, none⟩ = some (.slice (some ⟨b3, o3, none⟩) (n + 1) c3) ∧ w'.cell? ⟨b, 5, none⟩ = some (.slice (some ⟨b4, o4, none⟩) (n + 1) c4) ∧ w'.cell? ⟨b2, o2 + i, none⟩ = some (.int .i64 wi) ∧ w'.cell? ⟨b2, o2 + j, none⟩ = some (.int .i64 wj) ∧ w'.cell? ⟨b3, o3 + i, none⟩ = some (.int .i64 gi) ∧ w'.cell? ⟨b3, o3 + j, none⟩ = some (.int .i64 gj) ∧ w'.cell? ⟨b4, o4 + i, none⟩ = some (.int .i64 yi) ∧ w'.cell? ⟨b4, o4 + j, none⟩ = some (.int .i64 yj)) (by kernel_rfl) ?_
    have hHeld : (fun w' : World => w'.cell? ⟨b, 3, none⟩ = some (.slice (some ⟨b2, o2, none⟩) (n + 1) c2) ∧ w'.cell? ⟨b, 4, none⟩ = some (.slice (some ⟨b3, o3, none⟩) (n + 1) c3) ∧ w'.cell? ⟨b, 5, none⟩ = some (.slice (some ⟨b4, o4, none⟩) (n + 1) c4) ∧ w'.cell? ⟨b2, o2 + i, none⟩ = some (.int .i64 wi) ∧ w'.cell? ⟨b2, o2 + j, none⟩ = some (.int .i64 wj) ∧ w'.cell? ⟨b3, o3 + i, none⟩ = some (.int .i64 gi) ∧ w'.cell? ⟨b3, o3 + j, none⟩ = some (.int .i64 gj) ∧ w'.cell? ⟨b4, o4 + i, none⟩ = some (.int .i64 yi) ∧ w'.cell? ⟨b4, o4 + j, none⟩ = some (.int .i64 yj)) _ := ⟨c3x, c4x, c5x, k2, l2, k3, l3, k4, l4⟩
    refine wpAnyH_take (i := 0) (v := ?vrq0) rfl (by kernel_rfl) (by kernel_rfl) (by kernel_rfl) (fun _ _ _ h => h) (Or.inl ⟨by rfl, ?hyrq0⟩) (by assumption) ?_
    case hyrq0 => (intro w hSw; (try dsimp only at hSw); go_simp; try with_reducible rfl)
    try simp only [Act.put]
    refine wpAnyH_take (i := 1) (v := ?vrq1) rfl (by kernel_rfl) (by kernel_rfl) (by kernel_rfl) (fun _ _ _ h => h) (Or.inl ⟨by rfl, ?hyrq1⟩) (by assumption) ?_
    case hyrq1 => (intro w hSw; (try dsimp only at hSw); go_simp; try with_reducible rfl)
    try simp only [Act.put]
    refine wpAnyH_take (i := 2) (v := ?vrq2) rfl (by kernel_rfl) (by kernel_rfl) (by kernel_rfl) (fun _ _ _ h => h) (Or.inl ⟨by rfl, ?hyrq2⟩) (by assumption) ?_
    case hyrq2 => (intro w hSw; (try dsimp only at hSw); go_simp; try with_reducible rfl)
    try simp only [Act.put]
    refine wpAnyH_take (i := 3) (v := ?vrq3) rfl (by kernel_rfl) (by kernel_rfl) (by kernel_rfl) (fun _ _ _ h => h) (Or.inl ⟨by rfl, ?hyrq3⟩) (by assumption) ?_
    case hyrq3 => (intro w hSw; (try dsimp only at hSw); go_simp; try with_reducible rfl)
    try simp only [Act.put]
    refine wpAnyH_take (i := 4) (v := ?vrq4) rfl (by kernel_rfl) (by kernel_rfl) (by kernel_rfl) (fun _ _ _ h => h) (Or.inl ⟨by rfl, ?hyrq4⟩) (by assumption) ?_
    case hyrq4 => (intro w hSw; (try dsimp only at hSw); go_simp; try with_reducible rfl)
    try simp only [Act.put]
    refine wpAnyH_take (i := 5) (v := ?vrq5) rfl (by kernel_rfl) (by kernel_rfl) (by kernel_rfl) (fun _ _ _ h => h) (Or.inl ⟨by rfl, ?hyrq5⟩) (by assumption) ?_
    case hyrq5 => (intro w hSw; (try dsimp only at hSw); go_simp; try with_reducible rfl)
    try simp only [Act.put]
    refine wpAnyH_take (i := 6) (v := ?vrq6) rfl (by kernel_rfl) (by kernel_rfl) (by kernel_rfl) (fun _ _ _ h => h) (Or.inl ⟨by rfl, ?hyrq6⟩) (by assumption) ?_
    case hyrq6 => (intro w hSw; (try dsimp only at hSw); go_simp; try with_reducible rfl)
    try simp only [Act.put]
    refine wpAnyH_take (i := 7) (v := ?vrq7) rfl (by kernel_rfl) (by kernel_rfl) (by kernel_rfl) (fun _ _ _ h => h) (Or.inl ⟨by rfl, ?hyrq7⟩) (by assumption) ?_
    case hyrq7 => (intro w hSw; (try dsimp only at hSw); go_simp; try with_reducible rfl)
    try simp only [Act.put]
    refine wpAnyH_take (i := 8) (v := ?vrq8) rfl (by kernel_rfl) (by kernel_rfl) (by kernel_rfl) (fun _ _ _ h => h) (Or.inl ⟨by rfl, ?hyrq8⟩) (by assumption) ?_
    case hyrq8 => (intro w hSw; (try dsimp only at hSw); go_simp; try with_reducible rfl)
    try simp only [Act.put]
    refine wpAnyH_take (i := 9) (v := ?vrq9) rfl (by kernel_rfl) (by kernel_rfl) (by kernel_rfl) (fun _ _ _ h => h) (Or.inl ⟨by rfl, ?hyrq9⟩) (by assumption) ?_
    case hyrq9 => (intro w hSw; (try dsimp only at hSw); go_simp; try with_reducible rfl)
    try simp only [Act.put]
    refine wpAnyH_take (i := 10) (v := ?vrq10) rfl (by kernel_rfl) (by kernel_rfl) (by kernel_rfl) (fun _ _ _ h => h) (Or.inl ⟨by rfl, ?hyrq10⟩) (by assumption) ?_
    case hyrq10 => (intro w hSw; (try dsimp only at hSw); go_simp; try with_reducible rfl)
    try simp only [Act.put]
    refine wpAnyH_take (i := 11) (v := ?vrq11) rfl (by kernel_rfl) (by kernel_rfl) (by kernel_rfl) (fun _ _ _ h => h) (Or.inl ⟨by rfl, ?hyrq11⟩) (by assumption) ?_
    case hyrq11 => (intro w hSw; (try dsimp only at hSw); go_simp; try with_reducible rfl)
    try simp only [Act.put]
    refine wpAnyH_take (i := 12) (v := ?vrq12) rfl (by kernel_rfl) (by kernel_rfl) (by kernel_rfl) (fun _ _ _ h => h) (Or.inl ⟨by rfl, ?hyrq12⟩) (by assumption) ?_
    case hyrq12 => (intro w hSw; (try dsimp only at hSw); go_simp; try with_reducible rfl)
    try simp only [Act.put]
    refine wpAnyH_take (i := 13) (v := ?vrq13) rfl (by kernel_rfl) (by kernel_rfl) (by kernel_rfl) (fun _ _ _ h => h) (Or.inl ⟨by rfl, ?hyrq13⟩) (by assumption) ?_
    case hyrq13 => (intro w hSw; (try dsimp only at hSw); go_simp; try with_reducible rfl)
    try simp only [Act.put]
    refine wpAnyH_take (i := 14) (v := ?vrq14) rfl (by kernel_rfl) (by kernel_rfl) (by kernel_rfl) (fun _ _ _ h => h) (Or.inl ⟨by rfl, ?hyrq14⟩) (by assumption) ?_
    case hyrq14 => (intro w hSw; (try dsimp only at hSw); go_simp; try with_reducible rfl)
    try simp only [Act.put]
    refine wpAnyH_take (i := 15) (v := ?vrq15) rfl (by kernel_rfl) (by kernel_rfl) (by kernel_rfl) (fun _ _ _ h => h) (Or.inl ⟨by rfl, ?hyrq15⟩) (by assumption) ?_
    case hyrq15 => (intro w hSw; (try dsimp only at hSw); go_simp; try with_reducible rfl)
    try simp only [Act.put]
    refine wpAnyH_take (i := 16) (v := ?vrq16) rfl (by kernel_rfl) (by kernel_rfl) (by kernel_rfl) (fun _ _ _ h => h) (Or.inl ⟨by rfl, ?hyrq16⟩) (by assumption) ?_
    case hyrq16 => (intro w hSw; (try dsimp only at hSw); go_simp; try with_reducible rfl)
    try simp only [Act.put]
    refine wpAnyH_take (i := 17) (v := ?vrq17) rfl (by kernel_rfl) (by kernel_rfl) (by kernel_rfl) (fun _ _ _ h => h) (Or.inl ⟨by rfl, ?hyrq17⟩) (by assumption) ?_
    case hyrq17 => (intro w hSw; (try dsimp only at hSw); go_simp; try with_reducible rfl)
    try simp only [Act.put]
    refine wpAnyH_take (i := 18) (v := ?vrq18) rfl (by kernel_rfl) (by kernel_rfl) (by kernel_rfl) (fun _ _ _ h => h) (Or.inl ⟨by rfl, ?hyrq18⟩) (by assumption) ?_
    case hyrq18 => (intro w hSw; (try dsimp only at hSw); go_simp; try with_reducible rfl)
    try simp only [Act.put]
    refine wpAnyH_take (i := 19) (v := ?vrq19) rfl (by kernel_rfl) (by kernel_rfl) (by kernel_rfl) (fun _ _ _ h => h) (Or.inl ⟨by rfl, ?hyrq19⟩) (by assumption) ?_
    case hyrq19 => (intro w hSw; (try dsimp only at hSw); go_simp; try with_reducible rfl)
    try simp only [Act.put]
    refine wpAnyH_take (i := 20) (v := ?vrq20) rfl (by kernel_rfl) (by kernel_rfl) (by kernel_rfl) (fun _ _ _ h => h) (Or.inl ⟨by rfl, ?hyrq20⟩) (by assumption) ?_
    case hyrq20 => (intro w hSw; (try dsimp only at hSw); go_simp; try with_reducible rfl)
    try simp only [Act.put]
    refine wpAnyH_take (i := 21) (v := ?vrq21) rfl (by kernel_rfl) (by kernel_rfl) (by kernel_rfl) (fun _ _ _ h => h) (Or.inl ⟨by rfl, ?hyrq21⟩) (by assumption) ?_
    case hyrq21 => (intro w hSw; (try dsimp only at hSw); go_simp; try with_reducible rfl)
    try simp only [Act.put]
    refine wpAnyH_take (i := 22) (v := ?vrq22) rfl (by kernel_rfl) (by kernel_rfl) (by kernel_rfl) (fun _ _ _ h => h) (Or.inl ⟨by rfl, ?hyrq22⟩) (by assumption) ?_
    case hyrq22 => (intro w hSw; (try dsimp only at hSw); go_simp; try with_reducible rfl)
    try simp only [Act.put]
    refine wpAnyH_take (i := 23) (v := ?vrq23) rfl (by kernel_rfl) (by kernel_rfl) (by kernel_rfl) (fun _ _ _ h => h) (Or.inl ⟨by rfl, ?hyrq23⟩) (by assumption) ?_
    case hyrq23 => (intro w hSw; (try dsimp only at hSw); go_simp; try with_reducible rfl)
    try simp only [Act.put]
    refine wpAnyH_take (i := 24) (v := ?vrq24) rfl (by kernel_rfl) (by kernel_rfl) (by kernel_rfl) (fun _ _ _ h => h) (Or.inl ⟨by rfl, ?hyrq24⟩) (by assumption) ?_
    case hyrq24 => (intro w hSw; (try dsimp only at hSw); go_simp; try with_reducible rfl)
    try simp only [Act.put]
    refine wpAnyH_take (i := 25) (v := ?vrq25) rfl (by kernel_rfl) (by kernel_rfl) (by kernel_rfl) (fun _ _ _ h => h) (Or.inl ⟨by rfl, ?hyrq25⟩) (by assumption) ?_
    case hyrq25 => (intro w hSw; (try dsimp only at hSw); go_simp; try with_reducible rfl)
    try simp only [Act.put]
    refine wpAnyH_take (i := 26) (v := ?vrq26) rfl (by kernel_rfl) (by kernel_rfl) (by kernel_rfl) (fun _ _ _ h => h) (Or.inl ⟨by rfl, ?hyrq26⟩) (by assumption) ?_
    case hyrq26 => (intro w hSw; (try dsimp only at hSw); go_simp; try with_reducible rfl)
    try simp only [Act.put]
    refine wpAnyH_take (i := 27) (v := ?vrq27) rfl (by kernel_rfl) (by kernel_rfl) (by kernel_rfl) (fun _ _ _ h => h) (Or.inl ⟨by rfl, ?hyrq27⟩) (by assumption) ?_
    case hyrq27 => (intro w hSw; (try dsimp only at hSw); go_simp; try with_reducible rfl)
    try simp only [Act.put]
    refine wpAnyH_take (i := 28) (v := ?vrq28) rfl (by kernel_rfl) (by kernel_rfl) (by kernel_rfl) (fun _ _ _ h => h) (Or.inl ⟨by rfl, ?hyrq28⟩) (by assumption) ?_
    case hyrq28 => (intro w hSw; (try dsimp only at hSw); go_simp; try with_reducible rfl)
    try simp only [Act.put]
    refine wpAnyH_take (i := 29) (v := ?vrq29) rfl (by kernel_rfl) (by kernel_rfl) (by kernel_rfl) (fun _ _ _ h => h) (Or.inl ⟨by rfl, ?hyrq29⟩) (by assumption) ?_
    case hyrq29 => (intro w hSw; (try dsimp only at hSw); go_simp; try with_reducible rfl)
    try simp only [Act.put]
    refine wpAnyH_take (i := 30) (v := ?vrq30) rfl (by kernel_rfl) (by kernel_rfl) (by kernel_rfl) (fun _ _ _ h => h) (Or.inl ⟨by rfl, ?hyrq30⟩) (by assumption) ?_
    case hyrq30 => (intro w hSw; (try dsimp only at hSw); go_simp; try with_reducible rfl)
    try simp only [Act.put]
    refine wpAnyH_take (i := 31) (v := ?vrq31) rfl (by kernel_rfl) (by kernel_rfl) (by kernel_rfl) (fun _ _ _ h => h) (Or.inl ⟨by rfl, ?hyrq31⟩) (by assumption) ?_
    case hyrq31 => (intro w hSw; (try dsimp only at hSw); go_simp; try with_reducible rfl)
    try simp only [Act.put]
    refine wpAnyH_take (i := 32) (v := ?vrq32) rfl (by kernel_rfl) (by kernel_rfl) (by kernel_rfl) (fun _ _ _ h => h) (Or.inl ⟨by rfl, ?hyrq32⟩) (by assumption) ?_
    case hyrq32 => (intro w hSw; (try dsimp only at hSw); go_simp; try with_reducible rfl)
    try simp only [Act.put]
    refine wpAnyH_take (i := 33) (v := ?vrq33) rfl (by kernel_rfl) (by kernel_rfl) (by kernel_rfl) (fun _ _ _ h => h) (Or.inl ⟨by rfl, ?hyrq33⟩) (by assumption) ?_
    case hyrq33 => (intro w hSw; (try dsimp only at hSw); go_simp; try with_reducible rfl)
    try simp only [Act.put]
    refine wpAnyH_take (i := 34) (v := ?vrq34) rfl (by kernel_rfl) (by kernel_rfl) (by kernel_rfl) (fun _ _ _ h => h) (Or.inl ⟨by rfl, ?hyrq34⟩) (by assumption) ?_
    case hyrq34 => (intro w hSw; (try dsimp only at hSw); go_simp; try with_reducible rfl)
    try simp only [Act.put]
    refine wpAnyH_take (i := 35) (v := ?vrq35) rfl (by kernel_rfl) (by kernel_rfl) (by kernel_rfl) (fun _ _ _ h => h) (Or.inl ⟨by rfl, ?hyrq35⟩) (by assumption) ?_
    case hyrq35 => (intro w hSw; (try dsimp only at hSw); go_simp; try with_reducible rfl)
    try simp only [Act.put]
    refine wpAnyH_take (i := 36) (v := ?vrq36) rfl (by kernel_rfl) (by kernel_rfl) (by kernel_rfl) (fun _ _ _ h => h) (Or.inl ⟨by rfl, ?hyrq36⟩) (by assumption) ?_
    case hyrq36 => (intro w hSw; (try dsimp only at hSw); go_simp; try with_reducible rfl)
    try simp only [Act.put]
    refine wpAnyH_take (i := 37) (v := ?vrq37) rfl (by kernel_rfl) (by kernel_rfl) (by kernel_rfl) (fun _ _ _ h => h) (Or.inl ⟨by rfl, ?hyrq37⟩) (by assumption) ?_
    case hyrq37 => (intro w hSw; (try dsimp only at hSw); go_simp; try with_reducible rfl)
    try simp only [Act.put]
    refine wpAnyH_take (i := 38) (v := ?vrq38) rfl (by kernel_rfl) (by kernel_rfl) (by kernel_rfl) (fun _ _ _ h => h) (Or.inl ⟨by rfl, ?hyrq38⟩) (by assumption) ?_
    case hyrq38 => (intro w hSw; (try dsimp only at hSw); go_simp; try with_reducible rfl)
    try simp only [Act.put]
    refine wpAnyH_take (i := 39) (v := ?vrq39) rfl (by kernel_rfl) (by kernel_rfl) (by kernel_rfl) (fun _ _ _ h => h) (Or.inl ⟨by rfl, ?hyrq39⟩) (by assumption) ?_
    case hyrq39 => (intro w hSw; (try dsimp only at hSw); go_simp; try with_reducible rfl)
    try simp only [Act.put]
    refine wpAnyH_take (i := 40) (v := ?vrq40) rfl (by kernel_rfl) (by kernel_rfl) (by kernel_rfl) (fun _ _ _ h => h) (Or.inl ⟨by rfl, ?hyrq40⟩) (by assumption) ?_
    case hyrq40 => (intro w hSw; (try dsimp only at hSw); go_simp; try with_reducible rfl)
    try simp only [Act.put]
    refine wpAnyH_take (i := 41) (v := ?vrq41) rfl (by kernel_rfl) (by kernel_rfl) (by kernel_rfl) (fun _ _ _ h => h) (Or.inl ⟨by rfl, ?hyrq41⟩) (by assumption) ?_
    case hyrq41 => (intro w hSw; (try dsimp only at hSw); go_simp; try with_reducible rfl)
    try simp only [Act.put]
    refine wpAnyH_take (i := 42) (v := ?vrq42) rfl (by kernel_rfl) (by kernel_rfl) (by kernel_rfl) (fun _ _ _ h => h) (Or.inl ⟨by rfl, ?hyrq42⟩) (by assumption) ?_
    case hyrq42 => (intro w hSw; (try dsimp only at hSw); go_simp; try with_reducible rfl)
    try simp only [Act.put]
    refine wpAnyH_take (i := 43) (v := ?vrq43) rfl (by kernel_rfl) (by kernel_rfl) (by kernel_rfl) (fun _ _ _ h => h) (Or.inl ⟨by rfl, ?hyrq43⟩) (by assumption) ?_
    case hyrq43 => (intro w hSw; (try dsimp only at hSw); go_simp; try with_reducible rfl)
    try simp only [Act.put]
    refine wpAnyH_take (i := 44) (v := ?vrq44) rfl (by kernel_rfl) (by kernel_rfl) (by kernel_rfl) (fun _ _ _ h => h) (Or.inl ⟨by rfl, ?hyrq44⟩) (by assumption) ?_
    case hyrq44 => (intro w hSw; (try dsimp only at hSw); go_simp; try with_reducible rfl)
    try simp only [Act.put]
    refine wpAnyH_take (i := 45) (v := ?vrq45) rfl (by kernel_rfl) (by kernel_rfl) (by kernel_rfl) (fun _ _ _ h => h) (Or.inl ⟨by rfl, ?hyrq45⟩) (by assumption) ?_
    case hyrq45 => (intro w hSw; (try dsimp only at hSw); go_simp; try with_reducible rfl)
    try simp only [Act.put]
    refine wpAnyH_take (i := 46) (v := ?vrq46) rfl (by kernel_rfl) (by kernel_rfl) (by kernel_rfl) (fun _ _ _ h => h) (Or.inl ⟨by rfl, ?hyrq46⟩) (by assumption) ?_
    case hyrq46 => (intro w hSw; (try dsimp only at hSw); go_simp; try with_reducible rfl)
    try simp only [Act.put]
    refine wpAnyH_take (i := 47) (v := ?vrq47) rfl (by kernel_rfl) (by kernel_rfl) (by kernel_rfl) (fun _ _ _ h => h) (Or.inl ⟨by rfl, ?hyrq47⟩) (by assumption) ?_
    case hyrq47 => (intro w hSw; (try dsimp only at hSw); go_simp; try with_reducible rfl)
    try simp only [Act.put]
    refine boxes_run (k := 1) (al := fun i => 48 + i) (st := fun i => 49 + i) (ty := fun _ => 35) (d := fun i => 9 + i) (x := (fun bi : Nat => Operand.tmp 60)) (V := fun bi => Value.agg ((fun bi : Nat => lbc i j (wj - wi) (gj - gi) (yj - yi) 0) bi)) (zc := fun _ => lbc 0 0 0 0 0 0) (vc := (fun bi : Nat => lbc i j (wj - wi) (gj - gi) (yj - yi) 0)) ⟨by kernel_rfl, fun i hi => ?har, fun i hi => ?hbr, by kernel_rfl, fun i hi => ?hur, fun i j hi hj hij => ⟨fun e => hij (Nat.add_left_cancel e), fun e => hij (Nat.add_left_cancel e), fun e => hij (Nat.add_left_cancel e)⟩, fun i j hi hj => (by show 48 + i ≠ 49 + j; omega), fun i hi => ?hdr, fun i hi a' h => ?hvr, fun i hi w => alloc_lb w, fun i hi w g h => ?hsr⟩ (Nat.le_of_ble_eq_true (by kernel_rfl)) rfl ?hSr ?her
    case har =>
      match i, hi with
      | 0, _ => exact ⟨_, rfl, rfl, rfl⟩
    case hbr =>
      match i, hi with
      | 0, _ => exact ⟨_, rfl, rfl, rfl, by kernel_rfl⟩
    case hur =>
      match i, hi with
      | 0, _ => exact ⟨rfl, rfl⟩
    case hdr =>
      match i, hi with
      | 0, _ => simp
    case hvr =>
      match i, hi with
      | 0, _ => (show a'.tmps.getD 60 undef = _; rw [Array.getD_eq_getD_getElem?, h 60 (fun j hj => (by show 60 ≠ 9 + j; omega))]; simp [lbc])
    case hsr =>
      match i, hi with
      | 0, _ => exact store_lb w g _ _ _ _ _ _ h
    case hSr => exact fun w' hb => ⟨(hb.cell (World.block_lt_of_cell? _ _ c3x)).trans c3x, (hb.cell (World.block_lt_of_cell? _ _ c4x)).trans c4x, (hb.cell (World.block_lt_of_cell? _ _ c5x)).trans c5x, (hb.cell (World.block_lt_of_cell? _ _ k2)).trans k2, (hb.cell (World.block_lt_of_cell? _ _ l2)).trans l2, (hb.cell (World.block_lt_of_cell? _ _ k3)).trans k3, (hb.cell (World.block_lt_of_cell? _ _ l3)).trans l3, (hb.cell (World.block_lt_of_cell? _ _ k4)).trans k4, (hb.cell (World.block_lt_of_cell? _ _ l4)).trans l4⟩
    intro g w' hblk hne hbel
    have h0 := (hblk 0 (by omega)).2
    have hg := (hblk 0 (by omega)).1
    have hbel' : Below w1.heap.size w1 w' := ⟨hbel.os, hbel.tape, hbel.output, hbel.size, hbel.block⟩
    simp only [boxed, Act.put, List.setIfInBounds_toArray, Nat.reduceAdd]
    go_wp2_with fail
    go_meet
    exact ⟨g 0, rfl, h0, hg, hbel'⟩
  case rest =>
    obtain ⟨g0, rfl, h0, hg, hbel'⟩ := hcut
    have c0w := (hbel'.cell (World.block_lt_of_cell? _ _ c0)).trans c0
    have c1w := (hbel'.cell (World.block_lt_of_cell? _ _ c1)).trans c1
    have kww := (hbel'.cell (World.block_lt_of_cell? _ _ kw)).trans kw
    have hlow : ∀ (p : Addr) (u : Value), w.cell? p = some u → wc.cell? p = some u := fun p u hp => by
      have h1 := (Hbl.out.cell (World.block_lt_of_cell? _ _ hp)).trans hp
      exact (hbel'.cell (World.block_lt_of_cell? _ _ h1)).trans h1
    have Hlow := hide hlow
    have Hbel := hide hbel'
    have Hg0 := hide h0
    have Hg := hide hg
    have hne : b < g0 := by omega
    have hne2 : bw < g0 := by have := World.block_lt_of_cell? _ _ kw; simp only at this; omega
    have Hc1 := hide (And.intro c1 kw)
    clear c3x c4x c5x k2 l2 k3 l3 k4 l4 q2 q3 c0 c1 kw hlow hbel' h0 hg
    go_upto_region 3 with fail
    go_cut [78] (fun v wd => v = .bool (decide (j < n ∧ P.kd j = 2)) ∧ wc = wd)
    case first =>
      clear c1w kww
      by_cases hlt : j < n
      · obtain ⟨bp, off, rfl, k0, k1⟩ := HJ.out hlt
        have m0 := Hlow.out _ _ k0
        have d1 : decide ((j : Int) < (n : Int)) = true := by simp; omega
        have i6 : (j : Int) < (n : Int) := by omega
        clear k0 k1
        by_cases h2 : P.kd j = 2
        · have d2 : (P.kd j == 2) = true := by simpa using h2
          have hr := hide (show decide (j < n ∧ P.kd j = 2) = true by simp [hlt, h2])
          clear hlt h2
          go_wp2_with fail
          go_meet
          exact ⟨by rw [hr.out], rfl⟩
        · have d2 : (P.kd j == 2) = false := by simpa using h2
          have hr := hide (show decide (j < n ∧ P.kd j = 2) = false by simp [h2])
          clear hlt h2
          go_wp2_with fail
          go_meet
          exact ⟨by rw [hr.out], rfl⟩
      · have d1 : decide ((j : Int) < (n : Int)) = false := by simp; omega
        have i6 : (n : Int) ≤ (j : Int) := by omega
        have i7 : ¬ ((j : Int) < (n : Int)) := by omega
        have hr := hide (show decide (j < n ∧ P.kd j = 2) = false by simp [hlt])
        clear hlt
        go_wp2_with fail
        go_meet
        exact ⟨by rw [hr.out], rfl⟩
    case rest =>
      obtain ⟨rfl, rfl⟩ := hcut
      go_upto_if 78 with fail
      go_cut [] (fun wd => Blk wd g0 35 (lbc i j (wj - wi + ad) (gj - gi) (yj - yi) 0) ∧ Below w1.heap.size w1 wd)
      case first =>
        clear c1w kww
        cases hQ : decide (j < n ∧ P.kd j = 2) with
        | false =>
          have hz : ad = 0 := by rw [HA.out, if_neg (of_decide_eq_false hQ)]
          have Hz := hide hz
          clear hQ hz
          go_wp2_with fail
          go_meet
          exact ⟨by rw [Hz.out, Int.add_zero]; exact Hg0.out, Hbel.out⟩
        | true =>
          have hq := of_decide_eq_true hQ
          have hz : ad = P.wd j := by rw [HA.out, if_pos hq]
          obtain ⟨bp, off, rfl, k0, k1⟩ := HJ.out hq.1
          have m1 := Hlow.out _ _ k1
          have i6 : (j : Int) < (n : Int) := by have := hq.1; omega
          have f2 : wc.cell? ⟨g0, 2, none⟩ = some (.int .i64 (wj - wi)) := Hg0.out.cell 2
          have zf : wc.frozen? ⟨g0, 2, none⟩ = false := Hg0.out.frozen 2
          have hw := HW.out hq.1
          have q5 : IntKind.i64.wrap (wj - wi + P.wd j) = wj - wi + P.wd j := IntWalk.i64_in _ (by omega)
          have Hz := hide hz
          clear hQ hz hq k0 k1 q1 hw
          go_upto_region 4 with fail
          refine wp_region_sink (S := fun w' : World => w'.cell? ⟨b, 0, none⟩ = some (.slice (some ⟨bp, off, none⟩) n cp) ∧ w'.cell? ⟨bp, off + j * 6 + 1, none⟩ = some (.int .i64 (P.wd j)) ∧ w'.cell? ⟨g0, 2, none⟩ = some (.int .i64 (wj - wi))) 12 (by kernel_rfl) (by kernel_rfl) (by kernel_rfl) (by kernel_rfl) ?hSB (fun hHeld => ?_)
          case hSB => exact ⟨c0w, m1, f2⟩
          simp only [List.take_succ_cons, List.take_zero]
          refine wpAnyH_take (i := 0) (v := ?vBn0) rfl (by kernel_rfl) (by kernel_rfl) (by kernel_rfl) (fun _ _ _ h => h) (Or.inl ⟨by rfl, ?hyBn0⟩) (by assumption) ?_
          case hyBn0 => (intro w hSw; (try dsimp only at hSw); go_simp; try with_reducible rfl)
          simp only [Act.put, List.getElem_toArray, List.getElem_cons_zero, List.setIfInBounds_toArray, List.set_cons_zero, List.set_cons_succ]
          refine wpAnyH_take (i := 1) (v := ?vBn1) rfl (by kernel_rfl) (by kernel_rfl) (by kernel_rfl) (fun _ _ _ h => h) (Or.inl ⟨by rfl, ?hyBn1⟩) (by assumption) ?_
          case hyBn1 => (intro w hSw; (try dsimp only at hSw); go_simp; try with_reducible rfl)
          simp only [Act.put, List.getElem_toArray, List.getElem_cons_zero, List.getElem_cons_succ, List.setIfInBounds_toArray, List.set_cons_zero, List.set_cons_succ]
          refine wpAnyH_take (i := 2) (v := ?vBn2) rfl (by kernel_rfl) (by kernel_rfl) (by kernel_rfl) (fun _ _ _ h => h) (Or.inl ⟨by rfl, ?hyBn2⟩) (by assumption) ?_
          case hyBn2 => (intro w hSw; (try dsimp only at hSw); go_simp; try with_reducible rfl)
          simp only [Act.put, List.getElem_toArray, List.getElem_cons_zero, List.getElem_cons_succ, List.setIfInBounds_toArray, List.set_cons_zero, List.set_cons_succ]
          refine wpAnyH_take (i := 3) (v := ?vBn3) rfl (by kernel_rfl) (by kernel_rfl) (by kernel_rfl) (fun _ _ _ h => h) (Or.inl ⟨by rfl, ?hyBn3⟩) (by assumption) ?_
          case hyBn3 => (intro w hSw; (try dsimp only at hSw); go_simp; try with_reducible rfl)
          simp only [Act.put, List.getElem_toArray, List.getElem_cons_zero, List.getElem_cons_succ, List.setIfInBounds_toArray, List.set_cons_zero, List.set_cons_succ]
          refine wpAnyH_take (i := 4) (v := ?vBn4) rfl (by kernel_rfl) (by kernel_rfl) (by kernel_rfl) (fun _ _ _ h => h) (Or.inl ⟨by rfl, ?hyBn4⟩) (by assumption) ?_
          case hyBn4 => (intro w hSw; (try dsimp only at hSw); go_simp; try with_reducible rfl)
          simp only [Act.put, List.getElem_toArray, List.getElem_cons_zero, List.getElem_cons_succ, List.setIfInBounds_toArray, List.set_cons_zero, List.set_cons_succ]
          refine wpAnyH_take (i := 5) (v := ?vBn5) rfl (by kernel_rfl) (by kernel_rfl) (by kernel_rfl) (fun _ _ _ h => h) (Or.inl ⟨by rfl, ?hyBn5⟩) (by assumption) ?_
          case hyBn5 => (intro w hSw; (try dsimp only at hSw); go_simp; try with_reducible rfl)
          simp only [Act.put, List.getElem_toArray, List.getElem_cons_zero, List.getElem_cons_succ, List.setIfInBounds_toArray, List.set_cons_zero, List.set_cons_succ]
          refine wpAnyH_take (i := 6) (v := ?vBn6) rfl (by kernel_rfl) (by kernel_rfl) (by kernel_rfl) (fun _ _ _ h => h) (Or.inl ⟨by rfl, ?hyBn6⟩) (by assumption) ?_
          case hyBn6 => (intro w hSw; (try dsimp only at hSw); go_simp; try with_reducible rfl)
          simp only [Act.put, List.getElem_toArray, List.getElem_cons_zero, List.getElem_cons_succ, List.setIfInBounds_toArray, List.set_cons_zero, List.set_cons_succ]
          refine wpAnyH_take (i := 7) (v := ?vBn7) rfl (by kernel_rfl) (by kernel_rfl) (by kernel_rfl) (fun _ _ _ h => h) (Or.inl ⟨by rfl, ?hyBn7⟩) (by assumption) ?_
          case hyBn7 => (intro w hSw; (try dsimp only at hSw); go_simp; try with_reducible rfl)
          simp only [Act.put, List.getElem_toArray, List.getElem_cons_zero, List.getElem_cons_succ, List.setIfInBounds_toArray, List.set_cons_zero, List.set_cons_succ]
          refine wpAnyH_take (i := 8) (v := ?vBn8) rfl (by kernel_rfl) (by kernel_rfl) (by kernel_rfl) (fun _ _ _ h => h) (Or.inl ⟨by rfl, ?hyBn8⟩) (by assumption) ?_
          case hyBn8 => (intro w hSw; (try dsimp only at hSw); go_simp; try with_reducible rfl)
          simp only [Act.put, List.getElem_toArray, List.getElem_cons_zero, List.getElem_cons_succ, List.setIfInBounds_toArray, List.set_cons_zero, List.set_cons_succ]
          refine wpAnyH_take (i := 9) (v := ?vBn9) rfl (by kernel_rfl) (by kernel_rfl) (by kernel_rfl) (fun _ _ _ h => h) (Or.inl ⟨by rfl, ?hyBn9⟩) (by assumption) ?_
          case hyBn9 => (intro w hSw; (try dsimp only at hSw); go_simp; try with_reducible rfl)
          simp only [Act.put, List.getElem_toArray, List.getElem_cons_zero, List.getElem_cons_succ, List.setIfInBounds_toArray, List.set_cons_zero, List.set_cons_succ]
          refine wpAnyH_take (i := 10) (v := ?vBn10) rfl (by kernel_rfl) (by kernel_rfl) (by kernel_rfl) (fun _ _ _ h => h) (Or.inl ⟨by rfl, ?hyBn10⟩) (by assumption) ?_
          case hyBn10 => (intro w hSw; (try dsimp only at hSw); go_simp; try with_reducible rfl)
          simp only [Act.put, List.getElem_toArray, List.getElem_cons_zero, List.getElem_cons_succ, List.setIfInBounds_toArray, List.set_cons_zero, List.set_cons_succ]
          refine wpAnyH_take (i := 11) (v := ?vBn11) rfl (by kernel_rfl) (by kernel_rfl) (by kernel_rfl) (fun _ _ _ h => h) (Or.inl ⟨by rfl, ?hyBn11⟩) (by assumption) ?_
          case hyBn11 => (intro w hSw; (try dsimp only at hSw); go_simp; try with_reducible rfl)
          simp only [Act.put, List.getElem_toArray, List.getElem_cons_zero, List.getElem_cons_succ, List.setIfInBounds_toArray, List.set_cons_zero, List.set_cons_succ]
          refine wpAnyH_done (by kernel_rfl) ?_ _
          refine sink_run rfl rfl ?_
          go_simp
          go_wp2_with fail
          go_meet
          exact ⟨by
            rw [Hz.out]
            exact blk_cells (by simp [lbc]) ((Hg0.out.drewN 1).set_ 2 (.int .i64 (wj - wi + P.wd j))), ((below_drewN Hbel.out 1).setCell (p := ⟨g0, 2, none⟩) Hg.out _)⟩
      case rest =>
        obtain ⟨h0, hbel'⟩ := hcut
        obtain ⟨c1, kw⟩ := Hc1.out
        have c1y := (hbel'.cell (World.block_lt_of_cell? _ _ c1)).trans c1
        have kwy := (hbel'.cell (World.block_lt_of_cell? _ _ kw)).trans kw
        have f5 : wc.cell? ⟨g0, 5, none⟩ = some (.int .i64 0) := h0.cell 5
        have zf : wc.frozen? ⟨g0, 5, none⟩ = false := h0.frozen 5
        have H0 := hide h0
        have Hb := hide hbel'
        clear c1 kw h0 hbel' c0w c1w kww q1 hmn HJ
        go_upto_region 5 with fail
        go_cut [] (fun we => Blk we g0 35 (lbc i j (wj - wi + ad) (gj - gi) (yj - yi) wdm) ∧ Below w1.heap.size w1 we)
        case first =>
          refine wp_region_sink (S := fun w' : World => w'.cell? ⟨b, 1, none⟩ = some (.slice (some ⟨bw, ow, none⟩) L cw) ∧ w'.cell? ⟨bw, ow + m, none⟩ = some (.int .i64 wdm)) 17 (by kernel_rfl) (by kernel_rfl) (by kernel_rfl) (by kernel_rfl) ?hSA (fun hHeld => ?_)
          case hSA => exact ⟨c1y, kwy⟩
          simp only [List.take_succ_cons, List.take_zero]
          refine wpAnyH_take (i := 0) (v := ?vAn0) rfl (by kernel_rfl) (by kernel_rfl) (by kernel_rfl) (fun _ _ _ h => h) (Or.inl ⟨by rfl, ?hyAn0⟩) (by assumption) ?_
          case hyAn0 => (intro w hSw; (try dsimp only at hSw); go_simp; try with_reducible rfl)
          simp only [Act.put, List.getElem_toArray, List.getElem_cons_zero, List.setIfInBounds_toArray, List.set_cons_zero, List.set_cons_succ]
          refine wpAnyH_take (i := 1) (v := ?vAn1) rfl (by kernel_rfl) (by kernel_rfl) (by kernel_rfl) (fun _ _ _ h => h) (Or.inl ⟨by rfl, ?hyAn1⟩) (by assumption) ?_
          case hyAn1 => (intro w hSw; (try dsimp only at hSw); go_simp; try with_reducible rfl)
          simp only [Act.put, List.getElem_toArray, List.getElem_cons_zero, List.getElem_cons_succ, List.setIfInBounds_toArray, List.set_cons_zero, List.set_cons_succ]
          refine wpAnyH_take (i := 2) (v := ?vAn2) rfl (by kernel_rfl) (by kernel_rfl) (by kernel_rfl) (fun _ _ _ h => h) (Or.inl ⟨by rfl, ?hyAn2⟩) (by assumption) ?_
          case hyAn2 => (intro w hSw; (try dsimp only at hSw); go_simp; try with_reducible rfl)
          simp only [Act.put, List.getElem_toArray, List.getElem_cons_zero, List.getElem_cons_succ, List.setIfInBounds_toArray, List.set_cons_zero, List.set_cons_succ]
          refine wpAnyH_take (i := 3) (v := ?vAn3) rfl (by kernel_rfl) (by kernel_rfl) (by kernel_rfl) (fun _ _ _ h => h) (Or.inl ⟨by rfl, ?hyAn3⟩) (by assumption) ?_
          case hyAn3 => (intro w hSw; (try dsimp only at hSw); go_simp; try with_reducible rfl)
          simp only [Act.put, List.getElem_toArray, List.getElem_cons_zero, List.getElem_cons_succ, List.setIfInBounds_toArray, List.set_cons_zero, List.set_cons_succ]
          refine wpAnyH_take (i := 4) (v := ?vAn4) rfl (by kernel_rfl) (by kernel_rfl) (by kernel_rfl) (fun _ _ _ h => h) (Or.inl ⟨by rfl, ?hyAn4⟩) (by assumption) ?_
          case hyAn4 => (intro w hSw; (try dsimp only at hSw); go_simp; try with_reducible rfl)
          simp only [Act.put, List.getElem_toArray, List.getElem_cons_zero, List.getElem_cons_succ, List.setIfInBounds_toArray, List.set_cons_zero, List.set_cons_succ]
          refine wpAnyH_take (i := 5) (v := ?vAn5) rfl (by kernel_rfl) (by kernel_rfl) (by kernel_rfl) (fun _ _ _ h => h) (Or.inl ⟨by rfl, ?hyAn5⟩) (by assumption) ?_
          case hyAn5 => (intro w hSw; (try dsimp only at hSw); go_simp; try with_reducible rfl)
          simp only [Act.put, List.getElem_toArray, List.getElem_cons_zero, List.getElem_cons_succ, List.setIfInBounds_toArray, List.set_cons_zero, List.set_cons_succ]
          refine wpAnyH_take (i := 6) (v := ?vAn6) rfl (by kernel_rfl) (by kernel_rfl) (by kernel_rfl) (fun _ _ _ h => h) (Or.inl ⟨by rfl, ?hyAn6⟩) (by assumption) ?_
          case hyAn6 => (intro w hSw; (try dsimp only at hSw); go_simp; try with_reducible rfl)
          simp only [Act.put, List.getElem_toArray, List.getElem_cons_zero, List.getElem_cons_succ, List.setIfInBounds_toArray, List.set_cons_zero, List.set_cons_succ]
          refine wpAnyH_take (i := 7) (v := ?vAn7) rfl (by kernel_rfl) (by kernel_rfl) (by kernel_rfl) (fun _ _ _ h => h) (Or.inl ⟨by rfl, ?hyAn7⟩) (by assumption) ?_
          case hyAn7 => (intro w hSw; (try dsimp only at hSw); go_simp; try with_reducible rfl)
          simp only [Act.put, List.getElem_toArray, List.getElem_cons_zero, List.getElem_cons_succ, List.setIfInBounds_toArray, List.set_cons_zero, List.set_cons_succ]
          refine wpAnyH_take (i := 8) (v := ?vAn8) rfl (by kernel_rfl) (by kernel_rfl) (by kernel_rfl) (fun _ _ _ h => h) (Or.inl ⟨by rfl, ?hyAn8⟩) (by assumption) ?_
          case hyAn8 => (intro w hSw; (try dsimp only at hSw); go_simp; try with_reducible rfl)
          simp only [Act.put, List.getElem_toArray, List.getElem_cons_zero, List.getElem_cons_succ, List.setIfInBounds_toArray, List.set_cons_zero, List.set_cons_succ]
          refine wpAnyH_take (i := 9) (v := ?vAn9) rfl (by kernel_rfl) (by kernel_rfl) (by kernel_rfl) (fun _ _ _ h => h) (Or.inl ⟨by rfl, ?hyAn9⟩) (by assumption) ?_
          case hyAn9 => (intro w hSw; (try dsimp only at hSw); go_simp; try with_reducible rfl)
          simp only [Act.put, List.getElem_toArray, List.getElem_cons_zero, List.getElem_cons_succ, List.setIfInBounds_toArray, List.set_cons_zero, List.set_cons_succ]
          refine wpAnyH_take (i := 10) (v := ?vAn10) rfl (by kernel_rfl) (by kernel_rfl) (by kernel_rfl) (fun _ _ _ h => h) (Or.inl ⟨by rfl, ?hyAn10⟩) (by assumption) ?_
          case hyAn10 => (intro w hSw; (try dsimp only at hSw); go_simp; try with_reducible rfl)
          simp only [Act.put, List.getElem_toArray, List.getElem_cons_zero, List.getElem_cons_succ, List.setIfInBounds_toArray, List.set_cons_zero, List.set_cons_succ]
          refine wpAnyH_take (i := 11) (v := ?vAn11) rfl (by kernel_rfl) (by kernel_rfl) (by kernel_rfl) (fun _ _ _ h => h) (Or.inl ⟨by rfl, ?hyAn11⟩) (by assumption) ?_
          case hyAn11 => (intro w hSw; (try dsimp only at hSw); go_simp; try with_reducible rfl)
          simp only [Act.put, List.getElem_toArray, List.getElem_cons_zero, List.getElem_cons_succ, List.setIfInBounds_toArray, List.set_cons_zero, List.set_cons_succ]
          refine wpAnyH_take (i := 12) (v := ?vAn12) rfl (by kernel_rfl) (by kernel_rfl) (by kernel_rfl) (fun _ _ _ h => h) (Or.inl ⟨by rfl, ?hyAn12⟩) (by assumption) ?_
          case hyAn12 => (intro w hSw; (try dsimp only at hSw); go_simp; try with_reducible rfl)
          simp only [Act.put, List.getElem_toArray, List.getElem_cons_zero, List.getElem_cons_succ, List.setIfInBounds_toArray, List.set_cons_zero, List.set_cons_succ]
          refine wpAnyH_take (i := 13) (v := ?vAn13) rfl (by kernel_rfl) (by kernel_rfl) (by kernel_rfl) (fun _ _ _ h => h) (Or.inl ⟨by rfl, ?hyAn13⟩) (by assumption) ?_
          case hyAn13 => (intro w hSw; (try dsimp only at hSw); go_simp; try with_reducible rfl)
          simp only [Act.put, List.getElem_toArray, List.getElem_cons_zero, List.getElem_cons_succ, List.setIfInBounds_toArray, List.set_cons_zero, List.set_cons_succ]
          refine wpAnyH_take (i := 14) (v := ?vAn14) rfl (by kernel_rfl) (by kernel_rfl) (by kernel_rfl) (fun _ _ _ h => h) (Or.inl ⟨by rfl, ?hyAn14⟩) (by assumption) ?_
          case hyAn14 => (intro w hSw; (try dsimp only at hSw); go_simp; try with_reducible rfl)
          simp only [Act.put, List.getElem_toArray, List.getElem_cons_zero, List.getElem_cons_succ, List.setIfInBounds_toArray, List.set_cons_zero, List.set_cons_succ]
          refine wpAnyH_take (i := 15) (v := ?vAn15) rfl (by kernel_rfl) (by kernel_rfl) (by kernel_rfl) (fun _ _ _ h => h) (Or.inl ⟨by rfl, ?hyAn15⟩) (by assumption) ?_
          case hyAn15 => (intro w hSw; (try dsimp only at hSw); go_simp; try with_reducible rfl)
          simp only [Act.put, List.getElem_toArray, List.getElem_cons_zero, List.getElem_cons_succ, List.setIfInBounds_toArray, List.set_cons_zero, List.set_cons_succ]
          refine wpAnyH_take (i := 16) (v := ?vAn16) rfl (by kernel_rfl) (by kernel_rfl) (by kernel_rfl) (fun _ _ _ h => h) (Or.inl ⟨by rfl, ?hyAn16⟩) (by assumption) ?_
          case hyAn16 => (intro w hSw; (try dsimp only at hSw); go_simp; try with_reducible rfl)
          simp only [Act.put, List.getElem_toArray, List.getElem_cons_zero, List.getElem_cons_succ, List.setIfInBounds_toArray, List.set_cons_zero, List.set_cons_succ]
          refine wpAnyH_done (by kernel_rfl) ?_ _
          refine sink_run rfl rfl ?_
          go_simp
          go_wp2_with fail
          go_meet
          exact ⟨blk_cells (by simp [lbc]) ((H0.out.drewN 1).set_ 5 (.int .i64 wdm)), ((below_drewN Hb.out 1).setCell (p := ⟨g0, 5, none⟩) Hg.out _)⟩
        case rest =>
          obtain ⟨h0, hbel'⟩ := hcut
          have Hbz := hide (Hbl.out.trans (hbel'.mono Hbl.out.size))
          have bR := f0.below hbel' f0.lt
          have p0 : wc.cell? ⟨g0, 0, none⟩ = some (.int .i64 i) := h0.cell 0
          have p1 : wc.cell? ⟨g0, 1, none⟩ = some (.int .i64 j) := h0.cell 1
          have p2 : wc.cell? ⟨g0, 2, none⟩ = some (.int .i64 (wj - wi + ad)) := h0.cell 2
          have p3 : wc.cell? ⟨g0, 3, none⟩ = some (.int .i64 (gj - gi)) := h0.cell 3
          have p4 : wc.cell? ⟨g0, 4, none⟩ = some (.int .i64 (yj - yi)) := h0.cell 4
          have p5 : wc.cell? ⟨g0, 5, none⟩ = some (.int .i64 wdm) := h0.cell 5
          have r0 : wc.cell? ⟨w.heap.size, 0, none⟩ = some (.int .i64 0) := bR.cell 0
          have r1 : wc.cell? ⟨w.heap.size, 1, none⟩ = some (.int .i64 0) := bR.cell 1
          have r2 : wc.cell? ⟨w.heap.size, 2, none⟩ = some (.int .i64 0) := bR.cell 2
          have r3 : wc.cell? ⟨w.heap.size, 3, none⟩ = some (.int .i64 0) := bR.cell 3
          have r4 : wc.cell? ⟨w.heap.size, 4, none⟩ = some (.int .i64 0) := bR.cell 4
          have r5 : wc.cell? ⟨w.heap.size, 5, none⟩ = some (.int .i64 0) := bR.cell 5
          have z0 : wc.frozen? ⟨w.heap.size, 0, none⟩ = false := bR.frozen 0
          have z1 : wc.frozen? ⟨w.heap.size, 1, none⟩ = false := bR.frozen 1
          have z2 : wc.frozen? ⟨w.heap.size, 2, none⟩ = false := bR.frozen 2
          have z3 : wc.frozen? ⟨w.heap.size, 3, none⟩ = false := bR.frozen 3
          have z4 : wc.frozen? ⟨w.heap.size, 4, none⟩ = false := bR.frozen 4
          have z5 : wc.frozen? ⟨w.heap.size, 5, none⟩ = false := bR.frozen 5
          clear H0 Hb h0 hbel' f0 f5 zf
          generalize hR : w.heap.size = gR at *
          have q0 : (wc.setCell ⟨gR, 0, none⟩ (.int .i64 i)).cell? ⟨gR, 0, none⟩ = some (.int .i64 i) := (bR.set_ 0 (.int .i64 i)).cell 0
          have q1 : ((wc.setCell ⟨gR, 0, none⟩ (.int .i64 i)).setCell ⟨gR, 1, none⟩ (.int .i64 j)).cell? ⟨gR, 1, none⟩ = some (.int .i64 j) := ((bR.set_ 0 (.int .i64 i)).set_ 1 (.int .i64 j)).cell 1
          have q2 : (((wc.setCell ⟨gR, 0, none⟩ (.int .i64 i)).setCell ⟨gR, 1, none⟩ (.int .i64 j)).setCell ⟨gR, 2, none⟩ (.int .i64 (wj - wi + ad))).cell? ⟨gR, 2, none⟩ = some (.int .i64 (wj - wi + ad)) := (((bR.set_ 0 (.int .i64 i)).set_ 1 (.int .i64 j)).set_ 2 (.int .i64 (wj - wi + ad))).cell 2
          have q3 : ((((wc.setCell ⟨gR, 0, none⟩ (.int .i64 i)).setCell ⟨gR, 1, none⟩ (.int .i64 j)).setCell ⟨gR, 2, none⟩ (.int .i64 (wj - wi + ad))).setCell ⟨gR, 3, none⟩ (.int .i64 (gj - gi))).cell? ⟨gR, 3, none⟩ = some (.int .i64 (gj - gi)) := ((((bR.set_ 0 (.int .i64 i)).set_ 1 (.int .i64 j)).set_ 2 (.int .i64 (wj - wi + ad))).set_ 3 (.int .i64 (gj - gi))).cell 3
          have q4 : (((((wc.setCell ⟨gR, 0, none⟩ (.int .i64 i)).setCell ⟨gR, 1, none⟩ (.int .i64 j)).setCell ⟨gR, 2, none⟩ (.int .i64 (wj - wi + ad))).setCell ⟨gR, 3, none⟩ (.int .i64 (gj - gi))).setCell ⟨gR, 4, none⟩ (.int .i64 (yj - yi))).cell? ⟨gR, 4, none⟩ = some (.int .i64 (yj - yi)) := (((((bR.set_ 0 (.int .i64 i)).set_ 1 (.int .i64 j)).set_ 2 (.int .i64 (wj - wi + ad))).set_ 3 (.int .i64 (gj - gi))).set_ 4 (.int .i64 (yj - yi))).cell 4
          have q5 : ((((((wc.setCell ⟨gR, 0, none⟩ (.int .i64 i)).setCell ⟨gR, 1, none⟩ (.int .i64 j)).setCell ⟨gR, 2, none⟩ (.int .i64 (wj - wi + ad))).setCell ⟨gR, 3, none⟩ (.int .i64 (gj - gi))).setCell ⟨gR, 4, none⟩ (.int .i64 (yj - yi))).setCell ⟨gR, 5, none⟩ (.int .i64 wdm)).cell? ⟨gR, 5, none⟩ = some (.int .i64 wdm) := ((((((bR.set_ 0 (.int .i64 i)).set_ 1 (.int .i64 j)).set_ 2 (.int .i64 (wj - wi + ad))).set_ 3 (.int .i64 (gj - gi))).set_ 4 (.int .i64 (yj - yi))).set_ 5 (.int .i64 wdm)).cell 5
          have HQ := hide (And.intro q0 (And.intro q1 (And.intro q2 (And.intro q3 (And.intro q4 q5)))))
          clear q0 q1 q2 q3 q4 q5 bR
          go_wp2_with fail
          obtain ⟨q0, q1, q2, q3, q4, q5⟩ := HQ.out
          refine bodyPost_ret (v := .agg #[.int .i64 i, .int .i64 j, .int .i64 (wj - wi + ad), .int .i64 (gj - gi), .int .i64 (yj - yi), .int .i64 wdm]) (by simp [results, Try.results18, go_sem, q0, q1, q2, q3, q4, q5]) rfl ⟨?_, ?_⟩
          · rw [HL.out, hwid.out]
            rfl
          · subst hR
            exact (((((Hbz.out.setCell (p := ⟨w.heap.size, 0, none⟩) (Nat.le_refl _) _).setCell (p := ⟨w.heap.size, 1, none⟩) (Nat.le_refl _) _).setCell (p := ⟨w.heap.size, 2, none⟩) (Nat.le_refl _) _).setCell (p := ⟨w.heap.size, 3, none⟩) (Nat.le_refl _) _).setCell (p := ⟨w.heap.size, 4, none⟩) (Nat.le_refl _) _).setCell (p := ⟨w.heap.size, 5, none⟩) (Nat.le_refl _) _
end
end Go.Proofs.Ytmjhmcjlbcadaaa.Ln
