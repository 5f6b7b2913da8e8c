/- The contract of master.Show. -/
import Derived.Test.YtnmikhmbnpiadaaMsMissing
import Derived.Test.YtnmikhmbnpiadaaSink
import Derived.Test.YtnmikhmbnpiadaaShapeMake
namespace Go.Proofs.Ytnmikhmbnpiadaa.Shp
open Go.RowKit Go.Frm Go.Maps Go.WideMaps Go.WideShapes Ms

/-- what Show hands back; of the master's shapes nothing is said -/
def Sho (ns : Nat) (Gs : Nat → Nat → Int) (Ts : Nat → Nat → ByteArray) (w : World) (e : Ending) (w' : World) : Prop :=
  ∃ Ab nb cb Af cf F, e = .returned (.tuple #[.slice Ab nb cb, .slice Af ns cf, .int .i64 0]) ∧ w'.ownsRow w.heap.size 28 12 (.slice Af ns cf) ns (rowF ns 12 (shV F Ts)) ∧ (∀ i, i < ns → Fr (Gs i) (F i)) ∧ Below w.heap.size w w'

/-- a look-up by a number, at whatever world holds this map -/
theorem look_all {D : DataW Unit} {B n : Nat} {w : World} (h : w.ownsMap Try.prog 3 (plainElem (H := Unit) Try.prog 4) B n D) (z : Int) (hz : (Lit.int .i64 z).wf = true) : ∃ x, ∀ wx n', wx.ownsMap Try.prog 3 (plainElem (H := Unit) Try.prog 4) B n' D → (Instr.lookup 38 (.map (some B)) (.int .i64 z) false).run Try.prog wx = .ok (.bool x) wx := by
  obtain ⟨v, ps, _, hv⟩ := h.lookup lawI Try.underlying38 (zeroB w) (plainElem_bool Try.underlying4 false) (keyOf_int_mk Try.underlying3 hz)
  obtain ⟨x, _, hx⟩ := plain_bool_inv Try.underlying4 hv
  refine ⟨x, fun wx n' hwx => ?_⟩
  obtain ⟨v', ps', hr, hv'⟩ := hwx.lookup lawI Try.underlying38 (zeroB wx) (plainElem_bool Try.underlying4 false) (keyOf_int_mk Try.underlying3 hz)
  obtain ⟨x', rfl, hx'⟩ := plain_bool_inv Try.underlying4 hv'
  injection hx with hx _
  injection hx' with hx' _
  rw [hx] at hx'
  injection hx' with hx'
  injection hx' with hx'
  rw [hr, hx']
theorem wf_small {z : Int} (h : 0 ≤ z ∧ z ≤ 1073741824) : (Lit.int .i64 z).wf = true := by simp [Lit.wf, IntKind.min, IntKind.max, IntKind.signed, IntKind.bits]; omega

/-- what is handed on in the first loop: the box of the shape, the map, the row -/
structure Mk1 (g B k cnt m : Nat) (G : Nat → Nat → Int) (T : Nat → Nat → ByteArray) (D : DataW Unit) (v : Value) (f : Nat → Nat → Value) (w wc : World) : Prop where
  bx : Blk wc g 28 (shC G T k)
  own : wc.ownsMap Try.prog 3 (plainElem (H := Unit) Try.prog 4) B cnt D
  row : wc.ownsRow w.heap.size 28 12 v m (rowF m 12 f)
  bel : Below w.heap.size w wc
theorem Mk1.below {g B k cnt m : Nat} {G : Nat → Nat → Int} {T : Nat → Nat → ByteArray} {D : DataW Unit} {v : Value} {f : Nat → Nat → Value} {w wc wd : World} (h : Mk1 g B k cnt m G T D v f w wc) (hb : Below wc.heap.size wc wd) : Mk1 g B k cnt m G T D v f w wd :=
  ⟨h.bx.below hb h.bx.lt, map_below h.own hb, own_below h.row hb, h.bel.trans (hb.mono h.bel.size)⟩
theorem Mk1.drewN {g B k cnt m : Nat} {G : Nat → Nat → Int} {T : Nat → Nat → ByteArray} {D : DataW Unit} {v : Value} {f : Nat → Nat → Value} {w wc : World} (h : Mk1 g B k cnt m G T D v f w wc) (n : Nat) : Mk1 g B k cnt m G T D v f w (wc.drewN n) :=
  ⟨h.bx.drewN n, h.own, h.row, below_drewN h.bel n⟩

theorem sh_push (m : Nat) (GB : Nat → Nat → Int) (TB : Nat → Nat → ByteArray) (G : Nat → Nat → Int) (T : Nat → Nat → ByteArray) (k : Nat) : rowF (m + 1) 12 (shV (upd GB m (G k)) (upd TB m (T k))) = rowF m 12 (shV GB TB) ++ (shC G T k).toList := by
  rw [rowF_succ]
  congr 1
  · exact rowF_congr fun i j hi hj => by unfold shV; rw [upd_other _ _ (by omega), upd_other _ _ (by omega)]
  · unfold shV
    rw [upd_same, upd_same]
    rfl
/-- the links' ends are small -/
def FtOk (m : Nat) (GB : Nat → Nat → Int) : Prop := ∀ i, i < m → (0 ≤ GB i 8 ∧ GB i 8 ≤ 1073741824) ∧ (0 ≤ GB i 9 ∧ GB i 9 ≤ 1073741824)
theorem FtOk.push {m : Nat} {GB : Nat → Nat → Int} (h : FtOk m GB) {F : Nat → Int} (hF : (0 ≤ F 8 ∧ F 8 ≤ 1073741824) ∧ (0 ≤ F 9 ∧ F 9 ≤ 1073741824)) : FtOk (m + 1) (upd GB m F) := fun i hi => by
  by_cases him : i = m
  · rw [him, upd_same]; exact hF
  · rw [upd_other _ _ him]; exact h i (by omega)
/-- one number made 0 -/
def zero2 (GB : Nat → Nat → Int) (i j : Nat) : Nat → Nat → Int := fun a b => if a = i ∧ b = j then 0 else GB a b
theorem FtOk.zero {m : Nat} {GB : Nat → Nat → Int} (h : FtOk m GB) (i j : Nat) : FtOk m (zero2 GB i j) := fun a ha => by
  have := h a ha
  unfold zero2
  constructor <;> split <;> first | omega | exact this.1 | exact this.2
theorem zero_row (m : Nat) (GB : Nat → Nat → Int) (TB : Nat → Nat → ByteArray) (i j : Nat) (hj : j < 10) : rowF m 12 (upd2 (shV GB TB) i j (.int .i64 0)) = rowF m 12 (shV (zero2 GB i j) TB) := by
  refine rowF_congr fun a b ha hb => ?_
  by_cases h : a = i ∧ b = j
  · obtain ⟨rfl, rfl⟩ := h
    simp [upd2, zero2, shV, hj]
  · simp [upd2, zero2, shV, h]
/-- what is handed on in the second loop -/
structure Mk2 (g B cnt m i : Nat) (GX : Nat → Nat → Int) (TX : Nat → Nat → ByteArray) (D : DataW Unit) (v : Value) (w wc : World) : Prop where
  bx : Blk wc g 28 (shC GX TX i)
  own : wc.ownsMap Try.prog 3 (plainElem (H := Unit) Try.prog 4) B cnt D
  row : ∃ GB TB, wc.ownsRow w.heap.size 28 12 v m (rowF m 12 (shV GB TB)) ∧ FtOk m GB
  bel : Below w.heap.size w wc
theorem Mk2.zero {g g2 B cnt m c i : Nat} {GX : Nat → Nat → Int} {TX : Nat → Nat → ByteArray} {D : DataW Unit} {w wc : World} (h : Mk2 g B cnt m i GX TX D (.slice (some ⟨g2, 0, none⟩) m c) w wc) (hB : w.heap.size ≤ g2) (hne : g ≠ g2) (hBn : B ≠ g2) (j : Nat) (hj : j < 10) :
    Mk2 g B cnt m i GX TX D (.slice (some ⟨g2, 0, none⟩) m c) w (wc.setCell ⟨g2, i * 12 + j, none⟩ (.int .i64 0)) := by
  obtain ⟨GB, TB, hr, hf⟩ := h.row
  refine ⟨h.bx.far (p := ⟨g2, i * 12 + j, none⟩) hne _, map_block h.own (Below.heap_setCell wc _ _ B hBn), ⟨zero2 GB i j, TB, ?_, hf.zero i j⟩, h.bel.setCell (p := ⟨g2, i * 12 + j, none⟩) hB _⟩
  have := own_storeF hr i (show j < 12 by omega) (.int .i64 0)
  rwa [zero_row m GB TB i j hj] at this
/-- what is handed on in the third loop -/
structure Mk3 (g k : Nat) (FX : Nat → Nat → Int) (Ts : Nat → Nat → ByteArray) (v : Value) (f : Nat → Nat → Value) (w wc : World) : Prop where
  bx : Blk wc g 28 (shC FX Ts k)
  row : wc.ownsRow w.heap.size 28 12 v k (rowF k 12 f)
  bel : Below w.heap.size w wc
  lo : w.heap.size ≤ g ∧ v.ownBlock ≠ some g
theorem Mk3.below {g k : Nat} {FX : Nat → Nat → Int} {Ts : Nat → Nat → ByteArray} {v : Value} {f : Nat → Nat → Value} {w wc wd : World} (h : Mk3 g k FX Ts v f w wc) (hb : Below wc.heap.size wc wd) : Mk3 g k FX Ts v f w wd :=
  ⟨h.bx.below hb h.bx.lt, own_below h.row hb, h.bel.trans (hb.mono h.bel.size), h.lo⟩
theorem Mk3.drewN {g k : Nat} {FX : Nat → Nat → Int} {Ts : Nat → Nat → ByteArray} {v : Value} {f : Nat → Nat → Value} {w wc : World} (h : Mk3 g k FX Ts v f w wc) (n : Nat) : Mk3 g k FX Ts v f w (wc.drewN n) := ⟨h.bx.drewN n, h.row, below_drewN h.bel n, h.lo⟩
theorem fr_push (q : Nat) (F : Nat → Nat → Int) (Ts : Nat → Nat → ByteArray) (FX : Nat → Nat → Int) : rowF q 12 (shV F Ts) ++ (shC FX Ts q).toList = rowF (q + 1) 12 (shV (upd F q (FX q)) Ts) := by
  rw [rowF_succ]
  congr 1
  · exact rowF_congr fun i j hi hj => by unfold shV; rw [upd_other _ _ (by omega)]
  · unfold shV
    rw [upd_same]
    rfl
theorem fr_all {Gs F : Nat → Nat → Int} {q : Nat} {X : Nat → Int} (h : ∀ j, j < q → Fr (Gs j) (F j)) (hx : Fr (Gs q) X) : ∀ j, j < q + 1 → Fr (Gs j) (upd F q X j) := fun j hj => by
  by_cases hjq : j = q
  · rw [hjq, upd_same]; exact hx
  · rw [upd_other _ _ hjq]; exact h j (by omega)
/-- the five numbers of a place laid over a shape -/
def laidF (G : Nat → Nat → Int) (k : Nat) (P : Nat → Int) : Nat → Nat → Int := fun a b => if a = k ∧ 3 ≤ b ∧ b ≤ 7 then P b else G a b
theorem Mk3.laid {g k : Nat} {G : Nat → Nat → Int} {Ts : Nat → Nat → ByteArray} {v : Value} {f : Nat → Nat → Value} {w wc : World} (h : Mk3 g k G Ts v f w wc) (P : Nat → Int) :
    Mk3 g k (laidF G k P) Ts v f w (((((wc.setCell ⟨g, 3, none⟩ (.int .i64 (P 3))).setCell ⟨g, 4, none⟩ (.int .i64 (P 4))).setCell ⟨g, 5, none⟩ (.int .i64 (P 5))).setCell ⟨g, 6, none⟩ (.int .i64 (P 6))).setCell ⟨g, 7, none⟩ (.int .i64 (P 7))) := by
  have hne : ∀ j, (⟨g, j, none⟩ : Addr).block ≠ g → False := fun j hj => hj rfl
  refine ⟨blk_cells (by simp [shC, laidF]) (((((h.bx.set_ 3 _).set_ 4 _).set_ 5 _).set_ 6 _).set_ 7 _), ?_, ((((h.bel.setCell (p := ⟨g, 3, none⟩) h.lo.1 _).setCell (p := ⟨g, 4, none⟩) h.lo.1 _).setCell (p := ⟨g, 5, none⟩) h.lo.1 _).setCell (p := ⟨g, 6, none⟩) h.lo.1 _).setCell (p := ⟨g, 7, none⟩) h.lo.1 _, h.lo⟩
  have hn : some g ≠ v.ownBlock := fun e => h.lo.2 e.symm
  exact ownsRow_setCell_other (ownsRow_setCell_other (ownsRow_setCell_other (ownsRow_setCell_other (ownsRow_setCell_other h.row (a := ⟨g, 3, none⟩) (fun e => hn e.symm) _) (a := ⟨g, 4, none⟩) (fun e => hn e.symm) _) (a := ⟨g, 5, none⟩) (fun e => hn e.symm) _) (a := ⟨g, 6, none⟩) (fun e => hn e.symm) _) (a := ⟨g, 7, none⟩) (fun e => hn e.symm) _

set_option maxRecDepth 100000 in
set_option maxHeartbeats 2000000 in
theorem show_ok (As : Option Addr) (ns cs : Nat) (Gs : Nat → Nat → Int) (Ts : Nat → Nat → ByteArray) (Am : Option Addr) (nm cm : Nat) (Gm : Nat → Nat → Int) (Tm : Nat → Nat → ByteArray) (w : World)
    (hos : ShOk Gs ns) (hom : ShOk Gm nm) (hrs : RdF w As ns 12 (shV Gs Ts)) (hrm : RdF w Am nm 12 (shV Gm Tm)) (hcs : ns ≤ cs) (hcm : nm ≤ cm) :
    Calls Try.prog 6 #[.slice As ns cs, .slice Am nm cm] w (Sho ns Gs Ts w) := by
  have hn1 := hos.few
  have hn2 := hom.few
  have Hc1 := hide (check_ok As ns cs Gs Ts w hos hrs hcs)
  have Hc2 := hide (fun wx (hx : RdF wx Am nm 12 (shV Gm Tm)) => check_ok Am nm cm Gm Tm wx hom hx hcm)
  have Hom := hide hom
  clear hos hom
  have hmm := @run_makeMap Try.prog
  go_enter Try.func6, Try.ntmps6
  go_wp2_with fail
  refine Hc1.out.mono ?_
  rintro e w1 ⟨rfl, hb1⟩
  have hrm1 := hrm.below hb1
  go_wp2_with fail
  refine (Hc2.out w1 hrm1).mono ?_
  rintro e w2 ⟨rfl, hb2⟩
  have hbl2 := hb1.trans (hb2.mono hb1.size)
  clear hrm1 hb1 hb2 Hc1 Hc2
  have hB := hbl2.size
  go_upto_region 9 with (first | (refine wpL_insert _ rfl _ _ _ 38 rfl 3 4 lawI Try.underlying38 (plainElem (H := Unit) Try.prog 4) w2.heap.size 0 (.map []) rfl (World.ownsMap_made w2 Try.prog 3 _) (by unfold maxLen; omega) _ _ _ rfl rfl (keyOf_int_mk Try.underlying3 (by decide)) _ [] (plainElem_bool Try.underlying4 false) ?_; intro w3 hown hg3))
  have hbl3 := below_stored (hbl2.alloc hbl2.size (.map #[] 0)) (by have := hbl2.size; simp; omega) hB hg3
  clear hbl2 hmm hg3
  generalize w2.heap.size = B at *
  go_wp2_with fail
  go_loopw [9, 34] (fun a b wr => ∃ (k m : Nat) (D : DataW Unit) (GB : Nat → Nat → Int) (TB : Nat → Nat → ByteArray), k ≤ nm ∧ m ≤ k ∧ b = .int .i64 k ∧ wr.ownsMap Try.prog 3 (plainElem (H := Unit) Try.prog 4) B (k + 1) D ∧ wr.ownsRow w.heap.size 28 12 a m (rowF m 12 (shV GB TB)) ∧ Hid (FtOk m GB) ∧ Below w.heap.size w wr) (fun _ b _ => nm - (intOf b).toNat)
  case atStart => exact ⟨0, 0, _, fun _ _ => 0, fun _ _ => ⟨#[]⟩, by omega, by omega, rfl, hown, World.ownsRow_nil _ _ _ _, hide (fun i hi => by omega), hbl3⟩
  case round =>
    clear hown hbl3
    obtain ⟨k, m, D, GB, TB, hk, hmk, rfl, hown, hrow, Hft, hbl⟩ := hrel
    obtain ⟨A5, c5, rfl⟩ := own_form hrow
    by_cases hlt : k < nm
    · obtain ⟨b, off, rfl, k0, k1, k2, k3, k4, k5, k6, k7, k8, k9, k10, k11⟩ := cells12 (hrm.below hbl) hlt
      go_upto_region 12 with fail
      have HM : Mk1 wr.heap.size B k (k + 1) m Gm Tm D (.slice A5 m c5) (shV GB TB) w (wr.alloc (.cells (shC Gm Tm k) 28)) := ⟨Blk.new wr _ _, hown.alloc _, hrow.alloc _, hbl.alloc hbl.size _⟩
      unfold shC at HM
      clear k0 k1 k2 k3 k4 k5 k6 k7 k8 k9 k10 k11 hbl hown hrow
      generalize wr.alloc (.cells #[.int .i64 (Gm k 0), .int .i64 (Gm k 1), .int .i64 (Gm k 2), .int .i64 (Gm k 3), .int .i64 (Gm k 4), .int .i64 (Gm k 5), .int .i64 (Gm k 6), .int .i64 (Gm k 7), .int .i64 (Gm k 8), .int .i64 (Gm k 9), .string (Tm k 10), .string (Tm k 11)] 28) = w0 at *
      generalize wr.heap.size = g at *
      have HM := hide HM
      have hpar := Hom.out.par k hlt
      have Hit := hide (Hom.out.item k hlt)
      have Hftk := hide (Hom.out.ft k hlt)
      obtain ⟨x, hx⟩ := look_all HM.out.own (Gm k 1) (wf_small hpar)
      have HS0 := hide (show ∀ w', Mk1 g B k (k + 1) m Gm Tm D (.slice A5 m c5) (shV GB TB) w w' → (w'.cell? ⟨g, 0, none⟩ = some (.int .i64 (Gm k 0)) ∧ w'.cell? ⟨g, 1, none⟩ = some (.int .i64 (Gm k 1)) ∧ w'.cell? ⟨g, 2, none⟩ = some (.int .i64 (Gm k 2)) ∧ w'.cell? ⟨g, 3, none⟩ = some (.int .i64 (Gm k 3)) ∧ w'.cell? ⟨g, 4, none⟩ = some (.int .i64 (Gm k 4)) ∧ w'.cell? ⟨g, 5, none⟩ = some (.int .i64 (Gm k 5)) ∧ w'.cell? ⟨g, 6, none⟩ = some (.int .i64 (Gm k 6)) ∧ w'.cell? ⟨g, 7, none⟩ = some (.int .i64 (Gm k 7)) ∧ w'.cell? ⟨g, 8, none⟩ = some (.int .i64 (Gm k 8)) ∧ w'.cell? ⟨g, 9, none⟩ = some (.int .i64 (Gm k 9)) ∧ w'.cell? ⟨g, 10, none⟩ = some (.string (Tm k 10)) ∧ w'.cell? ⟨g, 11, none⟩ = some (.string (Tm k 11))) ∧ (Instr.lookup 38 (.map (some B)) (.int .i64 (Gm k 1)) false).run Try.prog w' = .ok (.bool x) w' ∧ Hid (Mk1 g B k (k + 1) m Gm Tm D (.slice A5 m c5) (shV GB TB) w w') from
        fun w' h => ⟨⟨h.bx.cell 0, h.bx.cell 1, h.bx.cell 2, h.bx.cell 3, h.bx.cell 4, h.bx.cell 5, h.bx.cell 6, h.bx.cell 7, h.bx.cell 8, h.bx.cell 9, h.bx.cell 10, h.bx.cell 11⟩, hx _ _ h.own, hide h⟩)
      clear hx hpar
      have HRM := hide (fun wx => by have h := room_ok Gm Tm k wx; unfold shA at h; exact h)
      go_cut [] (fun wc => ∃ D', Mk1 g B k (k + 2) m Gm Tm D' (.slice A5 m c5) (shV GB TB) w wc)
      case first =>
        cases x with
        | true =>
          refine wp_region_sink (S := fun w' => (w'.cell? ⟨g, 0, none⟩ = some (.int .i64 (Gm k 0)) ∧ w'.cell? ⟨g, 1, none⟩ = some (.int .i64 (Gm k 1)) ∧ w'.cell? ⟨g, 2, none⟩ = some (.int .i64 (Gm k 2)) ∧ w'.cell? ⟨g, 3, none⟩ = some (.int .i64 (Gm k 3)) ∧ w'.cell? ⟨g, 4, none⟩ = some (.int .i64 (Gm k 4)) ∧ w'.cell? ⟨g, 5, none⟩ = some (.int .i64 (Gm k 5)) ∧ w'.cell? ⟨g, 6, none⟩ = some (.int .i64 (Gm k 6)) ∧ w'.cell? ⟨g, 7, none⟩ = some (.int .i64 (Gm k 7)) ∧ w'.cell? ⟨g, 8, none⟩ = some (.int .i64 (Gm k 8)) ∧ w'.cell? ⟨g, 9, none⟩ = some (.int .i64 (Gm k 9)) ∧ w'.cell? ⟨g, 10, none⟩ = some (.string (Tm k 10)) ∧ w'.cell? ⟨g, 11, none⟩ = some (.string (Tm k 11))) ∧ (Instr.lookup 38 (.map (some B)) (.int .i64 (Gm k 1)) false).run Try.prog w' = .ok (.bool true) w' ∧ Hid (Mk1 g B k (k + 1) m Gm Tm D (.slice A5 m c5) (shV GB TB) w w')) 16 (by kernel_rfl) (by kernel_rfl) (by kernel_rfl) (by kernel_rfl) ?hSA (fun hHeld => ?_)
          case hSA => exact HS0.out _ (HM.out.drewN 1)
          simp only [List.take_succ_cons, List.take_zero]
          refine wpAnyH_take (i := 0) (v := ?vAn0) rfl (by kernel_rfl) (by kernel_rfl) (by kernel_rfl) (fun _ _ _ h => h) (Or.inl ⟨by kernel_rfl, ?hyAn0⟩) (by assumption) ?_
          case hyAn0 => (intro w hSw; (try dsimp only at hSw); go_simp; try with_reducible rfl)
          try simp only [Act.put, List.getElem_toArray, List.getElem_cons_zero, List.getElem_cons_succ, List.setIfInBounds_toArray, List.set_cons_zero, List.set_cons_succ]
          refine wpAnyH_take (i := 1) (v := ?vAn1) rfl (by kernel_rfl) (by kernel_rfl) (by kernel_rfl) (fun _ _ _ h => h) (Or.inl ⟨by kernel_rfl, ?hyAn1⟩) (by assumption) ?_
          case hyAn1 => (intro w hSw; (try dsimp only at hSw); go_simp; try with_reducible rfl)
          try simp only [Act.put, List.getElem_toArray, List.getElem_cons_zero, List.getElem_cons_succ, List.setIfInBounds_toArray, List.set_cons_zero, List.set_cons_succ]
          refine wpAnyH_take (i := 2) (v := ?vAn2) rfl (by kernel_rfl) (by kernel_rfl) (by kernel_rfl) (fun _ _ _ h => h) (Or.inl ⟨by kernel_rfl, ?hyAn2⟩) (by assumption) ?_
          case hyAn2 => (intro w hSw; (try dsimp only at hSw); go_simp; try with_reducible rfl)
          try simp only [Act.put, List.getElem_toArray, List.getElem_cons_zero, List.getElem_cons_succ, List.setIfInBounds_toArray, List.set_cons_zero, List.set_cons_succ]
          refine wpAnyH_take (i := 3) (v := ?vAn3) rfl (by kernel_rfl) (by kernel_rfl) (by kernel_rfl) (fun _ _ _ h => h) (Or.inl ⟨by kernel_rfl, ?hyAn3⟩) (by assumption) ?_
          case hyAn3 => (intro w hSw; (try dsimp only at hSw); go_simp; try with_reducible rfl)
          try simp only [Act.put, List.getElem_toArray, List.getElem_cons_zero, List.getElem_cons_succ, List.setIfInBounds_toArray, List.set_cons_zero, List.set_cons_succ]
          refine wpAnyH_take (i := 4) (v := ?vAn4) rfl (by kernel_rfl) (by kernel_rfl) (by kernel_rfl) (fun _ _ _ h => h) (Or.inl ⟨by kernel_rfl, ?hyAn4⟩) (by assumption) ?_
          case hyAn4 => (intro w hSw; (try dsimp only at hSw); go_simp; try with_reducible rfl)
          try simp only [Act.put, List.getElem_toArray, List.getElem_cons_zero, List.getElem_cons_succ, List.setIfInBounds_toArray, List.set_cons_zero, List.set_cons_succ]
          refine wpAnyH_take (i := 5) (v := ?vAn5) rfl (by kernel_rfl) (by kernel_rfl) (by kernel_rfl) (fun _ _ _ h => h) (Or.inl ⟨by kernel_rfl, ?hyAn5⟩) (by assumption) ?_
          case hyAn5 => (intro w hSw; (try dsimp only at hSw); go_simp; try with_reducible rfl)
          try simp only [Act.put, List.getElem_toArray, List.getElem_cons_zero, List.getElem_cons_succ, List.setIfInBounds_toArray, List.set_cons_zero, List.set_cons_succ]
          refine wpAnyH_take (i := 6) (v := ?vAn6) rfl (by kernel_rfl) (by kernel_rfl) (by kernel_rfl) (fun _ _ _ h => h) (Or.inl ⟨by kernel_rfl, ?hyAn6⟩) (by assumption) ?_
          case hyAn6 => (intro w hSw; (try dsimp only at hSw); go_simp; try with_reducible rfl)
          try simp only [Act.put, List.getElem_toArray, List.getElem_cons_zero, List.getElem_cons_succ, List.setIfInBounds_toArray, List.set_cons_zero, List.set_cons_succ]
          refine wpAnyH_take (i := 7) (v := ?vAn7) rfl (by kernel_rfl) (by kernel_rfl) (by kernel_rfl) (fun _ _ _ h => h) (Or.inl ⟨by kernel_rfl, ?hyAn7⟩) (by assumption) ?_
          case hyAn7 => (intro w hSw; (try dsimp only at hSw); go_simp; try with_reducible rfl)
          try simp only [Act.put, List.getElem_toArray, List.getElem_cons_zero, List.getElem_cons_succ, List.setIfInBounds_toArray, List.set_cons_zero, List.set_cons_succ]
          refine wpAnyH_take (i := 8) (v := undef) rfl (by kernel_rfl) (by kernel_rfl) (by kernel_rfl) (fun _ _ _ h => h) (Or.inr ⟨by kernel_rfl, rfl⟩) (by assumption) ?_
          try simp only [Act.put, List.getElem_toArray, List.getElem_cons_zero, List.getElem_cons_succ, List.setIfInBounds_toArray, List.set_cons_zero, List.set_cons_succ]
          refine wpAnyH_take (i := 9) (v := undef) rfl (by kernel_rfl) (by kernel_rfl) (by kernel_rfl) (fun _ _ _ h => h) (Or.inr ⟨by kernel_rfl, rfl⟩) (by assumption) ?_
          try simp only [Act.put, List.getElem_toArray, List.getElem_cons_zero, List.getElem_cons_succ, List.setIfInBounds_toArray, List.set_cons_zero, List.set_cons_succ]
          refine wpAnyH_take (i := 10) (v := undef) rfl (by kernel_rfl) (by kernel_rfl) (by kernel_rfl) (fun _ _ _ h => h) (Or.inr ⟨by kernel_rfl, rfl⟩) (by assumption) ?_
          try simp only [Act.put, List.getElem_toArray, List.getElem_cons_zero, List.getElem_cons_succ, List.setIfInBounds_toArray, List.set_cons_zero, List.set_cons_succ]
          refine wpAnyH_take (i := 11) (v := undef) rfl (by kernel_rfl) (by kernel_rfl) (by kernel_rfl) (fun _ _ _ h => h) (Or.inr ⟨by kernel_rfl, rfl⟩) (by assumption) ?_
          try simp only [Act.put, List.getElem_toArray, List.getElem_cons_zero, List.getElem_cons_succ, List.setIfInBounds_toArray, List.set_cons_zero, List.set_cons_succ]
          refine wpAnyH_take (i := 12) (v := undef) rfl (by kernel_rfl) (by kernel_rfl) (by kernel_rfl) (fun _ _ _ h => h) (Or.inr ⟨by kernel_rfl, rfl⟩) (by assumption) ?_
          try simp only [Act.put, List.getElem_toArray, List.getElem_cons_zero, List.getElem_cons_succ, List.setIfInBounds_toArray, List.set_cons_zero, List.set_cons_succ]
          refine wpAnyH_take (i := 13) (v := undef) rfl (by kernel_rfl) (by kernel_rfl) (by kernel_rfl) (fun _ _ _ h => h) (Or.inr ⟨by kernel_rfl, rfl⟩) (by assumption) ?_
          try simp only [Act.put, List.getElem_toArray, List.getElem_cons_zero, List.getElem_cons_succ, List.setIfInBounds_toArray, List.set_cons_zero, List.set_cons_succ]
          refine wpAnyH_take (i := 14) (v := undef) rfl (by kernel_rfl) (by kernel_rfl) (by kernel_rfl) (fun _ _ _ h => h) (Or.inr ⟨by kernel_rfl, rfl⟩) (by assumption) ?_
          try simp only [Act.put, List.getElem_toArray, List.getElem_cons_zero, List.getElem_cons_succ, List.setIfInBounds_toArray, List.set_cons_zero, List.set_cons_succ]
          refine wpAnyH_take (i := 15) (v := ?vAn15) rfl (by kernel_rfl) (by kernel_rfl) (by kernel_rfl) (fun _ _ _ h => h) (Or.inl ⟨by kernel_rfl, ?hyAn15⟩) (by assumption) ?_
          case hyAn15 => (intro w hSw; (try dsimp only at hSw); go_simp; try with_reducible rfl)
          try simp only [Act.put, List.getElem_toArray, List.getElem_cons_zero, List.getElem_cons_succ, List.setIfInBounds_toArray, List.set_cons_zero, List.set_cons_succ]
          refine wpAnyH_done (by kernel_rfl) ?_ _
          refine sink_run rfl rfl ?_
          obtain ⟨w5, hrun5, hown5, hg5⟩ := upd_run hHeld.2.2.out.own lawI Try.underlying38 (by unfold maxLen; omega) (keyOf_int_mk Try.underlying3 (wf_small ⟨by have := Hit.out.1; omega, Hit.out.2⟩)) (plainElem_bool Try.underlying4 true)
          have bx5 := blk_stored hHeld.2.2.out.own hHeld.2.2.out.bx hg5
          have row5 := row_stored hHeld.2.2.out.own hHeld.2.2.out.row hg5
          have bel5 := below_stored hHeld.2.2.out.bel hHeld.2.2.out.bel.size hB hg5
          clear hHeld hg5
          go_simp
          go_wp2_with fail
          go_meet
          exact ⟨_, bx5, hown5, row5, bel5⟩
        | false =>
          by_cases h1 : Gm k 1 = 0
          · have d1 : (Gm k 1 == 0) = true := by simpa using h1
            clear h1
            generalize roomB (Tm k 10) = rm at *
            refine wp_region_sink (S := fun w' => (w'.cell? ⟨g, 0, none⟩ = some (.int .i64 (Gm k 0)) ∧ w'.cell? ⟨g, 1, none⟩ = some (.int .i64 (Gm k 1)) ∧ w'.cell? ⟨g, 2, none⟩ = some (.int .i64 (Gm k 2)) ∧ w'.cell? ⟨g, 3, none⟩ = some (.int .i64 (Gm k 3)) ∧ w'.cell? ⟨g, 4, none⟩ = some (.int .i64 (Gm k 4)) ∧ w'.cell? ⟨g, 5, none⟩ = some (.int .i64 (Gm k 5)) ∧ w'.cell? ⟨g, 6, none⟩ = some (.int .i64 (Gm k 6)) ∧ w'.cell? ⟨g, 7, none⟩ = some (.int .i64 (Gm k 7)) ∧ w'.cell? ⟨g, 8, none⟩ = some (.int .i64 (Gm k 8)) ∧ w'.cell? ⟨g, 9, none⟩ = some (.int .i64 (Gm k 9)) ∧ w'.cell? ⟨g, 10, none⟩ = some (.string (Tm k 10)) ∧ w'.cell? ⟨g, 11, none⟩ = some (.string (Tm k 11))) ∧ (Instr.lookup 38 (.map (some B)) (.int .i64 (Gm k 1)) false).run Try.prog w' = .ok (.bool false) w' ∧ Hid (Mk1 g B k (k + 1) m Gm Tm D (.slice A5 m c5) (shV GB TB) w w')) 16 (by kernel_rfl) (by kernel_rfl) (by kernel_rfl) (by kernel_rfl) ?hSB (fun hHeld => ?_)
            case hSB => exact HS0.out _ (HM.out.drewN 1)
            simp only [List.take_succ_cons, List.take_zero]
            refine wpAnyH_take (i := 0) (v := ?vBn0) rfl (by kernel_rfl) (by kernel_rfl) (by kernel_rfl) (fun _ _ _ h => h) (Or.inl ⟨by kernel_rfl, ?hyBn0⟩) (by assumption) ?_
            case hyBn0 => (intro w hSw; (try dsimp only at hSw); go_simp; try with_reducible rfl)
            try simp only [Act.put, List.getElem_toArray, List.getElem_cons_zero, List.getElem_cons_succ, List.setIfInBounds_toArray, List.set_cons_zero, List.set_cons_succ]
            refine wpAnyH_take (i := 1) (v := ?vBn1) rfl (by kernel_rfl) (by kernel_rfl) (by kernel_rfl) (fun _ _ _ h => h) (Or.inl ⟨by kernel_rfl, ?hyBn1⟩) (by assumption) ?_
            case hyBn1 => (intro w hSw; (try dsimp only at hSw); go_simp; try with_reducible rfl)
            try simp only [Act.put, List.getElem_toArray, List.getElem_cons_zero, List.getElem_cons_succ, List.setIfInBounds_toArray, List.set_cons_zero, List.set_cons_succ]
            refine wpAnyH_take (i := 2) (v := ?vBn2) rfl (by kernel_rfl) (by kernel_rfl) (by kernel_rfl) (fun _ _ _ h => h) (Or.inl ⟨by kernel_rfl, ?hyBn2⟩) (by assumption) ?_
            case hyBn2 => (intro w hSw; (try dsimp only at hSw); go_simp; try with_reducible rfl)
            try simp only [Act.put, List.getElem_toArray, List.getElem_cons_zero, List.getElem_cons_succ, List.setIfInBounds_toArray, List.set_cons_zero, List.set_cons_succ]
            refine wpAnyH_take (i := 3) (v := ?vBn3) rfl (by kernel_rfl) (by kernel_rfl) (by kernel_rfl) (fun _ _ _ h => h) (Or.inl ⟨by kernel_rfl, ?hyBn3⟩) (by assumption) ?_
            case hyBn3 => (intro w hSw; (try dsimp only at hSw); go_simp; try with_reducible rfl)
            try simp only [Act.put, List.getElem_toArray, List.getElem_cons_zero, List.getElem_cons_succ, List.setIfInBounds_toArray, List.set_cons_zero, List.set_cons_succ]
            refine wpAnyH_take (i := 4) (v := ?vBn4) rfl (by kernel_rfl) (by kernel_rfl) (by kernel_rfl) (fun _ _ _ h => h) (Or.inl ⟨by kernel_rfl, ?hyBn4⟩) (by assumption) ?_
            case hyBn4 => (intro w hSw; (try dsimp only at hSw); go_simp; try with_reducible rfl)
            try simp only [Act.put, List.getElem_toArray, List.getElem_cons_zero, List.getElem_cons_succ, List.setIfInBounds_toArray, List.set_cons_zero, List.set_cons_succ]
            refine wpAnyH_take (i := 5) (v := ?vBn5) rfl (by kernel_rfl) (by kernel_rfl) (by kernel_rfl) (fun _ _ _ h => h) (Or.inl ⟨by kernel_rfl, ?hyBn5⟩) (by assumption) ?_
            case hyBn5 => (intro w hSw; (try dsimp only at hSw); go_simp; try with_reducible rfl)
            try simp only [Act.put, List.getElem_toArray, List.getElem_cons_zero, List.getElem_cons_succ, List.setIfInBounds_toArray, List.set_cons_zero, List.set_cons_succ]
            refine wpAnyH_take (i := 6) (v := ?vBn6) rfl (by kernel_rfl) (by kernel_rfl) (by kernel_rfl) (fun _ _ _ h => h) (Or.inl ⟨by kernel_rfl, ?hyBn6⟩) (by assumption) ?_
            case hyBn6 => (intro w hSw; (try dsimp only at hSw); go_simp; try with_reducible rfl)
            try simp only [Act.put, List.getElem_toArray, List.getElem_cons_zero, List.getElem_cons_succ, List.setIfInBounds_toArray, List.set_cons_zero, List.set_cons_succ]
            refine wpAnyH_take (i := 7) (v := ?vBn7) rfl (by kernel_rfl) (by kernel_rfl) (by kernel_rfl) (fun _ _ _ h => h) (Or.inl ⟨by kernel_rfl, ?hyBn7⟩) (by assumption) ?_
            case hyBn7 => (intro w hSw; (try dsimp only at hSw); go_simp; try with_reducible rfl)
            try simp only [Act.put, List.getElem_toArray, List.getElem_cons_zero, List.getElem_cons_succ, List.setIfInBounds_toArray, List.set_cons_zero, List.set_cons_succ]
            refine wpAnyH_take (i := 8) (v := ?vBn8) rfl (by kernel_rfl) (by kernel_rfl) (by kernel_rfl) (fun _ _ _ h => h) (Or.inl ⟨by kernel_rfl, ?hyBn8⟩) (by assumption) ?_
            case hyBn8 => (intro w hSw; (try dsimp only at hSw); go_simp; try with_reducible rfl)
            try simp only [Act.put, List.getElem_toArray, List.getElem_cons_zero, List.getElem_cons_succ, List.setIfInBounds_toArray, List.set_cons_zero, List.set_cons_succ]
            refine wpAnyH_take (i := 9) (v := ?vBn9) rfl (by kernel_rfl) (by kernel_rfl) (by kernel_rfl) (fun _ _ _ h => h) (Or.inl ⟨by kernel_rfl, ?hyBn9⟩) (by assumption) ?_
            case hyBn9 => (intro w hSw; (try dsimp only at hSw); go_simp; try with_reducible rfl)
            try simp only [Act.put, List.getElem_toArray, List.getElem_cons_zero, List.getElem_cons_succ, List.setIfInBounds_toArray, List.set_cons_zero, List.set_cons_succ]
            refine wpAnyH_take (i := 10) (v := ?vBn10) rfl (by kernel_rfl) (by kernel_rfl) (by kernel_rfl) (fun _ _ _ h => h) (Or.inl ⟨by kernel_rfl, ?hyBn10⟩) (by assumption) ?_
            case hyBn10 => (intro w hSw; (try dsimp only at hSw); go_simp; try with_reducible rfl)
            try simp only [Act.put, List.getElem_toArray, List.getElem_cons_zero, List.getElem_cons_succ, List.setIfInBounds_toArray, List.set_cons_zero, List.set_cons_succ]
            refine wpAnyH_take (i := 11) (v := ?vBn11) rfl (by kernel_rfl) (by kernel_rfl) (by kernel_rfl) (fun _ _ _ h => h) (Or.inl ⟨by kernel_rfl, ?hyBn11⟩) (by assumption) ?_
            case hyBn11 => (intro w hSw; (try dsimp only at hSw); go_simp; try with_reducible rfl)
            try simp only [Act.put, List.getElem_toArray, List.getElem_cons_zero, List.getElem_cons_succ, List.setIfInBounds_toArray, List.set_cons_zero, List.set_cons_succ]
            refine wpAnyH_take (i := 12) (v := ?vBn12) rfl (by kernel_rfl) (by kernel_rfl) (by kernel_rfl) (fun _ _ _ h => h) (Or.inl ⟨by kernel_rfl, ?hyBn12⟩) (by assumption) ?_
            case hyBn12 => (intro w hSw; (try dsimp only at hSw); go_simp; try with_reducible rfl)
            try simp only [Act.put, List.getElem_toArray, List.getElem_cons_zero, List.getElem_cons_succ, List.setIfInBounds_toArray, List.set_cons_zero, List.set_cons_succ]
            refine wpAnyH_ready (rs := [13]) (by kernel_rfl) (by simp) (AllReadyH.cons rfl (fun K hK => ?_) AllReadyH.nil)
            go_simp
            go_at_call 9
            with_reducible refine (HRM.out _).mono ?_
            rintro e wA ⟨rfl, hbA⟩
            refine hK.out _ _ ?hkBn13 (fun hHeld2 => ?_)
            case hkBn13 => exact HS0.out _ (hHeld.2.2.out.below hbA)
            clear hK K hHeld hbA
            have hHeld := hHeld2
            clear hHeld2
            try simp only [Act.put, List.getElem_toArray, List.getElem_cons_zero, List.getElem_cons_succ, List.setIfInBounds_toArray, List.set_cons_zero, List.set_cons_succ]
            refine wpAnyH_take (i := 14) (v := ?vBn14) rfl (by kernel_rfl) (by kernel_rfl) (by kernel_rfl) (fun _ _ _ h => h) (Or.inl ⟨by kernel_rfl, ?hyBn14⟩) (by assumption) ?_
            case hyBn14 => (intro w hSw; (try dsimp only at hSw); go_simp; try with_reducible rfl)
            try simp only [Act.put, List.getElem_toArray, List.getElem_cons_zero, List.getElem_cons_succ, List.setIfInBounds_toArray, List.set_cons_zero, List.set_cons_succ]
            refine wpAnyH_take (i := 15) (v := ?vBn15) rfl (by kernel_rfl) (by kernel_rfl) (by kernel_rfl) (fun _ _ _ h => h) (Or.inl ⟨by kernel_rfl, ?hyBn15⟩) (by assumption) ?_
            case hyBn15 => (intro w hSw; (try dsimp only at hSw); go_simp; try with_reducible rfl)
            try simp only [Act.put, List.getElem_toArray, List.getElem_cons_zero, List.getElem_cons_succ, List.setIfInBounds_toArray, List.set_cons_zero, List.set_cons_succ]
            refine wpAnyH_done (by kernel_rfl) ?_ _
            refine sink_run rfl rfl ?_
            obtain ⟨w5, hrun5, hown5, hg5⟩ := upd_run hHeld.2.2.out.own lawI Try.underlying38 (by unfold maxLen; omega) (keyOf_int_mk Try.underlying3 (wf_small ⟨by have := Hit.out.1; omega, Hit.out.2⟩)) (plainElem_bool Try.underlying4 rm)
            have bx5 := blk_stored hHeld.2.2.out.own hHeld.2.2.out.bx hg5
            have row5 := row_stored hHeld.2.2.out.own hHeld.2.2.out.row hg5
            have bel5 := below_stored hHeld.2.2.out.bel hHeld.2.2.out.bel.size hB hg5
            clear hHeld hg5
            go_simp
            go_wp2_with fail
            go_meet
            exact ⟨_, bx5, hown5, row5, bel5⟩
          · have d1 : (Gm k 1 == 0) = false := by simpa using h1
            clear h1
            refine wp_region_sink (S := fun w' => (w'.cell? ⟨g, 0, none⟩ = some (.int .i64 (Gm k 0)) ∧ w'.cell? ⟨g, 1, none⟩ = some (.int .i64 (Gm k 1)) ∧ w'.cell? ⟨g, 2, none⟩ = some (.int .i64 (Gm k 2)) ∧ w'.cell? ⟨g, 3, none⟩ = some (.int .i64 (Gm k 3)) ∧ w'.cell? ⟨g, 4, none⟩ = some (.int .i64 (Gm k 4)) ∧ w'.cell? ⟨g, 5, none⟩ = some (.int .i64 (Gm k 5)) ∧ w'.cell? ⟨g, 6, none⟩ = some (.int .i64 (Gm k 6)) ∧ w'.cell? ⟨g, 7, none⟩ = some (.int .i64 (Gm k 7)) ∧ w'.cell? ⟨g, 8, none⟩ = some (.int .i64 (Gm k 8)) ∧ w'.cell? ⟨g, 9, none⟩ = some (.int .i64 (Gm k 9)) ∧ w'.cell? ⟨g, 10, none⟩ = some (.string (Tm k 10)) ∧ w'.cell? ⟨g, 11, none⟩ = some (.string (Tm k 11))) ∧ (Instr.lookup 38 (.map (some B)) (.int .i64 (Gm k 1)) false).run Try.prog w' = .ok (.bool false) w' ∧ Hid (Mk1 g B k (k + 1) m Gm Tm D (.slice A5 m c5) (shV GB TB) w w')) 16 (by kernel_rfl) (by kernel_rfl) (by kernel_rfl) (by kernel_rfl) ?hSC (fun hHeld => ?_)
            case hSC => exact HS0.out _ (HM.out.drewN 1)
            simp only [List.take_succ_cons, List.take_zero]
            refine wpAnyH_take (i := 0) (v := ?vCn0) rfl (by kernel_rfl) (by kernel_rfl) (by kernel_rfl) (fun _ _ _ h => h) (Or.inl ⟨by kernel_rfl, ?hyCn0⟩) (by assumption) ?_
            case hyCn0 => (intro w hSw; (try dsimp only at hSw); go_simp; try with_reducible rfl)
            try simp only [Act.put, List.getElem_toArray, List.getElem_cons_zero, List.getElem_cons_succ, List.setIfInBounds_toArray, List.set_cons_zero, List.set_cons_succ]
            refine wpAnyH_take (i := 1) (v := ?vCn1) rfl (by kernel_rfl) (by kernel_rfl) (by kernel_rfl) (fun _ _ _ h => h) (Or.inl ⟨by kernel_rfl, ?hyCn1⟩) (by assumption) ?_
            case hyCn1 => (intro w hSw; (try dsimp only at hSw); go_simp; try with_reducible rfl)
            try simp only [Act.put, List.getElem_toArray, List.getElem_cons_zero, List.getElem_cons_succ, List.setIfInBounds_toArray, List.set_cons_zero, List.set_cons_succ]
            refine wpAnyH_take (i := 2) (v := ?vCn2) rfl (by kernel_rfl) (by kernel_rfl) (by kernel_rfl) (fun _ _ _ h => h) (Or.inl ⟨by kernel_rfl, ?hyCn2⟩) (by assumption) ?_
            case hyCn2 => (intro w hSw; (try dsimp only at hSw); go_simp; try with_reducible rfl)
            try simp only [Act.put, List.getElem_toArray, List.getElem_cons_zero, List.getElem_cons_succ, List.setIfInBounds_toArray, List.set_cons_zero, List.set_cons_succ]
            refine wpAnyH_take (i := 3) (v := ?vCn3) rfl (by kernel_rfl) (by kernel_rfl) (by kernel_rfl) (fun _ _ _ h => h) (Or.inl ⟨by kernel_rfl, ?hyCn3⟩) (by assumption) ?_
            case hyCn3 => (intro w hSw; (try dsimp only at hSw); go_simp; try with_reducible rfl)
            try simp only [Act.put, List.getElem_toArray, List.getElem_cons_zero, List.getElem_cons_succ, List.setIfInBounds_toArray, List.set_cons_zero, List.set_cons_succ]
            refine wpAnyH_take (i := 4) (v := ?vCn4) rfl (by kernel_rfl) (by kernel_rfl) (by kernel_rfl) (fun _ _ _ h => h) (Or.inl ⟨by kernel_rfl, ?hyCn4⟩) (by assumption) ?_
            case hyCn4 => (intro w hSw; (try dsimp only at hSw); go_simp; try with_reducible rfl)
            try simp only [Act.put, List.getElem_toArray, List.getElem_cons_zero, List.getElem_cons_succ, List.setIfInBounds_toArray, List.set_cons_zero, List.set_cons_succ]
            refine wpAnyH_take (i := 5) (v := ?vCn5) rfl (by kernel_rfl) (by kernel_rfl) (by kernel_rfl) (fun _ _ _ h => h) (Or.inl ⟨by kernel_rfl, ?hyCn5⟩) (by assumption) ?_
            case hyCn5 => (intro w hSw; (try dsimp only at hSw); go_simp; try with_reducible rfl)
            try simp only [Act.put, List.getElem_toArray, List.getElem_cons_zero, List.getElem_cons_succ, List.setIfInBounds_toArray, List.set_cons_zero, List.set_cons_succ]
            refine wpAnyH_take (i := 6) (v := ?vCn6) rfl (by kernel_rfl) (by kernel_rfl) (by kernel_rfl) (fun _ _ _ h => h) (Or.inl ⟨by kernel_rfl, ?hyCn6⟩) (by assumption) ?_
            case hyCn6 => (intro w hSw; (try dsimp only at hSw); go_simp; try with_reducible rfl)
            try simp only [Act.put, List.getElem_toArray, List.getElem_cons_zero, List.getElem_cons_succ, List.setIfInBounds_toArray, List.set_cons_zero, List.set_cons_succ]
            refine wpAnyH_take (i := 7) (v := ?vCn7) rfl (by kernel_rfl) (by kernel_rfl) (by kernel_rfl) (fun _ _ _ h => h) (Or.inl ⟨by kernel_rfl, ?hyCn7⟩) (by assumption) ?_
            case hyCn7 => (intro w hSw; (try dsimp only at hSw); go_simp; try with_reducible rfl)
            try simp only [Act.put, List.getElem_toArray, List.getElem_cons_zero, List.getElem_cons_succ, List.setIfInBounds_toArray, List.set_cons_zero, List.set_cons_succ]
            refine wpAnyH_take (i := 8) (v := ?vCn8) rfl (by kernel_rfl) (by kernel_rfl) (by kernel_rfl) (fun _ _ _ h => h) (Or.inl ⟨by kernel_rfl, ?hyCn8⟩) (by assumption) ?_
            case hyCn8 => (intro w hSw; (try dsimp only at hSw); go_simp; try with_reducible rfl)
            try simp only [Act.put, List.getElem_toArray, List.getElem_cons_zero, List.getElem_cons_succ, List.setIfInBounds_toArray, List.set_cons_zero, List.set_cons_succ]
            refine wpAnyH_take (i := 9) (v := ?vCn9) rfl (by kernel_rfl) (by kernel_rfl) (by kernel_rfl) (fun _ _ _ h => h) (Or.inl ⟨by kernel_rfl, ?hyCn9⟩) (by assumption) ?_
            case hyCn9 => (intro w hSw; (try dsimp only at hSw); go_simp; try with_reducible rfl)
            try simp only [Act.put, List.getElem_toArray, List.getElem_cons_zero, List.getElem_cons_succ, List.setIfInBounds_toArray, List.set_cons_zero, List.set_cons_succ]
            refine wpAnyH_take (i := 10) (v := ?vCn10) rfl (by kernel_rfl) (by kernel_rfl) (by kernel_rfl) (fun _ _ _ h => h) (Or.inl ⟨by kernel_rfl, ?hyCn10⟩) (by assumption) ?_
            case hyCn10 => (intro w hSw; (try dsimp only at hSw); go_simp; try with_reducible rfl)
            try simp only [Act.put, List.getElem_toArray, List.getElem_cons_zero, List.getElem_cons_succ, List.setIfInBounds_toArray, List.set_cons_zero, List.set_cons_succ]
            refine wpAnyH_take (i := 11) (v := ?vCn11) rfl (by kernel_rfl) (by kernel_rfl) (by kernel_rfl) (fun _ _ _ h => h) (Or.inl ⟨by kernel_rfl, ?hyCn11⟩) (by assumption) ?_
            case hyCn11 => (intro w hSw; (try dsimp only at hSw); go_simp; try with_reducible rfl)
            try simp only [Act.put, List.getElem_toArray, List.getElem_cons_zero, List.getElem_cons_succ, List.setIfInBounds_toArray, List.set_cons_zero, List.set_cons_succ]
            refine wpAnyH_take (i := 12) (v := undef) rfl (by kernel_rfl) (by kernel_rfl) (by kernel_rfl) (fun _ _ _ h => h) (Or.inr ⟨by kernel_rfl, rfl⟩) (by assumption) ?_
            try simp only [Act.put, List.getElem_toArray, List.getElem_cons_zero, List.getElem_cons_succ, List.setIfInBounds_toArray, List.set_cons_zero, List.set_cons_succ]
            refine wpAnyH_take (i := 13) (v := undef) rfl (by kernel_rfl) (by kernel_rfl) (by kernel_rfl) (fun _ _ _ h => h) (Or.inr ⟨by kernel_rfl, rfl⟩) (by assumption) ?_
            try simp only [Act.put, List.getElem_toArray, List.getElem_cons_zero, List.getElem_cons_succ, List.setIfInBounds_toArray, List.set_cons_zero, List.set_cons_succ]
            refine wpAnyH_take (i := 14) (v := ?vCn14) rfl (by kernel_rfl) (by kernel_rfl) (by kernel_rfl) (fun _ _ _ h => h) (Or.inl ⟨by kernel_rfl, ?hyCn14⟩) (by assumption) ?_
            case hyCn14 => (intro w hSw; (try dsimp only at hSw); go_simp; try with_reducible rfl)
            try simp only [Act.put, List.getElem_toArray, List.getElem_cons_zero, List.getElem_cons_succ, List.setIfInBounds_toArray, List.set_cons_zero, List.set_cons_succ]
            refine wpAnyH_take (i := 15) (v := ?vCn15) rfl (by kernel_rfl) (by kernel_rfl) (by kernel_rfl) (fun _ _ _ h => h) (Or.inl ⟨by kernel_rfl, ?hyCn15⟩) (by assumption) ?_
            case hyCn15 => (intro w hSw; (try dsimp only at hSw); go_simp; try with_reducible rfl)
            try simp only [Act.put, List.getElem_toArray, List.getElem_cons_zero, List.getElem_cons_succ, List.setIfInBounds_toArray, List.set_cons_zero, List.set_cons_succ]
            refine wpAnyH_done (by kernel_rfl) ?_ _
            refine sink_run rfl rfl ?_
            obtain ⟨w5, hrun5, hown5, hg5⟩ := upd_run hHeld.2.2.out.own lawI Try.underlying38 (by unfold maxLen; omega) (keyOf_int_mk Try.underlying3 (wf_small ⟨by have := Hit.out.1; omega, Hit.out.2⟩)) (plainElem_bool Try.underlying4 false)
            have bx5 := blk_stored hHeld.2.2.out.own hHeld.2.2.out.bx hg5
            have row5 := row_stored hHeld.2.2.out.own hHeld.2.2.out.row hg5
            have bel5 := below_stored hHeld.2.2.out.bel hHeld.2.2.out.bel.size hB hg5
            clear hHeld hg5
            go_simp
            go_wp2_with fail
            go_meet
            exact ⟨_, bx5, hown5, row5, bel5⟩
      case rest =>
        clear HS0 HM HRM
        obtain ⟨D', HM2⟩ := hcut
        obtain ⟨x2, hx2⟩ := look_all HM2.own (Gm k 0) (wf_small ⟨by have := Hit.out.1; omega, Hit.out.2⟩)
        have hr0 := hx2 wc _ HM2.own
        have m0 : wc.cell? ⟨g, 0, none⟩ = some (.int .i64 (Gm k 0)) := HM2.bx.cell 0
        have m1 : wc.cell? ⟨g, 1, none⟩ = some (.int .i64 (Gm k 1)) := HM2.bx.cell 1
        have m2 : wc.cell? ⟨g, 2, none⟩ = some (.int .i64 (Gm k 2)) := HM2.bx.cell 2
        have m3 : wc.cell? ⟨g, 3, none⟩ = some (.int .i64 (Gm k 3)) := HM2.bx.cell 3
        have m4 : wc.cell? ⟨g, 4, none⟩ = some (.int .i64 (Gm k 4)) := HM2.bx.cell 4
        have m5 : wc.cell? ⟨g, 5, none⟩ = some (.int .i64 (Gm k 5)) := HM2.bx.cell 5
        have m6 : wc.cell? ⟨g, 6, none⟩ = some (.int .i64 (Gm k 6)) := HM2.bx.cell 6
        have m7 : wc.cell? ⟨g, 7, none⟩ = some (.int .i64 (Gm k 7)) := HM2.bx.cell 7
        have m8 : wc.cell? ⟨g, 8, none⟩ = some (.int .i64 (Gm k 8)) := HM2.bx.cell 8
        have m9 : wc.cell? ⟨g, 9, none⟩ = some (.int .i64 (Gm k 9)) := HM2.bx.cell 9
        have m10 : wc.cell? ⟨g, 10, none⟩ = some (.string (Tm k 10)) := HM2.bx.cell 10
        have m11 : wc.cell? ⟨g, 11, none⟩ = some (.string (Tm k 11)) := HM2.bx.cell 11
        clear hx2
        have HM2 := hide HM2
        cases x2 with
        | true =>
          go_wp2_with fail
          go_roundw
          case rel => exact ⟨k + 1, m, D', GB, TB, by omega, by omega, by go_num, HM2.out.own, HM2.out.row, Hft, HM2.out.bel⟩
          case measure => simp [intOf]; omega
        | false =>
          go_wp2_with (at_builtin; refine wpL_append rfl rfl Try.underlying22 shape_info rfl (by decide) rfl rfl (HM2.out.row.alloc _) (news_at _ _ _ _ (by simp)) rfl (by simp [Value.oneCell']) (by omega) (by omega) (by have := HM2.out.bel.size; simp; omega) ?_; intro v7 w7 hrow7 hgrow7)
          go_roundw
          case rel => exact ⟨k + 1, m + 1, D', upd GB m (Gm k), upd TB m (Tm k), by omega, by omega, by go_num, map_app (HM2.out.own.alloc _) (HM2.out.row.alloc _) hgrow7, by rw [sh_push]; exact hrow7, hide (Hft.out.push Hftk.out), below_app (HM2.out.bel.alloc HM2.out.bel.size _) (by have := HM2.out.bel.size; simp; omega) (HM2.out.row.alloc _) hgrow7⟩
          case measure => simp [intOf]; omega
    · obtain rfl : k = nm := by omega
      go_wp2_with fail
      obtain ⟨wo, rfl⟩ : ∃ wo : World, wo = wr := ⟨_, rfl⟩
      go_loopw [66] (fun b wr => ∃ (i : Nat) (GB : Nat → Nat → Int) (TB : Nat → Nat → ByteArray), i ≤ m ∧ b = .int .i64 i ∧ wr.ownsMap Try.prog 3 (plainElem (H := Unit) Try.prog 4) B (k + 1) D ∧ wr.ownsRow w.heap.size 28 12 (.slice A5 m c5) m (rowF m 12 (shV GB TB)) ∧ Hid (FtOk m GB) ∧ Below w.heap.size w wr) (fun b _ => m - (intOf b).toNat)
      case atStart => exact ⟨0, GB, TB, by omega, rfl, hown, hrow, Hft, hbl⟩
      case round =>
        clear hown hrow hbl Hft hlt
        obtain ⟨i, GB, TB, hi, rfl, hown, hrow, Hft, hbl⟩ := hrel
        by_cases hlt : i < m
        · obtain ⟨g2, rfl, hg2⟩ := own_at hrow (by omega)
          obtain ⟨b, off, hA, k0, k1, k2, k3, k4, k5, k6, k7, k8, k9, k10, k11⟩ := cells12 (RdF.of_own hrow) hlt
          injection hA with hA
          injection hA with hA1 hA2
          subst hA1 hA2
          simp only [Nat.zero_add] at k0 k1 k2 k3 k4 k5 k6 k7 k8 k9 k10 k11
          have hg2l := (hrow.lt g2 rfl).2
          go_upto_region 19 with fail
          have HM : Mk2 wr.heap.size B (k + 1) m i GB TB D (.slice (some ⟨g2, 0, none⟩) m c5) w (wr.alloc (.cells (shC GB TB i) 28)) := ⟨Blk.new wr _ _, hown.alloc _, ⟨GB, TB, hrow.alloc _, Hft.out⟩, hbl.alloc hbl.size _⟩
          have hne : wr.heap.size ≠ g2 := by omega
          have hBn : B ≠ g2 := fun e => row_map_ne hown hrow (by rw [e]; rfl)
          have hft := Hft.out i hlt
          unfold shC at HM
          clear k0 k1 k2 k3 k4 k5 k6 k7 k8 k9 k10 k11 hbl hown hrow Hft hg2l
          generalize wr.alloc (.cells #[.int .i64 (GB i 0), .int .i64 (GB i 1), .int .i64 (GB i 2), .int .i64 (GB i 3), .int .i64 (GB i 4), .int .i64 (GB i 5), .int .i64 (GB i 6), .int .i64 (GB i 7), .int .i64 (GB i 8), .int .i64 (GB i 9), .string (TB i 10), .string (TB i 11)] 28) = w0 at *
          generalize wr.heap.size = g at *
          have HM := hide HM
          have Hne := hide (And.intro hne hBn)
          obtain ⟨x8, hx8⟩ := look_all HM.out.own (GB i 8) (wf_small hft.1)
          obtain ⟨x9, hx9⟩ := look_all HM.out.own (GB i 9) (wf_small hft.2)
          have Hx8 := hide hx8
          have Hx9 := hide hx9
          clear hx8 hx9 hft hne hBn
          have m8 : w0.cell? ⟨g, 8, none⟩ = some (.int .i64 (GB i 8)) := HM.out.bx.cell 8
          have hr8 := Hx8.out _ _ HM.out.own
          have hi19 : m ≤ 19 := by omega
          go_upto_if 74 with fail
          go_cut [] (fun wc => Mk2 g B (k + 1) m i GB TB D (.slice (some ⟨g2, 0, none⟩) m c5) w wc)
          case first =>
            have zf : w0.frozen? ⟨g2, i * 12 + 8, none⟩ = false := by
              obtain ⟨GB', TB', hr', _⟩ := HM.out.row
              exact hr'.frozenAt _
            have zc : ∃ z, w0.cell? ⟨g2, i * 12 + 8, none⟩ = some (.int .i64 z) := by
              obtain ⟨GB', TB', hr', _⟩ := HM.out.row
              exact ⟨_, own_cellF hr' hlt (show 8 < 12 by omega)⟩
            obtain ⟨z, zc⟩ := zc
            cases x8 with
            | true =>
              go_wp2_with fail
              go_meet
              exact HM.out.zero hg2 Hne.out.1 Hne.out.2 8 (by omega)
            | false =>
              go_wp2_with fail
              go_meet
              exact HM.out
          case rest =>
            clear HM m8 hr8 Hx8
            have HM := hide hcut
            clear hcut
            have m9 : wc.cell? ⟨g, 9, none⟩ = some (.int .i64 (GB i 9)) := HM.out.bx.cell 9
            have hr9 := Hx9.out _ _ HM.out.own
            have zf : wc.frozen? ⟨g2, i * 12 + 9, none⟩ = false := by
              obtain ⟨GB', TB', hr', _⟩ := HM.out.row
              exact hr'.frozenAt _
            have zc : ∃ z, wc.cell? ⟨g2, i * 12 + 9, none⟩ = some (.int .i64 z) := by
              obtain ⟨GB', TB', hr', _⟩ := HM.out.row
              exact ⟨_, own_cellF hr' hlt (show 9 < 12 by omega)⟩
            obtain ⟨z, zc⟩ := zc
            cases x9 with
            | true =>
              go_wp2_with fail
              have HN := HM.out.zero hg2 Hne.out.1 Hne.out.2 9 (by omega)
              obtain ⟨GB', TB', hr', hf'⟩ := HN.row
              exact ⟨⟨i + 1, GB', TB', by omega, by simp, HN.own, hr', hf', HN.bel⟩, by simp only [intOf]; omega⟩
            | false =>
              go_wp2_with fail
              obtain ⟨GB', TB', hr', hf'⟩ := HM.out.row
              exact ⟨⟨i + 1, GB', TB', by omega, by simp, HM.out.own, hr', hf', HM.out.bel⟩, by simp only [intOf]; omega⟩
        · obtain rfl : i = m := by omega
          clear hown hrow Hft Hom hB hi hlt
          go_wp2_with fail
          clear hmk
          obtain ⟨wp, rfl⟩ : ∃ wp : World, wp = wr := ⟨_, rfl⟩
          go_loopw [10, 90] (fun a b wr => ∃ (q : Nat) (F : Nat → Nat → Int), q ≤ ns ∧ b = .int .i64 q ∧ wr.ownsRow w.heap.size 28 12 a q (rowF q 12 (shV F Ts)) ∧ Hid (∀ j, j < q → Fr (Gs j) (F j)) ∧ Below w.heap.size w wr) (fun _ b _ => ns - (intOf b).toNat)
          case atStart => exact ⟨0, fun _ _ => 0, by omega, rfl, World.ownsRow_nil _ _ _ _, hide (fun j hj => by omega), hbl⟩
          case round =>
            clear hbl
            obtain ⟨q, F, hq, rfl, hrow, HF, hbl⟩ := hrel
            obtain ⟨A6, c6, rfl⟩ := own_form hrow
            by_cases hlt : q < ns
            · obtain ⟨b, off, rfl, k0, k1, k2, k3, k4, k5, k6, k7, k8, k9, k10, k11⟩ := cells12 (hrs.below hbl) hlt
              go_upto_region 27 with fail
              have HM : Mk3 wr.heap.size q Gs Ts (.slice A6 q c6) (shV F Ts) w (wr.alloc (.cells (shC Gs Ts q) 28)) := ⟨Blk.new wr _ _, hrow.alloc _, hbl.alloc hbl.size _, hbl.size, fun e => by have := (hrow.lt _ e).2; omega⟩
              unfold shC at HM
              clear k0 k1 k2 k3 k4 k5 k6 k7 k8 k9 k10 k11 hbl hrow
              generalize wr.alloc (.cells #[.int .i64 (Gs q 0), .int .i64 (Gs q 1), .int .i64 (Gs q 2), .int .i64 (Gs q 3), .int .i64 (Gs q 4), .int .i64 (Gs q 5), .int .i64 (Gs q 6), .int .i64 (Gs q 7), .int .i64 (Gs q 8), .int .i64 (Gs q 9), .string (Ts q 10), .string (Ts q 11)] 28) = w0 at *
              generalize wr.heap.size = g at *
              have m10 : w0.cell? ⟨g, 10, none⟩ = some (.string (Ts q 10)) := HM.bx.cell 10
              have HP := hide (place_ok Am k cm Gm Tm (Ts q 10) w0 (hrm.below HM.bel) (by omega))
              have HM := hide HM
              go_wp2_with fail
              refine HP.out.mono ?_
              rintro e w4 ⟨hpl, hb4⟩
              have HM4 := hide (HM.out.below hb4)
              clear HM m10 HP hb4
              obtain ⟨r, rfl, hr⟩ : ∃ r : Int, e = .returned (.int .i64 r) ∧ (r = -1 ∨ ∃ p : Nat, r = (p : Int) ∧ p < k) := by
                rcases hpl with ⟨p, h1, h2⟩ | h1
                · exact ⟨_, h1, .inr ⟨p, rfl, h2⟩⟩
                · exact ⟨_, h1, .inl rfl⟩
              have Hr := hide hr
              clear hpl hr
              go_upto_region 28 with fail
              go_cut [114] (fun v wc => v = .bool (decide (0 ≤ r ∧ Gs q 1 = 0 ∧ Gs q 5 = 0 ∧ Gs q 6 = 0)) ∧ w4 = wc)
              case first =>
                have m1 : w4.cell? ⟨g, 1, none⟩ = some (.int .i64 (Gs q 1)) := HM4.out.bx.cell 1
                have m5 : w4.cell? ⟨g, 5, none⟩ = some (.int .i64 (Gs q 5)) := HM4.out.bx.cell 5
                have m6 : w4.cell? ⟨g, 6, none⟩ = some (.int .i64 (Gs q 6)) := HM4.out.bx.cell 6
                by_cases c0 : 0 ≤ r
                · have d0 : decide (r ≥ 0) = true := by simpa using c0
                  by_cases c1 : Gs q 1 = 0
                  · have d1 : (Gs q 1 == 0) = true := by simpa using c1
                    by_cases c5 : Gs q 5 = 0
                    · have d5 : (Gs q 5 == 0) = true := by simpa using c5
                      by_cases c6 : Gs q 6 = 0
                      · have d6 : (Gs q 6 == 0) = true := by simpa using c6
                        have hres := hide (show decide (0 ≤ r ∧ Gs q 1 = 0 ∧ Gs q 5 = 0 ∧ Gs q 6 = 0) = true by simp [c0, c1, c5, c6])
                        clear c0 c1 c5 c6
                        go_wp2_with fail
                        go_meet
                        exact ⟨by rw [hres.out], rfl⟩
                      · have d6 : (Gs q 6 == 0) = false := by simpa using c6
                        have hres := hide (show decide (0 ≤ r ∧ Gs q 1 = 0 ∧ Gs q 5 = 0 ∧ Gs q 6 = 0) = false by simp [c6])
                        clear c0 c1 c5 c6
                        go_wp2_with fail
                        go_meet
                        exact ⟨by rw [hres.out], rfl⟩
                    · have d5 : (Gs q 5 == 0) = false := by simpa using c5
                      have hres := hide (show decide (0 ≤ r ∧ Gs q 1 = 0 ∧ Gs q 5 = 0 ∧ Gs q 6 = 0) = false by simp [c5])
                      clear c0 c1 c5
                      go_wp2_with fail
                      go_meet
                      exact ⟨by rw [hres.out], rfl⟩
                  · have d1 : (Gs q 1 == 0) = false := by simpa using c1
                    have hres := hide (show decide (0 ≤ r ∧ Gs q 1 = 0 ∧ Gs q 5 = 0 ∧ Gs q 6 = 0) = false by simp [c1])
                    clear c0 c1
                    go_wp2_with fail
                    go_meet
                    exact ⟨by rw [hres.out], rfl⟩
                · have d0 : decide (r ≥ 0) = false := by simpa using c0
                  have hres := hide (show decide (0 ≤ r ∧ Gs q 1 = 0 ∧ Gs q 5 = 0 ∧ Gs q 6 = 0) = false by simp [c0])
                  clear c0
                  go_wp2_with fail
                  go_meet
                  exact ⟨by rw [hres.out], rfl⟩
              case rest =>
                obtain ⟨rfl, rfl⟩ := hcut
                go_upto_if 114 with fail
                go_cut [] (fun wc => ∃ FX : Nat → Nat → Int, Fr (Gs q) (FX q) ∧ Mk3 g q FX Ts (.slice A6 q c6) (shV F Ts) w wc)
                case first =>
                  cases hQ : decide (0 ≤ r ∧ Gs q 1 = 0 ∧ Gs q 5 = 0 ∧ Gs q 6 = 0) with
                  | false =>
                    clear hQ
                    go_wp2_with fail
                    go_meet
                    exact ⟨Gs, .inl fun j _ => rfl, HM4.out⟩
                  | true =>
                    have HQ := hide (of_decide_eq_true hQ)
                    clear hQ
                    obtain ⟨p, rfl, hp⟩ : ∃ p : Nat, r = (p : Int) ∧ p < k := by
                      rcases Hr.out with h | h
                      · have := HQ.out.1; omega
                      · exact h
                    obtain ⟨bm, om, rfl, k0, k1, k2, k3, k4, k5, k6, k7, k8, k9, k10, k11⟩ := cells12 (hrm.below HM4.out.bel) hp
                    have hgl := HM4.out.bx.lt
                    have hp2 : (p : Int) < (k : Int) := by omega
                    have hw4 := HM4.out.bel.size
                    go_upto_region 30 with fail
                    have HM5 := HM4.out.below ((Below.refl _ _).alloc (Nat.le_refl _) (.cells (shC Gm Tm p) 28))
                    have bm5 : Blk (w4.alloc (.cells (shC Gm Tm p) 28)) w4.heap.size 28 (shC Gm Tm p) := Blk.new w4 _ _
                    have hgm : g ≠ w4.heap.size := by omega
                    unfold shC at HM5 bm5
                    clear k0 k1 k2 k3 k4 k5 k6 k7 k8 k9 k10 k11 HM4 hgl hw4 Hr
                    generalize w4.alloc (.cells #[.int .i64 (Gm p 0), .int .i64 (Gm p 1), .int .i64 (Gm p 2), .int .i64 (Gm p 3), .int .i64 (Gm p 4), .int .i64 (Gm p 5), .int .i64 (Gm p 6), .int .i64 (Gm p 7), .int .i64 (Gm p 8), .int .i64 (Gm p 9), .string (Tm p 10), .string (Tm p 11)] 28) = w5 at *
                    generalize w4.heap.size = gm at *
                    have b3 : w5.cell? ⟨gm, 3, none⟩ = some (.int .i64 (Gm p 3)) := bm5.cell 3
                    have b4 : w5.cell? ⟨gm, 4, none⟩ = some (.int .i64 (Gm p 4)) := bm5.cell 4
                    have b5 : w5.cell? ⟨gm, 5, none⟩ = some (.int .i64 (Gm p 5)) := bm5.cell 5
                    have b6 : w5.cell? ⟨gm, 6, none⟩ = some (.int .i64 (Gm p 6)) := bm5.cell 6
                    have b7 : w5.cell? ⟨gm, 7, none⟩ = some (.int .i64 (Gm p 7)) := bm5.cell 7
                    have s3 : w5.cell? ⟨g, 3, none⟩ = some (.int .i64 (Gs q 3)) := HM5.bx.cell 3
                    have s4 : w5.cell? ⟨g, 4, none⟩ = some (.int .i64 (Gs q 4)) := HM5.bx.cell 4
                    have s5 : w5.cell? ⟨g, 5, none⟩ = some (.int .i64 (Gs q 5)) := HM5.bx.cell 5
                    have s6 : w5.cell? ⟨g, 6, none⟩ = some (.int .i64 (Gs q 6)) := HM5.bx.cell 6
                    have s7 : w5.cell? ⟨g, 7, none⟩ = some (.int .i64 (Gs q 7)) := HM5.bx.cell 7
                    have z3 : w5.frozen? ⟨g, 3, none⟩ = false := HM5.bx.frozen 3
                    have z4 : w5.frozen? ⟨g, 4, none⟩ = false := HM5.bx.frozen 4
                    have z5 : w5.frozen? ⟨g, 5, none⟩ = false := HM5.bx.frozen 5
                    have z6 : w5.frozen? ⟨g, 6, none⟩ = false := HM5.bx.frozen 6
                    have z7 : w5.frozen? ⟨g, 7, none⟩ = false := HM5.bx.frozen 7
                    have HM5 := hide HM5
                    clear bm5
                    go_region_held3 (fun w' => w'.cell? ⟨gm, 3, none⟩ = some (.int .i64 (Gm p 3)) ∧ w'.cell? ⟨gm, 4, none⟩ = some (.int .i64 (Gm p 4)) ∧ w'.cell? ⟨gm, 5, none⟩ = some (.int .i64 (Gm p 5)) ∧ w'.cell? ⟨gm, 6, none⟩ = some (.int .i64 (Gm p 6)) ∧ w'.cell? ⟨gm, 7, none⟩ = some (.int .i64 (Gm p 7)))
                      (first | go_keep | exact ⟨b3, b4, b5, b6, b7⟩) (fail)
                    all_goals
                      go_wp2_with fail
                      go_meet
                      exact ⟨laidF Gs q (Gm p), .inr ⟨HQ.out.2.1, HQ.out.2.2.1, HQ.out.2.2.2, by simp [laidF], by simp [laidF], by simp [laidF], by simp [laidF], by simp [laidF]⟩, (HM5.out.drewN 1).laid (Gm p)⟩
                case rest =>
                  clear HM4 Hr
                  obtain ⟨FX, HFX, HM5⟩ := hcut
                  have HFX := hide HFX
                  have m0 : wc.cell? ⟨g, 0, none⟩ = some (.int .i64 (FX q 0)) := HM5.bx.cell 0
                  have m1 : wc.cell? ⟨g, 1, none⟩ = some (.int .i64 (FX q 1)) := HM5.bx.cell 1
                  have m2 : wc.cell? ⟨g, 2, none⟩ = some (.int .i64 (FX q 2)) := HM5.bx.cell 2
                  have m3 : wc.cell? ⟨g, 3, none⟩ = some (.int .i64 (FX q 3)) := HM5.bx.cell 3
                  have m4 : wc.cell? ⟨g, 4, none⟩ = some (.int .i64 (FX q 4)) := HM5.bx.cell 4
                  have m5 : wc.cell? ⟨g, 5, none⟩ = some (.int .i64 (FX q 5)) := HM5.bx.cell 5
                  have m6 : wc.cell? ⟨g, 6, none⟩ = some (.int .i64 (FX q 6)) := HM5.bx.cell 6
                  have m7 : wc.cell? ⟨g, 7, none⟩ = some (.int .i64 (FX q 7)) := HM5.bx.cell 7
                  have m8 : wc.cell? ⟨g, 8, none⟩ = some (.int .i64 (FX q 8)) := HM5.bx.cell 8
                  have m9 : wc.cell? ⟨g, 9, none⟩ = some (.int .i64 (FX q 9)) := HM5.bx.cell 9
                  have m10 : wc.cell? ⟨g, 10, none⟩ = some (.string (Ts q 10)) := HM5.bx.cell 10
                  have m11 : wc.cell? ⟨g, 11, none⟩ = some (.string (Ts q 11)) := HM5.bx.cell 11
                  have HM5 := hide HM5
                  go_wp2_with (at_builtin; refine wpL_append rfl rfl Try.underlying22 shape_info rfl (by decide) rfl rfl (HM5.out.row.alloc _) (news_at _ _ _ _ (by simp)) rfl (by simp [Value.oneCell']) (by omega) (by omega) (by have := HM5.out.bel.size; simp; omega) ?_; intro v7 w7 hrow7 hgrow7)
                  go_roundw
                  case rel => exact ⟨q + 1, upd F q (FX q), by omega, by go_num, by rw [← fr_push]; exact hrow7, hide (fr_all HF.out HFX.out), below_app (HM5.out.bel.alloc HM5.out.bel.size _) (by have := HM5.out.bel.size; simp; omega) (HM5.out.row.alloc _) hgrow7⟩
                  case measure => simp [intOf]; omega
            · obtain rfl : q = ns := by omega
              go_wp2_with fail
              refine bodyPost_ret (v := .tuple #[.slice A5 i c5, .slice A6 q c6, .int .i64 0]) (by simp [results, Try.results6, go_sem]) rfl ?_
              exact ⟨A5, i, c5, A6, c6, F, rfl, hrow, HF.out, hbl⟩
end Go.Proofs.Ytnmikhmbnpiadaa.Shp
