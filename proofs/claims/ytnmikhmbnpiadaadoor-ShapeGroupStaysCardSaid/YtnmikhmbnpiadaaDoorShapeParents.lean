/- Contracts of package shape: parents. -/
import Derived.Test.YtnmikhmbnpiadaaDoorShapeFind
namespace Go.Proofs.YtnmikhmbnpiadaaDoor.Shp
open Go.RowKit Go.Frm

/-- what makes a drawing valid -/
structure ShOk (G : Nat → Nat → Int) (n : Nat) : Prop where
  few : n ≤ 19
  item : ∀ i, i < n → 1 ≤ G i 0 ∧ G i 0 ≤ 1073741824
  one : ∀ j i, j < i → i < n → G j 0 ≠ G i 0
  par : ∀ i, i < n → 0 ≤ G i 1 ∧ G i 1 ≤ 1073741824
  kind : ∀ i, i < n → 0 ≤ G i 2 ∧ G i 2 ≤ 7
  xy : ∀ i, i < n → (-1048576 ≤ G i 3 ∧ G i 3 ≤ 1048576) ∧ (-1048576 ≤ G i 4 ∧ G i 4 ≤ 1048576)
  wh : ∀ i, i < n → (0 ≤ G i 5 ∧ G i 5 ≤ 1048576) ∧ (0 ≤ G i 6 ∧ G i 6 ≤ 1048576)
  turn : ∀ i, i < n → 0 ≤ G i 7 ∧ G i 7 < 3600
  ft : ∀ i, i < n → (0 ≤ G i 8 ∧ G i 8 ≤ 1073741824) ∧ (0 ≤ G i 9 ∧ G i 9 ≤ 1073741824)
  link : ∀ i, i < n → G i 2 ≠ 6 → G i 8 = 0 ∧ G i 9 = 0
  grp : ∀ i, i < n → G i 1 = 0 ∨ ∃ p, p < i ∧ G p 0 = G i 1 ∧ G p 2 = 5
theorem rdF_take {w : World} {A : Option Addr} {n m size : Nat} {f : Nat → Nat → Value} (h : RdF w A n size f) (hm : m ≤ n) : RdF w A m size f := by
  rcases h with rfl | ⟨b, off, rfl, hc⟩
  · left; omega
  · exact .inr ⟨b, off, rfl, fun i j hi hj => hc i j (by omega) hj⟩

theorem blk_cells {w : World} {g : Nat} {t : TypeId} {a b : Array Value} (h : a = b) (hb : Blk w g t a) : Blk w g t b := h ▸ hb

set_option maxRecDepth 100000 in
set_option maxHeartbeats 4000000 in
theorem parents_ok (A : Option Addr) (n i c : Nat) (G : Nat → Nat → Int) (T : Nat → Nat → ByteArray) (w : World) (ho : ShOk G n) (hr : RdF w A n 12 (shV G T)) (hi : i < n) :
    Calls Tryd.prog 34 #[.slice A i c, shA G T i] w fun e w' => e = .returned (.int .i64 0) ∧ Below w.heap.size w w' := by
  have Ho := hide ho
  have hn := ho.few
  have hri := rdF_take hr (Nat.le_of_lt hi)
  clear ho
  unfold shA
  go_enter Tryd.func34, Tryd.ntmps34
  go_wp2_with fail
  have hb0 : Blk (w.alloc (.cells (shC G T i) 23)) w.heap.size 23 (shC G T i) := Blk.new w _ _
  have hbel0 : Below w.heap.size w (w.alloc (.cells (shC G T i) 23)) := (Below.refl _ _).alloc (Nat.le_refl _) _
  unfold shC at hb0 hbel0
  generalize w.alloc (.cells #[.int .i64 (G i 0), .int .i64 (G i 1), .int .i64 (G i 2), .int .i64 (G i 3), .int .i64 (G i 4), .int .i64 (G i 5), .int .i64 (G i 6), .int .i64 (G i 7), .int .i64 (G i 8), .int .i64 (G i 9), .string (T i 10), .string (T i 11)] 23) = w0 at *
  go_loopw [5] (fun a wr => ∃ (q d : Nat), q ≤ i ∧ 1 ≤ d ∧ d + q ≤ i + 1 ∧ a = .int .i64 d ∧ Blk wr w.heap.size 23 (shC G T q) ∧ Below w.heap.size w wr) (fun a _ => 20 - (intOf a).toNat)
  case atStart => exact ⟨i, 1, Nat.le_refl _, by omega, by omega, rfl, hb0, hbel0⟩
  case round =>
    clear hb0 hbel0
    obtain ⟨q, d, hq, hd1, hd2, rfl, hb, hbl⟩ := hrel
    have c1 : wr.cell? ⟨w.heap.size, 1, none⟩ = some (.int .i64 (G q 1)) := hb.cell 1
    rcases Ho.out.grp q (by omega) with h0 | ⟨p, hpq, hp0, hp2⟩
    · have hz : (G q 1 == 0) = true := by simpa using h0
      have hz2 : (G q 1 != 0) = false := by simpa using h0
      clear h0
      go_wp2_with fail
      go_ret
      exact ⟨rfl, hbl⟩
    · have hpar := Ho.out.item p (by omega)
      have hz2 : (G q 1 != 0) = true := by rw [← hp0]; simp; omega
      have hd20 : ((d : Int) == 20) = false := by simp; omega
      have hfa : FirstAt G i (G q 1) (p : Int) := .inl ⟨p, rfl, by omega, hp0, fun j hj => by rw [← hp0]; exact Ho.out.one j p hj (by omega)⟩
      have hfi := find_ok A i c G T (G q 1) wr (hri.below hbl) (by omega) (p : Int) hfa
      have Hfi := hide hfi
      have hp5 : (G p 2 != 5) = false := by rw [hp2]; rfl
      have hpi : p < i := by omega
      clear hfi hfa hp0 hp2
      go_wp2_with fail
      refine Hfi.out.mono ?_
      rintro e w1 ⟨rfl, hbel1⟩
      have hb1 := hb.below hbel1 hb.lt
      have hblA := hbl.trans (hbel1.mono hbl.size)
      obtain ⟨b, off, rfl, k0, k1, k2, k3, k4, k5, k6, k7, k8, k9, k10, k11⟩ := cells12 (hri.below hblA) hpi
      have m0 : w1.cell? ⟨w.heap.size, 0, none⟩ = some (.int .i64 (G q 0)) := hb1.cell 0
      have m1 : w1.cell? ⟨w.heap.size, 1, none⟩ = some (.int .i64 (G q 1)) := hb1.cell 1
      have m2 : w1.cell? ⟨w.heap.size, 2, none⟩ = some (.int .i64 (G q 2)) := hb1.cell 2
      have m3 : w1.cell? ⟨w.heap.size, 3, none⟩ = some (.int .i64 (G q 3)) := hb1.cell 3
      have m4 : w1.cell? ⟨w.heap.size, 4, none⟩ = some (.int .i64 (G q 4)) := hb1.cell 4
      have m5 : w1.cell? ⟨w.heap.size, 5, none⟩ = some (.int .i64 (G q 5)) := hb1.cell 5
      have m6 : w1.cell? ⟨w.heap.size, 6, none⟩ = some (.int .i64 (G q 6)) := hb1.cell 6
      have m7 : w1.cell? ⟨w.heap.size, 7, none⟩ = some (.int .i64 (G q 7)) := hb1.cell 7
      have m8 : w1.cell? ⟨w.heap.size, 8, none⟩ = some (.int .i64 (G q 8)) := hb1.cell 8
      have m9 : w1.cell? ⟨w.heap.size, 9, none⟩ = some (.int .i64 (G q 9)) := hb1.cell 9
      have m10 : w1.cell? ⟨w.heap.size, 10, none⟩ = some (.string (T q 10)) := hb1.cell 10
      have m11 : w1.cell? ⟨w.heap.size, 11, none⟩ = some (.string (T q 11)) := hb1.cell 11
      have z0 : w1.frozen? ⟨w.heap.size, 0, none⟩ = false := hb1.frozen 0
      have z1 : w1.frozen? ⟨w.heap.size, 1, none⟩ = false := hb1.frozen 1
      have z2 : w1.frozen? ⟨w.heap.size, 2, none⟩ = false := hb1.frozen 2
      have z3 : w1.frozen? ⟨w.heap.size, 3, none⟩ = false := hb1.frozen 3
      have z4 : w1.frozen? ⟨w.heap.size, 4, none⟩ = false := hb1.frozen 4
      have z5 : w1.frozen? ⟨w.heap.size, 5, none⟩ = false := hb1.frozen 5
      have z6 : w1.frozen? ⟨w.heap.size, 6, none⟩ = false := hb1.frozen 6
      have z7 : w1.frozen? ⟨w.heap.size, 7, none⟩ = false := hb1.frozen 7
      have z8 : w1.frozen? ⟨w.heap.size, 8, none⟩ = false := hb1.frozen 8
      have z9 : w1.frozen? ⟨w.heap.size, 9, none⟩ = false := hb1.frozen 9
      have z10 : w1.frozen? ⟨w.heap.size, 10, none⟩ = false := hb1.frozen 10
      have z11 : w1.frozen? ⟨w.heap.size, 11, none⟩ = false := hb1.frozen 11
      clear c1
      go_wp2_with fail
      have hbn := (((((((((((hb1.set_ 0 (.int .i64 (G p 0))).set_ 1 (.int .i64 (G p 1))).set_ 2 (.int .i64 (G p 2))).set_ 3 (.int .i64 (G p 3))).set_ 4 (.int .i64 (G p 4))).set_ 5 (.int .i64 (G p 5))).set_ 6 (.int .i64 (G p 6))).set_ 7 (.int .i64 (G p 7))).set_ 8 (.int .i64 (G p 8))).set_ 9 (.int .i64 (G p 9))).set_ 10 (.string (T p 10))).set_ 11 (.string (T p 11))
      exact ⟨⟨p, d + 1, by omega, by omega, by omega, by simp, blk_cells (by simp [shC]) hbn, ((((((((((((hblA.setCell (p := ⟨w.heap.size, 0, none⟩) (Nat.le_refl _) _).setCell (p := ⟨w.heap.size, 1, none⟩) (Nat.le_refl _) _).setCell (p := ⟨w.heap.size, 2, none⟩) (Nat.le_refl _) _).setCell (p := ⟨w.heap.size, 3, none⟩) (Nat.le_refl _) _).setCell (p := ⟨w.heap.size, 4, none⟩) (Nat.le_refl _) _).setCell (p := ⟨w.heap.size, 5, none⟩) (Nat.le_refl _) _).setCell (p := ⟨w.heap.size, 6, none⟩) (Nat.le_refl _) _).setCell (p := ⟨w.heap.size, 7, none⟩) (Nat.le_refl _) _).setCell (p := ⟨w.heap.size, 8, none⟩) (Nat.le_refl _) _).setCell (p := ⟨w.heap.size, 9, none⟩) (Nat.le_refl _) _).setCell (p := ⟨w.heap.size, 10, none⟩) (Nat.le_refl _) _).setCell (p := ⟨w.heap.size, 11, none⟩) (Nat.le_refl _) _)⟩, by simp only [intOf]; omega⟩
end Go.Proofs.YtnmikhmbnpiadaaDoor.Shp
