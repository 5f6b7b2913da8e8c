/- Contracts of package bidi: Class, classes, first, check, Base. -/
import Derived.Test.YtdikfldogmbeaaaDoorBdTable
import Derived.Test.YtdikfldogmbeaaaDoorBdBasics
import Derived.Test.YtdikfldogmbeaaaDoorBdMem
namespace Go.Proofs.YtdikfldogmbeaaaDoor.Bd
open Go.RowKit Go.Frm

/-- the table lies where its variable says -/
structure TabC (w : World) : Prop where
  ex : ∃ A c, w.cell? ⟨0, 0, none⟩ = some (.slice A 65 c) ∧ RdF w A 65 3 (fun i j => .int .i64 (tbV clsTb i j))
theorem TabC.below {w w' : World} (h : TabC w) (hb : Below w.heap.size w w') : TabC w' := by
  obtain ⟨A, c, h1, h2⟩ := h.ex
  exact ⟨A, c, by rw [hb.cell (World.block_lt_of_cell? w _ h1)]; exact h1, h2.below hb⟩
theorem TabC.alloc {w : World} (h : TabC w) (o : Obj) : TabC (w.alloc o) := h.below ((Below.refl _ _).alloc (Nat.le_refl _) o)
theorem TabC.drewN {w : World} (h : TabC w) (m : Nat) : TabC (w.drewN m) := ⟨h.ex⟩

set_option maxRecDepth 100000 in
set_option maxHeartbeats 1000000 in
theorem class_ok (c : Int) (w : World) (ht : TabC w) :
    Calls Tryd.prog 10 #[.int .i64 c] w fun e w' => e = .returned (.int .i64 (clsOf c)) ∧ Below w.heap.size w w' := by
  obtain ⟨A, cp, hg, hr⟩ := ht.ex
  have Hlk := hide (show clsOf c = clsFrom c 65 0 from rfl)
  generalize clsOf c = L at *
  clear ht
  go_enter Tryd.func10, Tryd.ntmps10
  go_wp2_with fail
  go_loopw [7] (fun a wr => ∃ k : Nat, k ≤ 65 ∧ a = .int .i64 k ∧ Hid (L = clsFrom c (65 - k) k) ∧ Below w.heap.size w wr) (fun a _ => 65 - (intOf a).toNat)
  case atStart => exact ⟨0, by omega, rfl, Hlk, Below.refl _ _⟩
  case round =>
    clear Hlk
    obtain ⟨k, hk, rfl, HL, hbl⟩ := hrel
    by_cases hlt : k < 65
    · obtain ⟨b, off, rfl, hc⟩ := (hr.below hbl).at_ hlt
      have c0 : wr.cell? ⟨b, off + k * 3, none⟩ = some (.int .i64 (tbV clsTb k 0)) := hc 0 (by omega)
      have c1 : wr.cell? ⟨b, off + k * 3 + 1, none⟩ = some (.int .i64 (tbV clsTb k 1)) := hc 1 (by omega)
      have c2 : wr.cell? ⟨b, off + k * 3 + 2, none⟩ = some (.int .i64 (tbV clsTb k 2)) := hc 2 (by omega)
      have hs : L = if tbV clsTb k 0 ≤ c ∧ c ≤ tbV clsTb k 1 then tbV clsTb k 2 else clsFrom c (65 - (k + 1)) (k + 1) := by
        rw [HL.out, show 65 - k = (65 - (k + 1)) + 1 by omega]
        rfl
      generalize tbV clsTb k 0 = lo at *
      generalize tbV clsTb k 1 = hi at *
      generalize tbV clsTb k 2 = v at *
      have hb2 := hbl.alloc hbl.size (.cells #[.int .i64 lo, .int .i64 hi, .int .i64 v] 51)
      clear HL hc
      by_cases h1 : lo ≤ c
      · by_cases h2 : c ≤ hi
        · rw [if_pos ⟨h1, h2⟩] at hs
          have Hs := hide hs
          clear hs
          go_wp2_with fail
          go_ret
          exact ⟨ret_int Hs.out.symm, hb2⟩
        · rw [if_neg (fun h => h2 h.2)] at hs
          have Hs : Hid (L = clsFrom c (65 - (k + 1)) (k + 1)) := hs
          have h2' : hi < c := by omega
          clear hs h2
          go_wp2_with fail
          go_roundw
          case rel => exact ⟨k + 1, by omega, by go_num, Hs, hb2⟩
          case measure => simp [intOf]; omega
      · rw [if_neg (fun h => h1 h.1)] at hs
        have Hs : Hid (L = clsFrom c (65 - (k + 1)) (k + 1)) := hs
        have h1' : decide (lo ≤ c) = false := by simp; omega
        clear hs h1
        go_wp2_with fail
        go_roundw
        case rel => exact ⟨k + 1, by omega, by go_num, Hs, hb2⟩
        case measure => simp [intOf]; omega
    · obtain rfl : k = 65 := by omega
      have hL : L = 0 := by rw [HL.out]; rfl
      have H2 := hide hL
      clear hL HL
      go_wp2_with fail
      go_ret
      exact ⟨ret_int H2.out.symm, hbl⟩

/-- the places of a text -/
def clsX (zs : List Int) (i : Nat) : Int := clsOf (ix zs i)
set_option maxRecDepth 100000 in
set_option maxHeartbeats 1000000 in
theorem classes_ok (A : Option Addr) (cp : Nat) (zs : List Int) (w : World) (ht : TabC w) (hr : RdI w A zs) (hn : zs.length ≤ 100000) :
    Calls Tryd.prog 18 #[.slice A zs.length cp] w fun e w' => ∃ g, e = .returned (.slice (some ⟨g, 0, none⟩) zs.length zs.length) ∧ w.heap.size ≤ g ∧ BI w' g zs.length (clsX zs) ∧ Below w.heap.size w w' := by
  have hmk := make_ints zs.length hn zs.length rfl
  have hb0 := BI.new w zs.length
  have hbel0 : Below w.heap.size w (w.alloc (.cells (madeCells #[.int .i64 0] zs.length) 3)) := (Below.refl _ _).alloc (Nat.le_refl _) _
  go_enter Tryd.func18, Tryd.ntmps18
  go_wp2_with fail
  generalize w.alloc (.cells (madeCells #[.int .i64 0] zs.length) 3) = w1 at *
  clear hmk
  go_loopw [11] (fun a wr => ∃ k : Nat, k ≤ zs.length ∧ a = .int .i64 k ∧ BI wr w.heap.size zs.length (fun i => if i < k then clsX zs i else 0) ∧ Below w.heap.size w wr) (fun a _ => zs.length - (intOf a).toNat)
  case atStart => exact ⟨0, by omega, rfl, hb0.congr (fun i _ => by simp), hbel0⟩
  case round =>
    clear hb0 hbel0
    obtain ⟨k, hk, rfl, hbi, hbl⟩ := hrel
    by_cases hlt : k < zs.length
    · obtain ⟨b, off, rfl, c0⟩ := (hr.below hbl).at_ hlt
      have Hc := hide (class_ok (ix zs k) wr (ht.below hbl))
      have Hx := hide (show clsX zs k = clsOf (ix zs k) from rfl)
      have hl := hbi.lt
      go_wp2_with fail
      refine Hc.out.mono ?_
      rintro e w2 ⟨rfl, hb2⟩
      have hbi2 := hbi.below hb2 hl
      have hf := hbi2.frozen k
      have hc2 := hbi2.cell hlt
      have hs := hbi2.set k (clsOf (ix zs k))
      have hbl2 := (hbl.trans (hb2.mono hbl.size)).setCell (p := ⟨w.heap.size, k, none⟩) (Nat.le_refl _) (.int .i64 (clsOf (ix zs k)))
      have Hs := hide hs
      clear hs
      go_wp2_with fail
      go_roundw
      case rel => exact ⟨k + 1, by omega, by go_num, Hs.out.congr (fun i _ => by
        unfold upd
        by_cases hik : i = k
        · rw [if_pos hik, if_pos (by omega), hik, Hx.out]
        · rw [if_neg hik]
          show (if i < k then clsX zs i else 0) = _
          by_cases h2 : i < k
          · rw [if_pos h2, if_pos (by omega)]
          · rw [if_neg h2, if_neg (by omega)]), hbl2⟩
      case measure => simp [intOf]; omega
    · obtain rfl : k = zs.length := by omega
      go_wp2_with fail
      go_ret
      exact ⟨w.heap.size, rfl, Nat.le_refl _, hbi.congr (fun i hi => by simp [hi]), hbl⟩

end Go.Proofs.YtdikfldogmbeaaaDoor.Bd
