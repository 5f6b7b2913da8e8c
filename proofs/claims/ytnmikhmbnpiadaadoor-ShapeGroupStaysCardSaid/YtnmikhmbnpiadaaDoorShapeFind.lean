/- Contracts of package shape: find. -/
import Derived.Test.YtnmikhmbnpiadaaDoorArgs
import Derived.Test.YtnmikhmbnpiadaaDoorProg
namespace Go.Proofs.YtnmikhmbnpiadaaDoor.Shp
open Go.RowKit Go.Frm

/-- the cells of a shape: ten numbers and two strings -/
def shV (G : Nat → Nat → Int) (T : Nat → Nat → ByteArray) (i j : Nat) : Value := if j < 10 then .int .i64 (G i j) else .string (T i j)
/-- a shape as one value -/
def shA (G : Nat → Nat → Int) (T : Nat → Nat → ByteArray) (i : Nat) : Value := .agg #[.int .i64 (G i 0), .int .i64 (G i 1), .int .i64 (G i 2), .int .i64 (G i 3), .int .i64 (G i 4), .int .i64 (G i 5), .int .i64 (G i 6), .int .i64 (G i 7), .int .i64 (G i 8), .int .i64 (G i 9), .string (T i 10), .string (T i 11)]
def shC (G : Nat → Nat → Int) (T : Nat → Nat → ByteArray) (i : Nat) : Array Value := #[.int .i64 (G i 0), .int .i64 (G i 1), .int .i64 (G i 2), .int .i64 (G i 3), .int .i64 (G i 4), .int .i64 (G i 5), .int .i64 (G i 6), .int .i64 (G i 7), .int .i64 (G i 8), .int .i64 (G i 9), .string (T i 10), .string (T i 11)]
/-- the twelve cells of shape k -/
def Cells12 (w : World) (b o : Nat) (G : Nat → Nat → Int) (T : Nat → Nat → ByteArray) (k : Nat) : Prop :=
  w.cell? ⟨b, o, none⟩ = some (.int .i64 (G k 0)) ∧ w.cell? ⟨b, o + 1, none⟩ = some (.int .i64 (G k 1)) ∧ w.cell? ⟨b, o + 2, none⟩ = some (.int .i64 (G k 2)) ∧ w.cell? ⟨b, o + 3, none⟩ = some (.int .i64 (G k 3)) ∧
  w.cell? ⟨b, o + 4, none⟩ = some (.int .i64 (G k 4)) ∧ w.cell? ⟨b, o + 5, none⟩ = some (.int .i64 (G k 5)) ∧ w.cell? ⟨b, o + 6, none⟩ = some (.int .i64 (G k 6)) ∧ w.cell? ⟨b, o + 7, none⟩ = some (.int .i64 (G k 7)) ∧
  w.cell? ⟨b, o + 8, none⟩ = some (.int .i64 (G k 8)) ∧ w.cell? ⟨b, o + 9, none⟩ = some (.int .i64 (G k 9)) ∧ w.cell? ⟨b, o + 10, none⟩ = some (.string (T k 10)) ∧ w.cell? ⟨b, o + 11, none⟩ = some (.string (T k 11))
theorem cells12 {w : World} {A : Option Addr} {n : Nat} {G : Nat → Nat → Int} {T : Nat → Nat → ByteArray} (h : RdF w A n 12 (shV G T)) {k : Nat} (hk : k < n) : ∃ b off, A = some ⟨b, off, none⟩ ∧ Cells12 w b (off + k * 12) G T k := by
  obtain ⟨b, off, rfl, hc⟩ := h.at_ hk
  exact ⟨b, off, rfl, hc 0 (by omega), hc 1 (by omega), hc 2 (by omega), hc 3 (by omega), hc 4 (by omega), hc 5 (by omega), hc 6 (by omega), hc 7 (by omega), hc 8 (by omega), hc 9 (by omega), hc 10 (by omega), hc 11 (by omega)⟩

set_option maxRecDepth 100000 in
set_option maxHeartbeats 1000000 in
theorem same_ok (G : Nat → Nat → Int) (T : Nat → Nat → ByteArray) (i : Nat) (item : Int) (B : Nat) (w : World) (hc : w.cell? ⟨B, 0, none⟩ = some (.int .i64 item)) :
    Calls Tryd.prog 36 #[shA G T i, .pointer (some ⟨B, 0, none⟩)] w fun e w' => e = .returned (.bool (G i 0 == item)) ∧ Below w.heap.size w w' := by
  have hB := World.block_lt_of_cell? w _ hc
  have hB2 : B < w.heap.size := hB
  unfold shA
  go_enter Tryd.func36, Tryd.ntmps36
  go_wp2_with fail
  go_ret
  exact ⟨rfl, (Below.refl _ _).alloc (Nat.le_refl _) _⟩

/-- the first shape with this item, or -1 -/
def FirstAt (G : Nat → Nat → Int) (n : Nat) (item r : Int) : Prop := (∃ p : Nat, r = (p : Int) ∧ p < n ∧ G p 0 = item ∧ ∀ j, j < p → G j 0 ≠ item) ∨ (r = -1 ∧ ∀ j, j < n → G j 0 ≠ item)
theorem firstAt (G : Nat → Nat → Int) (item : Int) : ∀ n, ∃ r, FirstAt G n item r
  | 0 => ⟨-1, .inr ⟨rfl, fun j hj => by omega⟩⟩
  | n + 1 => by
    obtain ⟨r, ⟨p, hp, hpn, hi, hb⟩ | ⟨hr, hno⟩⟩ := firstAt G item n
    · exact ⟨r, .inl ⟨p, hp, by omega, hi, hb⟩⟩
    · by_cases h : G n 0 = item
      · exact ⟨n, .inl ⟨n, rfl, by omega, h, hno⟩⟩
      · refine ⟨-1, .inr ⟨rfl, fun j hj => ?_⟩⟩
        by_cases hjn : j = n
        · rw [hjn]; exact h
        · exact hno j (by omega)

set_option maxRecDepth 100000 in
set_option maxHeartbeats 2000000 in
theorem indexFunc_ok (A : Option Addr) (n c : Nat) (G : Nat → Nat → Int) (T : Nat → Nat → ByteArray) (item : Int) (B : Nat) (w : World) (hr : RdF w A n 12 (shV G T)) (hn : n ≤ 100000) (hc : w.cell? ⟨B, 0, none⟩ = some (.int .i64 item)) (r : Int) (hf : FirstAt G n item r) :
    Calls Tryd.prog 35 #[.slice A n c, .func (.func 36) #[] #[.pointer (some ⟨B, 0, none⟩)]] w fun e w' => e = .returned (.int .i64 r) ∧ Below w.heap.size w w' := by
  have Hf := hide hf
  have hB := World.block_lt_of_cell? w _ hc
  clear hf
  go_enter Tryd.func35, Tryd.ntmps35
  go_wp2_with fail
  go_loopw [8] (fun a wr => ∃ k : Nat, k ≤ n ∧ a = .int .i64 k ∧ Hid (∀ j, j < k → G j 0 ≠ item) ∧ Below w.heap.size w wr) (fun a _ => n - (intOf a).toNat)
  case atStart => exact ⟨0, by omega, rfl, (fun j hj => by omega), Below.refl _ _⟩
  case round =>
    obtain ⟨k, hk, rfl, Hno, hbl⟩ := hrel
    by_cases hlt : k < n
    · obtain ⟨b, off, rfl, k0, k1, k2, k3, k4, k5, k6, k7, k8, k9, k10, k11⟩ := cells12 (hr.below hbl) hlt
      have hcw : wr.cell? ⟨B, 0, none⟩ = some (.int .i64 item) := (hbl.cell (p := ⟨B, 0, none⟩) hB).trans hc
      have hsm := same_ok G T k item B wr hcw
      unfold shA at hsm
      have hfk : G k 0 = item → r = (k : Int) := fun h => by
        rcases Hf.out with ⟨p, rfl, hpn, hi, hb⟩ | ⟨_, hno⟩
        · rcases Nat.lt_trichotomy p k with h1 | h1 | h1
          · exact absurd hi (Hno.out p h1)
          · rw [h1]
          · exact absurd h (hb k h1)
        · exact absurd h (hno k hlt)
      have hsuc : G k 0 ≠ item → Hid (∀ j, j < k + 1 → G j 0 ≠ item) := fun h j hj => by
        by_cases hjk : j = k
        · rw [hjk]; exact h
        · exact Hno.out j (by omega)
      have Hsm := hide hsm
      by_cases hg : G k 0 = item
      · have hq : (G k 0 == item) = true := by simpa using hg
        have hrk := hide (hfk hg)
        clear hfk hsuc hsm hg
        go_wp2_with fail
        refine Hsm.out.mono ?_
        rintro e w1 ⟨rfl, hb1⟩
        go_wp2_with fail
        go_ret
        exact ⟨ret_int hrk.out.symm, hbl.trans (hb1.mono hbl.size)⟩
      · have hq : (G k 0 == item) = false := by simpa using hg
        have HH := hide (hsuc hg)
        clear hfk hsuc hsm hg
        go_wp2_with fail
        refine Hsm.out.mono ?_
        rintro e w1 ⟨rfl, hb1⟩
        go_wp2_with fail
        go_roundw
        case rel => exact ⟨k + 1, by omega, by go_num, HH.out, hbl.trans (hb1.mono hbl.size)⟩
        case measure => simp [intOf]; omega
    · obtain rfl : k = n := by omega
      have hrm : Hid (r = -1) := by
        rcases Hf.out with ⟨p, rfl, hpn, hi, hb⟩ | ⟨h, _⟩
        · exact absurd hi (Hno.out p hpn)
        · exact h
      go_wp2_with fail
      go_ret
      exact ⟨ret_int hrm.out.symm, hbl⟩

set_option maxRecDepth 100000 in
set_option maxHeartbeats 1000000 in
theorem find_ok (A : Option Addr) (n c : Nat) (G : Nat → Nat → Int) (T : Nat → Nat → ByteArray) (item : Int) (w : World) (hr : RdF w A n 12 (shV G T)) (hn : n ≤ 100000) (r : Int) (hf : FirstAt G n item r) :
    Calls Tryd.prog 23 #[.slice A n c, .int .i64 item] w fun e w' => e = .returned (.int .i64 r) ∧ Below w.heap.size w w' := by
  have hbel0 : Below w.heap.size w (w.alloc (.cells #[.int .i64 item] 3)) := (Below.refl _ _).alloc (Nat.le_refl _) _
  have hb0 := Blk.new w 3 #[.int .i64 item]
  have hi := indexFunc_ok A n c G T item w.heap.size _ (hr.below hbel0) hn (hb0.cell 0) r hf
  have Hi := hide hi
  clear hi hf
  go_enter Tryd.func23, Tryd.ntmps23
  go_wp2_with fail
  refine Hi.out.mono ?_
  rintro e w1 ⟨rfl, hb⟩
  go_wp2_with fail
  go_ret
  exact ⟨rfl, hbel0.trans (hb.mono hbel0.size)⟩
end Go.Proofs.YtnmikhmbnpiadaaDoor.Shp
