/- Contracts of package master: room, place; and slices.Contains at a row of strings. -/
import Derived.Test.YtnmikhmbnpiadaaShapeCheck
import Derived.Test.YtnmikhmbnpiadaaMsShelf
import Derived.Test.YtnmikhmbnpiadaaMsMap
import Derived.Test.YtnmikhmbnpiadaaMsPlain
namespace Go.Proofs.Ytnmikhmbnpiadaa.Shp
open Go.RowKit Go.Frm Ms

/-- is this the name of a place? -/
def roomB (s : ByteArray) : Bool := Lib.hasPrefix s.data.toList [112, 108, 97, 99, 101, 46]

set_option maxRecDepth 100000 in
set_option maxHeartbeats 1000000 in
theorem room_ok (G : Nat → Nat → Int) (T : Nat → Nat → ByteArray) (i : Nat) (w : World) :
    Calls Try.prog 9 #[shA G T i] w fun e w' => e = .returned (.bool (roomB (T i 10))) ∧ Below w.heap.size w w' := by
  unfold shA
  go_enter Try.func9, Try.ntmps9
  go_wp2_with fail
  refine (Try.strings_HasPrefix (T i 10) ⟨#[112, 108, 97, 99, 101, 46]⟩ _).mono ?_
  rintro e w1 ⟨rfl, rfl⟩
  go_wp2_with fail
  go_ret
  exact ⟨rfl, (Below.refl _ _).alloc (Nat.le_refl _) _⟩

/-- a row of strings reads as zs -/
def RdS (w : World) (A : Option Addr) (zs : List ByteArray) : Prop := zs = [] ∨ ∃ b off, A = some ⟨b, off, none⟩ ∧ ∀ j, j < zs.length → w.cell? ⟨b, off + j, none⟩ = some (.string (zs.getD j ByteArray.empty))
theorem RdS.below {w w' : World} {A : Option Addr} {zs : List ByteArray} (h : RdS w A zs) (hb : Below w.heap.size w w') : RdS w' A zs := by
  rcases h with rfl | ⟨b, off, rfl, hc⟩
  · exact .inl rfl
  · refine .inr ⟨b, off, rfl, fun j hj => ?_⟩
    have h1 := hc j hj
    rw [hb.cell (World.block_lt_of_cell? w _ h1)]
    exact h1
theorem RdS.of_own {w : World} {A : Option Addr} {zs : List ByteArray} {base : Nat} {e : TypeId} {n c : Nat} (h : w.ownsRow base e 1 (.slice A n c) n (zs.map Value.string)) : RdS w A zs := by
  rcases h.2 with ⟨h1, hn⟩ | ⟨g, cap, cur, h1, _, _⟩
  · left
    have := h.1
    simp [hn] at this
    exact this
  · right
    have hA : A = some ⟨g, 0, none⟩ := by injection h1
    subst hA
    refine ⟨g, 0, rfl, fun j hj => ?_⟩
    have h2 := h.cells (g := g) rfl j (.string (zs.getD j ByteArray.empty)) (by simp [hj])
    unfold Addr.add at h2
    split at h2
    · rename_i hj0; subst hj0; simpa using h2
    · simpa using h2
theorem contains_ok (A : Option Addr) (c : Nat) (zs : List ByteArray) (x : ByteArray) (w : World) (hr : RdS w A zs) (hn : zs.length ≤ 100000) :
    Calls Try.prog 7 #[.slice A zs.length c, .string x] w fun e w' => e = .returned (.bool (Lib.containsS zs x)) ∧ w = w' := by
  rcases hr with rfl | ⟨b, off, rfl, hc⟩
  · exact (Try.slices_Contains_string_empty A c x w).mono fun e w' ⟨he, hw⟩ => ⟨he, hw.symm⟩
  · have h := Try.slices_Contains_string b off zs.length c zs x w (Nat.le_refl _) (by omega) hc
    rw [List.take_length] at h
    exact h.mono fun e w' ⟨he, hw⟩ => ⟨he, hw.symm⟩

/-- place: a shape of this name, or -1 -/
def PlaceAt (n : Nat) (w : World) (e : Ending) (w' : World) : Prop :=
  ((∃ p : Nat, e = .returned (.int .i64 p) ∧ p < n) ∨ e = .returned (.int .i64 (-1))) ∧ Below w.heap.size w w'

set_option maxRecDepth 100000 in
set_option maxHeartbeats 4000000 in
theorem place_ok (A : Option Addr) (n c : Nat) (G : Nat → Nat → Int) (T : Nat → Nat → ByteArray) (nm : ByteArray) (w : World) (hr : RdF w A n 12 (shV G T)) (hn : n ≤ 100000) :
    Calls Try.prog 11 #[.slice A n c, .string nm] w (PlaceAt n w) := by
  go_enter Try.func11, Try.ntmps11
  go_wp2_with fail
  go_loopw [9] (fun a wr => ∃ k : Nat, k ≤ n ∧ a = .int .i64 k ∧ Below w.heap.size w wr) (fun a _ => n - (intOf a).toNat)
  case atStart => exact ⟨0, by omega, rfl, Below.refl _ _⟩
  case round =>
    obtain ⟨k, hk, rfl, hbl⟩ := hrel
    by_cases hlt : k < n
    · obtain ⟨b, off, rfl, k0, k1, k2, k3, k4, k5, k6, k7, k8, k9, k10, k11⟩ := cells12 (hr.below hbl) hlt
      go_upto_region 4 with fail
      have bx : Blk (wr.alloc (.cells (shC G T k) 28)) wr.heap.size 28 (shC G T k) := Blk.new wr _ _
      have hbl1 := hbl.alloc hbl.size (.cells (shC G T k) 28)
      unfold shC at bx hbl1
      clear k0 k1 k2 k3 k4 k5 k6 k7 k8 k9 k10 k11
      generalize wr.alloc (.cells #[.int .i64 (G k 0), .int .i64 (G k 1), .int .i64 (G k 2), .int .i64 (G k 3), .int .i64 (G k 4), .int .i64 (G k 5), .int .i64 (G k 6), .int .i64 (G k 7), .int .i64 (G k 8), .int .i64 (G k 9), .string (T k 10), .string (T k 11)] 28) = w0 at *
      generalize wr.heap.size = g at *
      have m0 : w0.cell? ⟨g, 0, none⟩ = some (.int .i64 (G k 0)) := bx.cell 0
      have m1 : w0.cell? ⟨g, 1, none⟩ = some (.int .i64 (G k 1)) := bx.cell 1
      have m2 : w0.cell? ⟨g, 2, none⟩ = some (.int .i64 (G k 2)) := bx.cell 2
      have m3 : w0.cell? ⟨g, 3, none⟩ = some (.int .i64 (G k 3)) := bx.cell 3
      have m4 : w0.cell? ⟨g, 4, none⟩ = some (.int .i64 (G k 4)) := bx.cell 4
      have m5 : w0.cell? ⟨g, 5, none⟩ = some (.int .i64 (G k 5)) := bx.cell 5
      have m6 : w0.cell? ⟨g, 6, none⟩ = some (.int .i64 (G k 6)) := bx.cell 6
      have m7 : w0.cell? ⟨g, 7, none⟩ = some (.int .i64 (G k 7)) := bx.cell 7
      have m8 : w0.cell? ⟨g, 8, none⟩ = some (.int .i64 (G k 8)) := bx.cell 8
      have m9 : w0.cell? ⟨g, 9, none⟩ = some (.int .i64 (G k 9)) := bx.cell 9
      have m10 : w0.cell? ⟨g, 10, none⟩ = some (.string (T k 10)) := bx.cell 10
      have m11 : w0.cell? ⟨g, 11, none⟩ = some (.string (T k 11)) := bx.cell 11
      by_cases h1 : G k 1 = 0
      · have d1 : (G k 1 == 0) = true := by simpa using h1
        clear h1
        have Hrm := room_ok G T k w0
        unfold shA at Hrm
        have HRM := hide Hrm
        clear Hrm
        go_wp2_with fail
        refine HRM.out.mono ?_
        rintro e w1 ⟨rfl, hb1⟩
        have hbl2 := hbl1.trans (hb1.mono hbl1.size)
        have c10 : w1.cell? ⟨g, 10, none⟩ = some (.string (T k 10)) := (bx.below hb1 bx.lt).cell 10
        cases hrm : roomB (T k 10) with
        | false =>
          go_wp2_with fail
          go_roundw
          case rel => exact ⟨k + 1, by omega, by go_num, hbl2⟩
          case measure => simp [intOf]; omega
        | true =>
          go_wp2_with fail
          · go_ret
            exact ⟨.inl ⟨k, rfl, hlt⟩, hbl2⟩
          · go_roundw
            case rel => exact ⟨k + 1, by omega, by go_num, hbl2⟩
            case measure => simp [intOf]; omega
      · have d1 : (G k 1 == 0) = false := by simpa using h1
        clear h1
        go_wp2_with fail
        go_roundw
        case rel => exact ⟨k + 1, by omega, by go_num, hbl1⟩
        case measure => simp [intOf]; omega
    · obtain rfl : k = n := by omega
      go_wp2_with fail
      go_ret
      exact ⟨.inr rfl, hbl⟩
end Go.Proofs.Ytnmikhmbnpiadaa.Shp
