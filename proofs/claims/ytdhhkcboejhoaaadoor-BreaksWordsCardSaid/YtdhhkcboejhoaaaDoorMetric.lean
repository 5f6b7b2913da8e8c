/- Contracts of package metric. -/
import Derived.Test.YtdhhkcboejhoaaaDoorMetricPlain
import Derived.Test.YtdhhkcboejhoaaaDoorProg
namespace Go.Proofs.YtdhhkcboejhoaaaDoor.Mtr
open Go.RowKit Go.Frm

set_option maxRecDepth 100000 in
set_option maxHeartbeats 1000000 in
theorem within_ok (tb : List (List Int)) (A : Option Addr) (cp : Nat) (c : Int) (w : World) (hr : RdF w A tb.length 3 (fun i j => .int .i64 (tbV tb i j))) (hl : tb.length ≤ 1000) :
    Calls Tryd.prog 39 #[.slice A tb.length cp, .int .i64 c] w fun e w' => e = .returned (.tuple #[.int .i64 (look tb c).1, .bool (look tb c).2]) ∧ Below w.heap.size w w' := by
  have hlk : look tb c = lookFrom tb c 0 tb.length := rfl
  have Hlk := hide hlk
  clear hlk
  generalize look tb c = L at *
  generalize tb.length = n at *
  go_enter Tryd.func39, Tryd.ntmps39
  go_wp2_with fail
  go_loopw [10] (fun a wr => ∃ k : Nat, k ≤ n ∧ a = .int .i64 k ∧ Hid (L = lookFrom tb c k (n - k)) ∧ Below w.heap.size w wr) (fun a _ => n - (intOf a).toNat)
  case atStart => exact ⟨0, by omega, rfl, Hlk, Below.refl _ _⟩
  case round =>
    clear Hlk
    obtain ⟨k, hk, rfl, HL, hbl⟩ := hrel
    by_cases hlt : k < n
    · obtain ⟨b, off, rfl, hc⟩ := (hr.below hbl).at_ hlt
      have c0 : wr.cell? ⟨b, off + k * 3, none⟩ = some (.int .i64 (tbV tb k 0)) := hc 0 (by omega)
      have c1 : wr.cell? ⟨b, off + k * 3 + 1, none⟩ = some (.int .i64 (tbV tb k 1)) := hc 1 (by omega)
      have c2 : wr.cell? ⟨b, off + k * 3 + 2, none⟩ = some (.int .i64 (tbV tb k 2)) := hc 2 (by omega)
      have hs : L = if tbV tb k 0 ≤ c ∧ c ≤ tbV tb k 1 then (tbV tb k 2, true) else lookFrom tb c (k + 1) (n - (k + 1)) := by
        rw [HL.out, show n - k = (n - (k + 1)) + 1 by omega]
        rfl
      generalize tbV tb k 0 = lo at *
      generalize tbV tb k 1 = hi at *
      generalize tbV tb k 2 = v at *
      have hb2 := hbl.alloc hbl.size (.cells #[.int .i64 lo, .int .i64 hi, .int .i64 v] 75)
      clear HL hc
      by_cases h1 : lo ≤ c
      · by_cases h2 : c ≤ hi
        · rw [if_pos ⟨h1, h2⟩] at hs
          have Hs := hide hs
          clear hs
          go_wp2_with fail
          go_ret2
          exact ⟨by rw [Hs.out]; rfl, hb2⟩
        · rw [if_neg (fun h => h2 h.2)] at hs
          have Hs : Hid (L = lookFrom tb c (k + 1) (n - (k + 1))) := hs
          have h2' : hi < c := by omega
          clear hs h2
          go_wp2_with fail
          go_roundw
          case rel => exact ⟨k + 1, by omega, by go_num, Hs, hb2⟩
          case measure => simp [intOf]; omega
      · rw [if_neg (fun h => h1 h.1)] at hs
        have Hs : Hid (L = lookFrom tb c (k + 1) (n - (k + 1))) := hs
        have h1' : decide (lo ≤ c) = false := by simp; omega
        clear hs h1
        go_wp2_with fail
        go_roundw
        case rel => exact ⟨k + 1, by omega, by go_num, Hs, hb2⟩
        case measure => simp [intOf]; omega
    · obtain rfl : k = n := by omega
      have hL : L = (0, false) := by rw [HL.out, Nat.sub_self]; rfl
      have H2 := hide hL
      clear hL HL
      go_wp2_with fail
      go_ret2
      exact ⟨by rw [H2.out]; rfl, hbl⟩

/-- the two tables lie where the variables say -/
structure TabM (w : World) : Prop where
  ex : ∃ A c, w.cell? ⟨0, 0, none⟩ = some (.slice A 12 c) ∧ RdF w A 12 3 (fun i j => .int .i64 (tbV marksTb i j))
theorem TabM.below {w w' : World} (h : TabM w) (hb : Below w.heap.size w w') : TabM w' := by
  obtain ⟨A, c, h1, h2⟩ := h.ex
  exact ⟨A, c, by rw [hb.cell (World.block_lt_of_cell? w _ h1)]; exact h1, h2.below hb⟩
theorem TabM.alloc {w : World} (h : TabM w) (o : Obj) : TabM (w.alloc o) := h.below ((Below.refl _ _).alloc (Nat.le_refl _) o)

set_option maxRecDepth 100000 in
set_option maxHeartbeats 1000000 in
theorem mark_ok (c : Int) (w : World) (ht : TabM w) :
    Calls Tryd.prog 21 #[.int .i64 c] w fun e w' => e = .returned (.bool (mark c)) ∧ Below w.heap.size w w' := by
  obtain ⟨A, cp, h1, h2⟩ := ht.ex
  have hw := within_ok marksTb A cp c w h2 (by decide)
  have Hw := hide hw
  have hm : (look marksTb c).2 = mark c := rfl
  have Hm := hide hm
  clear hw hm
  go_enter Tryd.func21, Tryd.ntmps21
  go_wp2_with fail
  refine Hw.out.mono ?_
  rintro e w1 ⟨rfl, hb⟩
  go_wp2_with fail
  go_ret
  exact ⟨ret_bool Hm.out, hb⟩
end Go.Proofs.YtdhhkcboejhoaaaDoor.Mtr
