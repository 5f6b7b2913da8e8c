/- The contract of chancerykeep3.timed, and the argument []api.Effect. -/
import Derived.Test.YtlipdhoeklgdoaaTlClicks
import Derived.Test.YtlipdhoeklgdoaaTlEqual
import Derived.Test.YtlipdhoeklgdoaaEqual
import Derived.Test.YtlipdhoeklgdoaaArgs
namespace Go.Proofs.Ytlipdhoeklgdoaa.Tl
open Go.RowKit Go.Frm

def F0 (_ j : Nat) : Int := if j = 0 then 4 else if j = 4 then 200 else 0
theorem F0_ok : VF F0 1 := by constructor <;> simp [F0]
set_option maxRecDepth 100000 in
set_option maxHeartbeats 2000000 in
theorem timed_ok (w : World) : Calls Try.prog 12 #[] w fun e w' => e = .returned (.bool true) ∧ Below w.heap.size w w' := by
  have hlit := World.ownsRow_lit (base := w.heap.size) (e := 45) (size := 7) w #[.int .i64 4, .int .i64 0, .int .i64 0, .int .i64 0, .int .i64 200, .int .i64 0, .int .i64 0] 1 (Nat.le_refl _) (by decide) rfl
  have hrow : rowF 1 7 (efV F0) = [.int .i64 4, .int .i64 0, .int .i64 0, .int .i64 0, .int .i64 200, .int .i64 0, .int .i64 0] := rfl
  rw [show (#[Value.int .i64 4, .int .i64 0, .int .i64 0, .int .i64 0, .int .i64 200, .int .i64 0, .int .i64 0]).toList = rowF 1 7 (efV F0) from hrow.symm] at hlit
  have hc := hide (clicks_ok (some ⟨w.heap.size, 0, none⟩) 1 1 F0 _ F0_ok (RdF.of_own hlit))
  have hb0 := (Below.refl w.heap.size w).alloc (Nat.le_refl _) (.cells #[.int .i64 4, .int .i64 0, .int .i64 0, .int .i64 0, .int .i64 200, .int .i64 0, .int .i64 0] 45)
  clear hlit hrow
  go_enter Try.func12, Try.ntmps12
  go_wp2_with fail
  refine hc.out.mono ?_
  rintro e w1 ⟨A1, c1, rfl, hown1, hb1⟩
  have hn : cN F0 1 = 2 := rfl
  have hrow : tabV (cN F0 1) (fun a => Value.int .i64 (cm F0 (a : Int) 1)) = ([0, 200] : List Int).map (Value.int .i64) := rfl
  rw [hn] at hown1 hrow ⊢
  rw [hrow] at hown1
  have hbl := hb0.trans (hb1.mono hb0.size)
  have hr1 := RdI.of_own hown1
  clear hc hrow hown1 hb1 hb0
  have hr1a := hr1.alloc (.cells #[.int .i64 0, .int .i64 200] 3)
  have hr2 := rdI_lit w1 3 w1.heap.size [0, 200] rfl (by decide)
  have heq := hide (Scl.equal_any A1 (some ⟨w1.heap.size, 0, none⟩) c1 2 [0, 200] [0, 200] _ hr1a hr2 (by decide) (by decide))
  have heq2 : Hid (Calls Try.prog 8 #[.slice A1 2 c1, .slice (some ⟨w1.heap.size, 0, none⟩) 2 2] (w1.alloc (.cells #[.int .i64 0, .int .i64 200] 3)) fun e w' => e = .returned (.bool true) ∧ ∃ d, w' = (w1.alloc (.cells #[.int .i64 0, .int .i64 200] 3)).drewN d) :=
    heq.out.mono (fun e w' ⟨h1, h2⟩ => ⟨h1, h2⟩)
  have hbl2 := hbl.alloc hbl.size (.cells #[.int .i64 0, .int .i64 200] 3)
  clear hr1 hr1a hr2 hbl heq
  go_wp2_with fail
  refine heq2.out.mono ?_
  rintro e w2 ⟨rfl, d, rfl⟩
  have hbl3 := below_drewN hbl2 d
  clear heq2 hbl2
  go_wp2_with fail
  go_ret
  exact ⟨rfl, hbl3⟩

section
open Go.ChangeShapes Go.WideShapes Go.ChangeAt
/-- an argument of type []api.Effect -/
theorem effects_trod {H : Type} {enc : TypeId × Value → H} {w : World} {base : Nat} {spare : Nat → Bool} {held : Bool} {fuel : Nat} {v : Value} {x : DataW H × List MemPlace} (h : DataW.trod enc Try.prog w base spare held fuel 33 [v] = some x) :
    ∃ (A : Option Addr) (n c : Nat) (F : Nat → Nat → Int), v = .slice A n c ∧ n ≤ 9223372036854775807 ∧ RdF w A n 7 (efV F) ∧ ∀ i j, i < n → j < 7 → (Lit.int .i64 (F i j)).wf = true :=
  int_structs_trod Try.underlying33 Try.underlying45 (by kernel_rfl) (by kernel_rfl) (by decide) (fun j f hj => by
    match j, hj with
    | 0, hj => cases hj; exact Try.underlying3
    | 1, hj => cases hj; exact Try.underlying3
    | 2, hj => cases hj; exact Try.underlying3
    | 3, hj => cases hj; exact Try.underlying3
    | 4, hj => cases hj; exact Try.underlying3
    | 5, hj => cases hj; exact Try.underlying3
    | 6, hj => cases hj; exact Try.underlying3) h
end
end Go.Proofs.Ytlipdhoeklgdoaa.Tl
