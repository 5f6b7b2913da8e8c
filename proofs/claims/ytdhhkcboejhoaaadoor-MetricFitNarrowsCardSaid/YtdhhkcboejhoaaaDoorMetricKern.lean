/- Contracts of package metric: Advance, Kern; and of chancerykeep3.look. -/
import Derived.Test.YtdhhkcboejhoaaaDoorMetricEm
import Derived.Test.YtdhhkcboejhoaaaDoorWithin
namespace Go.Proofs.YtdhhkcboejhoaaaDoor.Mtr
open Go.RowKit Go.Frm Wi

set_option maxRecDepth 100000 in
set_option maxHeartbeats 1000000 in
theorem kern_ok (a b size : Int) (bold fixed : Bool) (w : World) (h0 : 40 ≤ size) (h1 : size ≤ 4000) :
    Calls Tryd.prog 38 #[.int .i64 a, .int .i64 b, .agg #[.int .i64 size, .bool bold, .bool fixed]] w fun e w' => e = .returned (.int .i64 (krn size fixed a b)) ∧ Below w.heap.size w w' := by
  have hp := pair_bd a b
  have hpo := fun wx => pair_ok a b wx
  have hk : krn size fixed a b = if fixed = true then 0 else -rnd (pair a b * size) 1000 := rfl
  generalize pair a b = p at *
  have p1 : 0 ≤ p * size := Int.mul_nonneg hp.1 (by omega)
  have p2 : p * size ≤ 90 * 4000 := Int.mul_le_mul hp.2 h1 (by omega) (by omega)
  have hrb := rnd_bd p1 (by omega)
  have hro := fun wx => round_ok (p * size) 1000 wx p1 (by omega) (by omega) (by omega)
  generalize rnd (p * size) 1000 = r at *
  have s1 : IntKind.i64.wrap (p * size) = p * size := IntWalk.i64_in _ (by omega)
  have s2 : IntKind.i64.wrap (-r) = -r := IntWalk.i64_in _ (by omega)
  have Hpo := hide hpo
  have Hro := hide hro
  clear hpo hro
  cases fixed
  · have Hk : Hid (krn size false a b = -r) := by rw [hk]; exact rfl
    clear hk
    go_enter Tryd.func38, Tryd.ntmps38
    go_wp2_with fail
    go_quiet ((first | (go_at_call 42; exact Calls.quiet_of_same ((Hpo.out _).mono fun e w' h => ⟨h.1, h.2.symm⟩)) | (go_at_call 41; exact Calls.quiet_of_same ((Hro.out _).mono fun e w' h => ⟨h.1, h.2.symm⟩))))
    go_wp2_with fail
    go_ret
    exact ⟨ret_int Hk.out.symm, below_drewN ((Below.refl _ _).alloc (Nat.le_refl _) _) _⟩
  · have Hk : Hid (krn size true a b = 0) := by rw [hk]; exact rfl
    clear hk
    go_enter Tryd.func38, Tryd.ntmps38
    go_wp2_with fail
    go_ret
    exact ⟨ret_int Hk.out.symm, (Below.refl _ _).alloc (Nat.le_refl _) _⟩

set_option maxRecDepth 100000 in
set_option maxHeartbeats 1000000 in
theorem Kern_ok (a b size : Int) (bold fixed : Bool) (w : World) (h0 : 40 ≤ size) (h1 : size ≤ 4000) (a0 : 0 ≤ a) (a1 : a ≤ 1114111) (b0 : 0 ≤ b) (b1 : b ≤ 1114111) :
    Calls Tryd.prog 23 #[.int .i64 a, .int .i64 b, .agg #[.int .i64 size, .bool bold, .bool fixed]] w fun e w' => e = .returned (.tuple #[.int .i64 (krn size fixed a b), .int .i64 0]) ∧ Below w.heap.size w w' := by
  have hb0 := Blk.new w 46 #[.int .i64 size, .bool bold, .bool fixed]
  have hbel0 : Below w.heap.size w (w.alloc (.cells #[.int .i64 size, .bool bold, .bool fixed] 46)) := (Below.refl _ _).alloc (Nat.le_refl _) _
  go_enter Tryd.func23, Tryd.ntmps23
  go_wp2_with fail
  generalize w.alloc (.cells #[.int .i64 size, .bool bold, .bool fixed] 46) = w0 at *
  refine (check_ok size bold fixed w0 h0 h1).mono ?_
  rintro e w1 ⟨rfl, hbel1⟩
  have hb1 := hb0.below hbel1 hb0.lt
  have c0 : w1.cell? ⟨w.heap.size, 0, none⟩ = some (.int .i64 size) := hb1.cell 0
  have c1 : w1.cell? ⟨w.heap.size, 1, none⟩ = some (.bool bold) := hb1.cell 1
  have c2 : w1.cell? ⟨w.heap.size, 2, none⟩ = some (.bool fixed) := hb1.cell 2
  go_wp2_with fail
  refine (kern_ok a b size bold fixed w1 h0 h1).mono ?_
  rintro e w2 ⟨rfl, hbel2⟩
  go_wp2_with fail
  go_ret2
  have hbelA := hbel0.trans (hbel1.mono hbel0.size)
  exact ⟨rfl, hbelA.trans (hbel2.mono hbelA.size)⟩

set_option maxRecDepth 100000 in
set_option maxHeartbeats 1000000 in
theorem Advance_ok (a size : Int) (bold fixed : Bool) (w : World) (ht : Tabs w) (h0 : 40 ≤ size) (h1 : size ≤ 4000) (a0 : 0 ≤ a) (a1 : a ≤ 1114111) :
    Calls Tryd.prog 22 #[.int .i64 a, .agg #[.int .i64 size, .bool bold, .bool fixed]] w fun e w' => e = .returned (.tuple #[.int .i64 (adv size bold fixed a), .int .i64 0]) ∧ Below w.heap.size w w' := by
  have hb0 := Blk.new w 46 #[.int .i64 size, .bool bold, .bool fixed]
  have hbel0 : Below w.heap.size w (w.alloc (.cells #[.int .i64 size, .bool bold, .bool fixed] 46)) := (Below.refl _ _).alloc (Nat.le_refl _) _
  have ht0 := hide (ht.below hbel0)
  clear ht
  go_enter Tryd.func22, Tryd.ntmps22
  go_wp2_with fail
  generalize w.alloc (.cells #[.int .i64 size, .bool bold, .bool fixed] 46) = w0 at *
  refine (check_ok size bold fixed w0 h0 h1).mono ?_
  rintro e w1 ⟨rfl, hbel1⟩
  have hb1 := hb0.below hbel1 hb0.lt
  have c0 : w1.cell? ⟨w.heap.size, 0, none⟩ = some (.int .i64 size) := hb1.cell 0
  have c1 : w1.cell? ⟨w.heap.size, 1, none⟩ = some (.bool bold) := hb1.cell 1
  have c2 : w1.cell? ⟨w.heap.size, 2, none⟩ = some (.bool fixed) := hb1.cell 2
  go_wp2_with fail
  refine (advance_ok a size bold fixed w1 (ht0.out.below hbel1) h0 h1).mono ?_
  rintro e w2 ⟨rfl, hbel2⟩
  go_wp2_with fail
  go_ret2
  have hbelA := hbel0.trans (hbel1.mono hbel0.size)
  exact ⟨rfl, hbelA.trans (hbel2.mono hbelA.size)⟩

set_option maxRecDepth 100000 in
set_option maxHeartbeats 1000000 in
theorem look_ok (size : Int) (bold fixed : Bool) (w : World) (hw : (Lit.int .i64 size).wf = true) :
    Calls Tryd.prog 18 #[.agg #[.int .i64 size, .bool bold, .bool fixed]] w fun e w' => e = .returned (.agg #[.int .i64 (wi size 40 4000), .bool bold, .bool fixed]) ∧ Below w.heap.size w w' := by
  have hwi := fun wx => within_any size 40 4000 wx hw (by omega) (by omega) (by omega)
  generalize wi size 40 4000 = s at *
  have Hwi := hide hwi
  clear hwi
  go_enter Tryd.func18, Tryd.ntmps18
  go_wp2_with (go_at_call 13; refine (Hwi.out _).mono ?_; rintro e w' ⟨rfl, rfl⟩)
  refine bodyPost_ret (v := .agg #[.int .i64 s, .bool bold, .bool fixed]) (by simp [results, Tryd.results18, go_sem]) rfl ⟨rfl, ?_⟩
  exact ((Below.refl _ _).alloc (Nat.le_refl _) _).alloc (by simp) _
end Go.Proofs.YtdhhkcboejhoaaaDoor.Mtr
