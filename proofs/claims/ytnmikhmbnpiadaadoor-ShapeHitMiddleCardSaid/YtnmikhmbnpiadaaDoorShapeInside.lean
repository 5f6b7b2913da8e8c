/- The contract of shape.inside. -/
import Derived.Test.YtnmikhmbnpiadaaDoorShapeLocal
namespace Go.Proofs.YtnmikhmbnpiadaaDoor.Shp
open Go.RowKit Go.Frm

def ovU (x X W : Int) : Int := rdu (1024 * (2 * x - 2 * X - W)) W
/-- is a point in shape k -/
def insB (G : Nat → Nat → Int) (k : Nat) (x y : Int) : Bool :=
  if x < G k 3 ∨ G k 3 + G k 5 < x ∨ y < G k 4 ∨ G k 4 + G k 6 < y then false else if G k 2 ≠ 1 ∨ G k 5 = 0 ∨ G k 6 = 0 then true
  else decide (ovU x (G k 3) (G k 5) * ovU x (G k 3) (G k 5) + ovU y (G k 4) (G k 6) * ovU y (G k 4) (G k 6) ≤ 1048576)
theorem ovU_bd {x X W : Int} (h1 : X ≤ x) (h2 : x ≤ X + W) (hW : 0 < W) (hW2 : W ≤ 1048576) : (ovU x X W).natAbs ≤ 1024 := by
  unfold ovU rdu
  have e : 2 * (1024 * (2 * x - 2 * X - W)) + W = W + 2048 * (2 * x - 2 * X - W) := by omega
  have l : -1024 ≤ (2 * (1024 * (2 * x - 2 * X - W)) + W) / (2 * W) := by
    rw [Int.le_ediv_iff_mul_le (by omega)]
    omega
  have u : (2 * (1024 * (2 * x - 2 * X - W)) + W) / (2 * W) < 1025 := by
    rw [Int.ediv_lt_iff_lt_mul (by omega)]
    omega
  omega

/-- what the ways through shape.inside share -/
structure InB (G : Nat → Nat → Int) (k : Nat) (x y : Int) : Prop where
  x0 : -100000000 ≤ x ∧ x ≤ 100000000
  y0 : -100000000 ≤ y ∧ y ≤ 100000000
  X0 : -1048576 ≤ G k 3 ∧ G k 3 ≤ 1048576
  Y0 : -1048576 ≤ G k 4 ∧ G k 4 ≤ 1048576
  W0 : 0 ≤ G k 5 ∧ G k 5 ≤ 1048576
  H0 : 0 ≤ G k 6 ∧ G k 6 ≤ 1048576
def InPost (b : Bool) (w : World) (e : Ending) (w' : World) : Prop := e = .returned (.bool b) ∧ Below w.heap.size w w'

set_option maxRecDepth 100000 in
set_option maxHeartbeats 4000000 in
theorem inside_1 (G : Nat → Nat → Int) (T : Nat → Nat → ByteArray) (k : Nat) (x y : Int) (w : World) (hb : InB G k x y) (c1 : x < G k 3) :
    Calls Tryd.prog 26 #[shA G T k, .int .i64 x, .int .i64 y] w (InPost false w) := by
  obtain ⟨⟨x0, x1⟩, ⟨y0, y1⟩, ⟨X0, X1⟩, ⟨Y0, Y1⟩, ⟨W0, W1⟩, ⟨H0, H1⟩⟩ := hb
  have hbel0 : Below w.heap.size w (w.alloc (.cells (shC G T k) 23)) := (Below.refl _ _).alloc (Nat.le_refl _) _
  have Hb := hide hbel0
  clear hbel0
  unfold shA
  have d1 : decide (x < G k 3) = true := by simpa using c1
  go_enter Tryd.func26, Tryd.ntmps26
  go_wp2_with fail
  go_ret
  exact ⟨rfl, Hb.out⟩

set_option maxRecDepth 100000 in
set_option maxHeartbeats 4000000 in
theorem inside_2 (G : Nat → Nat → Int) (T : Nat → Nat → ByteArray) (k : Nat) (x y : Int) (w : World) (hb : InB G k x y) (c1 : ¬ x < G k 3) (c2 : G k 3 + G k 5 < x) :
    Calls Tryd.prog 26 #[shA G T k, .int .i64 x, .int .i64 y] w (InPost false w) := by
  obtain ⟨⟨x0, x1⟩, ⟨y0, y1⟩, ⟨X0, X1⟩, ⟨Y0, Y1⟩, ⟨W0, W1⟩, ⟨H0, H1⟩⟩ := hb
  have hbel0 : Below w.heap.size w (w.alloc (.cells (shC G T k) 23)) := (Below.refl _ _).alloc (Nat.le_refl _) _
  have Hb := hide hbel0
  clear hbel0
  unfold shA
  have d1 : decide (x < G k 3) = false := by simpa using c1
  have d2 : decide (G k 3 + G k 5 < x) = true := by simpa using c2
  go_enter Tryd.func26, Tryd.ntmps26
  go_wp2_with fail
  go_ret
  exact ⟨rfl, Hb.out⟩

set_option maxRecDepth 100000 in
set_option maxHeartbeats 4000000 in
theorem inside_3 (G : Nat → Nat → Int) (T : Nat → Nat → ByteArray) (k : Nat) (x y : Int) (w : World) (hb : InB G k x y) (c1 : ¬ x < G k 3) (c2 : ¬ G k 3 + G k 5 < x) (c3 : y < G k 4) :
    Calls Tryd.prog 26 #[shA G T k, .int .i64 x, .int .i64 y] w (InPost false w) := by
  obtain ⟨⟨x0, x1⟩, ⟨y0, y1⟩, ⟨X0, X1⟩, ⟨Y0, Y1⟩, ⟨W0, W1⟩, ⟨H0, H1⟩⟩ := hb
  have hbel0 : Below w.heap.size w (w.alloc (.cells (shC G T k) 23)) := (Below.refl _ _).alloc (Nat.le_refl _) _
  have Hb := hide hbel0
  clear hbel0
  unfold shA
  have d1 : decide (x < G k 3) = false := by simpa using c1
  have d2 : decide (G k 3 + G k 5 < x) = false := by simpa using c2
  have d3 : decide (y < G k 4) = true := by simpa using c3
  go_enter Tryd.func26, Tryd.ntmps26
  go_wp2_with fail
  go_ret
  exact ⟨rfl, Hb.out⟩

set_option maxRecDepth 100000 in
set_option maxHeartbeats 4000000 in
theorem inside_4 (G : Nat → Nat → Int) (T : Nat → Nat → ByteArray) (k : Nat) (x y : Int) (w : World) (hb : InB G k x y) (c1 : ¬ x < G k 3) (c2 : ¬ G k 3 + G k 5 < x) (c3 : ¬ y < G k 4) (c4 : G k 4 + G k 6 < y) :
    Calls Tryd.prog 26 #[shA G T k, .int .i64 x, .int .i64 y] w (InPost false w) := by
  obtain ⟨⟨x0, x1⟩, ⟨y0, y1⟩, ⟨X0, X1⟩, ⟨Y0, Y1⟩, ⟨W0, W1⟩, ⟨H0, H1⟩⟩ := hb
  have hbel0 : Below w.heap.size w (w.alloc (.cells (shC G T k) 23)) := (Below.refl _ _).alloc (Nat.le_refl _) _
  have Hb := hide hbel0
  clear hbel0
  unfold shA
  have d1 : decide (x < G k 3) = false := by simpa using c1
  have d2 : decide (G k 3 + G k 5 < x) = false := by simpa using c2
  have d3 : decide (y < G k 4) = false := by simpa using c3
  have d4 : decide (G k 4 + G k 6 < y) = true := by simpa using c4
  go_enter Tryd.func26, Tryd.ntmps26
  go_wp2_with fail
  go_ret
  exact ⟨rfl, Hb.out⟩

set_option maxRecDepth 100000 in
set_option maxHeartbeats 4000000 in
theorem inside_5 (G : Nat → Nat → Int) (T : Nat → Nat → ByteArray) (k : Nat) (x y : Int) (w : World) (hb : InB G k x y) (c1 : ¬ x < G k 3) (c2 : ¬ G k 3 + G k 5 < x) (c3 : ¬ y < G k 4) (c4 : ¬ G k 4 + G k 6 < y) (d5 : (G k 2 != 1) = true) :
    Calls Tryd.prog 26 #[shA G T k, .int .i64 x, .int .i64 y] w (InPost true w) := by
  obtain ⟨⟨x0, x1⟩, ⟨y0, y1⟩, ⟨X0, X1⟩, ⟨Y0, Y1⟩, ⟨W0, W1⟩, ⟨H0, H1⟩⟩ := hb
  have hbel0 : Below w.heap.size w (w.alloc (.cells (shC G T k) 23)) := (Below.refl _ _).alloc (Nat.le_refl _) _
  have Hb := hide hbel0
  clear hbel0
  unfold shA
  have d1 : decide (x < G k 3) = false := by simpa using c1
  have d2 : decide (G k 3 + G k 5 < x) = false := by simpa using c2
  have d3 : decide (y < G k 4) = false := by simpa using c3
  have d4 : decide (G k 4 + G k 6 < y) = false := by simpa using c4
  go_enter Tryd.func26, Tryd.ntmps26
  go_wp2_with fail
  go_ret
  exact ⟨rfl, Hb.out⟩

set_option maxRecDepth 100000 in
set_option maxHeartbeats 4000000 in
theorem inside_6 (G : Nat → Nat → Int) (T : Nat → Nat → ByteArray) (k : Nat) (x y : Int) (w : World) (hb : InB G k x y) (c1 : ¬ x < G k 3) (c2 : ¬ G k 3 + G k 5 < x) (c3 : ¬ y < G k 4) (c4 : ¬ G k 4 + G k 6 < y) (d5 : (G k 2 != 1) = false) (d6 : (G k 5 == 0) = true) :
    Calls Tryd.prog 26 #[shA G T k, .int .i64 x, .int .i64 y] w (InPost true w) := by
  obtain ⟨⟨x0, x1⟩, ⟨y0, y1⟩, ⟨X0, X1⟩, ⟨Y0, Y1⟩, ⟨W0, W1⟩, ⟨H0, H1⟩⟩ := hb
  have hbel0 : Below w.heap.size w (w.alloc (.cells (shC G T k) 23)) := (Below.refl _ _).alloc (Nat.le_refl _) _
  have Hb := hide hbel0
  clear hbel0
  unfold shA
  have d1 : decide (x < G k 3) = false := by simpa using c1
  have d2 : decide (G k 3 + G k 5 < x) = false := by simpa using c2
  have d3 : decide (y < G k 4) = false := by simpa using c3
  have d4 : decide (G k 4 + G k 6 < y) = false := by simpa using c4
  go_enter Tryd.func26, Tryd.ntmps26
  go_wp2_with fail
  go_ret
  exact ⟨rfl, Hb.out⟩

set_option maxRecDepth 100000 in
set_option maxHeartbeats 4000000 in
theorem inside_7 (G : Nat → Nat → Int) (T : Nat → Nat → ByteArray) (k : Nat) (x y : Int) (w : World) (hb : InB G k x y) (c1 : ¬ x < G k 3) (c2 : ¬ G k 3 + G k 5 < x) (c3 : ¬ y < G k 4) (c4 : ¬ G k 4 + G k 6 < y) (d5 : (G k 2 != 1) = false) (d6 : (G k 5 == 0) = false) (d7 : (G k 6 == 0) = true) :
    Calls Tryd.prog 26 #[shA G T k, .int .i64 x, .int .i64 y] w (InPost true w) := by
  obtain ⟨⟨x0, x1⟩, ⟨y0, y1⟩, ⟨X0, X1⟩, ⟨Y0, Y1⟩, ⟨W0, W1⟩, ⟨H0, H1⟩⟩ := hb
  have hbel0 : Below w.heap.size w (w.alloc (.cells (shC G T k) 23)) := (Below.refl _ _).alloc (Nat.le_refl _) _
  have Hb := hide hbel0
  clear hbel0
  unfold shA
  have d1 : decide (x < G k 3) = false := by simpa using c1
  have d2 : decide (G k 3 + G k 5 < x) = false := by simpa using c2
  have d3 : decide (y < G k 4) = false := by simpa using c3
  have d4 : decide (G k 4 + G k 6 < y) = false := by simpa using c4
  go_enter Tryd.func26, Tryd.ntmps26
  go_wp2_with fail
  go_ret
  exact ⟨rfl, Hb.out⟩

set_option maxRecDepth 100000 in
set_option maxHeartbeats 4000000 in
theorem inside_8 (G : Nat → Nat → Int) (T : Nat → Nat → ByteArray) (k : Nat) (x y : Int) (w : World) (hb : InB G k x y) (c1 : ¬ x < G k 3) (c2 : ¬ G k 3 + G k 5 < x) (c3 : ¬ y < G k 4) (c4 : ¬ G k 4 + G k 6 < y) (d5 : (G k 2 != 1) = false) (d6 : (G k 5 == 0) = false) (d7 : (G k 6 == 0) = false) :
    Calls Tryd.prog 26 #[shA G T k, .int .i64 x, .int .i64 y] w (InPost (decide (ovU x (G k 3) (G k 5) * ovU x (G k 3) (G k 5) + ovU y (G k 4) (G k 6) * ovU y (G k 4) (G k 6) ≤ 1048576)) w) := by
  obtain ⟨⟨x0, x1⟩, ⟨y0, y1⟩, ⟨X0, X1⟩, ⟨Y0, Y1⟩, ⟨W0, W1⟩, ⟨H0, H1⟩⟩ := hb
  have hbel0 : Below w.heap.size w (w.alloc (.cells (shC G T k) 23)) := (Below.refl _ _).alloc (Nat.le_refl _) _
  have Hb := hide hbel0
  clear hbel0
  unfold shA
  have d1 : decide (x < G k 3) = false := by simpa using c1
  have d2 : decide (G k 3 + G k 5 < x) = false := by simpa using c2
  have d3 : decide (y < G k 4) = false := by simpa using c3
  have d4 : decide (G k 4 + G k 6 < y) = false := by simpa using c4
  have n5 : G k 5 ≠ 0 := by simpa using d6
  have n6 : G k 6 ≠ 0 := by simpa using d7
  have r1 := hide (fun wx => round_ok (1024 * (2 * x - 2 * G k 3 - G k 5)) (G k 5) wx (by omega) (by omega) (by omega) (by omega))
  have r2 := hide (fun wx => round_ok (1024 * (2 * y - 2 * G k 4 - G k 6)) (G k 6) wx (by omega) (by omega) (by omega) (by omega))
  have b1 := ovU_bd (x := x) (X := G k 3) (W := G k 5) (by omega) (by omega) (by omega) W1
  have b2 := ovU_bd (x := y) (X := G k 4) (W := G k 6) (by omega) (by omega) (by omega) H1
  have e1 : rdu (1024 * (2 * x - 2 * G k 3 - G k 5)) (G k 5) = ovU x (G k 3) (G k 5) := rfl
  have e2 : rdu (1024 * (2 * y - 2 * G k 4 - G k 6)) (G k 6) = ovU y (G k 4) (G k 6) := rfl
  rw [e1] at r1
  rw [e2] at r2
  generalize ovU x (G k 3) (G k 5) = u at *
  generalize ovU y (G k 4) (G k 6) = v at *
  have m1 := mul_in b1 b1
  have m2 := mul_in b2 b2
  have s1 : -1048576 ≤ u * u ∧ u * u ≤ 1048576 := by omega
  have s2 : -1048576 ≤ v * v ∧ v * v ≤ 1048576 := by omega
  have w0 : IntKind.i64.wrap (2 * x) = 2 * x := IntWalk.i64_in _ (by omega)
  have w1 : IntKind.i64.wrap (2 * G k 3) = 2 * G k 3 := IntWalk.i64_in _ (by omega)
  have w2 : IntKind.i64.wrap (2 * x - 2 * G k 3) = 2 * x - 2 * G k 3 := IntWalk.i64_in _ (by omega)
  have w3 : IntKind.i64.wrap (2 * x - 2 * G k 3 - G k 5) = 2 * x - 2 * G k 3 - G k 5 := IntWalk.i64_in _ (by omega)
  have w4 : IntKind.i64.wrap (1024 * (2 * x - 2 * G k 3 - G k 5)) = 1024 * (2 * x - 2 * G k 3 - G k 5) := IntWalk.i64_in _ (by omega)
  have w5 : IntKind.i64.wrap (2 * y) = 2 * y := IntWalk.i64_in _ (by omega)
  have w6 : IntKind.i64.wrap (2 * G k 4) = 2 * G k 4 := IntWalk.i64_in _ (by omega)
  have w7 : IntKind.i64.wrap (2 * y - 2 * G k 4) = 2 * y - 2 * G k 4 := IntWalk.i64_in _ (by omega)
  have w8 : IntKind.i64.wrap (2 * y - 2 * G k 4 - G k 6) = 2 * y - 2 * G k 4 - G k 6 := IntWalk.i64_in _ (by omega)
  have w9 : IntKind.i64.wrap (1024 * (2 * y - 2 * G k 4 - G k 6)) = 1024 * (2 * y - 2 * G k 4 - G k 6) := IntWalk.i64_in _ (by omega)
  clear c1 c2 c3 c4 m1 m2 b1 b2 e1 e2 n5 n6
  go_enter Tryd.func26, Tryd.ntmps26
  go_wp2_with fail
  go_quiet ((first | (go_at_call 28; with_reducible exact Calls.quiet_of_same ((r1.out _).mono fun e w' h => ⟨h.1, h.2.symm⟩)) | (go_at_call 28; with_reducible exact Calls.quiet_of_same ((r2.out _).mono fun e w' h => ⟨h.1, h.2.symm⟩))))
  go_wp2_with fail
  go_ret
  exact ⟨rfl, below_drewN Hb.out _⟩

theorem inside_ok (n : Nat) (G : Nat → Nat → Int) (T : Nat → Nat → ByteArray) (ho : ShOk G n) (k : Nat) (hk : k < n) (x y : Int) (hx : x.natAbs ≤ 100000000) (hy : y.natAbs ≤ 100000000) (w : World) :
    Calls Tryd.prog 26 #[shA G T k, .int .i64 x, .int .i64 y] w (InPost (insB G k x y) w) := by
  have hb : InB G k x y := ⟨by omega, by omega, (ho.xy k hk).1, (ho.xy k hk).2, (ho.wh k hk).1, (ho.wh k hk).2⟩
  unfold insB
  by_cases c1 : x < G k 3
  · rw [if_pos (.inl c1)]; exact inside_1 G T k x y w hb c1
  by_cases c2 : G k 3 + G k 5 < x
  · rw [if_pos (.inr (.inl c2))]; exact inside_2 G T k x y w hb c1 c2
  by_cases c3 : y < G k 4
  · rw [if_pos (.inr (.inr (.inl c3)))]; exact inside_3 G T k x y w hb c1 c2 c3
  by_cases c4 : G k 4 + G k 6 < y
  · rw [if_pos (.inr (.inr (.inr c4)))]; exact inside_4 G T k x y w hb c1 c2 c3 c4
  rw [if_neg (by omega)]
  by_cases c5 : G k 2 = 1
  · by_cases c6 : G k 5 = 0
    · rw [if_pos (.inr (.inl c6))]; exact inside_6 G T k x y w hb c1 c2 c3 c4 (by simp [c5]) (by simp [c6])
    · by_cases c7 : G k 6 = 0
      · rw [if_pos (.inr (.inr c7))]; exact inside_7 G T k x y w hb c1 c2 c3 c4 (by simp [c5]) (by simpa using c6) (by simp [c7])
      · rw [if_neg (by simp [c5, c6, c7])]; exact inside_8 G T k x y w hb c1 c2 c3 c4 (by simp [c5]) (by simpa using c6) (by simpa using c7)
  · rw [if_pos (.inl c5)]; exact inside_5 G T k x y w hb c1 c2 c3 c4 (by simpa using c5)
end Go.Proofs.YtnmikhmbnpiadaaDoor.Shp
