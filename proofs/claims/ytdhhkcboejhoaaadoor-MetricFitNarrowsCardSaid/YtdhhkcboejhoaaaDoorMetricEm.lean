/- Contracts of package metric: the widths of characters. -/
import Derived.Test.YtdhhkcboejhoaaaDoorMetric
namespace Go.Proofs.YtdhhkcboejhoaaaDoor.Mtr
open Go.RowKit Go.Frm

set_option maxRecDepth 100000 in
set_option maxHeartbeats 2000000 in
theorem single_ok (c : Int) (w : World) :
    Calls Tryd.prog 40 #[.int .i64 c] w fun e w' => e = .returned (.tuple #[.int .i64 (sgl c).1, .bool (sgl c).2]) ∧ w = w' := by
  have hs : sgl c = sgl c := rfl
  unfold sgl at hs
  generalize hL : sgl c = L at *
  have HL := hide hL
  clear hL hs
  go_enter Tryd.func40, Tryd.ntmps40
  go_wp2_with fail
  all_goals
    go_ret2
    refine ⟨?_, rfl⟩
    rw [← HL.out]
    unfold sgl
    simp [*]

structure TabO (w : World) : Prop where
  ex : ∃ A c, w.cell? ⟨1, 0, none⟩ = some (.slice A 17 c) ∧ RdF w A 17 3 (fun i j => .int .i64 (tbV othersTb i j))
theorem TabO.below {w w' : World} (h : TabO w) (hb : Below w.heap.size w w') : TabO w' := by
  obtain ⟨A, c, h1, h2⟩ := h.ex
  exact ⟨A, c, by rw [hb.cell (World.block_lt_of_cell? w _ h1)]; exact h1, h2.below hb⟩
/-- both tables -/
structure Tabs (w : World) : Prop where
  m : TabM w
  o : TabO w
theorem Tabs.below {w w' : World} (h : Tabs w) (hb : Below w.heap.size w w') : Tabs w' := ⟨h.m.below hb, h.o.below hb⟩
theorem Tabs.alloc {w : World} (h : Tabs w) (o : Obj) : Tabs (w.alloc o) := h.below ((Below.refl _ _).alloc (Nat.le_refl _) o)

set_option maxRecDepth 100000 in
set_option maxHeartbeats 1000000 in
theorem em_ok (c : Int) (w : World) (ht : Tabs w) :
    Calls Tryd.prog 24 #[.int .i64 c] w fun e w' => e = .returned (.int .i64 (em c)) ∧ Below w.heap.size w w' := by
  have hm := mark_ok c w ht.m
  have he : em c = if mark c = true then 0 else if (sgl c).2 = true then (sgl c).1 else if (look othersTb c).2 = true then (look othersTb c).1 else 600 := rfl
  have hsg := fun wx => single_ok c wx
  have Hsg := hide hsg
  have Hm := hide hm
  clear hm hsg
  have Ht := hide ht
  clear ht
  generalize mark c = mk at *
  generalize sgl c = sg at *
  obtain ⟨s1, s2⟩ := sg
  cases mk
  · go_enter Tryd.func24, Tryd.ntmps24
    go_wp2_with fail
    refine Hm.out.mono ?_
    rintro e w1 ⟨rfl, hb⟩
    cases s2
    · have hw := fun A cp => within_ok othersTb A cp c w1
      have Hw := hide hw
      obtain ⟨A, cp, h1, h2⟩ := (Ht.out.o.below hb).ex
      clear hw
      go_wp2_with (go_at_call 40; refine (Hsg.out _).mono ?_; rintro e w' ⟨rfl, rfl⟩)
      refine (Hw.out A cp h2 (by decide)).mono ?_
      rintro e w2 ⟨rfl, hb2⟩
      generalize look othersTb c = lk at *
      obtain ⟨l1, l2⟩ := lk
      simp at he
      cases l2
      · simp at he
        have He := hide he
        clear he
        go_wp2_with fail
        go_ret
        exact ⟨ret_int He.out.symm, hb.trans (hb2.mono hb.size)⟩
      · simp at he
        have He := hide he
        clear he
        go_wp2_with fail
        go_ret
        exact ⟨ret_int He.out.symm, hb.trans (hb2.mono hb.size)⟩
    · simp at he
      have He := hide he
      clear he
      go_wp2_with (go_at_call 40; refine (Hsg.out _).mono ?_; rintro e w' ⟨rfl, rfl⟩)
      go_ret
      exact ⟨ret_int He.out.symm, hb⟩
  · simp at he
    have He := hide he
    clear he
    go_enter Tryd.func24, Tryd.ntmps24
    go_wp2_with fail
    refine Hm.out.mono ?_
    rintro e w1 ⟨rfl, hb⟩
    go_wp2_with fail
    go_ret
    exact ⟨ret_int He.out.symm, hb⟩

set_option maxHeartbeats 1000000 in
theorem check_ok (size : Int) (bold fixed : Bool) (w : World) (h0 : 40 ≤ size) (h1 : size ≤ 4000) :
    Calls Tryd.prog 35 #[.agg #[.int .i64 size, .bool bold, .bool fixed]] w fun e w' => e = .returned (.int .i64 0) ∧ Below w.heap.size w w' := by
  go_enter Tryd.func35, Tryd.ntmps35
  go_wp2_with fail
  go_ret
  exact ⟨rfl, (Below.refl _ _).alloc (Nat.le_refl _) _⟩

set_option maxHeartbeats 1000000 in
theorem round_ok (a b : Int) (w : World) (h0 : 0 ≤ a) (h1 : a ≤ 1000000000) (b0 : 1 ≤ b) (b1 : b ≤ 1000000) :
    Calls Tryd.prog 41 #[.int .i64 a, .int .i64 b] w fun e w' => e = .returned (.int .i64 (rnd a b)) ∧ w = w' := by
  have hz : ((2 * b : Int) == 0) = false := by simp; omega
  go_enter Tryd.func41, Tryd.ntmps41
  go_wp2_with fail
  go_ret
  exact ⟨rfl, rfl⟩

theorem rnd_bd {a : Int} (h0 : 0 ≤ a) (h1 : a ≤ 1000000000) : 0 ≤ rnd a 1000 ∧ rnd a 1000 ≤ 1000000001 := by unfold rnd; omega

set_option maxRecDepth 100000 in
set_option maxHeartbeats 1000000 in
theorem advance_ok (c size : Int) (bold fixed : Bool) (w : World) (ht : Tabs w) (h0 : 40 ≤ size) (h1 : size ≤ 4000) :
    Calls Tryd.prog 37 #[.int .i64 c, .agg #[.int .i64 size, .bool bold, .bool fixed]] w fun e w' => e = .returned (.int .i64 (adv size bold fixed c)) ∧ Below w.heap.size w w' := by
  have ht0 := ht.alloc (.cells #[.int .i64 size, .bool bold, .bool fixed] 46)
  have hb0 := Blk.new w 46 #[.int .i64 size, .bool bold, .bool fixed]
  have hbel0 : Below w.heap.size w (w.alloc (.cells #[.int .i64 size, .bool bold, .bool fixed] 46)) := (Below.refl _ _).alloc (Nat.le_refl _) _
  have he := em_ok c _ ht0
  have hbd := em_bd c
  have ha : adv size bold fixed c = if em c = 0 then 0 else rnd ((if fixed = true ∧ em c = 1000 then 1200 else if fixed = true then 600 else if bold = true then em c + 40 else em c) * size) 1000 := rfl
  generalize em c = m at *
  have He := hide he
  clear he ht ht0
  have p1 : 0 ≤ m * size := Int.mul_nonneg hbd.1 (by omega)
  have p2 : m * size ≤ 1000 * 4000 := Int.mul_le_mul hbd.2 h1 (by omega) (by omega)
  have p3 : 0 ≤ (m + 40) * size := Int.mul_nonneg (by omega) (by omega)
  have p4 : (m + 40) * size ≤ 1040 * 4000 := Int.mul_le_mul (by omega) h1 (by omega) (by omega)
  have hcase : ((m == 0) = true ∧ Hid (adv size bold fixed c = 0)) ∨ ((m == 0) = false ∧ fixed = true ∧ (m == 1000) = true ∧ Hid (adv size bold fixed c = rnd (1200 * size) 1000)) ∨
      ((m == 0) = false ∧ fixed = true ∧ (m == 1000) = false ∧ Hid (adv size bold fixed c = rnd (600 * size) 1000)) ∨ ((m == 0) = false ∧ fixed = false ∧ bold = true ∧ Hid (adv size bold fixed c = rnd ((m + 40) * size) 1000)) ∨
      ((m == 0) = false ∧ fixed = false ∧ bold = false ∧ Hid (adv size bold fixed c = rnd (m * size) 1000)) := by
    by_cases hm0 : m = 0
    · exact .inl ⟨by simpa using hm0, hide (by rw [ha, if_pos hm0])⟩
    · rw [if_neg hm0] at ha
      have hq : (m == 0) = false := by simpa using hm0
      cases fixed
      · cases bold
        · exact .inr (.inr (.inr (.inr ⟨hq, rfl, rfl, hide (by rw [ha]; simp)⟩)))
        · exact .inr (.inr (.inr (.inl ⟨hq, rfl, rfl, hide (by rw [ha]; simp)⟩)))
      · by_cases hm1 : m = 1000
        · exact .inr (.inl ⟨hq, rfl, by simpa using hm1, hide (by rw [ha, if_pos ⟨rfl, hm1⟩])⟩)
        · exact .inr (.inr (.inl ⟨hq, rfl, by simpa using hm1, hide (by rw [ha, if_neg (fun h => hm1 h.2), if_pos rfl])⟩))
  clear ha
  generalize adv size bold fixed c = r at *
  rcases hcase with ⟨q0, Hr⟩ | ⟨q0, rfl, q1, Hr⟩ | ⟨q0, rfl, q1, Hr⟩ | ⟨q0, rfl, rfl, Hr⟩ | ⟨q0, rfl, rfl, Hr⟩
  all_goals
    go_enter Tryd.func37, Tryd.ntmps37
    go_wp2_with fail
    refine He.out.mono ?_
    rintro e w1 ⟨rfl, hbel1⟩
    have hb1 := hb0.below hbel1 hb0.lt
    have c0 : w1.cell? ⟨w.heap.size, 0, none⟩ = some (.int .i64 size) := hb1.cell 0
    have c1 : w1.cell? ⟨w.heap.size, 1, none⟩ = some (.bool _) := hb1.cell 1
    have c2 : w1.cell? ⟨w.heap.size, 2, none⟩ = some (.bool _) := hb1.cell 2
    go_wp2_with (go_at_call 41; refine (round_ok _ _ _ (by omega) (by omega) (by omega) (by omega)).mono ?_; rintro e w2 ⟨rfl, rfl⟩)
    go_ret
    exact ⟨ret_int Hr.out.symm, hbel0.trans (hbel1.mono hbel0.size)⟩

set_option maxHeartbeats 1000000 in
theorem lean_ok (c : Int) (w : World) : Calls Tryd.prog 43 #[.int .i64 c] w fun e w' => e = .returned (.bool (lean c)) ∧ w = w' := by
  go_enter Tryd.func43, Tryd.ntmps43
  go_wp2_with fail
  all_goals
    go_ret
    exact ⟨ret_bool (by unfold lean; simp [*]), rfl⟩

/-- the ways through pair -/
def PairWay (a b : Int) (la lb : Bool) (r : Int) : Prop :=
  (la = true ∧ (b == 65) = true ∧ r = 70) ∨ (la = true ∧ (b == 65) = false ∧ (a == 65) = false ∧ (b == 46) = true ∧ r = 90) ∨ (la = true ∧ (b == 65) = false ∧ (a == 65) = false ∧ (b == 46) = false ∧ (b == 44) = true ∧ r = 90) ∨
  (la = true ∧ (b == 65) = false ∧ (a == 65) = false ∧ (b == 46) = false ∧ (b == 44) = false ∧ r = 0) ∨ (la = false ∧ (a == 65) = true ∧ lb = true ∧ r = 70) ∨ (la = false ∧ (a == 65) = true ∧ lb = false ∧ (a == 80) = false ∧ r = 0) ∨
  (la = false ∧ (a == 65) = false ∧ (a == 80) = true ∧ (b == 46) = true ∧ r = 90) ∨ (la = false ∧ (a == 65) = false ∧ (a == 80) = true ∧ (b == 46) = false ∧ (b == 44) = true ∧ r = 90) ∨
  (la = false ∧ (a == 65) = false ∧ (a == 80) = true ∧ (b == 46) = false ∧ (b == 44) = false ∧ r = 0) ∨ (la = false ∧ (a == 65) = false ∧ (a == 80) = false ∧ r = 0)
theorem pairWay (a b : Int) : PairWay a b (lean a) (lean b) (pair a b) := by
  have h65 : a = 65 → lean a = false := fun h => by rw [h]; rfl
  unfold PairWay pair
  simp only [beq_iff_eq, beq_eq_false_iff_ne, ne_eq]
  cases ha : lean a
  · by_cases a1 : a = 65
    · cases hb : lean b
      · have : ¬ a = 80 := by omega
        simp [a1]
      · simp [a1]
    · by_cases a2 : a = 80
      · by_cases b1 : b = 46
        · simp [a2, b1]
        · by_cases b2 : b = 44
          · simp [a2, b2]
          · simp [a2, b1, b2]
      · simp [a1, a2]
  · have a1 : ¬ a = 65 := fun h => by rw [h65 h] at ha; cases ha
    by_cases b1 : b = 65
    · simp [b1]
    · by_cases b2 : b = 46
      · simp [a1, b2]
      · by_cases b3 : b = 44
        · simp [a1, b3]
        · simp [a1, b1, b2, b3]

set_option maxRecDepth 100000 in
set_option maxHeartbeats 2000000 in
theorem pair_ok (a b : Int) (w : World) : Calls Tryd.prog 42 #[.int .i64 a, .int .i64 b] w fun e w' => e = .returned (.int .i64 (pair a b)) ∧ w = w' := by
  have hla := fun wx => lean_ok a wx
  have hlb := fun wx => lean_ok b wx
  have Hla := hide hla
  have Hlb := hide hlb
  have hp := pairWay a b
  clear hla hlb
  generalize lean a = la at *
  generalize lean b = lb at *
  generalize pair a b = r at *
  rcases hp with ⟨rfl, g1, rfl⟩ | ⟨rfl, g1, g2, g3, rfl⟩ | ⟨rfl, g1, g2, g3, g4, rfl⟩ | ⟨rfl, g1, g2, g3, g4, rfl⟩ | ⟨rfl, g1, rfl, rfl⟩ | ⟨rfl, g1, rfl, g2, rfl⟩ | ⟨rfl, g1, g2, g3, rfl⟩ | ⟨rfl, g1, g2, g3, g4, rfl⟩ | ⟨rfl, g1, g2, g3, g4, rfl⟩ | ⟨rfl, g1, g2, rfl⟩
  all_goals
    go_enter Tryd.func42, Tryd.ntmps42
    go_wp2_with (first
      | (go_at_call 43; with_reducible refine (Hla.out _).mono ?_; rintro e w2 ⟨rfl, rfl⟩)
      | (go_at_call 43; with_reducible refine (Hlb.out _).mono ?_; rintro e w2 ⟨rfl, rfl⟩))
    go_ret
    exact ⟨rfl, rfl⟩
end Go.Proofs.YtdhhkcboejhoaaaDoor.Mtr
