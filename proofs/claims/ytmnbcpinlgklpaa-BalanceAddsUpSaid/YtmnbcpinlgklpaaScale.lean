/- Contracts of package scale. -/
import Derived.Test.YtmnbcpinlgklpaaProg
import Derived.Test.YtmnbcpinlgklpaaSlices
namespace Go.Proofs.Ytmnbcpinlgklpaa.Scl
open Go.RowKit Go.Frm

theorem tdiv_bd (a b : Int) (hb : 0 < b) : (0 ≤ a → 0 ≤ a.tdiv b ∧ a.tdiv b ≤ a) ∧ (a ≤ 0 → a ≤ a.tdiv b ∧ a.tdiv b ≤ 0) := by
  refine ⟨fun h => ?_, fun h => ?_⟩
  · rw [Int.tdiv_eq_ediv_of_nonneg h]
    exact ⟨Int.ediv_nonneg h (by omega), Int.ediv_le_self _ h⟩
  · have h1 : a.tdiv b = -((-a) / b) := by
      rw [← Int.tdiv_eq_ediv_of_nonneg (show 0 ≤ -a by omega), Int.neg_tdiv, Int.neg_neg]
    have h2 := Int.ediv_nonneg (show 0 ≤ -a by omega) (show 0 ≤ b by omega)
    have h3 := Int.ediv_le_self b (show 0 ≤ -a by omega)
    omega
theorem floor_lt (a b : Int) (hb : 0 < b) (h : a.tmod b < 0) : a.tdiv b - 1 = a / b := by
  have h1 := Int.mul_tdiv_add_tmod a b
  have h2 := Int.lt_tmod_of_pos a hb
  symm
  rw [Int.ediv_eq_iff_of_pos hb]
  constructor
  · rw [Int.sub_mul, Int.mul_comm]; omega
  · rw [Int.sub_mul, Int.mul_comm]; omega
theorem floor_ge (a b : Int) (hb : 0 < b) (h : ¬ a.tmod b < 0) : a.tdiv b = a / b := by
  have h1 := Int.mul_tdiv_add_tmod a b
  have h2 := Int.tmod_lt_of_pos a hb
  symm
  rw [Int.ediv_eq_iff_of_pos hb]
  constructor
  · rw [Int.mul_comm]; omega
  · rw [Int.mul_comm]; omega

set_option maxHeartbeats 400000 in
theorem floor_any (a b : Int) (w : World) (hb : 0 < b) (h1 : -9000000000000000000 ≤ a) (h2 : a ≤ 9000000000000000000) :
    Calls Try.prog 33 #[.int .i64 a, .int .i64 b] w fun e w' => e = .returned (.int .i64 (a / b)) ∧ w = w' := by
  obtain ⟨t1, t2⟩ := tdiv_bd a b hb
  have t3 : -9000000000000000000 ≤ a.tdiv b ∧ a.tdiv b ≤ 9000000000000000000 := by omega
  obtain ⟨t3, t4⟩ := t3
  clear t1 t2
  have hn : ((b : Int) == 0) = false := by simp; omega
  by_cases h : a.tmod b < 0
  · have he := hide (floor_lt a b hb h)
    go_enter Try.func33, Try.ntmps33
    go_wp2
    go_ret
    exact ⟨ret_int he.out, rfl⟩
  · have he := hide (floor_ge a b hb h)
    go_enter Try.func33, Try.ntmps33
    go_wp2
    go_ret
    exact ⟨ret_int he.out, rfl⟩

/-- what makes a scale valid -/
structure Sc (lo hi st : Int) : Prop where
  a1 : -4000000000000 ≤ lo
  a2 : lo ≤ 4000000000000
  b1 : -4000000000000 ≤ hi
  b2 : hi ≤ 4000000000000
  c1 : 1 ≤ st
  c2 : st ≤ 4000000000000
  lt : lo < hi
  md : (hi - lo) % st = 0
  fl : lo / st * st = lo
  few : (hi - lo) / st ≤ 500

set_option maxHeartbeats 800000 in
theorem check_ok (lo hi st : Int) (w : World) (h : Sc lo hi st) :
    Calls Try.prog 18 #[.agg #[.int .i64 lo, .int .i64 hi, .int .i64 st]] w fun e w' => e = .returned (.int .i64 0) ∧ Below w.heap.size w w' := by
  obtain ⟨a1, a2, b1, b2, c1, c2, lt, md, fl, few⟩ := h
  have hn : ((st : Int) == 0) = false := by simp; omega
  have few0 : 0 ≤ (hi - lo) / st := Int.ediv_nonneg (by omega) (by omega)
  go_enter Try.func18, Try.ntmps18
  go_wp2_with fail
  go_quiet ((go_at_call 33; exact quiet_left (floor_any _ _ _ (by omega) (by omega) (by omega))))
  go_wp2
  go_ret
  exact ⟨rfl, below_drewN ((Below.refl _ _).alloc (Nat.le_refl _) _) _⟩

set_option maxHeartbeats 800000 in
theorem place_ok (lo hi st v long : Int) (w : World) (h : Sc lo hi st) (l1 : 0 ≤ long) (l2 : long ≤ 100000) (v1 : lo ≤ v) (v2 : v ≤ hi) :
    Calls Try.prog 19 #[.agg #[.int .i64 lo, .int .i64 hi, .int .i64 st], .int .i64 v, .int .i64 long] w fun e w' =>
      e = .returned (.tuple #[.int .i64 ((2 * (v - lo) * long + (hi - lo)) / (2 * (hi - lo))), .int .i64 0]) ∧ Below w.heap.size w w' := by
  have H := hide h
  obtain ⟨a1, a2, b1, b2, c1, c2, lt, _, _, _⟩ := h
  have p1 : 0 ≤ 2 * (v - lo) * long := Int.mul_nonneg (by omega) l1
  have p2 : 2 * (v - lo) * long ≤ 16000000000000 * 100000 := Int.mul_le_mul (by omega) l2 l1 (by omega)
  go_enter Try.func19, Try.ntmps19
  go_wp2_with fail
  refine (check_ok lo hi st _ H.out).mono ?_
  rintro e w1 ⟨rfl, hb1⟩
  obtain ⟨hc1, hf1⟩ := bcell hb1
  go_wp2_with fail
  go_quiet (fail)
  go_wp2_with (go_at_call 33; refine (floor_any _ _ _ (by omega) (by omega) (by omega)).mono ?_; rintro e w2 ⟨rfl, rfl⟩)
  go_ret2
  exact ⟨rfl, below_drewN (((Below.refl _ _).alloc (Nat.le_refl _) _).trans (hb1.mono (by simp))) _⟩

theorem int_info : (Try.prog.info? 3).map (fun i => (i.zero, i.size, i.bytes)) = some (some (.int .i64 0), 1, 8) := by kernel_rfl

/-- the marks of a scale -/
def marks (lo st : Int) (k : Nat) : List Int := (List.range k).map fun (j : Nat) => lo + (j : Int) * st
theorem marks_succ (lo st : Int) (k : Nat) : marks lo st (k + 1) = marks lo st k ++ [lo + (k : Int) * st] := by simp [marks, List.range_succ]
theorem marks_length (lo st : Int) (k : Nat) : (marks lo st k).length = k := by simp [marks]
theorem marks_ix (lo st : Int) (k j : Nat) (h : j < k) : ix (marks lo st k) j = lo + (j : Int) * st := by simp [ix, marks, h]

set_option maxHeartbeats 1000000 in
theorem marks_ok (lo hi st : Int) (n : Nat) (w : World) (hn : n ≤ 500) (hh : lo + (n : Int) * st = hi) (h : Sc lo hi st) :
    Calls Try.prog 15 #[.agg #[.int .i64 lo, .int .i64 hi, .int .i64 st]] w fun e w' => ∃ A c, e = .returned (.tuple #[.slice A (n + 1) c, .int .i64 0]) ∧
      w'.ownsRow w.heap.size 3 1 (.slice A (n + 1) c) (n + 1) ((marks lo st (n + 1)).map (Value.int .i64)) ∧ Below w.heap.size w w' := by
  subst hh
  have H := hide h
  obtain ⟨a1, a2, b1, b2, c1, c2, lt, _, _, _⟩ := h
  go_enter Try.func15, Try.ntmps15
  go_wp2_with fail
  refine (check_ok lo _ st _ H.out).mono ?_
  rintro e w1 ⟨rfl, hb1⟩
  have k0 : w1.cell? ⟨w.heap.size, 0, none⟩ = some (.int .i64 lo) := by rw [hb1.cell (by simp)]; simp
  have k1 : w1.cell? ⟨w.heap.size, 1, none⟩ = some (.int .i64 (lo + (n : Int) * st)) := by rw [hb1.cell (by simp)]; simp
  have k2 : w1.cell? ⟨w.heap.size, 2, none⟩ = some (.int .i64 st) := by rw [hb1.cell (by simp)]; simp
  have hbel : Below w.heap.size w w1 := (((Below.refl _ _).alloc (Nat.le_refl _) _).trans (hb1.mono (by simp)))
  have hsz : w.heap.size < w1.heap.size := by have := hb1.size; simp at this; omega
  clear hb1
  go_wp2_with fail
  have K0 := hide k0
  have K1 := hide k1
  have K2 := hide k2
  clear k0 k1 k2
  go_loopw [5, 6] (fun v i wr => ∃ k : Nat, k ≤ n + 1 ∧ i = .int .i64 (lo + (k : Int) * st) ∧ wr.ownsRow w1.heap.size 3 1 v k ((marks lo st k).map (Value.int .i64)) ∧ Below w1.heap.size w1 wr) (fun _ i _ => (lo + (n : Int) * st + st - intOf i).toNat)
  case atStart => exact ⟨0, by omega, by simp, World.ownsRow_nil _ _ _ _, Below.refl _ _⟩
  case round =>
    obtain ⟨k, hk, rfl, hown, hbel1⟩ := hrel
    have hsz1 := hbel1.size
    by_cases hlt : k ≤ n
    · have m1 : (k : Int) * st ≤ (n : Int) * st := Int.mul_le_mul_of_nonneg_right (by omega) (by omega)
      have m0 : 0 ≤ (k : Int) * st := Int.mul_nonneg (by omega) (by omega)
      have d0 : wr.cell? ⟨w.heap.size, 0, none⟩ = some (.int .i64 lo) := (hbel1.cell (p := ⟨w.heap.size, 0, none⟩) hsz).trans K0.out
      have d1 : wr.cell? ⟨w.heap.size, 1, none⟩ = some (.int .i64 (lo + (n : Int) * st)) := (hbel1.cell (p := ⟨w.heap.size, 1, none⟩) hsz).trans K1.out
      have d2 : wr.cell? ⟨w.heap.size, 2, none⟩ = some (.int .i64 st) := (hbel1.cell (p := ⟨w.heap.size, 2, none⟩) hsz).trans K2.out
      go_wp2_with (at_builtin; refine wpL_append rfl rfl Try.underlying29 int_info rfl (by decide) rfl rfl (hown.alloc _) (news_at _ _ _ _ (by simp)) rfl (by simp [Value.oneCell']) (by omega) (by omega) (by simp; omega) ?_; intro v2 w2 hown2 hgrow2; have hbel2 : Below w1.heap.size w1 w2 := below_app (hbel1.alloc hsz1 _) (by simp; omega) (hown.alloc _) hgrow2; have e2 : w2.cell? ⟨w.heap.size, 2, none⟩ = some (.int .i64 st) := (hbel2.cell (p := ⟨w.heap.size, 2, none⟩) hsz).trans K2.out)
      go_roundw
      case rel => exact ⟨k + 1, by omega, val_int (by rw [Int.natCast_add, Int.add_mul]; simp; omega), by rw [marks_succ, List.map_append]; exact hown2, hbel2⟩
      case measure => simp only [intOf]; omega
    · obtain rfl : k = n + 1 := by omega
      have m1 : ((n + 1 : Nat) : Int) * st = (n : Int) * st + st := by rw [Int.natCast_add, Int.add_mul]; simp
      have d1 : wr.cell? ⟨w.heap.size, 1, none⟩ = some (.int .i64 (lo + (n : Int) * st)) := (hbel1.cell (p := ⟨w.heap.size, 1, none⟩) hsz).trans K1.out
      rw [m1]
      clear m1
      go_wp2
      go_ret2
      obtain ⟨A, c, rfl⟩ := own_form hown
      exact ⟨A, c, rfl, ownsRow_less hown (by omega), hbel.trans (hbel1.mono (by omega))⟩

set_option maxHeartbeats 1000000 in
theorem equal_any (A B : Option Addr) (c d : Nat) (zs ys : List Int) (w : World) (hA : RdI w A zs) (hB : RdI w B ys) (h1 : zs.length ≤ 9223372036854775807) (_h2 : ys.length ≤ 9223372036854775807) :
    Calls Try.prog 16 #[.slice A zs.length c, .slice B ys.length d] w fun e w' => e = .returned (.bool (decide (zs = ys))) ∧ ∃ n, w' = w.drewN n := by
  by_cases hl : zs.length = ys.length
  · have hd : decide (zs = ys) = true ∨ ¬ zs = ys := by by_cases h : zs = ys <;> simp [h]
    go_enter Try.func16, Try.ntmps16
    clear hd
    go_wp2
    go_loopw [13] (fun i wr => ∃ (k m : Nat), k ≤ zs.length ∧ i = .int .i64 k ∧ EqTo zs ys k ∧ wr = w.drewN m) (fun i _ => zs.length - (intOf i).toNat)
    case atStart => exact ⟨0, 0, by omega, rfl, eqTo_zero _ _, rfl⟩
    case round =>
      obtain ⟨k, m, hk, rfl, heq, rfl⟩ := hrel
      by_cases hlt : k < zs.length
      · obtain ⟨b, off, rfl, hc⟩ := hA.at_ hlt
        obtain ⟨b2, off2, rfl, hc2⟩ := hB.at_ (show k < ys.length by omega)
        by_cases he : ix zs k = ix ys k
        · rw [← he] at hc2
          have He := hide he
          clear he
          go_wp2
          go_quiet (fail)
          go_wp2
          go_roundw
          case rel => exact ⟨k + 1, _, by omega, by go_num, eqTo_succ heq He.out, rfl⟩
          case measure => simp [intOf]; omega
        · have hq : (ix zs k == ix ys k) = false := by simpa using he
          go_wp2
          go_quiet (fail)
          go_wp2
          go_ret
          exact ⟨ret_bool (by simp; intro h; exact he (by rw [h])), _, by rw [World.drewN_drewN]⟩
      · go_wp2
        go_ret
        exact ⟨ret_bool (by simp; exact eqTo_all hl heq (by omega)), m, rfl⟩
  · have hne : decide (zs = ys) = false := by simp; intro h; rw [h] at hl; omega
    have hq : ((zs.length : Int) == (ys.length : Int)) = false := by simp; omega
    go_enter Try.func16, Try.ntmps16
    go_wp2
    go_ret
    exact ⟨ret_bool hne.symm, 0, rfl⟩
end Go.Proofs.Ytmnbcpinlgklpaa.Scl
