/- Contracts of package balance: sum, spread, needs. -/
import Derived.Test.YtmnbcpinlgklpaaProg
import Derived.Test.YtmnbcpinlgklpaaBalPlain
import Derived.Test.YtmnbcpinlgklpaaBase
namespace Go.Proofs.Ytmnbcpinlgklpaa.Bal
open Go.RowKit Go.Frm

theorem int_info : (Try.prog.info? 3).map (fun i => (i.zero, i.size, i.bytes)) = some (some (.int .i64 0), 1, 8) := by kernel_rfl
theorem rdI_win {w : World} {base : Nat} {e : TypeId} {g n c a len : Nat} {F : Nat → Int} (h : w.ownsRow base e 1 (.slice (some ⟨g, 0, none⟩) n c) n (tabV n (fun i => .int .i64 (F i)))) (ha : a + len ≤ n) :
    RdI w (some ⟨g, a, none⟩) (tab len (fun i => F (a + i))) := .inr ⟨g, a, rfl, fun j hj => by
  rw [tab_length] at hj
  rw [own_cell h (show a + j < n by omega), tab_ix _ hj]⟩

set_option maxRecDepth 100000 in
theorem sum_ok (A : Option Addr) (c n : Nat) (F : Nat → Int) (w : World) (hr : RdI w A (tab n F)) (hn : n ≤ 1000) (hF : ∀ i, i < n → 0 ≤ F i ∧ F i ≤ 1000000000) :
    Calls Try.prog 39 #[.slice A n c] w fun e w' => e = .returned (.int .i64 (fsum F n)) ∧ w = w' := by
  have HF := hide hF
  clear hF
  go_enter Try.func39, Try.ntmps39
  go_wp2_with fail
  go_loop [3, 8] (fun v i => ∃ k : Nat, k ≤ n ∧ i = .int .i64 k ∧ v = .int .i64 (fsum F k)) (fun _ i => n - (intOf i).toNat)
  case atStart => exact ⟨0, by omega, rfl, rfl⟩
  case round =>
    obtain ⟨k, hk, rfl, rfl⟩ := hrel
    have f0 : 0 ≤ fsum F k := fsum_nonneg fun i hi => (HF.out i (by omega)).1
    have f1 : fsum F k ≤ k * 1000000000 := by
      rw [← fsum_const]
      exact fsum_le fun i hi => (HF.out i (by omega)).2
    by_cases hlt : k < n
    · obtain ⟨b, off, rfl, hc⟩ := hr.at_ (show k < _ by rw [tab_length]; exact hlt)
      rw [tab_ix _ hlt] at hc
      have hv := HF.out k hlt
      go_wp2_with fail
      go_round
      case rel => exact ⟨k + 1, by omega, by go_num, rfl⟩
      case measure => simp [intOf]; omega
    · obtain rfl : k = n := by omega
      go_wp2_with fail
      go_ret
      exact ⟨rfl, rfl⟩

def SprPost (w : World) (base B g n c : Nat) (F : Nat → Int) (e : Ending) (w' : World) : Prop := e = .returned (.tuple #[]) ∧ w'.ownsRow base 3 1 (.slice (some ⟨g, 0, none⟩) n c) n (tabV n (fun i => .int .i64 (F i))) ∧ Below B w w'
set_option maxRecDepth 100000 in
set_option maxHeartbeats 1000000 in
theorem spread_ok (base B g n c a len cap : Nat) (F : Nat → Int) (x : Int) (w : World) (ho : w.ownsRow base 3 1 (.slice (some ⟨g, 0, none⟩) n c) n (tabV n (fun i => .int .i64 (F i)))) (hB : B ≤ g) (hn : n ≤ 1000) (h1 : 1 ≤ len) (ha : a + len ≤ n)
    (hF : ∀ i, 0 ≤ F i ∧ F i ≤ 1000000000) (x0 : 0 ≤ x) (x1 : x ≤ 1000000000) :
    Calls Try.prog 45 #[.slice (some ⟨g, a, none⟩) len cap, .int .i64 x] w (SprPost w base B g n c (spr F a len x len)) := by
  have HF := hide hF
  clear hF
  have hl0 : ((len : Int) == 0) = false := by simp; omega
  have m1 := Int.emod_nonneg x (show (len : Int) ≠ 0 by omega)
  have m2 := Int.emod_lt_of_pos x (show (0 : Int) < len by omega)
  have q1 := Int.ediv_nonneg x0 (show (0 : Int) ≤ len by omega)
  have q2 := Int.ediv_le_self len x0
  have Ho := hide ho
  clear ho
  go_enter Try.func45, Try.ntmps45
  go_wp2_with fail
  go_loopw [8] (fun i wr => ∃ k : Nat, k ≤ len ∧ i = .int .i64 k ∧ wr.ownsRow base 3 1 (.slice (some ⟨g, 0, none⟩) n c) n (tabV n (fun i => .int .i64 (spr F a len x k i))) ∧ Below B w wr) (fun i _ => len - (intOf i).toNat)
  case atStart => exact ⟨0, by omega, rfl, by rw [spr_zero]; exact Ho.out, Below.refl _ _⟩
  case round =>
    obtain ⟨k, hk, rfl, hown, hbel⟩ := hrel
    by_cases hlt : k < len
    · have hc := own_cell hown (show a + k < n by omega)
      rw [spr_at] at hc
      have hz := hown.frozenAt (a + k)
      have hv := HF.out (a + k)
      have hs : ∀ y : Int, y = F (a + k) + dealt x len k → (wr.setCell ⟨g, a + k, none⟩ (.int .i64 y)).ownsRow base 3 1 (.slice (some ⟨g, 0, none⟩) n c) n (tabV n (fun i => .int .i64 (spr F a len x (k + 1) i))) := fun y hy => by
        have := own_store hown (a + k) (.int .i64 y)
        rw [tabV_congr (G := fun i => .int .i64 (spr F a len x (k + 1) i)) (fun i _ => by
          rw [← spr_succ, ← hy]
          unfold upd
          split <;> rfl)] at this
        exact this
      have Hs := hide hs
      clear hs hown
      by_cases hm : (k : Int) < x % len
      · go_wp2_with fail
        go_roundw
        case rel => exact ⟨k + 1, by omega, by go_num, Hs.out _ (by unfold dealt; rw [if_pos hm]), hbel.setCell hB _⟩
        case measure => simp [intOf]; omega
      · go_wp2_with fail
        go_roundw
        case rel => exact ⟨k + 1, by omega, by go_num, Hs.out _ (by unfold dealt; rw [if_neg hm]; omega), hbel.setCell hB _⟩
        case measure => simp [intOf]; omega
    · obtain rfl : k = len := by omega
      go_wp2_with fail
      refine bodyPost_end (results_none rfl _ _ _) rfl ?_
      exact ⟨rfl, hown, hbel⟩

/-- a cell as cells -/
def clf (C : Cls) (i : Nat) : Nat → Value
  | 0 => .int .i64 (C.at_ i)
  | 1 => .int .i64 (C.sp i)
  | 2 => .int .i64 (C.lo i)
  | _ => .int .i64 (C.hi i)
def cellV (C : Cls) (i : Nat) : Value := .agg #[.int .i64 (C.at_ i), .int .i64 (C.sp i), .int .i64 (C.lo i), .int .i64 (C.hi i)]

theorem want_low (C : Cls) (w : World) (i : Nat) : Calls Try.prog 43 #[cellV C i] w fun e w' => e = .returned (.int .i64 (C.lo i)) ∧ Below w.heap.size w w' := by
  unfold cellV
  go_enter Try.func43, Try.ntmps43
  go_wp2_with fail
  go_ret
  exact ⟨rfl, (Below.refl _ _).alloc (Nat.le_refl _) _⟩
theorem want_high (C : Cls) (w : World) (i : Nat) : Calls Try.prog 44 #[cellV C i] w fun e w' => e = .returned (.int .i64 (wantF C i)) ∧ Below w.heap.size w w' := by
  unfold cellV wantF
  go_enter Try.func44, Try.ntmps44
  rcases Int.lt_trichotomy (C.lo i) (C.hi i) with h | h | h
  · go_wp2_with fail
    go_ret
    exact ⟨ret_int (by omega), (Below.refl _ _).alloc (Nat.le_refl _) _⟩
  · go_wp2_with fail
    go_ret
    exact ⟨ret_int (by omega), (Below.refl _ _).alloc (Nat.le_refl _) _⟩
  · go_wp2_with fail
    go_ret
    exact ⟨ret_int (by omega), (Below.refl _ _).alloc (Nat.le_refl _) _⟩
end Go.Proofs.Ytmnbcpinlgklpaa.Bal
