/- Contracts of package printing. -/
import Derived.Test.YtmnbcpinlgklpaaProg
import Derived.Test.YtmnbcpinlgklpaaSlices
namespace Go.Proofs.Ytmnbcpinlgklpaa.Prn
open Go.RowKit Go.Frm

set_option maxHeartbeats 400000 in
theorem check_ok (A : Option Addr) (c : Nat) (zs : List Int) (w : World) (h : RdI w A zs) (hl : zs.length ≤ 10000) (hz : ∀ j, j < zs.length → 0 ≤ ix zs j ∧ ix zs j ≤ 10000) :
    Calls Try.prog 31 #[.slice A zs.length c] w fun e w' => e = .returned (.int .i64 0) ∧ w = w' := by
  have Hz := hide hz
  clear hz
  go_enter Try.func31, Try.ntmps31
  go_wp2
  go_loop [4, 10] (fun _ i => ∃ k : Nat, k ≤ zs.length ∧ i = .int .i64 k) (fun _ i => zs.length - (intOf i).toNat)
  case atStart => exact ⟨0, by omega, rfl⟩
  case round =>
    obtain ⟨k, hk, rfl⟩ := hrel
    by_cases hlt : k < zs.length
    · obtain ⟨b, off, rfl, hc⟩ := h.at_ hlt
      obtain ⟨hb1, hb2⟩ := Hz.out k hlt
      go_wp2
      go_round
      case rel => exact ⟨k + 1, by omega, by go_num⟩
      case measure => simp [intOf]; omega
    · go_wp2
      go_ret
      exact ⟨rfl, rfl⟩

set_option maxHeartbeats 400000 in
theorem page_any (k : Int) (g c : Nat) (A : Option Addr) (zs : List Int) (w : World) (hk : 0 ≤ k) (hbox : w.cell? ⟨g, 0, none⟩ = some (.slice A zs.length c)) (h : RdI w A zs) :
    Calls Try.prog 32 #[.int .i64 k, .pointer (some ⟨g, 0, none⟩)] w fun e w' => e = .returned (.int .i64 (ix zs k.toNat)) ∧ w = w' := by
  obtain ⟨k, rfl⟩ := Int.eq_ofNat_of_zero_le hk
  by_cases hlt : k < zs.length
  · obtain ⟨b, off, rfl, hc⟩ := h.at_ hlt
    go_enter Try.func32, Try.ntmps32
    go_wp2
    go_ret
    exact ⟨rfl, rfl⟩
  · go_enter Try.func32, Try.ntmps32
    go_wp2
    go_ret
    exact ⟨ret_int (by simp [ix, List.getElem?_eq_none (show zs.length ≤ k by omega)]), rfl⟩

/-- field j of sheet i of a booklet of m sheets -/
def sh (zs : List Int) (m i : Nat) : Nat → Int
  | 0 => ix zs (4 * m - 1 - 2 * i)
  | 1 => ix zs (2 * i)
  | 2 => ix zs (2 * i + 1)
  | _ => ix zs (4 * m - 1 - 2 * i - 1)
def shv (zs : List Int) (m i j : Nat) : Value := .int .i64 (sh zs m i j)

theorem sheet_info : (Try.prog.info? 34).map (fun i => (i.zero, i.size, i.bytes)) = some (some (.agg #[.int .i64 0, .int .i64 0, .int .i64 0, .int .i64 0]), 4, 32) := by kernel_rfl

set_option maxHeartbeats 1000000 in
theorem booklet_ok (A : Option Addr) (c : Nat) (zs : List Int) (w : World) (h : RdI w A zs) (hl : zs.length ≤ 10000) (hz : ∀ j, j < zs.length → 0 ≤ ix zs j ∧ ix zs j ≤ 10000)
    (m : Nat) (hm : (zs.length + 3) / 4 = m) :
    Calls Try.prog 12 #[.slice A zs.length c] w fun e w' => ∃ v, e = .returned (.tuple #[v, .int .i64 0]) ∧
      w'.ownsRow w.heap.size 34 4 v m (rowF m 4 (shv zs m)) ∧ Below w.heap.size w w' := by
  have Hz := hide hz
  clear hz
  have hmf : ∀ (fn : Fn) (first cap : Array Value) (w : World), (Instr.makeFunc fn first cap).run Try.prog w = .ok (.func fn first cap) w := fun _ _ _ _ => rfl
  have hbel0 : Below w.heap.size w (w.alloc (.cells #[.slice A zs.length c] 29)) := (Below.refl _ _).alloc (Nat.le_refl _) _
  have h0 := h.alloc (.cells #[.slice A zs.length c] 29)
  have hbox0 : (w.alloc (.cells #[.slice A zs.length c] 29)).cell? ⟨w.heap.size, 0, none⟩ = some (.slice A zs.length c) := by simp
  have hsz0 : (w.alloc (.cells #[.slice A zs.length c] 29)).heap.size = w.heap.size + 1 := by simp
  go_enter Try.func12, Try.ntmps12
  go_wp2_with fail
  generalize w.alloc (.cells #[.slice A zs.length c] 29) = w0 at *
  refine (check_ok _ _ _ _ h0 hl Hz.out).mono ?_
  rintro e w1 ⟨rfl, rfl⟩
  go_wp2
  have hmi : ((zs.length : Int) + 3) / 4 = (m : Int) := by omega
  have hml : m ≤ 2500 := by omega
  rw [hmi]
  have Hm := hide hm
  clear hm hmi
  have Hbox := hide hbox0
  clear hbox0
  go_loopw [7, 21] (fun v i wr => ∃ k : Nat, k ≤ m ∧ i = .int .i64 k ∧ wr.ownsRow w0.heap.size 34 4 v k (rowF k 4 (shv zs m)) ∧ Below w0.heap.size w0 wr) (fun _ i _ => m - (intOf i).toNat)
  case atStart => exact ⟨0, by omega, rfl, World.ownsRow_nil _ _ _ _, Below.refl _ _⟩
  case round =>
    obtain ⟨k, hk, rfl, hown, hbel⟩ := hrel
    have hsz := hbel.size
    by_cases hlt : k < m
    · have hb : wr.cell? ⟨w.heap.size, 0, none⟩ = some (.slice A zs.length c) := by rw [hbel.cell (by show w.heap.size < _; omega)]; exact Hbox.out
      have hr := h0.below hbel
      go_wp2_with (first
        | (go_at_call 32; refine (page_any _ _ _ _ _ _ (by omega) hb hr).mono ?_; rintro e w1 ⟨rfl, rfl⟩)
        | (at_builtin; refine wpL_append rfl rfl Try.underlying30 sheet_info rfl (by decide) rfl rfl (hown.alloc _) (news_at _ _ _ _ (by simp)) rfl (by simp [Value.oneCell']) (by omega) (by omega) (by simp; omega) ?_; intro v1 w1 hown1 hgrow1))
      go_roundw
      case rel => exact ⟨k + 1, by omega, by go_num, by rw [rowF_succ]; exact hown1, below_app (hbel.alloc hsz _) (by simp; omega) (hown.alloc _) hgrow1⟩
      case measure => simp [intOf]; omega
    · go_wp2
      go_ret2
      obtain rfl : k = m := by omega
      have hb := hsz0
      have hown' : wr.ownsRow w.heap.size 34 4 _ k (rowF k 4 (shv zs k)) := ownsRow_less hown (by omega)
      exact ⟨_, rfl, hown', hbel0.trans (hbel.mono (by omega))⟩

theorem int_info : (Try.prog.info? 3).map (fun i => (i.zero, i.size, i.bytes)) = some (some (.int .i64 0), 1, 8) := by kernel_rfl
/-- the first half of what is read, the second half -/
def o1 (f : Nat → Nat → Int) (k : Nat) : List Int := (List.range k).flatMap fun i => [f i 1, f i 2]
def o2 (f : Nat → Nat → Int) (m k : Nat) : List Int := (List.range k).flatMap fun i => [f (m - 1 - i) 3, f (m - 1 - i) 0]
theorem o1_succ (f : Nat → Nat → Int) (k : Nat) : o1 f (k + 1) = o1 f k ++ [f k 1, f k 2] := by simp [o1, List.range_succ, List.flatMap_append]
theorem o2_succ (f : Nat → Nat → Int) (m k : Nat) : o2 f m (k + 1) = o2 f m k ++ [f (m - 1 - k) 3, f (m - 1 - k) 0] := by simp [o2, List.range_succ, List.flatMap_append]
theorem o1_length (f : Nat → Nat → Int) (k : Nat) : (o1 f k).length = 2 * k := by induction k with | zero => rfl | succ k ih => rw [o1_succ, List.length_append, ih]; simp; omega
theorem o2_length (f : Nat → Nat → Int) (m k : Nat) : (o2 f m k).length = 2 * k := by induction k with | zero => rfl | succ k ih => rw [o2_succ, List.length_append, ih]; simp; omega

set_option maxRecDepth 100000 in
set_option maxHeartbeats 1000000 in
theorem read_ok (A : Option Addr) (c m : Nat) (f : Nat → Nat → Int) (w : World) (h : RdF w A m 4 (fun i j => .int .i64 (f i j))) (hm : m ≤ 2500) (hf : ∀ j, j < 4 * m → 0 ≤ ix (o1 f m ++ o2 f m m) j ∧ ix (o1 f m ++ o2 f m m) j ≤ 10000) :
    Calls Try.prog 14 #[.slice A m c] w fun e w' => ∃ A' c', e = .returned (.tuple #[.slice A' (4 * m) c', .int .i64 0]) ∧
      w'.ownsRow w.heap.size 3 1 (.slice A' (4 * m) c') (4 * m) ((o1 f m ++ o2 f m m).map (Value.int .i64)) ∧ Below w.heap.size w w' := by
  have Hf := hide hf
  clear hf
  go_enter Try.func14, Try.ntmps14
  go_wp2
  go_loopw [4, 15] (fun v i wr => ∃ k : Nat, k ≤ m ∧ i = .int .i64 k ∧ wr.ownsRow w.heap.size 3 1 v (2 * k) ((o1 f k).map (Value.int .i64)) ∧ Below w.heap.size w wr) (fun _ i _ => m - (intOf i).toNat)
  case atStart => exact ⟨0, by omega, rfl, World.ownsRow_nil _ _ _ _, Below.refl _ _⟩
  case round =>
    obtain ⟨k, hk, rfl, hown, hbel⟩ := hrel
    have hsz := hbel.size
    by_cases hlt : k < m
    · obtain ⟨b, off, rfl, hc⟩ := (h.below hbel).at_ hlt
      have c0 := hc 0 (by omega)
      have c1 := hc 1 (by omega)
      have c2 := hc 2 (by omega)
      have c3 := hc 3 (by omega)
      simp only [Nat.add_zero] at c0
      clear hc
      go_wp2_with (at_builtin; refine wpL_append rfl rfl Try.underlying29 int_info rfl (by decide) rfl rfl ((hown.alloc _).alloc _) (news_at _ _ _ _ (by simp)) rfl (by simp [Value.oneCell']) (by omega) (by omega) (by simp; omega) ?_; intro v1 w1 hown1 hgrow1)
      go_roundw
      case rel => exact ⟨k + 1, by omega, by go_num, by rw [o1_succ, List.map_append]; exact hown1, below_app ((hbel.alloc hsz _).alloc (by simp; omega) _) (by simp; omega) ((hown.alloc _).alloc _) hgrow1⟩
      case measure => simp [intOf]; omega
    · obtain rfl : k = m := by omega
      go_wp2
      go_loopw [4, 29] (fun v i wx => ∃ j : Nat, j ≤ k ∧ i = .int .i64 j ∧ wx.ownsRow w.heap.size 3 1 v (2 * k + 2 * j) ((o1 f k ++ o2 f k j).map (Value.int .i64)) ∧ Below w.heap.size w wx) (fun _ i _ => k - (intOf i).toNat)
      case atStart => exact ⟨0, by omega, rfl, by simpa [o2] using hown, hbel⟩
      case round =>
        obtain ⟨j, hj, rfl, hown2, hbel2⟩ := hrel
        have hsz2 := hbel2.size
        by_cases hlt2 : j < k
        · obtain ⟨b, off, rfl, hc⟩ := (h.below hbel2).at_ (show k - 1 - j < k by omega)
          have c0 := hc 0 (by omega)
          have c1 := hc 1 (by omega)
          have c2 := hc 2 (by omega)
          have c3 := hc 3 (by omega)
          simp only [Nat.add_zero] at c0
          clear hc
          go_wp2_with (at_builtin; refine wpL_append rfl rfl Try.underlying29 int_info rfl (by decide) rfl rfl ((hown2.alloc _).alloc _) (news_at _ _ _ _ (by simp)) rfl (by simp [Value.oneCell']) (by omega) (by omega) (by simp; omega) ?_; intro v1 w1 hown1 hgrow1)
          go_roundw
          case rel => exact ⟨j + 1, by omega, by go_num, by rw [o2_succ, ← List.append_assoc, List.map_append]; exact hown1, below_app ((hbel2.alloc hsz2 _).alloc (by simp; omega) _) (by simp; omega) ((hown2.alloc _).alloc _) hgrow1⟩
          case measure => simp [intOf]; omega
        · obtain rfl : j = k := by omega
          obtain ⟨A', c', rfl⟩ := own_form hown2
          have hl : (o1 f j ++ o2 f j j).length = 2 * j + 2 * j := by rw [List.length_append, o1_length, o2_length]
          have e4 : 2 * j + 2 * j = 4 * j := by omega
          rw [e4] at hl hown2 ⊢
          clear e4
          go_wp2_with fail
          rw [← hl]
          refine (check_ok A' c' (o1 f j ++ o2 f j j) _ (RdI.of_own hown2) (by omega) (by rw [hl]; exact Hf.out)).mono ?_
          rintro e w1 ⟨rfl, rfl⟩
          go_wp2
          go_ret2
          exact ⟨A', c', rfl, hown2, hbel2⟩
end Go.Proofs.Ytmnbcpinlgklpaa.Prn
