/- Contracts of package metric: the width of a text, and how much of it fits. -/
import Derived.Test.YtdhhkcboejhoaaaDoorMetricKern
import Derived.Deep.CutBlock
namespace Go.Proofs.YtdhhkcboejhoaaaDoor.Mtr
open Go.RowKit Go.Frm Wi

/-- the width of the first k characters -/
def wid (size : Int) (bold fixed : Bool) (C : Nat → Int) : Nat → Int
  | 0 => 0
  | k + 1 => wid size bold fixed C k + adv size bold fixed (C k) + (if k = 0 then 0 else krn size fixed (C (k - 1)) (C k))
/-- how many of the first k characters fit -/
def fitK (size : Int) (bold fixed : Bool) (C : Nat → Int) (N : Nat) (width : Int) : Nat → Nat
  | 0 => 0
  | k + 1 => if k + 1 < N ∧ mark (C (k + 1)) = true then fitK size bold fixed C N width k else if wid size bold fixed C (k + 1) ≤ width then k + 1 else fitK size bold fixed C N width k
theorem fitK_le (size : Int) (bold fixed : Bool) (C : Nat → Int) (N : Nat) (width : Int) : ∀ k, fitK size bold fixed C N width k ≤ k
  | 0 => Nat.le_refl _
  | k + 1 => by
    have := fitK_le size bold fixed C N width k
    unfold fitK
    split
    · omega
    · split <;> omega

theorem adv_bd {size : Int} (bold fixed : Bool) (c : Int) (h0 : 40 ≤ size) (h1 : size ≤ 4000) : 0 ≤ adv size bold fixed c ∧ adv size bold fixed c ≤ 4801 := by
  have hb := em_bd c
  unfold adv
  split
  · omega
  · have hx : ∀ x : Int, 0 ≤ x → x ≤ 1200 → 0 ≤ rnd (x * size) 1000 ∧ rnd (x * size) 1000 ≤ 4801 := fun x x0 x1 => by
      have p1 : 0 ≤ x * size := Int.mul_nonneg x0 (by omega)
      have p2 : x * size ≤ 1200 * 4000 := Int.mul_le_mul x1 h1 (by omega) (by omega)
      unfold rnd
      omega
    refine hx _ ?_ ?_ <;> (repeat' split) <;> omega
theorem krn_bd {size : Int} (fixed : Bool) (a b : Int) (h0 : 40 ≤ size) (h1 : size ≤ 4000) : -361 ≤ krn size fixed a b ∧ krn size fixed a b ≤ 0 := by
  have hb := pair_bd a b
  have p1 : 0 ≤ pair a b * size := Int.mul_nonneg hb.1 (by omega)
  have p2 : pair a b * size ≤ 90 * 4000 := Int.mul_le_mul hb.2 h1 (by omega) (by omega)
  unfold krn rnd
  split <;> omega
theorem wid_bd {size : Int} (bold fixed : Bool) (C : Nat → Int) (h0 : 40 ≤ size) (h1 : size ≤ 4000) : ∀ k : Nat, -(k * 6000 : Int) ≤ wid size bold fixed C k ∧ wid size bold fixed C k ≤ k * 6000
  | 0 => ⟨by show -(((0 : Nat) : Int) * 6000) ≤ 0; omega, by show (0 : Int) ≤ ((0 : Nat) : Int) * 6000; omega⟩
  | k + 1 => by
    have ih := wid_bd bold fixed C h0 h1 k
    have a := adv_bd bold fixed (C k) h0 h1
    have b := krn_bd fixed (C (k - 1)) (C k) h0 h1
    unfold wid
    split <;> omega

set_option maxRecDepth 100000 in
set_option maxHeartbeats 1000000 in
theorem checkText_ok (A : Option Addr) (c : Nat) (zs : List Int) (w : World) (hr : RdI w A zs) (hl : zs.length ≤ 100000) (hv : ∀ j, j < zs.length → 0 ≤ ix zs j ∧ ix zs j ≤ 1114111) :
    Calls Tryd.prog 36 #[.slice A zs.length c] w fun e w' => e = .returned (.int .i64 0) ∧ w = w' := by
  have Hv := hide hv
  clear hv
  go_enter Tryd.func36, Tryd.ntmps36
  go_wp2_with fail
  go_loop [10] (fun i => ∃ k : Nat, k ≤ zs.length ∧ i = .int .i64 k) (fun i => zs.length - (intOf i).toNat)
  case atStart => exact ⟨0, by omega, rfl⟩
  case round =>
    obtain ⟨k, hk, rfl⟩ := hrel
    by_cases hlt : k < zs.length
    · obtain ⟨b, off, rfl, hc⟩ := hr.at_ hlt
      have hv := Hv.out k hlt
      go_wp2_with fail
      go_round
      case rel => exact ⟨k + 1, by omega, by go_num⟩
      case measure => simp [intOf]; omega
    · have : k = zs.length := by omega
      subst this
      go_wp2_with fail
      go_ret
      exact ⟨rfl, rfl⟩

set_option maxRecDepth 100000 in
set_option maxHeartbeats 2000000 in
theorem Width_ok (A : Option Addr) (c : Nat) (zs : List Int) (size : Int) (bold fixed : Bool) (w : World) (ht : Tabs w) (hr : RdI w A zs) (hl : zs.length ≤ 100000) (hv : ∀ j, j < zs.length → 0 ≤ ix zs j ∧ ix zs j ≤ 1114111) (h0 : 40 ≤ size) (h1 : size ≤ 4000) :
    Calls Tryd.prog 20 #[.slice A zs.length c, .agg #[.int .i64 size, .bool bold, .bool fixed]] w fun e w' => e = .returned (.tuple #[.int .i64 (wid size bold fixed (ix zs) zs.length), .int .i64 0]) ∧ Below w.heap.size w w' := by
  have Hv := hide hv
  have Ht := hide ht
  clear hv ht
  have hb0 := Blk.new w 46 #[.int .i64 size, .bool bold, .bool fixed]
  have hbel0 : Below w.heap.size w (w.alloc (.cells #[.int .i64 size, .bool bold, .bool fixed] 46)) := (Below.refl _ _).alloc (Nat.le_refl _) _
  go_enter Tryd.func20, Tryd.ntmps20
  go_wp2_with fail
  generalize w.alloc (.cells #[.int .i64 size, .bool bold, .bool fixed] 46) = w0 at *
  refine (check_ok size bold fixed w0 h0 h1).mono ?_
  rintro e w1 ⟨rfl, hbel1⟩
  have hb1 := hb0.below hbel1 hb0.lt
  have hbelA := hbel0.trans (hbel1.mono hbel0.size)
  clear hbel0 hbel1 hb0
  go_wp2_with fail
  refine (checkText_ok A c zs w1 (hr.below hbelA) hl Hv.out).mono ?_
  rintro e w2 ⟨rfl, rfl⟩
  go_wp2_with fail
  go_loopw [8, 23] (fun a i wr => ∃ k : Nat, k ≤ zs.length ∧ i = .int .i64 k ∧ a = .int .i64 (wid size bold fixed (ix zs) k) ∧ Below w1.heap.size w1 wr) (fun _ i _ => zs.length - (intOf i).toNat)
  case atStart => exact ⟨0, by omega, rfl, rfl, Below.refl _ _⟩
  case round =>
    obtain ⟨k, hk, rfl, rfl, hbl⟩ := hrel
    have hbd := wid_bd bold fixed (ix zs) h0 h1 k
    have hbr := hb1.below hbl hb1.lt
    have c0 : wr.cell? ⟨w.heap.size, 0, none⟩ = some (.int .i64 size) := hbr.cell 0
    have c1 : wr.cell? ⟨w.heap.size, 1, none⟩ = some (.bool bold) := hbr.cell 1
    have c2 : wr.cell? ⟨w.heap.size, 2, none⟩ = some (.bool fixed) := hbr.cell 2
    by_cases hlt : k < zs.length
    · have hrr := hr.below (hbelA.trans (hbl.mono hbelA.size))
      obtain ⟨b, off, rfl, hc⟩ := hrr.at_ hlt
      have hav := adv_bd bold fixed (ix zs k) h0 h1
      have hkn := krn_bd fixed (ix zs (k - 1)) (ix zs k) h0 h1
      have hs : wid size bold fixed (ix zs) (k + 1) = wid size bold fixed (ix zs) k + adv size bold fixed (ix zs k) + (if k = 0 then 0 else krn size fixed (ix zs (k - 1)) (ix zs k)) := rfl
      have had := fun wx htx => advance_ok (ix zs k) size bold fixed wx htx h0 h1
      have htr := Ht.out.below (hbelA.trans (hbl.mono hbelA.size))
      generalize wid size bold fixed (ix zs) k = W0 at *
      generalize hW1 : wid size bold fixed (ix zs) (k + 1) = W1 at *
      generalize adv size bold fixed (ix zs k) = av at *
      have HW1 := hide hW1
      have Had := hide had
      have Htr := hide htr
      clear hW1 had htr
      by_cases hk0 : k = 0
      · rw [if_pos hk0] at hs
        have Hs := hide hs
        subst hk0
        simp only [Nat.add_zero] at hc
        clear hs
        go_wp2_with fail
        refine (Had.out _ Htr.out).mono ?_
        rintro e w3 ⟨rfl, hbel3⟩
        go_wp2_with fail
        go_roundw
        case rel => exact ⟨1, by omega, by go_num, val_int (by rw [HW1.out, Hs.out]; omega), hbl.trans (hbel3.mono hbl.size)⟩
        case measure => simp [intOf]; omega
      · rw [if_neg hk0] at hs
        have hd0 : (0 : Int) < (k : Int) := by omega
        have hkn0 := fun wx => kern_ok (ix zs (k - 1)) (ix zs k) size bold fixed wx h0 h1
        generalize krn size fixed (ix zs (k - 1)) (ix zs k) = kn at *
        have Hs := hide hs
        have Hkn := hide hkn0
        have hcp := hrr.get (show k - 1 < zs.length by omega)
        clear hs hkn0
        go_wp2_with fail
        refine (Had.out _ Htr.out).mono ?_
        rintro e w3 ⟨rfl, hbel3⟩
        have hb3 := hbr.below hbel3 hbr.lt
        have d0 : w3.cell? ⟨w.heap.size, 0, none⟩ = some (.int .i64 size) := hb3.cell 0
        have d1 : w3.cell? ⟨w.heap.size, 1, none⟩ = some (.bool bold) := hb3.cell 1
        have d2 : w3.cell? ⟨w.heap.size, 2, none⟩ = some (.bool fixed) := hb3.cell 2
        have dp : w3.cell? ⟨b, off + (k - 1), none⟩ = some (.int .i64 (ix zs (k - 1))) := (hbel3.cell (World.block_lt_of_cell? wr _ hcp)).trans hcp
        have lp := World.block_lt_of_cell? w3 _ dp
        have lb := hb3.lt
        clear c0 c1 c2 hc hcp
        go_wp2_with fail
        have s1 : IntKind.i64.wrap ((k : Int) - 1) = (k : Int) - 1 := IntWalk.i64_in _ (by omega)
        have s2 : (0 : Int) ≤ (k : Int) - 1 := by omega
        have s3 : ((k : Int) - 1).toNat = k - 1 := by omega
        have s4 : (k : Int) - 1 < (zs.length : Int) := by omega
        have s6 : (1 : Int) ≤ (k : Int) := by omega
        have s7 : (k : Int) ≤ (zs.length : Int) := by omega
        have s8 : (k : Int) < (zs.length : Int) + 1 := by omega
        have s5 : IntKind.i64.wrap (W0 + av + kn) = W0 + av + kn := IntWalk.i64_in _ (by omega)
        go_region_held3 (fun w' => w'.cell? ⟨w.heap.size, 0, none⟩ = some (.int .i64 size) ∧ w'.cell? ⟨w.heap.size, 1, none⟩ = some (.bool bold) ∧ w'.cell? ⟨w.heap.size, 2, none⟩ = some (.bool fixed) ∧ w'.cell? ⟨b, off + (k - 1), none⟩ = some (.int .i64 (ix zs (k - 1))))
          (first
            | go_keep
            | exact ⟨(hbel8.cell (p := ⟨w.heap.size, 0, none⟩) lb).trans d0, (hbel8.cell (p := ⟨w.heap.size, 1, none⟩) lb).trans d1, (hbel8.cell (p := ⟨w.heap.size, 2, none⟩) lb).trans d2, (hbel8.cell (p := ⟨b, off + (k - 1), none⟩) lp).trans dp⟩)
          ((go_at_call 38; refine (Hkn.out _).mono ?_; rintro e w8 ⟨rfl, hbel8⟩))
        clear s1 s2 s3 s4 s5 s6 s7 s8
        go_wp2_with fail
        go_roundw
        case rel => exact ⟨k + 1, by omega, by go_num, val_int (by rw [HW1.out, Hs.out]), (hbl.trans (hbel3.mono hbl.size)).drew.trans (hbel8.mono (by have := hbl.size; have := hbel3.size; show _ ≤ w3.heap.size; omega))⟩
        case measure => simp [intOf]; omega
    · have : k = zs.length := by omega
      subst this
      go_wp2_with fail
      go_ret2
      exact ⟨rfl, hbelA.trans (hbl.mono hbelA.size)⟩
end Go.Proofs.YtdhhkcboejhoaaaDoor.Mtr
