/- slices.ContainsFunc on effects: whether an item appears or disappears; what later clicks do not change. -/
import Derived.Test.YtlipdhoeklgdoaaTlFind
namespace Go.Proofs.Ytlipdhoeklgdoaa.Tl
open Go.RowKit Go.Frm

set_option maxRecDepth 100000 in
set_option maxHeartbeats 1000000 in
theorem appears_ok (F : Nat → Nat → Int) (i : Nat) (item : Int) (B : Nat) (w : World) (hc : w.cell? ⟨B, 0, none⟩ = some (.int .i64 item)) :
    Calls Try.prog 21 #[.agg #[.int .i64 (F i 0), .int .i64 (F i 1), .int .i64 (F i 2), .int .i64 (F i 3), .int .i64 (F i 4), .int .i64 (F i 5), .int .i64 (F i 6)], .pointer (some ⟨B, 0, none⟩)] w fun e w' => e = .returned (.bool (F i 0 == item && F i 1 != 2)) ∧ Below w.heap.size w w' := by
  have hB := World.block_lt_of_cell? w _ hc
  have hB2 : B < w.heap.size := hB
  by_cases h0 : F i 0 = item
  · have d0 : (F i 0 == item) = true := by simpa using h0
    rw [d0]
    clear h0
    by_cases h1 : F i 1 = 2
    · have d1 : (F i 1 != 2) = false := by simpa using h1
      rw [d1]
      clear h1
      go_enter Try.func21, Try.ntmps21
      go_wp2_with fail
      go_ret
      exact ⟨rfl, (Below.refl _ _).alloc (Nat.le_refl _) _⟩
    · have d1 : (F i 1 != 2) = true := by simpa using h1
      rw [d1]
      clear h1
      go_enter Try.func21, Try.ntmps21
      go_wp2_with fail
      go_ret
      exact ⟨rfl, (Below.refl _ _).alloc (Nat.le_refl _) _⟩
  · have d0 : (F i 0 == item) = false := by simpa using h0
    rw [d0]
    clear h0
    go_enter Try.func21, Try.ntmps21
    go_wp2_with fail
    go_ret
    exact ⟨rfl, (Below.refl _ _).alloc (Nat.le_refl _) _⟩

/-- the first effect that makes the item appear or disappear, or -1 -/
def AppAt (F : Nat → Nat → Int) (n : Nat) (z r : Int) : Prop := (0 ≤ r ∧ kn F z n = true) ∨ (r = -1 ∧ kn F z n = false)
theorem kn_le {F : Nat → Nat → Int} {z : Int} {i n : Nat} (h : i ≤ n) (hk : kn F z i = true) : kn F z n = true := by
  induction n with
  | zero => obtain rfl : i = 0 := by omega
            exact hk
  | succ n ih =>
    rcases Nat.lt_or_ge i (n + 1) with h1 | h1
    · simp [kn, ih (by omega)]
    · obtain rfl : i = n + 1 := by omega
      exact hk

set_option maxRecDepth 100000 in
set_option maxHeartbeats 2000000 in
theorem indexE_ok (A : Option Addr) (n c : Nat) (F : Nat → Nat → Int) (item : Int) (B : Nat) (w : World) (hr : RdF w A n 7 (efV F)) (hn : n ≤ 100000) (hc : w.cell? ⟨B, 0, none⟩ = some (.int .i64 item)) :
    Calls Try.prog 32 #[.slice A n c, .func (.func 21) #[] #[.pointer (some ⟨B, 0, none⟩)]] w fun e w' => (∃ r : Int, e = .returned (.int .i64 r) ∧ AppAt F n item r) ∧ Below w.heap.size w w' := by
  have hB := World.block_lt_of_cell? w _ hc
  go_enter Try.func32, Try.ntmps32
  go_wp2_with fail
  go_loopw [8] (fun a wr => ∃ k : Nat, k ≤ n ∧ a = .int .i64 k ∧ Hid (kn F item k = false) ∧ Below w.heap.size w wr) (fun a _ => n - (intOf a).toNat)
  case atStart => exact ⟨0, by omega, rfl, rfl, Below.refl _ _⟩
  case round =>
    obtain ⟨k, hk, rfl, Hno, hbl⟩ := hrel
    by_cases hlt : k < n
    · obtain ⟨b, off, hA, hcells⟩ := (hr.below hbl).at_ hlt
      subst hA
      have k0 : wr.cell? ⟨b, off + k * 7, none⟩ = some (.int .i64 (F k 0)) := hcells 0 (by omega)
      have k1 : wr.cell? ⟨b, off + k * 7 + 1, none⟩ = some (.int .i64 (F k 1)) := hcells 1 (by omega)
      have k2 : wr.cell? ⟨b, off + k * 7 + 2, none⟩ = some (.int .i64 (F k 2)) := hcells 2 (by omega)
      have k3 : wr.cell? ⟨b, off + k * 7 + 3, none⟩ = some (.int .i64 (F k 3)) := hcells 3 (by omega)
      have k4 : wr.cell? ⟨b, off + k * 7 + 4, none⟩ = some (.int .i64 (F k 4)) := hcells 4 (by omega)
      have k5 : wr.cell? ⟨b, off + k * 7 + 5, none⟩ = some (.int .i64 (F k 5)) := hcells 5 (by omega)
      have k6 : wr.cell? ⟨b, off + k * 7 + 6, none⟩ = some (.int .i64 (F k 6)) := hcells 6 (by omega)
      clear hcells
      have hcw : wr.cell? ⟨B, 0, none⟩ = some (.int .i64 item) := (hbl.cell (p := ⟨B, 0, none⟩) hB).trans hc
      have hsm := appears_ok F k item B wr hcw
      have Hnx := hide (show kn F item (k + 1) = (kn F item k || (F k 0 == item && F k 1 != 2)) from rfl)
      cases hq : (F k 0 == item && F k 1 != 2) with
      | true =>
        rw [hq] at hsm
        have Hk1 := hide (show kn F item (k + 1) = true by rw [Hnx.out, hq]; simp)
        have Hsm := hide hsm
        clear hq hsm Hnx
        go_wp2_with fail
        refine Hsm.out.mono ?_
        rintro e w1 ⟨rfl, hb1⟩
        go_wp2_with fail
        go_ret
        exact ⟨⟨_, rfl, .inl ⟨by omega, kn_le (by omega) Hk1.out⟩⟩, hbl.trans (hb1.mono hbl.size)⟩
      | false =>
        rw [hq] at hsm
        have Hk1 := hide (show kn F item (k + 1) = false by rw [Hnx.out, hq, Hno.out]; rfl)
        have Hsm := hide hsm
        clear hq hsm Hnx
        go_wp2_with fail
        refine Hsm.out.mono ?_
        rintro e w1 ⟨rfl, hb1⟩
        go_wp2_with fail
        go_roundw
        case rel => exact ⟨k + 1, by omega, by go_num, Hk1.out, hbl.trans (hb1.mono hbl.size)⟩
        case measure => simp [intOf]; omega
    · obtain rfl : k = n := by omega
      go_wp2_with fail
      go_ret
      exact ⟨⟨_, rfl, .inr ⟨rfl, Hno.out⟩⟩, hbl⟩

set_option maxRecDepth 100000 in
set_option maxHeartbeats 1000000 in
theorem contains_ok (A : Option Addr) (n c : Nat) (F : Nat → Nat → Int) (item : Int) (B : Nat) (w : World) (hr : RdF w A n 7 (efV F)) (hn : n ≤ 100000) (hc : w.cell? ⟨B, 0, none⟩ = some (.int .i64 item)) :
    Calls Try.prog 20 #[.slice A n c, .func (.func 21) #[] #[.pointer (some ⟨B, 0, none⟩)]] w fun e w' => e = .returned (.bool (kn F item n)) ∧ Below w.heap.size w w' := by
  have hi := hide (indexE_ok A n c F item B w hr hn hc)
  clear hr
  go_enter Try.func20, Try.ntmps20
  go_wp2_with fail
  refine hi.out.mono ?_
  rintro e w1 ⟨⟨r, rfl, hr⟩, hb⟩
  clear hi
  rcases hr with ⟨h0, hk⟩ | ⟨rfl, hk⟩
  · have d : decide (r ≥ 0) = true := by simp; omega
    have Hk := hide hk
    clear hk
    go_wp2_with fail
    go_ret
    exact ⟨ret_bool Hk.out.symm, hb⟩
  · have Hk := hide hk
    clear hk
    go_wp2_with fail
    go_ret
    exact ⟨ret_bool Hk.out.symm, hb⟩

/-- effects that have not happened change neither the place nor, once it is known, what is seen -/
theorem xA_stays {F : Nat → Nat → Int} {p : Nat → Int} {j : Nat} {z : Int} {k : Nat} : ∀ n : Nat, k ≤ n → (∀ i, k ≤ i → i < n → p i = 0) → xA F p j z n = xA F p j z k
  | 0, h, _ => by obtain rfl : k = 0 := by omega
                  rfl
  | n + 1, h, hp => by
    rcases Nat.lt_or_ge k (n + 1) with h1 | h1
    · have ih := xA_stays (F := F) (j := j) (z := z) n (by omega) (fun i h2 h3 => hp i h2 (by omega))
      simp only [xA]
      rw [hp n (by omega) (by omega), pt_none, ih]
      simp
    · obtain rfl : k = n + 1 := by omega
      rfl
theorem sn_stays {F : Nat → Nat → Int} {p : Nat → Int} {z : Int} {k : Nat} (hk : kn F z k = true) : ∀ n : Nat, k ≤ n → (∀ i, k ≤ i → i < n → p i = 0) → sn F p z n = sn F p z k
  | 0, h, _ => by obtain rfl : k = 0 := by omega
                  rfl
  | n + 1, h, hp => by
    rcases Nat.lt_or_ge k (n + 1) with h1 | h1
    · have ih := sn_stays hk n (by omega) (fun i h2 h3 => hp i h2 (by omega))
      have h2 := kn_le (n := n) (by omega) hk
      simp only [sn]
      rw [hp n (by omega) (by omega), h2, ih]
      simp
    · obtain rfl : k = n + 1 := by omega
      rfl
end Go.Proofs.Ytlipdhoeklgdoaa.Tl
