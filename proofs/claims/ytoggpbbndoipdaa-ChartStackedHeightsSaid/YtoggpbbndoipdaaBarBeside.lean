/- The contracts of chart.maker's methods beside and stacked. -/
import Derived.Test.YtoggpbbndoipdaaBarAdd
namespace Go.Proofs.Ytoggpbbndoipdaa.Chr
open Go.RowKit Go.Frm Scl

/-- the series lie below the maker, and read as before -/
structure Env (w00 : World) (M : Nat) (As : Option Addr) (m : Nat) (rows : Nat → List Int) (w : World) : Prop where
  rd : RdM w00 As m rows
  low : w00.heap.size ≤ M
  bel : Below w00.heap.size w00 w
section
variable {w00 w wx : World} {M m : Nat} {As : Option Addr} {rows : Nat → List Int}
theorem Env.near (h : Env w00 M As m rows w) (hn : Near M (M + 1) w wx) : Env w00 M As m rows wx := ⟨h.rd, h.low, h.bel.trans (hn.below h.low (Nat.le_trans h.low (Nat.le_succ M)))⟩
theorem Env.get (h : Env w00 M As m rows w) {s i : Nat} (hs : s < m) (hi : i < (rows s).length) : ∃ b off Ai ci b2 off2, As = some ⟨b, off, none⟩ ∧ Ai = some ⟨b2, off2, none⟩ ∧ b < M ∧ b2 < M ∧
    w.cell? ⟨b, off + s, none⟩ = some (.slice Ai (rows s).length ci) ∧ w.cell? ⟨b2, off2 + i, none⟩ = some (.int .i64 (ix (rows s) i)) := by
  obtain ⟨b, off, Ai, ci, h1, h2, h3⟩ := h.rd.at_ hs
  obtain ⟨b2, off2, h4, h5⟩ := h3.at_ hi
  have l1 := World.block_lt_of_cell? w00 _ h2
  have l2 := World.block_lt_of_cell? w00 _ h5
  refine ⟨b, off, Ai, ci, b2, off2, h1, h4, Nat.lt_of_lt_of_le l1 h.low, Nat.lt_of_lt_of_le l2 h.low, ?_, ?_⟩
  · rw [h.bel.cell l1]; exact h2
  · rw [h.bel.cell l2]; exact h5
end
theorem Fr.cell {M : Nat} {w w' : World} (h : Fr M w w') {p : Addr} (hp : p.block < M) : w'.cell? p = w.cell? p := (h.near.below (B := M) (Nat.le_refl _) (Nat.le_succ M)).cell hp
theorem Mk.drewN {w : World} {M : Nat} {kind : Int} {An As : Option Addr} {n cn m cs : Nat} {lo hi st high : Int} {t : Nat} {xs : List Value} {v : Value} (h : Mk w M kind An As n cn m cs lo hi st high t xs v) (d : Nat) :
    Mk (w.drewN d) M kind An As n cn m cs lo hi st high t xs v := ⟨h.blk, h.own⟩
theorem Mk.below {w w' : World} {M : Nat} {kind : Int} {An As : Option Addr} {n cn m cs : Nat} {lo hi st high : Int} {t : Nat} {xs : List Value} {v : Value} (h : Mk w M kind An As n cn m cs lo hi st high t xs v) (hb : Below w.heap.size w w') :
    Mk w' M kind An As n cn m cs lo hi st high t xs v := ⟨h.blk.below hb h.blk.lt, own_below h.own hb⟩

theorem edg_bd {long : Int} {n k : Nat} (h0 : 0 ≤ long) (hn : 1 ≤ n) (hk : k ≤ n) : 0 ≤ edg long n k ∧ edg long n k ≤ long := by
  have h1 := edg_mono h0 n (show 0 ≤ k by omega)
  have h2 := edg_mono h0 n hk
  rw [edg_zero] at h1
  rw [edg_end _ hn] at h2
  exact ⟨h1, h2⟩

set_option maxRecDepth 100000 in
set_option maxHeartbeats 4000000 in
theorem beside_ok (b : BarIn) (h : BarOk b) (k0 : b.kind = 0) (An As : Option Addr) (cn cs : Nat) (st : Int) (rows : Nat → List Int) (M i : Nat) (v : Value) (w00 w : World) (he : Env w00 M As b.m rows w) (hlen : ∀ s, s < b.m → (rows s).length = b.n)
    (hV : ∀ s i, ix (rows s) i = b.V s i) (hsc : Sc b.lo b.hi st) (hi : i < b.n) (hmk : Mk w M b.kind An As b.n cn b.m cs b.lo b.hi st b.high (i * b.m) (rowF (i * b.m) 6 b.fb) v) :
    Calls Try.prog 17 #[.pointer (some ⟨M, 0, none⟩), .int .i64 (i : Int), .int .i64 (b.x i), .int .i64 (b.wd i)] w
      (BarPost M b.kind An As b.n cn b.m cs b.lo b.hi st b.high (i * b.m + b.m) (rowF (i * b.m + b.m) 6 b.fb) w) := by
  have hm1 := h.m1
  have hm4 := h.m4
  have hn2 := h.n2
  have hw0 := h.wd0 i
  have hx0 := h.x_bd (show i ≤ b.n by omega)
  have hx1 := h.x_bd (show i + 1 ≤ b.n by omega)
  have hwx : b.wd i = b.x (i + 1) - b.x i := rfl
  have hwd := h.w1
  have hmul : i * b.m ≤ 6 * 4 := Nat.mul_le_mul (by omega) hm4
  have hrow : ∀ k, k < b.m → rowF (i * b.m + k) 6 b.fb ++ [.int .i64 (k : Int), .int .i64 (i : Int), .int .i64 (b.x i + edg (b.wd i) (2 * b.m + 2) (2 * k + 1)), .int .i64 (min (b.high - plc b.lo b.hi b.high (zer b.lo b.hi)) (b.high - plc b.lo b.hi b.high (b.V k i))), .int .i64 (edg (b.wd i) (2 * b.m + 2) (2 * k + 3) - edg (b.wd i) (2 * b.m + 2) (2 * k + 1)),
      .int .i64 (max (b.high - plc b.lo b.hi b.high (zer b.lo b.hi)) (b.high - plc b.lo b.hi b.high (b.V k i)) - min (b.high - plc b.lo b.hi b.high (zer b.lo b.hi)) (b.high - plc b.lo b.hi b.high (b.V k i)))] = rowF (i * b.m + k + 1) 6 b.fb := fun k hk => by
    have e1 : b.from_ i k = zer b.lo b.hi := by unfold BarIn.from_; rw [if_pos k0]
    have e2 : b.to_ i k = b.V k i := by unfold BarIn.to_; rw [if_neg (by omega)]
    rw [b.row_bar i hk]
    unfold BarIn.bX BarIn.bW BarIn.bY BarIn.bH BarIn.yy
    rw [if_pos k0, if_pos k0, e1, e2]
  have Hrow := hide hrow
  have hft : ∀ k, k < b.m → (b.lo ≤ zer b.lo b.hi ∧ zer b.lo b.hi ≤ b.hi) ∧ b.lo ≤ b.V k i ∧ b.V k i ≤ b.hi := fun k hk => by
    have e1 : b.from_ i k = zer b.lo b.hi := by unfold BarIn.from_; rw [if_pos k0]
    have e2 : b.to_ i k = b.V k i := by unfold BarIn.to_; rw [if_neg (by omega)]
    have := h.ft hi hk
    rw [e1, e2] at this
    exact this
  have Hft := hide hft
  have hed : ∀ k, k ≤ 2 * b.m + 2 → 0 ≤ edg (b.wd i) (2 * b.m + 2) k ∧ edg (b.wd i) (2 * b.m + 2) k ≤ b.wd i := fun k hk => edg_bd hw0 (by omega) hk
  have Hed := hide hed
  have Hlen := hide hlen
  have HV := hide hV
  have Hsc := hide hsc
  have hlt := h.lt
  have hh0 := h.h0
  have hh1 := h.h1
  have K0 := hide k0
  have c2 : w.cell? ⟨M, 2, none⟩ = some (.slice As b.m cs) := hmk.blk.cell 2
  have hM := hmk.blk.lt
  have hwl : b.wd i ≤ 100000 := by omega
  clear hrow hft hed hlen hV hsc k0 hwx
  go_enter Try.func17, Try.ntmps17
  go_wp2_with fail
  refine (edges_ok (b.wd i) (2 * b.m + 2) w (by omega) (by omega) hw0 hwl).mono ?_
  rintro e w1 ⟨g, rfl, hE, hbel1⟩
  have hmk1 := hmk.below hbel1
  have hfr1 := (Fr.refl M w).below hM hbel1
  have he1 := he.near hfr1.near
  have c2 : w1.cell? ⟨M, 2, none⟩ = some (.slice As b.m cs) := hmk1.blk.cell 2
  clear hmk he hbel1
  go_wp2_with fail
  go_loopw [29] (fun a wr => ∃ (k : Nat) (u : Value), k ≤ b.m ∧ a = .int .i64 k ∧ Mk wr M b.kind An As b.n cn b.m cs b.lo b.hi st b.high (i * b.m + k) (rowF (i * b.m + k) 6 b.fb) u ∧ Fr M w1 wr) (fun a _ => b.m - (intOf a).toNat)
  case atStart => exact ⟨0, v, by omega, rfl, hmk1, Fr.refl _ _⟩
  case round =>
    clear hmk1
    obtain ⟨k, u, hk, rfl, hmk, hfr⟩ := hrel
    by_cases hlt2 : k < b.m
    · obtain ⟨b1, off, Ai, ci, b2, off2, rfl, rfl, l1, l2, d0, d1⟩ := (he1.near hfr.near).get hlt2 (show i < _ by rw [Hlen.out k hlt2]; exact hi)
      rw [Hlen.out k hlt2] at d0
      rw [HV.out] at d1
      have hE2 := hfr.own _ _ _ _ _ _ (by decide) (by decide) hE
      have e1 := own_cell hE2 (show 2 * k + 1 < 2 * b.m + 2 + 1 by omega)
      have e3 := own_cell hE2 (show 2 * k + 3 < 2 * b.m + 2 + 1 by omega)
      have b1' := Hed.out (2 * k + 1) (by omega)
      have b3' := Hed.out (2 * k + 3) (by omega)
      obtain ⟨⟨f0, f1⟩, f2, f3⟩ := Hft.out k hlt2
      have hrw := Hrow.out k hlt2
      generalize edg (b.wd i) (2 * b.m + 2) (2 * k + 1) = E1 at *
      generalize edg (b.wd i) (2 * b.m + 2) (2 * k + 3) = E3 at *
      have Hrw := hide hrw
      clear hrw
      go_wp2_with fail
      go_quiet (fail)
      go_wp2_with fail
      have hmkq := hmk.drewN nq
      have hfrq := hfr.drewN nq
      change (wr.drewN nq).cell? _ = _ at d1
      generalize wr.drewN nq = wq at *
      have hz := fun wx (hbx : Blk wx M 56 (mkC b.kind An (some ⟨b1, off, none⟩) b.n cn b.m cs b.lo b.hi st b.high u)) => zero_ok M b.kind An _ b.n cn b.m cs b.lo b.hi st b.high u wx hbx hlt
      have hbar := fun wx (hmx : Mk wx M b.kind An (some ⟨b1, off, none⟩) b.n cn b.m cs b.lo b.hi st b.high (i * b.m + k) (rowF (i * b.m + k) 6 b.fb) u) => bar_ok M b.kind An _ b.n cn b.m cs b.lo b.hi st b.high (k : Int) (i : Int) (zer b.lo b.hi) (b.V k i) (b.x i + E1) (E3 - E1) (i * b.m + k) _ u wx hmx (by omega) Hsc.out (by omega) hh1 f0 f1 f2 f3
      have Hz := hide hz
      have Hbar := hide hbar
      have Hmk := hide hmkq
      clear hz hbar hmk hfr e1 e3 d0
      have s1 : IntKind.i64.wrap (b.x i + E1) = b.x i + E1 := IntWalk.i64_in _ (by omega)
      have s2 : IntKind.i64.wrap (E3 - E1) = E3 - E1 := IntWalk.i64_in _ (by omega)
      go_region_held3 (fun w' => w'.cell? ⟨b2, off2 + i, none⟩ = some (.int .i64 (b.V k i)))
        (first
          | go_keep
          | (rw [hfr8.cell l2]; assumption))
        ((first
          | (go_at_call 21; refine (Hz.out _ (by exact Hmk.out.blk)).mono ?_; rintro e w7 ⟨rfl, d7, rfl⟩)
          | (go_at_call 20; refine (Hbar.out _ (by exact ⟨Hmk.out.blk, Hmk.out.own⟩)).mono ?_; rintro e w8 ⟨u8, rfl, hmk8, hfr8⟩)))
      go_wp2_with fail
      go_roundw
      case rel => exact ⟨k + 1, u8, by omega, by go_num, by rw [show i * b.m + (k + 1) = i * b.m + k + 1 from rfl, ← Hrw.out]; exact hmk8, (hfrq.drewN (1 + d7)).trans hfr8⟩
      case measure => simp [intOf]; omega
    · obtain rfl : k = b.m := by omega
      go_wp2_with fail
      refine bodyPost_end (results_none rfl _ _ _) rfl ?_
      exact ⟨_, rfl, hmk, hfr1.trans hfr⟩

set_option maxRecDepth 100000 in
set_option maxHeartbeats 4000000 in
theorem stacked_ok (b : BarIn) (h : BarOk b) (k0 : b.kind = 1) (An As : Option Addr) (cn cs : Nat) (st : Int) (rows : Nat → List Int) (M i : Nat) (v : Value) (w00 w : World) (he : Env w00 M As b.m rows w) (hlen : ∀ s, s < b.m → (rows s).length = b.n)
    (hV : ∀ s i, ix (rows s) i = b.V s i) (hsc : Sc b.lo b.hi st) (hi : i < b.n) (hmk : Mk w M b.kind An As b.n cn b.m cs b.lo b.hi st b.high (i * b.m) (rowF (i * b.m) 6 b.fb) v) :
    Calls Try.prog 18 #[.pointer (some ⟨M, 0, none⟩), .int .i64 (i : Int), .int .i64 (b.x i), .int .i64 (b.wd i)] w
      (BarPost M b.kind An As b.n cn b.m cs b.lo b.hi st b.high (i * b.m + b.m) (rowF (i * b.m + b.m) 6 b.fb) w) := by
  have hm1 := h.m1
  have hm4 := h.m4
  have hn2 := h.n2
  have hw0 := h.wd0 i
  have hx0 := h.x_bd (show i ≤ b.n by omega)
  have hx1 := h.x_bd (show i + 1 ≤ b.n by omega)
  have hwx : b.wd i = b.x (i + 1) - b.x i := rfl
  have hwd := h.w1
  have hmul : i * b.m ≤ 6 * 4 := Nat.mul_le_mul (by omega) hm4
  have hrow : ∀ k, k < b.m → rowF (i * b.m + k) 6 b.fb ++ [.int .i64 (k : Int), .int .i64 (i : Int), .int .i64 (b.x i + edg (b.wd i) 4 1), .int .i64 (min (b.high - plc b.lo b.hi b.high (b.sm i k)) (b.high - plc b.lo b.hi b.high (b.sm i k + b.V k i))), .int .i64 (edg (b.wd i) 4 3 - edg (b.wd i) 4 1),
      .int .i64 (max (b.high - plc b.lo b.hi b.high (b.sm i k)) (b.high - plc b.lo b.hi b.high (b.sm i k + b.V k i)) - min (b.high - plc b.lo b.hi b.high (b.sm i k)) (b.high - plc b.lo b.hi b.high (b.sm i k + b.V k i)))] = rowF (i * b.m + k + 1) 6 b.fb := fun k hk => by
    have e1 : b.from_ i k = b.sm i k := by unfold BarIn.from_; rw [if_neg (by omega), if_pos k0]
    have e2 : b.to_ i k = b.sm i k + b.V k i := by unfold BarIn.to_; rw [if_pos k0]; unfold BarIn.sm; simp only [fsum_succ]; omega
    rw [b.row_bar i hk]
    unfold BarIn.bX BarIn.bW BarIn.bY BarIn.bH BarIn.yy
    rw [if_neg (by omega), if_pos k0, if_neg (by omega), if_pos k0, e1, e2]
  have Hrow := hide hrow
  have hft : ∀ k, k < b.m → (b.lo ≤ b.sm i k ∧ b.sm i k ≤ b.hi) ∧ (b.lo ≤ b.sm i k + b.V k i ∧ b.sm i k + b.V k i ≤ b.hi) ∧ 0 ≤ b.sm i k ∧ b.sm i (k + 1) = b.sm i k + b.V k i ∧ 0 ≤ b.V k i ∧ b.V k i ≤ 1000 ∧ b.sm i k ≤ 4000 := fun k hk => by
    have h1 := h.sm_bd hi k0 (show k ≤ b.m by omega)
    have h2 := h.sm_bd hi k0 (show k + 1 ≤ b.m by omega)
    have e2 : b.sm i (k + 1) = b.sm i k + b.V k i := by unfold BarIn.sm; simp only [fsum_succ]; omega
    have h3 := h.V k i hk hi
    have h4 : fsum (fun s => b.V s i) k ≤ k * 1000 := by rw [← fsum_const]; exact fsum_le fun s hs => (h.V s i (by omega) hi).2.1
    rw [e2] at h2
    have h5 := h3.2.2 k0
    refine ⟨⟨by omega, by omega⟩, ⟨by omega, by omega⟩, by omega, e2, by omega, by omega, by omega⟩
  have Hft := hide hft
  have b1' := edg_bd hw0 (show 1 ≤ 4 by omega) (show 1 ≤ 4 by omega)
  have b3' := edg_bd hw0 (show 1 ≤ 4 by omega) (show 3 ≤ 4 by omega)
  have hz0 : zer b.lo b.hi = b.sm i 0 := by unfold BarIn.sm; simp [fsum]
  have Hz0 := hide hz0
  have Hlen := hide hlen
  have HV := hide hV
  have Hsc := hide hsc
  have hlt := h.lt
  have hh0 := h.h0
  have hh1 := h.h1
  have K0 := hide k0
  have c2 : w.cell? ⟨M, 2, none⟩ = some (.slice As b.m cs) := hmk.blk.cell 2
  have hM := hmk.blk.lt
  have hwl : b.wd i ≤ 100000 := by omega
  clear hrow hft hlen hV hsc k0 hwx hz0
  go_enter Try.func18, Try.ntmps18
  go_wp2_with fail
  refine (edges_ok (b.wd i) 4 w (by omega) (by omega) hw0 hwl).mono ?_
  rintro e w1 ⟨g, rfl, hE, hbel1⟩
  have hmk1 := hmk.below hbel1
  have hfr1 := (Fr.refl M w).below hM hbel1
  have he1 := he.near hfr1.near
  clear hmk he hbel1
  go_wp2_with fail
  refine (zero_ok M b.kind An As b.n cn b.m cs b.lo b.hi st b.high v w1 hmk1.blk hlt).mono ?_
  rintro e w2 ⟨rfl, d2, rfl⟩
  have hmk2 := hmk1.drewN d2
  have hfr2 := hfr1.drewN d2
  have he2 : Env w00 M As b.m rows (w1.drewN d2) := ⟨he1.rd, he1.low, below_drewN he1.bel d2⟩
  change (w1.drewN d2).ownsRow _ _ _ _ _ _ at hE
  generalize w1.drewN d2 = w2 at *
  have c2 : w2.cell? ⟨M, 2, none⟩ = some (.slice As b.m cs) := hmk2.blk.cell 2
  rw [Hz0.out]
  clear hmk1 hfr1 he1
  go_wp2_with fail
  go_loopw [9, 22] (fun q a wr => ∃ (k : Nat) (u : Value), k ≤ b.m ∧ a = .int .i64 k ∧ q = .int .i64 (b.sm i k) ∧ Mk wr M b.kind An As b.n cn b.m cs b.lo b.hi st b.high (i * b.m + k) (rowF (i * b.m + k) 6 b.fb) u ∧ Fr M w2 wr) (fun _ a _ => b.m - (intOf a).toNat)
  case atStart => exact ⟨0, v, by omega, rfl, rfl, hmk2, Fr.refl _ _⟩
  case round =>
    clear hmk2
    obtain ⟨k, u, hk, rfl, rfl, hmk, hfr⟩ := hrel
    by_cases hlt2 : k < b.m
    · obtain ⟨b1, off, Ai, ci, b2, off2, rfl, rfl, l1, l2, d0, d1⟩ := (he2.near hfr.near).get hlt2 (show i < _ by rw [Hlen.out k hlt2]; exact hi)
      rw [Hlen.out k hlt2] at d0
      rw [HV.out] at d1
      have hE2 := hfr.own _ _ _ _ _ _ (by decide) (by decide) hE
      have e1 := own_cell hE2 (show 1 < 4 + 1 by omega)
      have e3 := own_cell hE2 (show 3 < 4 + 1 by omega)
      obtain ⟨⟨f0, f1⟩, ⟨f2, f3⟩, f4, f5, f6, f7, f8⟩ := Hft.out k hlt2
      have hrw := Hrow.out k hlt2
      generalize hE1 : edg (b.wd i) 4 1 = E1 at *
      generalize hE3 : edg (b.wd i) 4 3 = E3 at *
      have HE1 := hide hE1
      have HE3 := hide hE3
      clear hE1 hE3
      have Hrw := hide hrw
      have F5 := hide f5
      clear hrw f5
      go_wp2_with fail
      have hbar := fun wx (hmx : Mk wx M b.kind An (some ⟨b1, off, none⟩) b.n cn b.m cs b.lo b.hi st b.high (i * b.m + k) (rowF (i * b.m + k) 6 b.fb) u) => bar_ok M b.kind An _ b.n cn b.m cs b.lo b.hi st b.high (k : Int) (i : Int) (b.sm i k) (b.sm i k + b.V k i) (b.x i + E1) (E3 - E1) (i * b.m + k) _ u wx hmx (by omega) Hsc.out (by omega) hh1 f0 f1 f2 f3
      have Hbar := hide hbar
      have Hmk := hide hmk
      clear hbar hmk d0
      have s1 : IntKind.i64.wrap (b.x i + E1) = b.x i + E1 := IntWalk.i64_in _ (by omega)
      have s2 : IntKind.i64.wrap (E3 - E1) = E3 - E1 := IntWalk.i64_in _ (by omega)
      have s3 : IntKind.i64.wrap (b.sm i k + b.V k i) = b.sm i k + b.V k i := IntWalk.i64_in _ (by omega)
      go_region_held3 (fun w' => w'.cell? ⟨b2, off2 + i, none⟩ = some (.int .i64 (b.V k i)) ∧ w'.cell? ⟨g, 1, none⟩ = some (.int .i64 E1) ∧ w'.cell? ⟨g, 3, none⟩ = some (.int .i64 E3))
        (first
          | go_keep
          | (exact ⟨by rw [hfr8.cell l2]; assumption, (own_cell hE8 (by omega)).trans (by rw [HE1.out]), (own_cell hE8 (by omega)).trans (by rw [HE3.out])⟩))
        ((go_at_call 20; refine (Hbar.out _ (by exact ⟨Hmk.out.blk, Hmk.out.own⟩)).mono ?_; rintro e w8 ⟨u8, rfl, hmk8, hfr8⟩; have hE8 := hfr8.own _ _ _ _ _ _ (by decide) (by decide) hE2))
      have d8 := (hfr8.cell (p := ⟨b2, off2 + i, none⟩) l2).trans d1
      go_wp2_with fail
      go_roundw
      case rel => exact ⟨k + 1, u8, by omega, by go_num, val_int F5.out.symm, by rw [show i * b.m + (k + 1) = i * b.m + k + 1 from rfl, ← Hrw.out]; exact hmk8, (hfr.drewN 1).trans hfr8⟩
      case measure => simp [intOf]; omega
    · obtain rfl : k = b.m := by omega
      go_wp2_with fail
      refine bodyPost_end (results_none rfl _ _ _) rfl ?_
      exact ⟨_, rfl, hmk, hfr2.trans hfr⟩
end Go.Proofs.Ytoggpbbndoipdaa.Chr
