/- The contract of chart.Bars. -/
import Derived.Test.YtoggpbbndoipdaaBarBeside
import Derived.Test.YtoggpbbndoipdaaRange
import Derived.Test.YtoggpbbndoipdaaSink
namespace Go.Proofs.Ytoggpbbndoipdaa.Chr
open Go.RowKit Go.Frm Scl

def BarsAll (w : World) (b : BarIn) (e : Ending) (w' : World) : Prop := ∃ A c, e = .returned (.tuple #[.slice A (b.n * b.m) c, .int .i64 0]) ∧
  w'.ownsRow w.heap.size 40 6 (.slice A (b.n * b.m) c) (b.n * b.m) (rowF (b.n * b.m) 6 b.fb) ∧ Below w.heap.size w w'

set_option maxRecDepth 100000 in
set_option maxHeartbeats 4000000 in
theorem barsAll_ok (b : BarIn) (h : BarOk b) (An As : Option Addr) (cn cs : Nat) (st : Int) (rows : Nat → List Int) (w : World) (hch : Ch b.kind b.n b.m rows) (hr : RdM w As b.m rows)
    (hV : ∀ s i, ix (rows s) i = b.V s i) (hsc : Sc b.lo b.hi st) :
    Calls Try.prog 10 #[.agg #[.int .i64 b.kind, .slice An b.n cn, .slice As b.m cs], .agg #[.int .i64 b.lo, .int .i64 b.hi, .int .i64 st], .int .i64 b.width, .int .i64 b.high] w (BarsAll w b) := by
  have hlen := hch.len
  have hVb : ∀ s i, s < b.m → i < b.n → -1000 ≤ ix (rows s) i ∧ ix (rows s) i ≤ 1000 := fun s i hs hi => by rw [hV]; exact ⟨(h.V s i hs hi).1, (h.V s i hs hi).2.1⟩
  have hrlo := h.lo
  have hrhi := h.hi
  have hrg := fun wx hrx => range_ok b.kind An As b.n cn b.m cs rows wx hch h.k h.m4 hVb hrx
  rw [show (fun s i => ix (rows s) i) = b.V from funext fun s => funext fun i => hV s i] at hrg
  generalize (rngR b.kind b.V b.m b.n).1 = rl at *
  generalize (rngR b.kind b.V b.m b.n).2 = rh at *
  have Hrg := hide hrg
  have H := hide h
  have Hlen := hide hlen
  have HV := hide hV
  have Hsc := hide hsc
  have n1 := h.n1
  have n2 := h.n2
  have m1 := h.m1
  have m4 := h.m4
  have hh0 := h.h0
  have hh1 := h.h1
  have hw0 := h.w0
  have hw1 := h.w1
  have hk3 : (b.kind == 3) = false := by rcases h.k with k | k | k <;> rw [k] <;> rfl
  clear hrg h hlen hV hsc hVb hch
  go_enter Try.func10, Try.ntmps10
  go_wp2_with fail
  have hbel0 : Below w.heap.size w ((w.alloc (.cells #[.int .i64 b.kind, .slice An b.n cn, .slice As b.m cs] 25)).alloc (.cells #[.int .i64 b.lo, .int .i64 b.hi, .int .i64 st] 33)) :=
    ((Below.refl _ _).alloc (Nat.le_refl _) _).alloc (by simp) _
  have hb0 : Blk ((w.alloc (.cells #[.int .i64 b.kind, .slice An b.n cn, .slice As b.m cs] 25)).alloc (.cells #[.int .i64 b.lo, .int .i64 b.hi, .int .i64 st] 33)) w.heap.size 25 #[.int .i64 b.kind, .slice An b.n cn, .slice As b.m cs] := (Blk.new w _ _).alloc _
  have hb1 : Blk ((w.alloc (.cells #[.int .i64 b.kind, .slice An b.n cn, .slice As b.m cs] 25)).alloc (.cells #[.int .i64 b.lo, .int .i64 b.hi, .int .i64 st] 33)) (w.heap.size + 1) 33 #[.int .i64 b.lo, .int .i64 b.hi, .int .i64 st] := by
    have := Blk.new (w.alloc (.cells #[.int .i64 b.kind, .slice An b.n cn, .slice As b.m cs] 25)) 33 #[.int .i64 b.lo, .int .i64 b.hi, .int .i64 st]
    simpa using this
  generalize ((w.alloc (.cells #[.int .i64 b.kind, .slice An b.n cn, .slice As b.m cs] 25)).alloc (.cells #[.int .i64 b.lo, .int .i64 b.hi, .int .i64 st] 33)) = w0 at *
  have hr0 := hr.below hbel0
  refine (Hrg.out w0 hr0).mono ?_
  rintro e w1 ⟨rfl, hbel1⟩
  have hb01 := hb0.below hbel1 hb0.lt
  have hb11 := hb1.below hbel1 hb1.lt
  have hr1 := hr0.below hbel1
  have hbelA := hbel0.trans (hbel1.mono hbel0.size)
  have a0 : w1.cell? ⟨w.heap.size + 1, 0, none⟩ = some (.int .i64 b.lo) := hb11.cell 0
  have a1 : w1.cell? ⟨w.heap.size + 1, 1, none⟩ = some (.int .i64 b.hi) := hb11.cell 1
  have a2 : w1.cell? ⟨w.heap.size + 1, 2, none⟩ = some (.int .i64 st) := hb11.cell 2
  clear hr hbel0 hbel1 hb0 hb1 hr0
  go_wp2_with fail
  refine (Scl.check_ok b.lo b.hi st w1 Hsc.out).mono ?_
  rintro e w2 ⟨rfl, hbel2⟩
  have hb02 := hb01.below hbel2 hb01.lt
  have hb12 := hb11.below hbel2 hb11.lt
  have hr2 := hr1.below hbel2
  have hbelB := hbelA.trans (hbel2.mono hbelA.size)
  have a0 : w2.cell? ⟨w.heap.size + 1, 0, none⟩ = some (.int .i64 b.lo) := hb12.cell 0
  have a1 : w2.cell? ⟨w.heap.size + 1, 1, none⟩ = some (.int .i64 b.hi) := hb12.cell 1
  have a2 : w2.cell? ⟨w.heap.size + 1, 2, none⟩ = some (.int .i64 st) := hb12.cell 2
  have c0 : w2.cell? ⟨w.heap.size, 0, none⟩ = some (.int .i64 b.kind) := hb02.cell 0
  have c1 : w2.cell? ⟨w.heap.size, 1, none⟩ = some (.slice An b.n cn) := hb02.cell 1
  have c2 : w2.cell? ⟨w.heap.size, 2, none⟩ = some (.slice As b.m cs) := hb02.cell 2
  have hC := hb02.lt
  have t1 : decide (b.width < 1) = false := by simp; omega
  have t2 : decide (100000 < b.width) = false := by simp; omega
  have t3 : decide (b.high < 1) = false := by simp; omega
  have t4 : decide (100000 < b.high) = false := by simp; omega
  have t5 : decide (rl < b.lo) = false := by simp; omega
  have t6 : decide (b.hi < rh) = false := by simp; omega
  clear hr1 hbelA hbel2 hb01 hb11
  go_wp2_with fail
  have hM : Blk (w2.alloc (.cells #[.int .i64 b.kind, .slice An b.n cn, .slice As b.m cs, .int .i64 b.lo, .int .i64 b.hi, .int .i64 st, .int .i64 b.high, .slice none 0 0] 56)) w2.heap.size 56 (mkC b.kind An As b.n cn b.m cs b.lo b.hi st b.high (.slice none 0 0)) := Blk.new _ _ _
  have henv : Env w2 w2.heap.size As b.m rows (w2.alloc (.cells #[.int .i64 b.kind, .slice An b.n cn, .slice As b.m cs, .int .i64 b.lo, .int .i64 b.hi, .int .i64 st, .int .i64 b.high, .slice none 0 0] 56)) := ⟨hr2, Nat.le_refl _, (Below.refl _ _).alloc (Nat.le_refl _) _⟩
  have hmk : Mk (w2.alloc (.cells #[.int .i64 b.kind, .slice An b.n cn, .slice As b.m cs, .int .i64 b.lo, .int .i64 b.hi, .int .i64 st, .int .i64 b.high, .slice none 0 0] 56)) w2.heap.size b.kind An As b.n cn b.m cs b.lo b.hi st b.high 0 [] (.slice none 0 0) := ⟨hM, World.ownsRow_nil _ _ _ _⟩
  have hbelC := hbelB.alloc hbelB.size (.cells #[.int .i64 b.kind, .slice An b.n cn, .slice As b.m cs, .int .i64 b.lo, .int .i64 b.hi, .int .i64 st, .int .i64 b.high, .slice none 0 0] 56)
  have hb03 := hb02.alloc (.cells #[.int .i64 b.kind, .slice An b.n cn, .slice As b.m cs, .int .i64 b.lo, .int .i64 b.hi, .int .i64 st, .int .i64 b.high, .slice none 0 0] 56)
  generalize w2.alloc (.cells #[.int .i64 b.kind, .slice An b.n cn, .slice As b.m cs, .int .i64 b.lo, .int .i64 b.hi, .int .i64 st, .int .i64 b.high, .slice none 0 0] 56) = w3 at *
  have hCM : w.heap.size < w2.heap.size := hC
  generalize w2.heap.size = M at *
  clear a0 a1 a2 c0 c1 c2 hb02 hb12 hr2 hbelB hC hM
  refine (edges_ok b.width b.n w3 n1 (by omega) (by omega) hw1).mono ?_
  rintro e w4 ⟨g, rfl, hE, hbel4⟩
  have hmk4 := hmk.below hbel4
  have hfr4 := (Fr.refl M w3).below hmk.blk.lt hbel4
  have hE4 := ownsRow_less hE (b' := 0) (by omega)
  have hb4 := hb03.below hbel4 hb03.lt
  have c0 : w4.cell? ⟨w.heap.size, 0, none⟩ = some (.int .i64 b.kind) := hb4.cell 0
  have c1 : w4.cell? ⟨w.heap.size, 1, none⟩ = some (.slice An b.n cn) := hb4.cell 1
  have c2 : w4.cell? ⟨w.heap.size, 2, none⟩ = some (.slice As b.m cs) := hb4.cell 2
  have he4 := henv.near hfr4.near
  have hbelD := hbelC.trans (hbel4.mono hbelC.size)
  clear hbelC hbel4 henv hmk hE hb03
  go_wp2_with fail
  clear c0 c1 c2 t1 t2 t3 t4 t5 t6
  have hrow0 : Mk w4 M b.kind An As b.n cn b.m cs b.lo b.hi st b.high (0 * b.m) (rowF (0 * b.m) 6 b.fb) (.slice none 0 0) := by rw [Nat.zero_mul]; exact hmk4
  clear hmk4
  go_loopw [75] (fun a wr => ∃ (i : Nat) (u : Value), i ≤ b.n ∧ a = .int .i64 i ∧ Mk wr M b.kind An As b.n cn b.m cs b.lo b.hi st b.high (i * b.m) (rowF (i * b.m) 6 b.fb) u ∧ Fr M w4 wr) (fun a _ => b.n - (intOf a).toNat)
  case atStart => exact ⟨0, _, by omega, rfl, hrow0, Fr.refl _ _⟩
  case round =>
    clear hrow0
    obtain ⟨i, u, hi, rfl, hmk, hfr⟩ := hrel
    have hbr : Blk wr w.heap.size 25 #[.int .i64 b.kind, .slice An b.n cn, .slice As b.m cs] := hfr.near.blk hb4 (by omega) (by omega)
    have c0 : wr.cell? ⟨w.heap.size, 0, none⟩ = some (.int .i64 b.kind) := hbr.cell 0
    have c2 : wr.cell? ⟨w.heap.size, 2, none⟩ = some (.slice As b.m cs) := hbr.cell 2
    have he := he4.near hfr.near
    by_cases hlt : i < b.n
    · have hE2 := hfr.own _ _ _ _ _ _ (by decide) (by decide) hE4
      have e0 : wr.cell? ⟨g, i, none⟩ = some (.int .i64 (b.x i)) := own_cell hE2 (show i < b.n + 1 by omega)
      have e1 : wr.cell? ⟨g, i + 1, none⟩ = some (.int .i64 (b.x (i + 1))) := own_cell hE2 (show i + 1 < b.n + 1 by omega)
      have x0 := H.out.x_bd (show i ≤ b.n by omega)
      have x1 := H.out.x_bd (show i + 1 ≤ b.n by omega)
      have hsucc : (i + 1) * b.m = i * b.m + b.m := Nat.succ_mul _ _
      have Hsucc := hide hsucc
      have hlt' : b.lo < b.hi := H.out.lt
      clear hsucc hi
      have HE2 := hide hE2
      have q1 : IntKind.i64.wrap ((i : Int) + 1) = (i : Int) + 1 := IntWalk.i64_in _ (by omega)
      have q2 : (0 : Int) ≤ (i : Int) + 1 := by omega
      have q3 : ((i : Int) + 1).toNat = i + 1 := by omega
      have q4 : IntKind.i64.wrap (b.x (i + 1) - b.x i) = b.wd i := IntWalk.i64_in _ (by omega)
      have Q4 := hide q4
      have q5 : (0 : Int) ≤ (i : Int) := by omega
      have q6 : (i : Int) < (b.n : Int) + 1 := by omega
      have q7 : (i : Int) + 1 < (b.n : Int) + 1 := by omega
      rcases H.out.k with k0 | k0 | k0
      · have p0 : (b.kind == 0) = true := by rw [k0]; rfl
        have hbe := fun wx (hmx : Mk wx M b.kind An As b.n cn b.m cs b.lo b.hi st b.high (i * b.m) (rowF (i * b.m) 6 b.fb) u) (hex : Env w2 M As b.m rows wx) => beside_ok b H.out k0 An As cn cs st rows M i u w2 wx hex Hlen.out HV.out Hsc.out hlt hmx
        have Hbe := hide hbe
        have Hmk := hide hmk
        clear hbe hmk k0 hE2 q1 q2 q3 q4
        go_wp2_with fail
        have q1 : IntKind.i64.wrap ((i : Int) + 1) = (i : Int) + 1 := IntWalk.i64_in _ (by omega)
        have q2 : (0 : Int) ≤ (i : Int) + 1 := by omega
        have q3 : ((i : Int) + 1).toNat = i + 1 := by omega
        have q4 := Q4.out
        go_region_held3 (fun w' => w'.cell? ⟨g, i, none⟩ = some (.int .i64 (b.x i)) ∧ w'.cell? ⟨g, i + 1, none⟩ = some (.int .i64 (b.x (i + 1))))
          (first
            | go_keep
            | (exact ⟨own_cell hE8 (show i < b.n + 1 by omega), own_cell hE8 (show i + 1 < b.n + 1 by omega)⟩))
          ((go_at_call 17; refine (Hbe.out _ (by exact ⟨Hmk.out.blk, Hmk.out.own⟩) (by exact ⟨he.rd, he.low, below_drewN he.bel 1⟩)).mono ?_; rintro e w8 ⟨u8, rfl, hmk8, hfr8⟩; have hE8 := hfr8.own _ _ _ _ _ _ (by decide) (by decide) HE2.out))
        clear q1 q2 q3 q4
        go_wp2_with fail
        go_roundw
        case rel => exact ⟨i + 1, u8, by omega, by go_num, by rw [Hsucc.out]; exact hmk8, (hfr.drewN 1).trans hfr8⟩
        case measure => simp [intOf]; omega
      · have p0 : (b.kind == 0) = false := by rw [k0]; rfl
        have p1 : (b.kind == 1) = true := by rw [k0]; rfl
        have hbe := fun wx (hmx : Mk wx M b.kind An As b.n cn b.m cs b.lo b.hi st b.high (i * b.m) (rowF (i * b.m) 6 b.fb) u) (hex : Env w2 M As b.m rows wx) => stacked_ok b H.out k0 An As cn cs st rows M i u w2 wx hex Hlen.out HV.out Hsc.out hlt hmx
        have Hbe := hide hbe
        have Hmk := hide hmk
        clear hbe hmk k0 hE2 q1 q2 q3 q4
        go_wp2_with fail
        have q1 : IntKind.i64.wrap ((i : Int) + 1) = (i : Int) + 1 := IntWalk.i64_in _ (by omega)
        have q2 : (0 : Int) ≤ (i : Int) + 1 := by omega
        have q3 : ((i : Int) + 1).toNat = i + 1 := by omega
        have q4 := Q4.out
        go_region_held3 (fun w' => w'.cell? ⟨g, i, none⟩ = some (.int .i64 (b.x i)) ∧ w'.cell? ⟨g, i + 1, none⟩ = some (.int .i64 (b.x (i + 1))))
          (first
            | go_keep
            | (exact ⟨own_cell hE8 (show i < b.n + 1 by omega), own_cell hE8 (show i + 1 < b.n + 1 by omega)⟩))
          ((go_at_call 18; refine (Hbe.out _ (by exact ⟨Hmk.out.blk, Hmk.out.own⟩) (by exact ⟨he.rd, he.low, below_drewN he.bel 1⟩)).mono ?_; rintro e w8 ⟨u8, rfl, hmk8, hfr8⟩; have hE8 := hfr8.own _ _ _ _ _ _ (by decide) (by decide) HE2.out))
        clear q1 q2 q3 q4
        go_wp2_with fail
        go_roundw
        case rel => exact ⟨i + 1, u8, by omega, by go_num, by rw [Hsucc.out]; exact hmk8, (hfr.drewN 1).trans hfr8⟩
        case measure => simp [intOf]; omega
      · have p0 : (b.kind == 0) = false := by rw [k0]; rfl
        have p1 : (b.kind == 1) = false := by rw [k0]; rfl
        clear q1 q2 q3 q4
        have hrow : ∀ k, k < b.m → rowF (i * b.m + k) 6 b.fb ++ [.int .i64 (k : Int), .int .i64 (i : Int), .int .i64 ((b.x i + b.x (i + 1)) / 2), .int .i64 (b.high - plc b.lo b.hi b.high (b.V k i)), .int .i64 0, .int .i64 0] = rowF (i * b.m + k + 1) 6 b.fb := fun k hk => by
          have f1 : b.from_ i k = b.V k i := by unfold BarIn.from_; rw [if_neg (by omega), if_neg (by omega)]
          have f2 : b.to_ i k = b.V k i := by unfold BarIn.to_; rw [if_neg (by omega)]
          rw [b.row_bar i hk]
          unfold BarIn.bX BarIn.bW BarIn.bY BarIn.bH BarIn.yy
          rw [if_neg (by omega), if_neg (by omega), if_neg (by omega), if_neg (by omega), f1, f2]
          simp
        have hft : ∀ k, k < b.m → b.lo ≤ b.V k i ∧ b.V k i ≤ b.hi := fun k hk => by
          have f2 : b.to_ i k = b.V k i := by unfold BarIn.to_; rw [if_neg (by omega)]
          have := (H.out.ft hlt hk).2
          rw [f2] at this
          exact this
        have Hrow := hide hrow
        have Hft := hide hft
        have K0 := hide k0
        have hmul : i * b.m ≤ 6 * 4 := Nat.mul_le_mul (by omega) m4
        clear hrow hft k0
        go_wp2_with fail
        obtain ⟨wo, rfl⟩ : ∃ wo : World, wo = wr := ⟨_, rfl⟩
        go_loopw [83] (fun a wx => ∃ (k : Nat) (u : Value), k ≤ b.m ∧ a = .int .i64 k ∧ Mk wx M b.kind An As b.n cn b.m cs b.lo b.hi st b.high (i * b.m + k) (rowF (i * b.m + k) 6 b.fb) u ∧ Fr M wo wx) (fun a _ => b.m - (intOf a).toNat)
        case atStart => exact ⟨0, u, by omega, rfl, hmk, Fr.refl _ _⟩
        case round =>
          clear hmk c0 c2 e0 e1
          obtain ⟨k, u, hk, rfl, hmk, hfr2⟩ := hrel
          by_cases hlt2 : k < b.m
          · obtain ⟨b1, off, Ai, ci, b2, off2, rfl, rfl, l1, l2, d0, d1⟩ := (he.near hfr2.near).get hlt2 (show i < _ by rw [Hlen.out k hlt2]; exact hlt)
            rw [Hlen.out k hlt2] at d0
            rw [HV.out] at d1
            have hE3 := hfr2.own _ _ _ _ _ _ (by decide) (by decide) HE2.out
            have HE3 := hide hE3
            have e0 : wr.cell? ⟨g, i, none⟩ = some (.int .i64 (b.x i)) := own_cell hE3 (show i < b.n + 1 by omega)
            have e1 : wr.cell? ⟨g, i + 1, none⟩ = some (.int .i64 (b.x (i + 1))) := own_cell hE3 (show i + 1 < b.n + 1 by omega)
            obtain ⟨f2, f3⟩ := Hft.out k hlt2
            have hrw := Hrow.out k hlt2
            have Hrw := hide hrw
            have hM := hmk.blk.lt
            have hgs := World.block_lt_of_cell? wr _ e0
            have hgM : g ≠ M := by
              rintro rfl
              rcases hE3.2 with ⟨h9, _⟩ | ⟨g9, _, _, h9, _, h10, _⟩
              · cases h9
              · injection h9 with h9
                injection h9 with h9
                injection h9 with h9
                subst h9
                have := hmk.blk
                unfold Blk at this
                rw [this] at h10
                injection h10 with h10
                injection h10 with _ h11
                exact absurd h11 (by decide)
            obtain ⟨A, c, rfl⟩ := own_form hmk.own
            have m7 : wr.cell? ⟨M, 7, none⟩ = some (.slice A (i * b.m + k) c) := hmk.blk.cell 7
            have z7 := hmk.blk.frozen 7
            have hy := fun wx (hbx : Blk wx M 56 (mkC b.kind An (some ⟨b1, off, none⟩) b.n cn b.m cs b.lo b.hi st b.high (.slice A (i * b.m + k) c))) => y_ok M b.kind An _ b.n cn b.m cs b.lo b.hi st b.high (b.V k i) _ wx hbx Hsc.out (by omega) hh1 f2 f3
            have Hy := hide hy
            have Hmk := hide hmk
            clear hrw hE3 hy hmk
            go_wp2_with fail
            have q1 : IntKind.i64.wrap ((i : Int) + 1) = (i : Int) + 1 := IntWalk.i64_in _ (by omega)
            have q2 : (0 : Int) ≤ (i : Int) + 1 := by omega
            have q3 : ((i : Int) + 1).toNat = i + 1 := by omega
            have q4 : IntKind.i64.wrap (b.x i + b.x (i + 1)) = b.x i + b.x (i + 1) := IntWalk.i64_in _ (by omega)
            have q8 : IntKind.i64.wrap ((b.x i + b.x (i + 1)).tdiv 2) = (b.x i + b.x (i + 1)) / 2 := by rw [Int.tdiv_eq_ediv_of_nonneg (by omega)]; exact IntWalk.i64_in _ (by omega)
            have hk21 : (i * b.m + k + 1) * 48 ≤ 140737488355328 := by omega
            have hk22 : i * b.m + k + 1 ≤ maxLen := by simp only [maxLen]; omega
            obtain ⟨i0, hj0, hz0, hz1, hz2⟩ := info_parts bar_info
            have hfar2 : some b2 ≠ (Value.slice A (i * b.m + k) c).ownBlock := own_not_low Hmk.out.own (Nat.lt_succ_of_lt l2)
            have hfarg : some g ≠ (Value.slice A (i * b.m + k) c).ownBlock := by
              rcases own_ne HE3.out Hmk.out.own (by decide) with h9 | h9
              · simp [Value.ownBlock] at h9
              · exact h9
            have hal : ∀ (wx : World) (o : Obj), wx.cell? ⟨g, i, none⟩ = some (.int .i64 (b.x i)) ∧ wx.cell? ⟨g, i + 1, none⟩ = some (.int .i64 (b.x (i + 1))) ∧ wx.cell? ⟨b2, off2 + i, none⟩ = some (.int .i64 (b.V k i)) ∧ wx.cell? ⟨M, 7, none⟩ = some (.slice A (i * b.m + k) c) → (wx.alloc o).cell? ⟨g, i, none⟩ = some (.int .i64 (b.x i)) ∧ (wx.alloc o).cell? ⟨g, i + 1, none⟩ = some (.int .i64 (b.x (i + 1))) ∧ (wx.alloc o).cell? ⟨b2, off2 + i, none⟩ = some (.int .i64 (b.V k i)) ∧ (wx.alloc o).cell? ⟨M, 7, none⟩ = some (.slice A (i * b.m + k) c) := fun wx o ⟨h1, h2, h3, h4⟩ =>
              ⟨(World.cell?_alloc_lt _ _ _ (World.block_lt_of_cell? wx _ h1)).trans h1, (World.cell?_alloc_lt _ _ _ (World.block_lt_of_cell? wx _ h2)).trans h2, (World.cell?_alloc_lt _ _ _ (World.block_lt_of_cell? wx _ h3)).trans h3, (World.cell?_alloc_lt _ _ _ (World.block_lt_of_cell? wx _ h4)).trans h4⟩
            have hgro : ∀ (wx wy : World), wx.grownBy wy (Value.slice A (i * b.m + k) c).ownBlock → wx.cell? ⟨g, i, none⟩ = some (.int .i64 (b.x i)) ∧ wx.cell? ⟨g, i + 1, none⟩ = some (.int .i64 (b.x (i + 1))) ∧ wx.cell? ⟨b2, off2 + i, none⟩ = some (.int .i64 (b.V k i)) ∧ wx.cell? ⟨M, 7, none⟩ = some (.slice A (i * b.m + k) c) → wy.cell? ⟨g, i, none⟩ = some (.int .i64 (b.x i)) ∧ wy.cell? ⟨g, i + 1, none⟩ = some (.int .i64 (b.x (i + 1))) ∧ wy.cell? ⟨b2, off2 + i, none⟩ = some (.int .i64 (b.V k i)) ∧ wy.cell? ⟨M, 7, none⟩ = some (.slice A (i * b.m + k) c) := fun wx wy hg ⟨h1, h2, h3, h4⟩ => ⟨hg.cell h1 hfarg, hg.cell h2 hfarg, hg.cell h3 hfar2, hg.cell h4 (own_not_low Hmk.out.own (Nat.lt_succ_self M))⟩
            have hbe8 : ∀ (wx : World), Below wr.drew.heap.size wr.drew wx → wx.cell? ⟨g, i, none⟩ = some (.int .i64 (b.x i)) ∧ wx.cell? ⟨g, i + 1, none⟩ = some (.int .i64 (b.x (i + 1))) ∧ wx.cell? ⟨b2, off2 + i, none⟩ = some (.int .i64 (b.V k i)) ∧ wx.cell? ⟨M, 7, none⟩ = some (.slice A (i * b.m + k) c) := fun wx hb => ⟨(hb.cell hgs).trans e0, (hb.cell hgs).trans e1, (hb.cell (p := ⟨b2, off2 + i, none⟩) (Nat.lt_trans l2 hM)).trans d1, (hb.cell (p := ⟨M, 7, none⟩) hM).trans m7⟩
            have Hal := hide hal
            have Hgro := hide hgro
            have Hbe8 := hide hbe8
            clear hal hgro hbe8
            refine wp_region_sink (S := fun w' => w'.cell? ⟨g, i, none⟩ = some (.int .i64 (b.x i)) ∧ w'.cell? ⟨g, i + 1, none⟩ = some (.int .i64 (b.x (i + 1))) ∧ w'.cell? ⟨b2, off2 + i, none⟩ = some (.int .i64 (b.V k i)) ∧ w'.cell? ⟨M, 7, none⟩ = some (.slice A (i * b.m + k) c)) 29 (by kernel_rfl) (by kernel_rfl) (by kernel_rfl) (by kernel_rfl) ?hSq (fun hHeld => ?_)
            case hSq => exact ⟨e0, e1, d1, m7⟩
            simp only [List.take_succ_cons, List.take_zero]
            refine wpAnyH_take (i := 0) (v := ?vqn0) rfl (by kernel_rfl) (by kernel_rfl) (by kernel_rfl) (fun _ _ _ h => h) (Or.inl ⟨by rfl, ?hyqn0⟩) (by assumption) ?_
            case hyqn0 => (intro w hSw; (try dsimp only at hSw); go_simp; try with_reducible rfl)
            try simp only [Act.put]
            refine wpAnyH_take (i := 1) (v := ?vqn1) rfl (by kernel_rfl) (by kernel_rfl) (by kernel_rfl) (fun _ _ _ h => h) (Or.inl ⟨by rfl, ?hyqn1⟩) (by assumption) ?_
            case hyqn1 => (intro w hSw; (try dsimp only at hSw); go_simp; try with_reducible rfl)
            try simp only [Act.put]
            refine wpAnyH_take (i := 2) (v := ?vqn2) rfl (by kernel_rfl) (by kernel_rfl) (by kernel_rfl) (fun _ _ _ h => h) (Or.inl ⟨by rfl, ?hyqn2⟩) (by assumption) ?_
            case hyqn2 => (intro w hSw; (try dsimp only at hSw); go_simp; try with_reducible rfl)
            try simp only [Act.put]
            refine wpAnyH_take (i := 3) (v := ?vqn3) rfl (by kernel_rfl) (by kernel_rfl) (by kernel_rfl) (fun _ _ _ h => h) (Or.inl ⟨by rfl, ?hyqn3⟩) (by assumption) ?_
            case hyqn3 => (intro w hSw; (try dsimp only at hSw); go_simp; try with_reducible rfl)
            try simp only [Act.put]
            refine wpAnyH_take (i := 4) (v := ?vqn4) rfl (by kernel_rfl) (by kernel_rfl) (by kernel_rfl) (fun _ _ _ h => h) (Or.inl ⟨by rfl, ?hyqn4⟩) (by assumption) ?_
            case hyqn4 => (intro w hSw; (try dsimp only at hSw); go_simp; try with_reducible rfl)
            try simp only [Act.put]
            refine wpAnyH_take (i := 5) (v := ?vqn5) rfl (by kernel_rfl) (by kernel_rfl) (by kernel_rfl) (fun _ _ _ h => h) (Or.inl ⟨by rfl, ?hyqn5⟩) (by assumption) ?_
            case hyqn5 => (intro w hSw; (try dsimp only at hSw); go_simp; try with_reducible rfl)
            try simp only [Act.put]
            refine wpAnyH_take (i := 6) (v := ?vqn6) rfl (by kernel_rfl) (by kernel_rfl) (by kernel_rfl) (fun _ _ _ h => h) (Or.inl ⟨by rfl, ?hyqn6⟩) (by assumption) ?_
            case hyqn6 => (intro w hSw; (try dsimp only at hSw); go_simp; try with_reducible rfl)
            try simp only [Act.put]
            refine wpAnyH_take (i := 7) (v := ?vqn7) rfl (by kernel_rfl) (by kernel_rfl) (by kernel_rfl) (fun _ _ _ h => h) (Or.inl ⟨by rfl, ?hyqn7⟩) (by assumption) ?_
            case hyqn7 => (intro w hSw; (try dsimp only at hSw); go_simp; try with_reducible rfl)
            try simp only [Act.put]
            refine wpAnyH_take (i := 8) (v := ?vqn8) rfl (by kernel_rfl) (by kernel_rfl) (by kernel_rfl) (fun _ _ _ h => h) (Or.inl ⟨by rfl, ?hyqn8⟩) (by assumption) ?_
            case hyqn8 => (intro w hSw; (try dsimp only at hSw); go_simp; try with_reducible rfl)
            try simp only [Act.put]
            refine wpAnyH_take (i := 9) (v := ?vqn9) rfl (by kernel_rfl) (by kernel_rfl) (by kernel_rfl) (fun _ _ _ h => h) (Or.inl ⟨by rfl, ?hyqn9⟩) (by assumption) ?_
            case hyqn9 => (intro w hSw; (try dsimp only at hSw); go_simp; try with_reducible rfl)
            try simp only [Act.put]
            refine wpAnyH_take (i := 10) (v := ?vqn10) rfl (by kernel_rfl) (by kernel_rfl) (by kernel_rfl) (fun _ _ _ h => h) (Or.inl ⟨by rfl, ?hyqn10⟩) (by assumption) ?_
            case hyqn10 => (intro w hSw; (try dsimp only at hSw); go_simp; try with_reducible rfl)
            try simp only [Act.put]
            refine wpAnyH_take (i := 11) (v := ?vqn11) rfl (by kernel_rfl) (by kernel_rfl) (by kernel_rfl) (fun _ _ _ h => h) (Or.inl ⟨by rfl, ?hyqn11⟩) (by assumption) ?_
            case hyqn11 => (intro w hSw; (try dsimp only at hSw); go_simp; try with_reducible rfl)
            try simp only [Act.put]
            refine wpAnyH_take (i := 12) (v := ?vqn12) rfl (by kernel_rfl) (by kernel_rfl) (by kernel_rfl) (fun _ _ _ h => h) (Or.inl ⟨by rfl, ?hyqn12⟩) (by assumption) ?_
            case hyqn12 => (intro w hSw; (try dsimp only at hSw); go_simp; try with_reducible rfl)
            try simp only [Act.put]
            refine wpAnyH_take (i := 13) (v := ?vqn13) rfl (by kernel_rfl) (by kernel_rfl) (by kernel_rfl) (fun _ _ _ h => h) (Or.inl ⟨by rfl, ?hyqn13⟩) (by assumption) ?_
            case hyqn13 => (intro w hSw; (try dsimp only at hSw); go_simp; try with_reducible rfl)
            try simp only [Act.put]
            refine wpAnyH_take (i := 14) (v := ?vqn14) rfl (by kernel_rfl) (by kernel_rfl) (by kernel_rfl) (fun _ _ _ h => h) (Or.inl ⟨by rfl, ?hyqn14⟩) (by assumption) ?_
            case hyqn14 => (intro w hSw; (try dsimp only at hSw); go_simp; try with_reducible rfl)
            try simp only [Act.put]
            refine wpAnyH_take (i := 15) (v := ?vqn15) rfl (by kernel_rfl) (by kernel_rfl) (by kernel_rfl) (fun _ _ _ h => h) (Or.inl ⟨by rfl, ?hyqn15⟩) (by assumption) ?_
            case hyqn15 => (intro w hSw; (try dsimp only at hSw); go_simp; try with_reducible rfl)
            try simp only [Act.put]
            refine wpAnyH_take (i := 16) (v := ?vqn16) rfl (by kernel_rfl) (by kernel_rfl) (by kernel_rfl) (fun _ _ _ h => h) (Or.inl ⟨by rfl, ?hyqn16⟩) (by assumption) ?_
            case hyqn16 => (intro w hSw; (try dsimp only at hSw); go_simp; try with_reducible rfl)
            try simp only [Act.put]
            refine wpAnyH_take (i := 17) (v := ?vqn17) rfl (by kernel_rfl) (by kernel_rfl) (by kernel_rfl) (fun _ _ _ h => h) (Or.inl ⟨by rfl, ?hyqn17⟩) (by assumption) ?_
            case hyqn17 => (intro w hSw; (try dsimp only at hSw); go_simp; try with_reducible rfl)
            try simp only [Act.put]
            refine wpAnyH_take (i := 18) (v := ?vqn18) rfl (by kernel_rfl) (by kernel_rfl) (by kernel_rfl) (fun _ _ _ h => h) (Or.inl ⟨by rfl, ?hyqn18⟩) (by assumption) ?_
            case hyqn18 => (intro w hSw; (try dsimp only at hSw); go_simp; try with_reducible rfl)
            try simp only [Act.put]
            refine wpAnyH_take (i := 19) (v := ?vqn19) rfl (by kernel_rfl) (by kernel_rfl) (by kernel_rfl) (fun _ _ _ h => h) (Or.inl ⟨by rfl, ?hyqn19⟩) (by assumption) ?_
            case hyqn19 => (intro w hSw; (try dsimp only at hSw); go_simp; try with_reducible rfl)
            try simp only [Act.put]
            refine wpAnyH_take (i := 20) (v := ?vqn20) rfl (by kernel_rfl) (by kernel_rfl) (by kernel_rfl) (fun _ _ _ h => h) (Or.inl ⟨by rfl, ?hyqn20⟩) (by assumption) ?_
            case hyqn20 => (intro w hSw; (try dsimp only at hSw); go_simp; try with_reducible rfl)
            try simp only [Act.put]
            refine wpAnyH_take (i := 21) (v := ?vqn21) rfl (by kernel_rfl) (by kernel_rfl) (by kernel_rfl) (fun _ _ _ h => h) (Or.inl ⟨by rfl, ?hyqn21⟩) (by assumption) ?_
            case hyqn21 => (intro w hSw; (try dsimp only at hSw); go_simp; try with_reducible rfl)
            try simp only [Act.put]
            refine wpAnyH_take (i := 22) (v := ?vqn22) rfl (by kernel_rfl) (by kernel_rfl) (by kernel_rfl) (fun _ _ _ h => h) (Or.inl ⟨by rfl, ?hyqn22⟩) (by assumption) ?_
            case hyqn22 => (intro w hSw; (try dsimp only at hSw); go_simp; try with_reducible rfl)
            try simp only [Act.put]
            refine wpAnyH_ready (rs := [23]) (by kernel_rfl) (by simp) (AllReadyH.cons rfl (fun K hK => ?_) AllReadyH.nil)
            go_simp
            go_at_call 19
            refine (Hy.out _ (by exact Hmk.out.blk)).mono ?_
            rintro e w8 ⟨rfl, hbel8⟩
            have hb8 := Blk.below (w := wr.drew) Hmk.out.blk hbel8 hM
            have hM8 := hb8.lt
            have ho8 := own_below (w := wr.drew) Hmk.out.own hbel8
            go_wp2_with fail
            refine hK.out _ _ ?hkqn23 (fun hHeld => ?_)
            case hkqn23 => exact Hbe8.out _ hbel8
            clear hK K
            try simp only [Act.put]
            refine wpAnyH_take (i := 24) (v := ?vqn24) rfl (by kernel_rfl) (by kernel_rfl) (by kernel_rfl) (fun _ _ _ h => h) (Or.inl ⟨by rfl, ?hyqn24⟩) (by assumption) ?_
            case hyqn24 => (intro w hSw; (try dsimp only at hSw); go_simp; try with_reducible rfl)
            try simp only [Act.put]
            refine wpAnyH_ready (rs := [25]) (by kernel_rfl) (by simp) (AllReadyH.cons rfl (fun K hK => ?_) AllReadyH.nil)
            go_simp
            refine hK.out _ _ ?hkqn25 (fun hHeld => ?_)
            case hkqn25 => exact Hal.out _ _ hHeld
            clear hK K
            try simp only [Act.put]
            refine wpAnyH_ready (rs := [26]) (by kernel_rfl) (by simp) (AllReadyH.cons rfl (fun K hK => ?_) AllReadyH.nil)
            refine step_append_lies _ (by rfl) _ _ _ (by rfl) (M + 1) 40 i0 _ 6 48 Try.underlying36 hj0 hz0 hz1 hz2 rfl (by omega) (.slice A (i * b.m + k) c) (i * b.m + k) (rowF (i * b.m + k) 6 b.fb) (by rfl) (ho8.alloc _) ⟨w8.heap.size, 0, none⟩ 1 1 [.int .i64 (k : Int), .int .i64 (i : Int), .int .i64 ((b.x i + b.x (i + 1)) / 2), .int .i64 (b.high - plc b.lo b.hi b.high (b.V k i)), .int .i64 0, .int .i64 0] (by rfl) (by rfl) (World.news_of_block (cs := #[.int .i64 (k : Int), .int .i64 (i : Int), .int .i64 ((b.x i + b.x (i + 1)) / 2), .int .i64 (b.high - plc b.lo b.hi b.high (b.V k i)), .int .i64 0, .int .i64 0]) (t := 40) (fr := (0, 0)) (heap_alloc_new w8 _)) (by simp [Value.oneCell']) (by omega) hk22 hk21 (by simp; omega) (w8.heap.size + 1) (by simp) ?_
            intro gg cap w6 hown6 hgrow hat hlt6
            have hb6 := (hb8.alloc _).app (ho8.alloc _) (Nat.lt_succ_self M) hgrow
            have m6 : w6.cell? ⟨M, 7, none⟩ = some (.slice A (i * b.m + k) c) := hb6.cell 7
            have z6 := hb6.frozen 7
            refine hK.out _ _ ?hkqn26 (fun hHeld => ?_)
            case hkqn26 => exact Hgro.out _ _ hgrow hHeld
            clear hK K
            try simp only [Act.put]
            refine wpAnyH_take (i := 27) (v := ?vqn27) rfl (by kernel_rfl) (by kernel_rfl) (by kernel_rfl) (fun _ _ _ h => h) (Or.inl ⟨by rfl, ?hyqn27⟩) (by assumption) ?_
            case hyqn27 => (intro w hSw; (try dsimp only at hSw); go_simp; try with_reducible rfl)
            try simp only [Act.put]
            refine wpAnyH_take (i := 28) (v := ?vqn28) rfl (by kernel_rfl) (by kernel_rfl) (by kernel_rfl) (fun _ _ _ h => h) (Or.inl ⟨by rfl, ?hyqn28⟩) (by assumption) ?_
            case hyqn28 => (intro w hSw; (try dsimp only at hSw); go_simp; try with_reducible rfl)
            try simp only [Act.put]
            refine wpAnyH_done (by kernel_rfl) ?_ _
            refine sink_run rfl rfl ?_
            go_simp
            all_goals
              have hb9 := hb6.set_ 7 (.slice (some ⟨gg, 0, none⟩) (i * b.m + k + 1) cap)
              have hfr9 : Fr M wo (w6.setCell ⟨M, 7, none⟩ (.slice (some ⟨gg, 0, none⟩) (i * b.m + k + 1) cap)) := (((((hfr2.drewN 1).below hM hbel8).alloc hM8 _).app (by simp; omega) (ho8.alloc _) hgrow).setM hb6 7 _)
              have hmk9 : Mk (w6.setCell ⟨M, 7, none⟩ (.slice (some ⟨gg, 0, none⟩) (i * b.m + k + 1) cap)) M b.kind An (some ⟨b1, off, none⟩) b.n cn b.m cs b.lo b.hi st b.high (i * b.m + (k + 1)) (rowF (i * b.m + (k + 1)) 6 b.fb) (.slice (some ⟨gg, 0, none⟩) (i * b.m + k + 1) cap) :=
                ⟨hb9, by rw [show i * b.m + (k + 1) = i * b.m + k + 1 from rfl, ← Hrw.out]; exact own_setCell_low hown6 (Nat.lt_succ_self M) _⟩
              clear q1 q2 q3 q4 q8 hb9 hb6 hown6 hgrow m6 z6 hbel8 hb8 ho8
              go_wp2_with fail
              go_roundw
              case rel => exact ⟨k + 1, _, by omega, by go_num, hmk9, hfr9⟩
              case measure => simp [intOf]; omega
          · obtain rfl : k = b.m := by omega
            go_wp2_with fail
            go_roundw
            case rel => exact ⟨i + 1, u, by omega, by go_num, by rw [Hsucc.out]; exact hmk, hfr.trans hfr2⟩
            case measure => simp [intOf]; omega
    · obtain rfl : i = b.n := by omega
      have c7 : wr.cell? ⟨M, 7, none⟩ = some u := hmk.blk.cell 7
      obtain ⟨A, c, rfl⟩ := own_form hmk.own
      go_wp2_with fail
      go_ret2
      exact ⟨A, c, rfl, ownsRow_less hmk.own (by omega), hbelD.trans (hfr.near.below (by omega) (by omega))⟩
end Go.Proofs.Ytoggpbbndoipdaa.Chr
