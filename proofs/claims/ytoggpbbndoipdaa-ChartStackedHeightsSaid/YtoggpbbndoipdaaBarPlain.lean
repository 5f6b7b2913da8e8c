/- What chart.Bars makes, in plain Lean: the bars lie in the rectangle, do not overlap, and a stack is as high as its sum. -/
import Derived.Test.YtoggpbbndoipdaaRangePlain
import Derived.Test.YtoggpbbndoipdaaEdges
namespace Go.Proofs.Ytoggpbbndoipdaa.Chr
open Go.RowKit Go.Frm

/-- where a value stands -/
def plc (lo hi high v : Int) : Int := (2 * (v - lo) * high + (hi - lo)) / (2 * (hi - lo))
theorem plc_mono {lo hi high u v : Int} (hl : lo < hi) (h0 : 0 ≤ high) (huv : u ≤ v) : plc lo hi high u ≤ plc lo hi high v := by
  unfold plc
  refine Int.ediv_le_ediv (by omega) ?_
  have := Int.mul_le_mul_of_nonneg_right (show 2 * (u - lo) ≤ 2 * (v - lo) by omega) h0
  omega
theorem plc_lo {lo hi high : Int} (hl : lo < hi) : plc lo hi high lo = 0 := by
  unfold plc
  rw [Int.sub_self, Int.mul_zero, Int.zero_mul, Int.zero_add]
  exact Int.ediv_eq_zero_of_lt (by omega) (by omega)
theorem plc_hi {lo hi high : Int} (hl : lo < hi) : plc lo hi high hi = high := by
  unfold plc
  have e : 2 * (hi - lo) * high + (hi - lo) = (hi - lo) + high * (2 * (hi - lo)) := by rw [Int.mul_comm high]; omega
  rw [e, Int.add_mul_ediv_right _ _ (by omega), Int.ediv_eq_zero_of_lt (by omega) (by omega), Int.zero_add]
theorem plc_bd {lo hi high v : Int} (hl : lo < hi) (h0 : 0 ≤ high) (v0 : lo ≤ v) (v1 : v ≤ hi) : 0 ≤ plc lo hi high v ∧ plc lo hi high v ≤ high := by
  have h1 := plc_mono hl h0 v0
  have h2 := plc_mono hl h0 v1
  rw [plc_lo hl] at h1
  rw [plc_hi hl] at h2
  exact ⟨h1, h2⟩
/-- the value of the scale that is nearest to 0 -/
def zer (lo hi : Int) : Int := min (max 0 lo) hi
theorem zer_in {lo hi : Int} (h : lo < hi) : lo ≤ zer lo hi ∧ zer lo hi ≤ hi := by unfold zer; omega
theorem zer_zero {lo hi : Int} (h : lo ≤ 0) (h2 : 0 ≤ hi) : zer lo hi = 0 := by unfold zer; omega

/-- what a chart of bars is made of -/
structure BarIn where
  kind : Int
  lo : Int
  hi : Int
  high : Int
  width : Int
  n : Nat
  m : Nat
  V : Nat → Nat → Int

namespace BarIn
variable (b : BarIn)
def x (i : Nat) : Int := edg b.width b.n i
def wd (i : Nat) : Int := b.x (i + 1) - b.x i
def yy (v : Int) : Int := b.high - plc b.lo b.hi b.high v
def sm (i k : Nat) : Int := zer b.lo b.hi + fsum (fun s => b.V s i) k
def from_ (i k : Nat) : Int := if b.kind = 0 then zer b.lo b.hi else if b.kind = 1 then b.sm i k else b.V k i
def to_ (i k : Nat) : Int := if b.kind = 1 then b.sm i (k + 1) else b.V k i
def bX (i k : Nat) : Int := if b.kind = 0 then b.x i + edg (b.wd i) (2 * b.m + 2) (2 * k + 1) else if b.kind = 1 then b.x i + edg (b.wd i) 4 1 else (b.x i + b.x (i + 1)) / 2
def bW (i k : Nat) : Int := if b.kind = 0 then edg (b.wd i) (2 * b.m + 2) (2 * k + 3) - edg (b.wd i) (2 * b.m + 2) (2 * k + 1) else if b.kind = 1 then edg (b.wd i) 4 3 - edg (b.wd i) 4 1 else 0
def bY (i k : Nat) : Int := min (b.yy (b.from_ i k)) (b.yy (b.to_ i k))
def bH (i k : Nat) : Int := max (b.yy (b.from_ i k)) (b.yy (b.to_ i k)) - min (b.yy (b.from_ i k)) (b.yy (b.to_ i k))
/-- the cells of a bar -/
def cell (i k : Nat) : Nat → Value
  | 0 => .int .i64 (k : Int)
  | 1 => .int .i64 (i : Int)
  | 2 => .int .i64 (b.bX i k)
  | 3 => .int .i64 (b.bY i k)
  | 4 => .int .i64 (b.bW i k)
  | _ => .int .i64 (b.bH i k)
def fb (t j : Nat) : Value := b.cell (t / b.m) (t % b.m) j
theorem row_bar (i : Nat) {k : Nat} (hk : k < b.m) : rowF (i * b.m + k + 1) 6 b.fb = rowF (i * b.m + k) 6 b.fb ++ [.int .i64 (k : Int), .int .i64 (i : Int), .int .i64 (b.bX i k), .int .i64 (b.bY i k), .int .i64 (b.bW i k), .int .i64 (b.bH i k)] := by
  have e1 : (i * b.m + k) / b.m = i := by rw [Nat.mul_comm, Nat.mul_add_div (by omega), Nat.div_eq_of_lt hk]; omega
  have e2 : (i * b.m + k) % b.m = k := by rw [Nat.mul_comm, Nat.mul_add_mod, Nat.mod_eq_of_lt hk]
  rw [rowF_succ]
  show _ ++ [b.fb (i * b.m + k) 0, b.fb (i * b.m + k) 1, b.fb (i * b.m + k) 2, b.fb (i * b.m + k) 3, b.fb (i * b.m + k) 4, b.fb (i * b.m + k) 5] = _
  unfold fb
  rw [e1, e2]
  rfl
end BarIn

/-- what is known of it -/
structure BarOk (b : BarIn) : Prop where
  k : b.kind = 0 ∨ b.kind = 1 ∨ b.kind = 2
  n1 : 1 ≤ b.n
  n2 : b.n ≤ 6
  m1 : 1 ≤ b.m
  m4 : b.m ≤ 4
  lt : b.lo < b.hi
  h0 : 1 ≤ b.high
  h1 : b.high ≤ 100000
  w0 : 1 ≤ b.width
  w1 : b.width ≤ 100000
  V : ∀ s i, s < b.m → i < b.n → -1000 ≤ b.V s i ∧ b.V s i ≤ 1000 ∧ (b.kind = 1 → 0 ≤ b.V s i)
  lo : b.lo ≤ (rngR b.kind b.V b.m b.n).1
  hi : (rngR b.kind b.V b.m b.n).2 ≤ b.hi

section
variable {b : BarIn} (h : BarOk b)
include h
theorem BarOk.x_mono {i j : Nat} (hij : i ≤ j) : b.x i ≤ b.x j := edg_mono (by have := h.w0; omega) b.n hij
theorem BarOk.wd0 (i : Nat) : 0 ≤ b.wd i := by have := h.x_mono (show i ≤ i + 1 by omega); unfold BarIn.wd; omega
theorem BarOk.x_bd {i : Nat} (hi : i ≤ b.n) : 0 ≤ b.x i ∧ b.x i ≤ b.width := by
  have h1 := h.x_mono (show 0 ≤ i by omega)
  have h2 := h.x_mono hi
  unfold BarIn.x at *
  rw [edg_zero] at h1
  rw [edg_end _ h.n1] at h2
  exact ⟨h1, h2⟩
theorem BarOk.sm_bd {i : Nat} (hi : i < b.n) (k1 : b.kind = 1) {k : Nat} (hk : k ≤ b.m) : b.sm i k = fsum (fun s => b.V s i) k ∧ 0 ≤ b.sm i k ∧ b.sm i k ≤ b.hi ∧ b.lo ≤ b.sm i k := by
  have hz := rngR_zero (k := b.kind) (by omega) b.V b.m b.n
  have hlo := h.lo
  have hhi := h.hi
  have h0 : zer b.lo b.hi = 0 := zer_zero (by omega) (by omega)
  have e : b.sm i k = fsum (fun s => b.V s i) k := by unfold BarIn.sm; omega
  have hs := rngR_sum (V := b.V) (m := b.m) hi
  rw [k1] at hhi hlo hz
  have hn : 0 ≤ fsum (fun s => b.V s i) k := fsum_nonneg fun s hs => (h.V s i (by omega) hi).2.2 k1
  have hm : ∀ d, k + d ≤ b.m → fsum (fun s => b.V s i) k ≤ fsum (fun s => b.V s i) (k + d) := by
    intro d
    induction d with
    | zero => intro _; exact Int.le_refl _
    | succ d ih =>
      intro hd
      have := ih (by omega)
      have := (h.V (k + d) i (by omega) hi).2.2 k1
      rw [show k + (d + 1) = k + d + 1 from rfl]
      simp only [fsum_succ]
      omega
  have hm2 := hm (b.m - k) (by omega)
  rw [show k + (b.m - k) = b.m by omega] at hm2
  refine ⟨e, ?_, ?_, ?_⟩ <;> rw [e] <;> omega
theorem BarOk.ft {i k : Nat} (hi : i < b.n) (hk : k < b.m) : (b.lo ≤ b.from_ i k ∧ b.from_ i k ≤ b.hi) ∧ b.lo ≤ b.to_ i k ∧ b.to_ i k ≤ b.hi := by
  have hz := zer_in h.lt
  have hlo := h.lo
  have hhi := h.hi
  rcases h.k with k0 | k0 | k0
  · have hv := rngR_has (k := b.kind) (V := b.V) (by omega) hi hk
    unfold BarIn.from_ BarIn.to_
    rw [if_pos k0, if_neg (by omega)]
    omega
  · have h1 := h.sm_bd hi k0 (show k ≤ b.m by omega)
    have h2 := h.sm_bd hi k0 (show k + 1 ≤ b.m by omega)
    unfold BarIn.from_ BarIn.to_
    rw [if_neg (by omega), if_pos k0, if_pos k0]
    omega
  · have hv := rngR_has (k := b.kind) (V := b.V) (by omega) hi hk
    unfold BarIn.from_ BarIn.to_
    rw [if_neg (by omega), if_neg (by omega), if_neg (by omega)]
    omega
theorem BarOk.yy_bd {v : Int} (v0 : b.lo ≤ v) (v1 : v ≤ b.hi) : 0 ≤ b.yy v ∧ b.yy v ≤ b.high := by
  have := plc_bd (high := b.high) h.lt (by have := h.h0; omega) v0 v1
  unfold BarIn.yy
  omega
theorem BarOk.yy_anti {u v : Int} (huv : u ≤ v) : b.yy v ≤ b.yy u := by
  have := plc_mono (high := b.high) h.lt (by have := h.h0; omega) huv
  unfold BarIn.yy
  omega
theorem BarOk.bx {i k : Nat} (hk : k < b.m) : b.x i ≤ b.bX i k ∧ 0 ≤ b.bW i k ∧ b.bX i k + b.bW i k ≤ b.x (i + 1) := by
  have hm := h.m1
  have hw := h.wd0 i
  have hx := h.x_mono (show i ≤ i + 1 by omega)
  have hwe : b.x i + b.wd i = b.x (i + 1) := by unfold BarIn.wd; omega
  unfold BarIn.bX BarIn.bW
  rcases h.k with k0 | k0 | k0
  · rw [if_pos k0, if_pos k0]
    have e1 := edg_mono hw (2 * b.m + 2) (show 0 ≤ 2 * k + 1 by omega)
    have e2 := edg_mono hw (2 * b.m + 2) (show 2 * k + 1 ≤ 2 * k + 3 by omega)
    have e3 := edg_mono hw (2 * b.m + 2) (show 2 * k + 3 ≤ 2 * b.m + 2 by omega)
    rw [edg_end _ (by omega)] at e3
    rw [edg_zero] at e1
    omega
  · rw [if_neg (by omega), if_pos k0, if_neg (by omega), if_pos k0]
    have e1 := edg_mono hw 4 (show 0 ≤ 1 by omega)
    have e2 := edg_mono hw 4 (show 1 ≤ 3 by omega)
    have e3 := edg_mono hw 4 (show 3 ≤ 4 by omega)
    rw [edg_end _ (by omega)] at e3
    rw [edg_zero] at e1
    omega
  · rw [if_neg (by omega), if_neg (by omega), if_neg (by omega), if_neg (by omega)]
    omega

/-- each bar lies in the rectangle -/
theorem BarOk.inside {i k : Nat} (hi : i < b.n) (hk : k < b.m) : 0 ≤ b.bX i k ∧ 0 ≤ b.bY i k ∧ 0 ≤ b.bW i k ∧ 0 ≤ b.bH i k ∧ b.bX i k + b.bW i k ≤ b.width ∧ b.bY i k + b.bH i k ≤ b.high := by
  have h1 := h.bx (i := i) hk
  have h2 := h.x_bd (show i ≤ b.n by omega)
  have h3 := h.x_bd (show i + 1 ≤ b.n by omega)
  obtain ⟨⟨f0, f1⟩, t0, t1⟩ := h.ft hi hk
  have y1 := h.yy_bd f0 f1
  have y2 := h.yy_bd t0 t1
  unfold BarIn.bY BarIn.bH
  omega
/-- no two bars overlap -/
theorem BarOk.apart {i k i' k' : Nat} (hi : i < b.n) (hk : k < b.m) (hk' : k' < b.m) (hlt : i' < i ∨ i' = i ∧ k' < k) : b.bX i' k' + b.bW i' k' ≤ b.bX i k ∨ b.bY i k + b.bH i k ≤ b.bY i' k' := by
  rcases hlt with hlt | ⟨rfl, hlt⟩
  · left
    have h1 := h.bx (i := i) hk
    have h2 := h.bx (i := i') hk'
    have h3 := h.x_mono (show i' + 1 ≤ i by omega)
    omega
  · have hw := h.wd0 i'
    rcases h.k with k0 | k0 | k0
    · left
      unfold BarIn.bX BarIn.bW
      rw [if_pos k0, if_pos k0, if_pos k0]
      have e1 := edg_mono hw (2 * b.m + 2) (show 2 * k' + 3 ≤ 2 * k + 1 by omega)
      omega
    · right
      have a1 : b.from_ i' k = b.sm i' k := by unfold BarIn.from_; rw [if_neg (by omega), if_pos k0]
      have a2 : b.from_ i' k' = b.sm i' k' := by unfold BarIn.from_; rw [if_neg (by omega), if_pos k0]
      have a3 : b.to_ i' k = b.sm i' (k + 1) := by unfold BarIn.to_; rw [if_pos k0]
      have a4 : b.to_ i' k' = b.sm i' (k' + 1) := by unfold BarIn.to_; rw [if_pos k0]
      have mono : ∀ s d, s + d ≤ b.m → b.sm i' s ≤ b.sm i' (s + d) := by
        intro s d
        induction d with
        | zero => intro _; exact Int.le_refl _
        | succ d ih =>
          intro hd
          have := ih (by omega)
          have := (h.V (s + d) i' (by omega) hi).2.2 k0
          rw [show s + (d + 1) = s + d + 1 from rfl]
          unfold BarIn.sm at *
          simp only [fsum_succ]
          omega
      have m1 := mono (k' + 1) (k - (k' + 1)) (by omega)
      rw [show k' + 1 + (k - (k' + 1)) = k by omega] at m1
      have m2 := mono k' 1 (by omega)
      have m3 := mono k 1 (by omega)
      have y1 := h.yy_anti m1
      have y2 := h.yy_anti m2
      have y3 := h.yy_anti m3
      unfold BarIn.bY BarIn.bH
      rw [a1, a2, a3, a4]
      omega
    · left
      unfold BarIn.bX BarIn.bW
      rw [if_neg (by omega), if_neg (by omega), if_neg (by omega), if_neg (by omega)]
      omega
/-- the heights of a stack -/
theorem BarOk.stack (k0 : b.kind = 1) {i : Nat} (hi : i < b.n) : ∀ k, k ≤ b.m → fsum (b.bH i) k = b.yy 0 - b.yy (fsum (fun s => b.V s i) k)
  | 0, _ => by simp [fsum]
  | k + 1, hk => by
    have ih := BarOk.stack k0 hi k (by omega)
    have s1 := (h.sm_bd hi k0 (show k ≤ b.m by omega)).1
    have s2 := (h.sm_bd hi k0 (show k + 1 ≤ b.m by omega)).1
    have v := (h.V k i (by omega) hi).2.2 k0
    rw [fsum_succ, ih]
    unfold BarIn.bH
    have a1 : b.from_ i k = b.sm i k := by unfold BarIn.from_; rw [if_neg (by omega), if_pos k0]
    have a3 : b.to_ i k = b.sm i (k + 1) := by unfold BarIn.to_; rw [if_pos k0]
    rw [a1, a3, s1, s2]
    have y := h.yy_anti (show fsum (fun s => b.V s i) k ≤ fsum (fun s => b.V s i) (k + 1) by rw [fsum_succ]; omega)
    omega
end
end Go.Proofs.Ytoggpbbndoipdaa.Chr
