/- Lines and what they cost, as plain functions. No program in sight. -/
import Derived.Test.YtmjhmcjlbcadaaaLnPlain
namespace Go.Proofs.Ytmjhmcjlbcadaaa.Ln
open Go.RowKit Go.Frm

/-- a line -/
structure Lin where
  fr : Nat
  en : Nat
  nat : Int
  str : Int
  shr : Int
  wid : Int
def linV (x : Lin) : Nat → Value
  | 0 => .int .i64 x.fr
  | 1 => .int .i64 x.en
  | 2 => .int .i64 x.nat
  | 3 => .int .i64 x.str
  | 4 => .int .i64 x.shr
  | _ => .int .i64 x.wid
def wAt (ws : List Int) (k : Nat) : Int := ws.getD (min k (ws.length - 1)) 0
def line (P : Pts) (ws : List Int) (fr en k : Nat) : Lin :=
  { fr := min fr en, en := en, nat := sW P en - sW P (min fr en) + added P en, str := sG P en - sG P (min fr en), shr := sY P en - sY P (min fr en), wid := wAt ws k }
/-- what is allowed of a line -/
structure VL (P : Pts) (x : Lin) : Prop where
  fr : x.fr ≤ x.en
  en : x.en ≤ P.n
  nat : 0 ≤ x.nat ∧ x.nat ≤ 400000
  str : 0 ≤ x.str ∧ x.str ≤ 400000
  shr : 0 ≤ x.shr ∧ x.shr ≤ 400000
  wid : 0 ≤ x.wid ∧ x.wid ≤ 400000
def cost0 (P : Pts) (x : Lin) : Int :=
  if x.wid - x.nat < -x.shr then 1099511627776 + 1000 * (-(x.wid - x.nat) - x.shr)
  else if x.wid - x.nat < 0 then (10 + bad (-(x.wid - x.nat)) x.shr) * (10 + bad (-(x.wid - x.nat)) x.shr)
  else if must P x.en || last P x.en then 100
  else (10 + bad (x.wid - x.nat) x.str) * (10 + bad (x.wid - x.nat) x.str)
def cost (P : Pts) (x : Lin) : Int :=
  if x.en < P.n ∧ P.kd x.en = 2 ∧ P.co x.en ≠ -10000 then
    (if P.co x.en < 0 then cost0 P x - P.co x.en * P.co x.en else cost0 P x + P.co x.en * P.co x.en)
  else cost0 P x

theorem mono_of_step {f : Nat → Int} {n : Nat} (h : ∀ i, i < n → f i ≤ f (i + 1)) {a b : Nat} (hab : a ≤ b) (hb : b ≤ n) : f a ≤ f b := by
  induction b with
  | zero => have : a = 0 := by omega
            subst this; exact Int.le_refl _
  | succ b ih =>
    by_cases e : a = b + 1
    · subst e; exact Int.le_refl _
    · exact Int.le_trans (ih (by omega) (by omega)) (h b (by omega))
theorem sW_mono {P : Pts} (h : VP P) {a b : Nat} (hab : a ≤ b) (hb : b ≤ P.n) : sW P a ≤ sW P b :=
  mono_of_step (fun i hi => by
    have := h.wide i hi
    show sW P i ≤ sW P i + _
    split <;> omega) hab hb
theorem sG_mono {P : Pts} (h : VP P) {a b : Nat} (hab : a ≤ b) (hb : b ≤ P.n) : sG P a ≤ sG P b :=
  mono_of_step (fun i hi => by
    have := h.str i hi
    show sG P i ≤ sG P i + _
    omega) hab hb
theorem sY_mono {P : Pts} (h : VP P) {a b : Nat} (hab : a ≤ b) (hb : b ≤ P.n) : sY P a ≤ sY P b :=
  mono_of_step (fun i hi => by
    have := h.shr i hi
    show sY P i ≤ sY P i + _
    omega) hab hb
theorem added_bd {P : Pts} (h : VP P) (i : Nat) : 0 ≤ added P i ∧ added P i ≤ 300 := by
  unfold added
  split
  · rename_i hi
    exact h.wide i hi.1
  · omega
theorem line_vl {P : Pts} (h : VP P) {ws : List Int} (hw : ∀ x, x ∈ ws → 0 ≤ x ∧ x ≤ 400000) {fr en k : Nat} (ht : en ≤ P.n) : VL P (line P ws fr en k) := by
  have m : min fr en ≤ en := by omega
  have a := added_bd h en
  have f := h.few
  have w1 := sW_mono h m ht
  have w2 := sW_bd h en ht
  have w3 := sW_bd h (min fr en) (by omega)
  have g1 := sG_mono h m ht
  have g2 := sG_bd h en ht
  have g3 := sG_bd h (min fr en) (by omega)
  have y1 := sY_mono h m ht
  have y2 := sY_bd h en ht
  have y3 := sY_bd h (min fr en) (by omega)
  refine ⟨m, ht, ?_, ?_, ?_, ?_⟩
  · show 0 ≤ sW P en - sW P (min fr en) + added P en ∧ sW P en - sW P (min fr en) + added P en ≤ 400000
    omega
  · show 0 ≤ sG P en - sG P (min fr en) ∧ sG P en - sG P (min fr en) ≤ 400000
    omega
  · show 0 ≤ sY P en - sY P (min fr en) ∧ sY P en - sY P (min fr en) ≤ 400000
    omega
  · show 0 ≤ wAt ws k ∧ wAt ws k ≤ 400000
    unfold wAt
    rw [List.getD_eq_getElem?_getD]
    rcases hg : ws[min k (ws.length - 1)]? with _ | x
    · simp
    · exact hw x (List.mem_of_getElem? hg)
theorem bad_bd {b c : Int} (hb : 0 ≤ b) (hc : 0 ≤ c) : 0 ≤ bad b c ∧ bad b c ≤ 10000 := by
  unfold bad
  split
  · omega
  · split
    · omega
    · have q0 : 0 ≤ (1000 * b).tdiv c := Int.tdiv_nonneg (by omega) hc
      obtain ⟨r, hr⟩ : ∃ r, r = min ((1000 * b).tdiv c) 5000 := ⟨_, rfl⟩
      rw [← hr]
      have m0 : 0 ≤ r := by omega
      have t0 : 0 ≤ (r * r * r).tdiv 10000000 := Int.tdiv_nonneg (Int.mul_nonneg (Int.mul_nonneg m0 m0) m0) (by omega)
      omega
theorem sq_bd {x m : Int} (h0 : 0 ≤ x) (h1 : x ≤ m) : 0 ≤ x * x ∧ x * x ≤ m * m :=
  ⟨Int.mul_nonneg h0 h0, Int.mul_le_mul h1 h1 h0 (by omega)⟩
theorem cost0_bd {P : Pts} {x : Lin} (h : VL P x) : 0 ≤ cost0 P x ∧ cost0 P x ≤ 1100000000000 := by
  have h1 := h.nat; have h2 := h.str; have h3 := h.shr; have h4 := h.wid
  unfold cost0
  split
  · omega
  · split
    · have b := bad_bd (show 0 ≤ -(x.wid - x.nat) by omega) h3.1
      have := sq_bd (show 0 ≤ 10 + bad (-(x.wid - x.nat)) x.shr by omega) (show _ ≤ (10010 : Int) by omega)
      omega
    · split
      · omega
      · have b := bad_bd (show 0 ≤ x.wid - x.nat by omega) h2.1
        have := sq_bd (show 0 ≤ 10 + bad (x.wid - x.nat) x.str by omega) (show _ ≤ (10010 : Int) by omega)
        omega
theorem cost_bd {P : Pts} (hv : VP P) {x : Lin} (h : VL P x) : -100000000 ≤ cost P x ∧ cost P x ≤ 1100100000000 := by
  have c := cost0_bd h
  unfold cost
  split
  · rename_i hi
    have k := hv.cost _ hi.1
    split
    · have s := sq_bd (x := -P.co x.en) (m := 10000) (by omega) (by omega)
      rw [Int.neg_mul_neg] at s
      omega
    · have s := sq_bd (x := P.co x.en) (m := 10000) (by omega) (by omega)
      omega
  · omega
end Go.Proofs.Ytmjhmcjlbcadaaa.Ln
