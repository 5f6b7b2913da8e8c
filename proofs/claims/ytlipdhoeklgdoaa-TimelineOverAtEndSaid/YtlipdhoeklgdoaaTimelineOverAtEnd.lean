/- PROVED HERE: whatever the effects and the two numbers, chancerykeep3.TimelineOverAtEnd returns true. No condition beside those of the given statement. -/
import Derived.Test.YtlipdhoeklgdoaaTlTimed
import Derived.Test.YtlipdhoeklgdoaaTlState
import Derived.Test.YtlipdhoeklgdoaaTlMake
import Derived.Test.YtlipdhoeklgdoaaChecked
import Derived.Test.YtlipdhoeklgdoaaRows
namespace Go.Proofs.Ytlipdhoeklgdoaa.TimelineOverAtEndDone
open Go.RowKit Go.Frm Go.ChangeShapes Go.WideShapes Go.ChangeAt Tl Wi

theorem xA_congr {F : Nat → Nat → Int} {p q : Nat → Int} {j : Nat} {z : Int} : ∀ n : Nat, (∀ i, i < n → p i = q i) → xA F p j z n = xA F q j z n
  | 0, _ => rfl
  | n + 1, h => by
    simp only [xA]
    rw [xA_congr n (fun i hi => h i (by omega)), h n (by omega)]
theorem sn_congr {F : Nat → Nat → Int} {p q : Nat → Int} {z : Int} : ∀ n : Nat, (∀ i, i < n → p i = q i) → sn F p z n = sn F q z n
  | 0, _ => rfl
  | n + 1, h => by
    simp only [sn]
    rw [sn_congr n (fun i hi => h i (by omega)), h n (by omega)]
theorem row_congr {F : Nat → Nat → Int} {p q : Nat → Int} {n : Nat} (L : List Int) (h : ∀ i, i < n → p i = q i) : rowF L.length 4 (stV F p n L) = rowF L.length 4 (stV F q n L) := by
  refine rowF_congr (fun i j hi hj => ?_)
  unfold stV
  match j, hj with
  | 0, _ => rfl
  | 1, _ => simp only [stF]; rw [sn_congr n h]
  | 2, _ => simp only [stF]; rw [xA_congr n h]
  | 3, _ => simp only [stF]; rw [xA_congr n h]
theorem over {F : Nat → Nat → Int} {n : Nat} (click later : Int) (hl : 0 ≤ later) : ∀ i, i < n → pF F click (cm F click n) i = pF F click (cm F click n + later) i := by
  intro i hi
  have h1 := til_le_cm (F := F) n i hi
  unfold pF pg
  by_cases hc : ck F (i + 1) = click
  · rw [hc] at h1 ⊢
    rw [if_pos (.inr ⟨rfl, h1⟩), if_pos (.inr ⟨rfl, by omega⟩)]
  · by_cases hlt : ck F (i + 1) < click
    · rw [if_pos (.inl hlt), if_pos (.inl hlt)]
    · have a1 : ∀ t : Int, ¬(ck F (i + 1) < click ∨ (ck F (i + 1) = click ∧ til F i ≤ t)) := fun t => by rintro (h | ⟨h, _⟩) <;> omega
      have a2 : click < ck F (i + 1) := by omega
      rw [if_neg (a1 _), if_neg (a1 _), if_pos (.inl a2), if_pos (.inl a2)]

set_option maxRecDepth 100000 in
set_option maxHeartbeats 4000000 in
theorem walk (A : Option Addr) (n c : Nat) (F : Nat → Nat → Int) (x y : Int) (w : World) (hn : n ≤ 9223372036854775807) (hr : RdF w A n 7 (efV F)) (hwf : ∀ i j, i < n → j < 7 → (Lit.int .i64 (F i j)).wf = true) (hx : (Lit.int .i64 x).wf = true) (hy : (Lit.int .i64 y).wf = true) :
    Calls Try.prog 4 #[.slice A n c, .int .i64 x, .int .i64 y] w fun e w' => e = .returned (.bool true) ∧ Below w.heap.size w w' := by
  have hti := timed_ok w
  have hef := hide (fun wx (hb : Below w.heap.size w wx) => effects_ok A n c F wx (hr.below hb) hn hwf)
  clear hr hwf
  go_enter Try.func4, Try.ntmps4
  go_wp2_with fail
  refine hti.mono ?_
  rintro e w1 ⟨rfl, hb1⟩
  clear hti
  go_wp2_with fail
  refine (hef.out w1 hb1).mono ?_
  rintro e w2 ⟨A2, c2, rfl, hown2, hb2⟩
  have hbl2 := hb1.trans (hb2.mono hb1.size)
  have hv := efG_ok F n
  have hr2 := RdF.of_own hown2
  clear hef hb1 hb2 hown2
  generalize efG F = E at *
  generalize min n 12 = m at *
  have hcl := hide (clicks_ok A2 m c2 E w2 hv hr2)
  go_wp2_with fail
  refine hcl.out.mono ?_
  rintro e w3 ⟨A3, c3, rfl, hown3, hb3⟩
  have hbl3 := hbl2.trans (hb3.mono hbl2.size)
  have hr3 := hr2.below hb3
  have hN : 1 ≤ cN E m ∧ cN E m ≤ 13 := by
    have := ck_bd E m
    have := hv.few
    unfold cN
    omega
  obtain ⟨N1, N2⟩ := hN
  have hlen : ((cN E m : Int) == 0) = false := by simp; omega
  clear hcl hr2 hbl2 hb3
  have hcx := wi_bd x (show (0 : Int) ≤ (cN E m : Int) - 1 by omega)
  have hcy := wi_bd y (show (0 : Int) ≤ 5000 by omega)
  have hw1 := hide (fun wx => within_any x 0 ((cN E m : Int) - 1) wx hx (by omega) (by omega) (by omega))
  have hw2 := hide (fun wx => within_any y 0 5000 wx hy (by omega) (by omega) (by omega))
  obtain ⟨k, hk⟩ : ∃ k : Nat, wi x 0 ((cN E m : Int) - 1) = (k : Int) := ⟨(wi x 0 ((cN E m : Int) - 1)).toNat, by omega⟩
  rw [hk] at hw1 hcx
  generalize hM : cN E m = M at *
  generalize wi y 0 5000 = v at *
  clear hk hM
  obtain ⟨v0, v1⟩ := hcy
  obtain ⟨g3, rfl, hg3⟩ := own_at hown3 (by omega)
  have hck : k < M := by omega
  have kc : w3.cell? ⟨g3, k, none⟩ = some (.int .i64 (cm E (k : Int) m)) := own_cell hown3 hck
  obtain ⟨t0, t1⟩ := cm_bd hv (k : Int) m (Nat.le_refl _)
  have hst1 := hide (state_ok A2 m c2 E (k : Int) (cm E (k : Int) m) w3 hv hr3 (by omega) (by omega) t0 (by omega))
  have hst2 := hide (fun wx (hb : Below w3.heap.size w3 wx) => state_ok A2 m c2 E (k : Int) (cm E (k : Int) m + v) wx hv (hr3.below hb) (by omega) (by omega) (by omega) (by omega))
  have hcong := hide (row_congr (F := E) (sD E m) (over (F := E) (n := m) (k : Int) v v0))
  have hfew := hide (show (sD E m).length ≤ 12 by have := D_len E m; have := hv.few; rw [sD_len]; omega)
  have hkM : (k : Int) < (M : Int) := by omega
  have hk0 : (0 : Int) ≤ (k : Int) := by omega
  clear hv hr3 hown3 hck hx hy hcx
  go_wp2_with (first | (go_at_call 9; first | ((with_reducible refine (hw1.out _).mono ?_); rintro e w4 ⟨rfl, rfl⟩) | ((with_reducible refine (hw2.out _).mono ?_); rintro e w4 ⟨rfl, rfl⟩)))
  refine hst1.out.mono ?_
  rintro e w4 ⟨A4, c4, rfl, hown4, hb4⟩
  have kc4 : w4.cell? ⟨g3, k, none⟩ = some (.int .i64 (cm E (k : Int) m)) := (hb4.cell (p := ⟨g3, k, none⟩) (World.block_lt_of_cell? _ _ kc)).trans kc
  have hbl4 := hbl3.trans (hb4.mono hbl3.size)
  have hS2 := hide (hst2.out w4 hb4)
  clear hst1 hst2 hw1 hw2 kc hbl3 hb4
  go_wp2_with fail
  refine hS2.out.mono ?_
  rintro e w5 ⟨A5, c5, rfl, hown5, hb5⟩
  have hbl5 := hbl4.trans (hb5.mono hbl4.size)
  have hown4' := own_below hown4 hb5
  rw [← hcong.out] at hown5
  have heq := hide (alike_states A4 A5 (sD E m).length c4 c5 (fun a b => stF E (pF E (k : Int) (cm E (k : Int) m)) m (ix (sD E m) a) b) w5 (RdF.of_own hown4') (RdF.of_own hown5) (by have := hfew.out; omega))
  clear hS2 hown4 hown4' hown5 hb5 hbl4 kc4
  go_wp2_with fail
  refine heq.out.mono ?_
  rintro e w6 ⟨rfl, d, rfl⟩
  have hbl6 := below_drewN hbl5 d
  go_wp2_with fail
  go_ret
  exact ⟨rfl, hbl6⟩

theorem walked : Walked Try.checked.prog 4 Try.f4 := by
  intro H enc W args ds ps hval hA
  rw [Try.params4] at hA hval
  obtain ⟨v0, v1, v2, d0, d1, d2, p0, p1, p2, hargs, rfl, rfl, h0, h1, h2⟩ := trodAll_three hA
  obtain rfl : args = #[v0, v1, v2] := by cases args; simp_all
  obtain ⟨x, rfl, _, _, wx⟩ := open_int Try.underlying3 (hval 1 _ _ rfl rfl) h1
  obtain ⟨y, rfl, _, _, wy⟩ := open_int Try.underlying3 (hval 2 _ _ rfl rfl) h2
  obtain ⟨a0, l0, k0, rfl⟩ := okWide_slice Try.underlying33 (hval 0 _ _ rfl rfl)
  obtain ⟨fuel, h0⟩ := h0
  obtain ⟨A, n, c, F, hs, hn, hr, hwf⟩ := effects_trod (v := .slice a0 l0 k0) h0
  rw [hs]
  exact walk A n c F x y W hn hr hwf wx wy

theorem lifted (os : Os) (started : os.Started) (H : Type) (enc : TypeId × Value → H) :
    ReturnsInHanded {} Try.checked os 4 .any (Rows.timelineOverAtEndSpec.pre6 enc Try.prog Try.f4 Rows.timelineOverAtEndRow.domain false) (Rows.timelineOverAtEndSpec.post enc Try.prog Try.f4 false true false false) :=
  law_lift (C := Try.checked) (tb := 4) (by kernel_rfl) started (by kernel_rfl) Try.func4 rfl
    (fun ds h => match ds, h with | [_, _, _], _ => rfl) rfl Try.underlying4 (by kernel_rfl) (by kernel_rfl)
    (ChangeSpec.witness6 (enc := enc) (C := Try.checked) false ⟨#[], #[.slice none 0 0, .int .i64 0, .int .i64 0], []⟩ 8 (by kernel_rfl) (by kernel_rfl) (by kernel_rfl) (by kernel_rfl))
    walked

/-- THE STATEMENT -/
theorem proved : Rows.TimelineOverAtEndSaid :=
  OpenClaim.holds_of_wide 4 Try.f4 rfl rfl rfl rfl rfl rfl rfl ⟨rfl, rfl, rfl, rfl, rfl⟩ rfl rfl rfl rfl rfl (by kernel_rfl) Try.func4 (by kernel_rfl)
    (of_decide_eq_true (by kernel_rfl)) (by unfold Func.isWrapper; first | (rw [if_pos (by decide +kernel)]; kernel_rfl) | (rw [if_neg (by decide +kernel)]; exact ⟨rfl, rfl⟩))
    (fun os started H enc _ => lifted os started H enc)
#print axioms proved
end Go.Proofs.Ytlipdhoeklgdoaa.TimelineOverAtEndDone
