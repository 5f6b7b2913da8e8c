/- Contracts of package printing: check, Order. -/
import Derived.Test.YtlipdhoeklgdoaaPcPlain
import Derived.Test.YtlipdhoeklgdoaaProg
namespace Go.Proofs.Ytlipdhoeklgdoaa.Pc
open Go.RowKit Go.Frm

theorem int_info : (Try.prog.info? 3).map (fun i => (i.zero, i.size, i.bytes)) = some (some (.int .i64 0), 1, 8) := by kernel_rfl
set_option maxHeartbeats 1000000 in
theorem check_ok (A : Option Addr) (c : Nat) (zs : List Int) (w : World) (hr : RdI w A zs) (hl : zs.length ≤ 10000) (hz : ∀ i, i < zs.length → 0 ≤ ix zs i ∧ ix zs i ≤ 10000) :
    Calls Try.prog 22 #[.slice A zs.length c] w fun e w' => e = .returned (.int .i64 0) ∧ w = w' := by
  have Hz := hide hz
  have hl' : decide ((zs.length : Int) > 10000) = false := by simp; omega
  clear hz
  go_enter Try.func22, Try.ntmps22
  go_wp2_with fail
  go_loopw [10] (fun a wr => ∃ i : Nat, i ≤ zs.length ∧ a = .int .i64 i ∧ w = wr) (fun a _ => zs.length - (intOf a).toNat)
  case atStart => exact ⟨0, by omega, rfl, rfl⟩
  case round =>
    obtain ⟨i, hi, rfl, rfl⟩ := hrel
    by_cases hlt : i < zs.length
    · obtain ⟨b, off, rfl, hc⟩ := hr.at_ hlt
      obtain ⟨z0, z1⟩ := Hz.out i hlt
      generalize ix zs i = z at *
      have q0 : decide (z < 0) = false := by simp; omega
      have q1 : decide (z > 10000) = false := by simp; omega
      go_wp2_with fail
      go_roundw
      case rel => exact ⟨i + 1, by omega, by go_num, trivial⟩
      case measure => simp [intOf]; omega
    · go_wp2_with fail
      go_ret
      exact ⟨rfl, rfl⟩

/-- what Order has written behind K rounds -/
def ordK (x : Nat → Int) (N : Nat) (back : Bool) (K a : Nat) : Value := .int .i64 (if po N back a < K then x a else 0)
theorem ordK_step {x : Nat → Int} {N : Nat} {back : Bool} {K : Nat} (hK : K < N) : tabV N (upd (ordK x N back K) (po N back K) (.int .i64 (x (po N back K)))) = tabV N (ordK x N back (K + 1)) := by
  refine tabV_congr (fun a ha => ?_)
  obtain ⟨h1, h2⟩ := po_bd (back := back) hK
  obtain ⟨h3, h4⟩ := po_bd (back := back) ha
  by_cases hak : a = po N back K
  · subst hak
    rw [upd_same]
    unfold ordK
    rw [h2, if_pos (by omega)]
  · rw [upd_other _ _ hak]
    unfold ordK
    have hne : po N back a ≠ K := fun e => hak (by rw [← e, h4])
    refine val_int ?_
    by_cases h : po N back a < K
    · rw [if_pos h, if_pos (by omega)]
    · rw [if_neg h, if_neg (by omega)]
def OrdPost (zs : List Int) (c : Nat) (collate back : Bool) (w : World) (e : Ending) (w' : World) : Prop :=
  ∃ A' c', e = .returned (.tuple #[.slice A' (zs.length * c) c', .int .i64 0]) ∧ w'.ownsRow w.heap.size 3 1 (.slice A' (zs.length * c) c') (zs.length * c) (tabV (zs.length * c) (fun a => .int .i64 (ord (ix zs) zs.length c collate back a))) ∧ Below w.heap.size w w'

set_option maxRecDepth 100000 in
set_option maxHeartbeats 4000000 in
theorem order_ok (A : Option Addr) (cz : Nat) (zs : List Int) (c : Nat) (collate back : Bool) (w : World) (hr : RdI w A zs) (hl : zs.length ≤ 40) (hz : ∀ i, i < zs.length → 1 ≤ ix zs i ∧ ix zs i ≤ 60) (hc0 : 1 ≤ c) (hc1 : c ≤ 5) :
    Calls Try.prog 7 #[.slice A zs.length cz, .int .i64 c, .bool collate, .bool back] w (OrdPost zs c collate back w) := by
  have hch := hide (check_ok A cz zs w hr (by omega) (fun i hi => by have := hz i hi; omega))
  have hN : zs.length * c ≤ 200 := by
    have : zs.length * c ≤ 40 * 5 := Nat.mul_le_mul hl hc1
    omega
  have hNc : (zs.length : Int) * (c : Int) = ((zs.length * c : Nat) : Int) := by simp
  have q1 : decide ((c : Int) < 1) = false := by simp; omega
  have q2 : decide ((c : Int) > 999) = false := by simp; omega
  have q3 : decide ((((zs.length * c : Nat) : Int)) > 10000) = false := by simp; omega
  have q4 : ((c : Int) == 0) = false := by simp; omega
  have hbd := hide (fun K (hK : K < zs.length * c) => ii_bd (n := zs.length) (c := c) (collate := collate) hK)
  have hpo := hide (fun K (hK : K < zs.length * c) => po_bd (N := zs.length * c) (back := back) hK)
  have hord := hide (fun K (hK : K < zs.length * c) => (show ord (ix zs) zs.length c collate back (po (zs.length * c) back K) = ix zs (ii zs.length c collate K) by unfold ord; rw [(po_bd hK).2]))
  clear hz
  generalize hNN : zs.length * c = N at *
  have HN := hide hNN
  clear hNN
  go_enter Try.func7, Try.ntmps7
  go_wp2_with fail
  refine hch.out.mono ?_
  rintro e w1 ⟨rfl, rfl⟩
  go_wp2_with (at_make; refine wpL_make1 (base := w.heap.size) (n := N) rfl rfl Try.underlying22 int_info rfl rfl rfl rfl rfl (by omega) (by omega) (Nat.le_refl _) ?_; intro w2 hown2 hgrow2)
  have hb2 := below_made (Below.refl _ _) (Nat.le_refl _) hgrow2
  have hr2 := hr.below hb2
  have hlt2 : w.heap.size < w2.heap.size := by
    rcases hown2.2 with ⟨h1, _⟩ | ⟨g', cap, cur, h1, _, h2, _⟩
    · cases h1
    · have hg : w.heap.size = g' := by injection h1 with h1; injection h1 with h1; injection h1
      rw [hg]
      exact (Array.getElem?_eq_some_iff.1 h2).1
  have hx0 : tabV N (fun _ => Value.int .i64 0) = tabV N (ordK (ord (ix zs) zs.length c collate back) N back 0) := tabV_congr (fun a _ => by unfold ordK; rw [if_neg (by omega)])
  rw [hx0] at hown2
  clear hx0 hgrow2 hch
  go_loopw [38] (fun a wr => ∃ K : Nat, K ≤ N ∧ a = .int .i64 K ∧ wr.ownsRow w.heap.size 3 1 (.slice (some ⟨w.heap.size, 0, none⟩) N N) N (tabV N (ordK (ord (ix zs) zs.length c collate back) N back K)) ∧ Below w.heap.size w wr) (fun a _ => N - (intOf a).toNat)
  case atStart => exact ⟨0, by omega, rfl, hown2, hb2⟩
  case round =>
    clear hown2 hb2 hr2
    obtain ⟨K, hK, rfl, hown, hbl⟩ := hrel
    by_cases hlt : K < N
    · have hI := hbd.out K hlt
      obtain ⟨hP, _⟩ := hpo.out K hlt
      have hX := hord.out K hlt
      obtain ⟨b, off, rfl, kz⟩ := (hr.below hbl).at_ hI
      have hst := own_store hown (po N back K) (.int .i64 (ord (ix zs) zs.length c collate back (po N back K)))
      rw [ordK_step hlt] at hst
      have kp := own_cell hown hP
      have zf := hown.frozenAt (po N back K)
      unfold ordK at kp
      have hIi : ((ii zs.length c collate K : Nat) : Int) = if collate then (K : Int) % (zs.length : Int) else (K : Int) / (c : Int) := by unfold ii; cases collate <;> simp
      have hDi : 0 ≤ (K : Int) / (c : Int) ∧ (K : Int) / (c : Int) ≤ 200 := by
        have h1 : ((K / c : Nat) : Int) = (K : Int) / (c : Int) := by simp
        have h2 := Nat.div_le_self K c
        rw [← h1]
        refine ⟨Int.natCast_nonneg _, ?_⟩
        have h3 : K / c ≤ 200 := by have := hlt; exact Nat.le_trans h2 (by omega)
        exact Int.ofNat_le.2 h3
      have hPi : ((po N back K : Nat) : Int) = if back then (N : Int) - 1 - (K : Int) else (K : Int) := by unfold po; cases back <;> simp <;> omega
      have hz0 : ((zs.length : Int) == 0) = false := by rw [beq_eq_false_iff_ne]; omega
      have hbs := hbl.setCell (p := ⟨w.heap.size, po N back K, none⟩) (Nat.le_refl _) (.int .i64 (ord (ix zs) zs.length c collate back (po N back K)))
      rw [hX] at hst hbs
      have hlw := hown
      clear hX hown hbl
      generalize ii zs.length c collate K = I at *
      generalize po N back K = Q at *
      have hI2 : (I : Int) < (zs.length : Int) := by omega
      have hQ2 : (Q : Int) < (N : Int) := by omega
      have e1 : (K : Int).tdiv (c : Int) = (K : Int) / (c : Int) := Int.tdiv_eq_ediv_of_nonneg (by omega)
      have e2 : (K : Int).tmod (zs.length : Int) = (K : Int) % (zs.length : Int) := Int.tmod_eq_emod_of_nonneg (by omega)
      obtain ⟨u0, u1⟩ := hDi
      have hfin := hide (And.intro hst hbs)
      clear hst hbs hlw
      cases collate with
      | false =>
        simp only [Bool.false_eq_true, if_false] at hIi
        have hw : wrap64 ((K : Int) / (c : Int)) = (I : Int) := by rw [← hIi]; exact IntWalk.wrap64_in _ ⟨by omega, by omega⟩
        clear hIi e1 e2 u0 u1
        cases back with
        | false =>
          simp only [Bool.false_eq_true, if_false] at hPi
          obtain rfl : K = Q := by omega
          clear hPi
          go_wp2_with fail
          go_roundw
          case rel => exact ⟨K + 1, by omega, by go_num, hfin.out.1, hfin.out.2⟩
          case measure => simp [intOf]; omega
        | true =>
          simp only [if_true] at hPi
          have hp2 : (N : Int) - 1 - (K : Int) = (Q : Int) := hPi.symm
          clear hPi
          go_wp2_with fail
          go_roundw
          case rel => exact ⟨K + 1, by omega, by go_num, hfin.out.1, hfin.out.2⟩
          case measure => simp [intOf]; omega
      | true =>
        simp only [if_true] at hIi
        have hw : (K : Int).tmod (zs.length : Int) = (I : Int) := by rw [hIi]; exact e2
        have hw2 : (K : Int) % (zs.length : Int) = (I : Int) := hIi.symm
        have hw3 : wrap64 ((K : Int) / (c : Int)) = (K : Int) / (c : Int) := IntWalk.wrap64_in _ ⟨by omega, by omega⟩
        clear hIi e1 e2 u0 u1
        cases back with
        | false =>
          simp only [Bool.false_eq_true, if_false] at hPi
          obtain rfl : K = Q := by omega
          clear hPi
          go_wp2_with fail
          go_roundw
          case rel => exact ⟨K + 1, by omega, by go_num, hfin.out.1, hfin.out.2⟩
          case measure => simp [intOf]; omega
        | true =>
          simp only [if_true] at hPi
          have hp2 : (N : Int) - 1 - (K : Int) = (Q : Int) := hPi.symm
          clear hPi
          go_wp2_with fail
          go_roundw
          case rel => exact ⟨K + 1, by omega, by go_num, hfin.out.1, hfin.out.2⟩
          case measure => simp [intOf]; omega
    · obtain rfl : K = N := by omega
      go_wp2_with fail
      go_ret2
      refine ⟨some ⟨w.heap.size, 0, none⟩, K, by rw [HN.out]; rfl, ?_, hbl⟩
      rw [HN.out]
      have e : tabV K (ordK (ord (ix zs) zs.length c collate back) K back K) = tabV K (fun a => .int .i64 (ord (ix zs) zs.length c collate back a)) := tabV_congr (fun a ha => by unfold ordK; rw [if_pos (po_bd ha).1])
      rw [← e]
      exact hown
end Go.Proofs.Ytlipdhoeklgdoaa.Pc
