/- The contract of chart.Range. -/
import Derived.Test.YtoggpbbndoipdaaRangePlain
import Derived.Test.YtoggpbbndoipdaaChart
import Derived.Deep.CutBlock
namespace Go.Proofs.Ytoggpbbndoipdaa.Chr
open Go.RowKit Go.Frm

theorem colR_le {k : Int} {V : Nat → Nat → Int} {i : Nat} {p : Int × Int} (h : p.1 ≤ p.2) (s : Nat) : (colR k V i p s).1 ≤ (colR k V i p s).2 := by
  have := colR_wide k V i p s
  omega
set_option maxRecDepth 100000 in
set_option maxHeartbeats 4000000 in
theorem range_ok (kind : Int) (An As : Option Addr) (n cn m cs : Nat) (rows : Nat → List Int) (w : World) (h : Ch kind n m rows) (hk : kind = 0 ∨ kind = 1 ∨ kind = 2) (m4 : m ≤ 4) (hV : ∀ s i, s < m → i < n → -1000 ≤ ix (rows s) i ∧ ix (rows s) i ≤ 1000) (hr : RdM w As m rows) :
    Calls Try.prog 8 #[.agg #[.int .i64 kind, .slice An n cn, .slice As m cs]] w fun e w' =>
      e = .returned (.tuple #[.int .i64 (rngR kind (fun s i => ix (rows s) i) m n).1, .int .i64 (rngR kind (fun s i => ix (rows s) i) m n).2, .int .i64 0]) ∧ Below w.heap.size w w' := by
  have H := hide h
  have HV := hide hV
  clear hV
  obtain ⟨k0, k1, n0, n1, m0, m1, one, len, val⟩ := h
  have Len := hide len
  clear one len val
  have hbel : Below w.heap.size w (w.alloc (.cells #[.int .i64 kind, .slice An n cn, .slice As m cs] 25)) := (Below.refl _ _).alloc (Nat.le_refl _) _
  have hr0 := hr.alloc (.cells #[.int .i64 kind, .slice An n cn, .slice As m cs] 25)
  have hb0 := Blk.new w 25 #[.int .i64 kind, .slice An n cn, .slice As m cs]
  go_enter Try.func8, Try.ntmps8
  go_wp2_with fail
  generalize w.alloc (.cells #[.int .i64 kind, .slice An n cn, .slice As m cs] 25) = w0 at *
  refine (check_ok kind An As n cn m cs rows w0 H.out hr0).mono ?_
  rintro e w1 ⟨rfl, hbel1⟩
  have hb1 := hb0.below hbel1 hb0.lt
  have hr1 := hr0.below hbel1
  have hbelA := hbel.trans (hbel1.mono hbel.size)
  have c0 : w1.cell? ⟨w.heap.size, 0, none⟩ = some (.int .i64 kind) := hb1.cell 0
  have c1 : w1.cell? ⟨w.heap.size, 1, none⟩ = some (.slice An n cn) := hb1.cell 1
  have c2 : w1.cell? ⟨w.heap.size, 2, none⟩ = some (.slice As m cs) := hb1.cell 2
  clear hbel hbel1 hr hr0 hb0
  have hV0 : ∀ (s i : Nat), s < m → i < n → ∃ b off Ai ci b2 off2, As = some ⟨b, off, none⟩ ∧ w1.cell? ⟨b, off + s, none⟩ = some (.slice Ai n ci) ∧ Ai = some ⟨b2, off2, none⟩ ∧ w1.cell? ⟨b2, off2 + i, none⟩ = some (.int .i64 (ix (rows s) i)) := fun s i hs hi => by
    obtain ⟨b, off, Ai, ci, rfl, hc, hri⟩ := hr1.at_ hs
    obtain ⟨b2, off2, rfl, hc2⟩ := hri.at_ (show i < _ by rw [Len.out s hs]; exact hi)
    rw [Len.out s hs] at hc
    exact ⟨b, off, _, ci, b2, off2, rfl, hc, rfl, hc2⟩
  have HV0 := hide hV0
  clear hV0 hr1
  generalize hVV : (fun s i => ix (rows s) i) = V at *
  have hVe : ∀ s i, ix (rows s) i = V s i := fun s i => by rw [← hVV]
  have HVe := hide hVe
  have HVV := hide hVV
  clear hVe hVV
  go_upto_if 19 with fail
  go_cut [6, 7] (fun a b wc => ∃ d : Nat, a = .int .i64 (rngR kind V m 0).1 ∧ b = .int .i64 (rngR kind V m 0).2 ∧ wc = w1.drewN d)
  case first =>
    by_cases h2 : kind = 2
    · subst h2
      obtain ⟨b, off, Ai, ci, b2, off2, rfl, d0, rfl, d1⟩ := HV0.out 0 0 (by omega) (by omega)
      rw [HVe.out] at d1
      simp only [Nat.add_zero] at d0 d1
      have hm0 : (0 : Int) < (m : Int) := by omega
      have hn0 : (0 : Int) < (n : Int) := by omega
      go_wp2_with fail
      go_quiet (fail)
      go_wp2_with fail
      go_meet
      exact ⟨_, rfl, rfl, rfl⟩
    · have hq : (kind == 2) = false := by simpa using h2
      go_wp2_with fail
      go_meet
      exact ⟨0, by show Value.int .i64 0 = .int .i64 (if kind = 2 then _ else _ : Int × Int).1; rw [if_neg h2], by show Value.int .i64 0 = .int .i64 (if kind = 2 then _ else _ : Int × Int).2; rw [if_neg h2], rfl⟩
  case rest =>
    obtain ⟨d, rfl, rfl, rfl⟩ := hcut
    go_wp2_with fail
    go_loopw [6, 7, 35] (fun a b i wr => ∃ k d : Nat, k ≤ n ∧ i = .int .i64 k ∧ a = .int .i64 (rngR kind V m k).1 ∧ b = .int .i64 (rngR kind V m k).2 ∧ wr = w1.drewN d) (fun _ _ i _ => n - (intOf i).toNat)
    case atStart => exact ⟨0, _, by omega, rfl, rfl, rfl, rfl⟩
    case round =>
      obtain ⟨k, d, hk, rfl, rfl, rfl, rfl⟩ := hrel
      by_cases hlt : k < n
      · have hle := rngR_le (k := kind) V m k
        have hnext : rngR kind V m (k + 1) = endR kind V m k (rngR kind V m k) := rfl
        generalize rngR kind V m k = p at *
        have Hnext := hide hnext
        clear hnext
        go_wp2_with fail
        go_loopw [6, 7, 9, 41] (fun a b c i wr => ∃ s d : Nat, s ≤ m ∧ i = .int .i64 s ∧ a = .int .i64 (colR kind V k p s).1 ∧ b = .int .i64 (colR kind V k p s).2 ∧ c = .int .i64 (fsum (fun j => V j k) s) ∧ wr = w1.drewN d) (fun _ _ _ i _ => m - (intOf i).toNat)
        case atStart => exact ⟨0, _, by omega, rfl, rfl, rfl, rfl, rfl⟩
        case round =>
          obtain ⟨s, d, hs, rfl, rfl, rfl, rfl, rfl⟩ := hrel
          have hcl := colR_le (k := kind) (V := V) (i := k) hle s
          by_cases hlt2 : s < m
          · obtain ⟨b, off, Ai, ci, b2, off2, rfl, e0, rfl, e1⟩ := HV0.out s k hlt2 hlt
            rw [HVe.out] at e1
            have hv := HV.out s k hlt2 hlt
            rw [HVe.out] at hv
            have hsum : -4000 ≤ fsum (fun j => V j k) s ∧ fsum (fun j => V j k) s ≤ 4000 := by
              have a1 : fsum (fun j => V j k) s ≤ s * 1000 := by rw [← fsum_const]; exact fsum_le fun j hj => by have := HV.out j k (by omega) hlt; rw [HVe.out] at this; omega
              have a2 : fsum (fun _ => (-1000 : Int)) s ≤ fsum (fun j => V j k) s := fsum_le fun j hj => by have := HV.out j k (by omega) hlt; rw [HVe.out] at this; omega
              rw [fsum_const] at a2
              omega
            have hc1 : (colR kind V k p (s + 1)).1 = if kind = 1 then (colR kind V k p s).1 else min (colR kind V k p s).1 (V s k) := by rw [colR]; split <;> rfl
            have hc2 : (colR kind V k p (s + 1)).2 = if kind = 1 then (colR kind V k p s).2 else max (colR kind V k p s).2 (V s k) := by rw [colR]; split <;> rfl
            generalize (colR kind V k p s).1 = lo at *
            generalize (colR kind V k p s).2 = hi at *
            by_cases h1 : kind = 1
            · subst h1
              rw [if_pos rfl] at hc1 hc2
              have Hc1 := hide hc1
              have Hc2 := hide hc2
              clear hc1 hc2
              go_wp2_with fail
              go_roundw
              case rel => exact ⟨s + 1, _, by omega, by go_num, val_int (by rw [Hc1.out]), val_int (by rw [Hc2.out]), rfl, rfl⟩
              case measure => simp [intOf]; omega
            · have hq : (kind == 1) = false := by simpa using h1
              rw [if_neg h1] at hc1 hc2
              generalize hvv : V s k = v at *
              have Hvv := hide hvv
              clear hvv
              have Hc1 := hide hc1
              have Hc2 := hide hc2
              clear hc1 hc2
              have hq' : (kind != 1) = true := by simpa using h1
              rcases Int.lt_trichotomy lo v with ha | ha | ha <;> rcases Int.lt_trichotomy hi v with hb | hb | hb
              all_goals first
                | (exfalso; omega)
                | (try subst ha
                   try subst hb
                   go_wp2_with fail
                   go_region
                   go_wp2_with fail
                   go_roundw
                   case rel => exact ⟨s + 1, _, by omega, by go_num, val_int (by rw [Hc1.out]; omega), val_int (by rw [Hc2.out]; omega), val_int (by rw [fsum_succ, Hvv.out]), rfl⟩
                   case measure => simp [intOf]; omega)
          · obtain rfl : s = m := by omega
            have hsum : -4000 ≤ fsum (fun j => V j k) s ∧ fsum (fun j => V j k) s ≤ 4000 := by
              have a1 : fsum (fun j => V j k) s ≤ s * 1000 := by rw [← fsum_const]; exact fsum_le fun j hj => by have := HV.out j k (by omega) hlt; rw [HVe.out] at this; omega
              have a2 : fsum (fun _ => (-1000 : Int)) s ≤ fsum (fun j => V j k) s := fsum_le fun j hj => by have := HV.out j k (by omega) hlt; rw [HVe.out] at this; omega
              rw [fsum_const] at a2
              omega
            have hc1 : (endR kind V s k p).1 = (colR kind V k p s).1 := by unfold endR; split <;> rfl
            have hc2 : (endR kind V s k p).2 = if kind = 1 then max (colR kind V k p s).2 (fsum (fun j => V j k) s) else (colR kind V k p s).2 := by unfold endR; split <;> rfl
            rw [← Hnext.out] at hc1 hc2
            generalize (colR kind V k p s).1 = lo at *
            generalize (colR kind V k p s).2 = hi at *
            generalize fsum (fun j => V j k) s = sm at *
            by_cases h1 : kind = 1
            · rw [if_pos h1] at hc2
              have hq : (kind == 1) = true := by simpa using h1
              have Hc1 := hide hc1
              have Hc2 := hide hc2
              clear hc1 hc2 h1
              rcases Int.lt_trichotomy hi sm with hb | hb | hb
              all_goals
                try subst hb
                go_wp2_with fail
                go_roundw
                case rel => exact ⟨k + 1, _, by omega, by go_num, val_int (by rw [Hc1.out]), val_int (by rw [Hc2.out]; omega), rfl⟩
                case measure => simp [intOf]; omega
            · rw [if_neg h1] at hc2
              have hq : (kind == 1) = false := by simpa using h1
              have Hc1 := hide hc1
              have Hc2 := hide hc2
              clear hc1 hc2 h1
              go_wp2_with fail
              go_roundw
              case rel => exact ⟨k + 1, _, by omega, by go_num, val_int (by rw [Hc1.out]), val_int (by rw [Hc2.out]), rfl⟩
              case measure => simp [intOf]; omega
      · obtain rfl : k = n := by omega
        go_wp2_with fail
        refine bodyPost_ret (v := .tuple #[.int .i64 (rngR kind V m k).1, .int .i64 (rngR kind V m k).2, .int .i64 0]) (by simp [results, Try.results8, go_sem]) rfl ?_
        exact ⟨by rw [HVV.out], below_drewN hbelA d⟩
end Go.Proofs.Ytoggpbbndoipdaa.Chr
