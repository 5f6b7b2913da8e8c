/- The events that the law makes. -/
import Derived.Test.YtmnbcpinlgklpaaClockReport
import Derived.Test.YtmnbcpinlgklpaaWithin
namespace Go.Proofs.Ytmnbcpinlgklpaa.Clk
open Go.RowKit Go.Frm Wi

def pushE (E : Evs) (k a x : Int) : Evs := ⟨E.N + 1, upd E.ek E.N k, upd E.ea E.N a, upd E.es E.N x⟩
theorem push_run (E : Evs) (k a x : Int) : ∀ i, i ≤ E.N → runB (pushE E k a x) i = runB E i
  | 0, _ => rfl
  | i + 1, hi => by
    unfold runB
    rw [push_run E k a x i (by omega)]
    show (if upd E.ek E.N k i = 0 then true else if upd E.ek E.N k i = 1 then false else runB E i) = _
    rw [upd_other _ _ (by omega)]
theorem push_row (E : Evs) (k a x : Int) : rowF (E.N + 1) 3 (evf (pushE E k a x)) = rowF E.N 3 (evf E) ++ [.int .i64 k, .int .i64 a, .int .i64 x] := by
  rw [rowF_succ]
  congr 1
  · refine rowF_congr fun i j hi hj => ?_
    match j, hj with
    | 0, _ => show Value.int .i64 (upd E.ek E.N k i) = .int .i64 (E.ek i); rw [upd_other _ _ (by omega)]
    | 1, _ => show Value.int .i64 (upd E.ea E.N a i) = .int .i64 (E.ea i); rw [upd_other _ _ (by omega)]
    | 2, _ => show Value.int .i64 (upd E.es E.N x i) = .int .i64 (E.es i); rw [upd_other _ _ (by omega)]
  · show [Value.int .i64 (upd E.ek E.N k E.N), Value.int .i64 (upd E.ea E.N a E.N), Value.int .i64 (upd E.es E.N x E.N)] = _
    rw [upd_same, upd_same, upd_same]
theorem lst_push (E : Evs) (k a x : Int) : lstE (pushE E k a x) (E.N + 1) = a := by
  show upd E.ea E.N a E.N = a
  exact upd_same _ _ _
theorem run_push (E : Evs) (k a x : Int) : runB (pushE E k a x) (E.N + 1) = if k = 0 then true else if k = 1 then false else runB E E.N := by
  rw [runB, push_run E k a x E.N (Nat.le_refl _)]
  show (if upd E.ek E.N k E.N = 0 then true else if upd E.ek E.N k E.N = 1 then false else runB E E.N) = _
  rw [upd_same]
theorem ve_push {E : Evs} (h : VE E) {k a x : Int} (hN : E.N + 1 ≤ 1000) (ha : lstE E E.N ≤ a) (h0 : 0 ≤ a) (h1 : a ≤ 10000000)
    (hk : (k = 0 ∧ x = 0 ∧ runB E E.N = false) ∨ (k = 1 ∧ x = 0 ∧ runB E E.N = true) ∨ (k = 2 ∧ 1 ≤ x ∧ x ≤ 1000)) : VE (pushE E k a x) := by
  have hea : ∀ i, i < E.N → (pushE E k a x).ea i = E.ea i := fun i hi => upd_other _ _ (by omega)
  have hen : (pushE E k a x).ea E.N = a := upd_same _ _ _
  refine ⟨hN, ⟨fun i hi => ?_, fun i j hij hj => ?_⟩, fun i hi => ?_, fun i hi => ?_⟩
  · have hi' : i < E.N + 1 := hi
    by_cases hin : i = E.N
    · rw [hin, hen]; exact h0
    · rw [hea i (by omega)]; exact h.srt.pos i (by omega)
  · have hj' : j < E.N + 1 := hj
    by_cases hjn : j = E.N
    · rw [hjn, hen]
      by_cases hin : i = E.N
      · rw [hin, hen]; exact Int.le_refl _
      · rw [hea i (by omega)]
        obtain ⟨m, hm⟩ : ∃ m, E.N = m + 1 := ⟨E.N - 1, by omega⟩
        rw [hm] at ha
        exact Int.le_trans (h.srt.mono i m (by omega) (by omega)) ha
    · rw [hea i (by omega), hea j (by omega)]
      exact h.srt.mono i j hij (by omega)
  · have hi' : i < E.N + 1 := hi
    by_cases hin : i = E.N
    · rw [hin, hen]; exact h1
    · rw [hea i (by omega)]; exact h.most i (by omega)
  · have hi' : i < E.N + 1 := hi
    rw [push_run E k a x i (by omega)]
    by_cases hin : i = E.N
    · subst hin
      show (upd E.ek E.N k E.N = 0 ∧ upd E.es E.N x E.N = 0 ∧ _) ∨ (upd E.ek E.N k E.N = 1 ∧ upd E.es E.N x E.N = 0 ∧ _) ∨ (upd E.ek E.N k E.N = 2 ∧ 1 ≤ upd E.es E.N x E.N ∧ upd E.es E.N x E.N ≤ 1000)
      rw [upd_same, upd_same]
      exact hk
    · show (upd E.ek E.N k i = 0 ∧ upd E.es E.N x i = 0 ∧ _) ∨ (upd E.ek E.N k i = 1 ∧ upd E.es E.N x i = 0 ∧ _) ∨ (upd E.ek E.N k i = 2 ∧ 1 ≤ upd E.es E.N x i ∧ upd E.es E.N x i ≤ 1000)
      rw [upd_other _ _ hin, upd_other _ _ hin]
      exact h.kind i (by omega)
def noE : Evs := ⟨0, fun _ => 0, fun _ => 0, fun _ => 0⟩
theorem ve_no : VE noE := ⟨by decide, ⟨fun i hi => by simp [noE] at hi, fun i j _ hj => by simp [noE] at hj⟩, fun i hi => by simp [noE] at hi, fun i hi => by simp [noE] at hi⟩

def EventsPost (w : World) (e : Ending) (w' : World) : Prop := ∃ (E : Evs) (A : Option Addr) (c : Nat), e = .returned (.slice A E.N c) ∧ VE E ∧ E.N ≤ 20 ∧
  w'.ownsRow w.heap.size 70 3 (.slice A E.N c) E.N (rowF E.N 3 (evf E)) ∧ Below w.heap.size w w'

set_option maxRecDepth 100000 in
set_option maxHeartbeats 4000000 in
theorem events_ok (A : Option Addr) (n c : Nat) (F : Nat → Nat → Int) (w : World) (_hn : n ≤ 9223372036854775807) (hr : RdF w A n 3 (fun i j => .int .i64 (F i j))) (hwf : ∀ i j, i < n → j < 3 → (Lit.int .i64 (F i j)).wf = true) :
    Calls Try.prog 25 #[.slice A n c] w (EventsPost w) := by
  have Hwf := hide hwf
  clear hwf
  go_enter Try.func25, Try.ntmps25
  go_wp2_with fail
  go_loopw [3, 4, 5, 6] (fun v a r i wr => ∃ E : Evs, E.N ≤ n ∧ E.N ≤ 20 ∧ i = .int .i64 E.N ∧ a = .int .i64 (lstE E E.N) ∧ r = .bool (runB E E.N) ∧ VE E ∧ lstE E E.N ≤ 300 * E.N ∧
    wr.ownsRow w.heap.size 70 3 v E.N (rowF E.N 3 (evf E)) ∧ Below w.heap.size w wr) (fun _ _ _ i _ => n - (intOf i).toNat)
  case atStart => exact ⟨noE, by simp [noE], by decide, rfl, rfl, rfl, ve_no, by decide, World.ownsRow_nil _ _ _ _, Below.refl _ _⟩
  case round =>
    obtain ⟨E, hk1, hk2, rfl, rfl, rfl, hve, hlst, hown, hbel⟩ := hrel
    have hsz := hbel.size
    have Hve := hide hve
    have hl0 : 0 ≤ lstE E E.N := by
      cases h : E.N with
      | zero => exact Int.le_refl _
      | succ m => exact hve.srt.pos m (by omega)
    clear hve
    by_cases hlt : E.N < n ∧ E.N < 20
    · obtain ⟨hlt1, hlt2⟩ := hlt
      obtain ⟨b, off, rfl, hc⟩ := (hr.below hbel).at_ hlt1
      have c0 : wr.cell? ⟨b, off + E.N * 3, none⟩ = some (.int .i64 (F E.N 0)) := hc 0 (by omega)
      have c1 : wr.cell? ⟨b, off + E.N * 3 + 1, none⟩ = some (.int .i64 (F E.N 1)) := hc 1 (by omega)
      have c2 : wr.cell? ⟨b, off + E.N * 3 + 2, none⟩ = some (.int .i64 (F E.N 2)) := hc 2 (by omega)
      clear hc
      have hbl : b < wr.heap.size := World.block_lt_of_cell? wr _ c0
      have hne : b ≠ wr.heap.size := by omega
      have w0 := Hwf.out E.N 0 hlt1 (by omega)
      have w1 := Hwf.out E.N 1 hlt1 (by omega)
      have w2 := Hwf.out E.N 2 hlt1 (by omega)
      obtain ⟨a1, a2⟩ := wi_bd (F E.N 1) (show (0 : Int) ≤ 300 by omega)
      obtain ⟨k1, k2⟩ := wi_bd (F E.N 0) (show (0 : Int) ≤ 2 by omega)
      obtain ⟨s1, s2⟩ := wi_bd (F E.N 2) (show (1 : Int) ≤ 4 by omega)
      go_wp2_with fail
      refine (within_any _ _ _ _ w1 (by omega) (by omega) (by omega)).mono ?_
      rintro e w5 ⟨rfl, rfl⟩
      go_wp2_with fail
      refine (within_any _ _ _ _ w0 (by omega) (by omega) (by omega)).mono ?_
      rintro e w5 ⟨rfl, rfl⟩
      generalize wi (F E.N 1) 0 300 = da at *
      generalize wi (F E.N 0) 0 2 = kx at *
      generalize hsx : wi (F E.N 2) 1 4 = sx at *
      have Hsx := hide hsx
      clear hsx
      by_cases hk : kx = 2
      · subst hk
        go_wp2_with fail
        refine (within_any _ _ _ _ w2 (by omega) (by omega) (by omega)).mono ?_
        rw [Hsx.out]
        rintro e w5 ⟨rfl, rfl⟩
        go_wp2_with (at_builtin; refine wpL_append (size := 3) rfl rfl Try.underlying62 event_info rfl (by decide) rfl rfl ((hown.alloc _).alloc _) (news_at _ _ _ _ (by simp)) rfl (by simp [Value.oneCell']) (by omega) (by omega) (by simp; omega) ?_; intro v6 w6 hown6 hgrow6)
        go_roundw
        case rel =>
          have hp := ve_push Hve.out (k := 2) (a := lstE E E.N + da) (x := sx) (by omega) (by omega) (by omega) (by omega) (.inr (.inr ⟨rfl, by omega, by omega⟩))
          refine ⟨pushE E 2 (lstE E E.N + da) sx, by show E.N + 1 ≤ n; omega, by show E.N + 1 ≤ 20; omega, by show Value.int .i64 ((E.N : Int) + 1) = .int .i64 ((E.N + 1 : Nat) : Int); go_num, by show _ = Value.int .i64 (lstE (pushE E 2 (lstE E E.N + da) sx) (E.N + 1)); rw [lst_push], ?_, hp, ?_, ?_, below_app ((hbel.alloc hsz _).alloc (by simp; omega) _) (by simp; omega) ((hown.alloc _).alloc _) hgrow6⟩
          · show _ = Value.bool (runB (pushE E 2 (lstE E E.N + da) sx) (E.N + 1))
            rw [run_push]
            rw [if_neg (by omega), if_neg (by omega)]
          · show lstE (pushE E 2 (lstE E E.N + da) sx) (E.N + 1) ≤ 300 * ((E.N + 1 : Nat) : Int)
            rw [lst_push]
            omega
          · show World.ownsRow _ _ _ _ _ (E.N + 1) (rowF (E.N + 1) 3 (evf (pushE E 2 (lstE E E.N + da) sx)))
            rw [push_row]
            exact hown6
        case measure => simp [intOf]; omega
      · have hq : (kx == 2) = false := by simpa using hk
        clear hk
        cases hrb : runB E E.N with
        | true =>
          have Hrb := hide hrb
          clear hrb
          go_wp2_with (at_builtin; refine wpL_append (size := 3) rfl rfl Try.underlying62 event_info rfl (by decide) rfl rfl ((hown.alloc _).alloc _) (news_at _ _ _ _ (by simp)) rfl (by simp [Value.oneCell']) (by omega) (by omega) (by simp; omega) ?_; intro v6 w6 hown6 hgrow6)
          go_roundw
          case rel =>
            have hp := ve_push Hve.out (k := 1) (a := lstE E E.N + da) (x := 0) (by omega) (by omega) (by omega) (by omega) (.inr (.inl ⟨rfl, rfl, Hrb.out⟩))
            refine ⟨pushE E 1 (lstE E E.N + da) 0, by show E.N + 1 ≤ n; omega, by show E.N + 1 ≤ 20; omega, by show Value.int .i64 ((E.N : Int) + 1) = .int .i64 ((E.N + 1 : Nat) : Int); go_num, by show _ = Value.int .i64 (lstE (pushE E 1 (lstE E E.N + da) 0) (E.N + 1)); rw [lst_push], ?_, hp, ?_, ?_, below_app ((hbel.alloc hsz _).alloc (by simp; omega) _) (by simp; omega) ((hown.alloc _).alloc _) hgrow6⟩
            · show _ = Value.bool (runB (pushE E 1 (lstE E E.N + da) 0) (E.N + 1))
              rw [run_push]
              rw [if_neg (by omega), if_pos rfl]
            · show lstE (pushE E 1 (lstE E E.N + da) 0) (E.N + 1) ≤ 300 * ((E.N + 1 : Nat) : Int)
              rw [lst_push]
              omega
            · show World.ownsRow _ _ _ _ _ (E.N + 1) (rowF (E.N + 1) 3 (evf (pushE E 1 (lstE E E.N + da) 0)))
              rw [push_row]
              exact hown6
          case measure => simp [intOf]; omega
        | false =>
          have Hrb := hide hrb
          clear hrb
          go_wp2_with (at_builtin; refine wpL_append (size := 3) rfl rfl Try.underlying62 event_info rfl (by decide) rfl rfl ((hown.alloc _).alloc _) (news_at _ _ _ _ (by simp)) rfl (by simp [Value.oneCell']) (by omega) (by omega) (by simp; omega) ?_; intro v6 w6 hown6 hgrow6)
          go_roundw
          case rel =>
            have hp := ve_push Hve.out (k := 0) (a := lstE E E.N + da) (x := 0) (by omega) (by omega) (by omega) (by omega) (.inl ⟨rfl, rfl, Hrb.out⟩)
            refine ⟨pushE E 0 (lstE E E.N + da) 0, by show E.N + 1 ≤ n; omega, by show E.N + 1 ≤ 20; omega, by show Value.int .i64 ((E.N : Int) + 1) = .int .i64 ((E.N + 1 : Nat) : Int); go_num, by show _ = Value.int .i64 (lstE (pushE E 0 (lstE E E.N + da) 0) (E.N + 1)); rw [lst_push], ?_, hp, ?_, ?_, below_app ((hbel.alloc hsz _).alloc (by simp; omega) _) (by simp; omega) ((hown.alloc _).alloc _) hgrow6⟩
            · show _ = Value.bool (runB (pushE E 0 (lstE E E.N + da) 0) (E.N + 1))
              rw [run_push]
              rw [if_pos rfl]
            · show lstE (pushE E 0 (lstE E E.N + da) 0) (E.N + 1) ≤ 300 * ((E.N + 1 : Nat) : Int)
              rw [lst_push]
              omega
            · show World.ownsRow _ _ _ _ _ (E.N + 1) (rowF (E.N + 1) 3 (evf (pushE E 0 (lstE E E.N + da) 0)))
              rw [push_row]
              exact hown6
          case measure => simp [intOf]; omega
    · have hlt' : ¬ E.N < n ∨ (E.N < n ∧ ¬ E.N < 20) := by omega
      clear hlt
      obtain ⟨A2, c2, rfl⟩ := own_form hown
      rcases hlt' with hn1 | ⟨hp, hn1⟩
      all_goals
        go_wp2_with fail
        go_ret
        exact ⟨E, A2, c2, rfl, Hve.out, hk2, hown, hbel⟩
end Go.Proofs.Ytmnbcpinlgklpaa.Clk
