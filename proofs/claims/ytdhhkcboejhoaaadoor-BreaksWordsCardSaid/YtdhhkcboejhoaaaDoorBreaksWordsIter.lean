/- The contract of the function that breaks.Words hands back. -/
import Derived.Test.YtdhhkcboejhoaaaDoorBreaksClusters
import Derived.Test.YtdhhkcboejhoaaaDoorBreaksLetter
namespace Go.Proofs.YtdhhkcboejhoaaaDoor.Bre
open Go.RowKit Go.Shelf Go.Frm Mtr
attribute [local go_sem] Oper.semAt_some

/-- the words that are over at place i -/
def wal (C : Nat → Int) (N i : Nat) : List (Nat × Nat) := wls C N i ++ wfl (wst C N i) i
/-- no word goes on at place i -/
def Halt_ (C : Nat → Int) (N i : Nat) : Prop := ∀ f, wst C N i = some f → i < N → con C N i = false
theorem wal_skip {C : Nat → Int} {N i : Nat} (hi : i < N) (h : Halt_ C N i) (hb : beg C i = false) : wal C N (i + 1) = wal C N i ∧ Halt_ C N (i + 1) := by
  unfold wal Halt_ at *
  cases hw : wst C N i with
  | none =>
    obtain ⟨h1, h2⟩ := wst_none_no hw hb
    rw [h1, h2]
    exact ⟨rfl, fun f h => by cases h⟩
  | some g =>
    obtain ⟨h1, h2⟩ := wst_some_no hw (h g hw hi)
    rw [h1, h2]
    exact ⟨by simp [wfl], fun f h => by cases h⟩
/-- the word that begins at i is not over ahead of j -/
def On (C : Nat → Int) (N i j : Nat) : Prop := j = i ∨ (wst C N j = some i ∧ wls C N j = wls C N i)
theorem on_step {C : Nat → Int} {N i j : Nat} (h0 : wst C N i = none) (hb : beg C i = true) (h : On C N i j) (hc : con C N j = true) : On C N i (j + 1) := by
  rcases h with rfl | ⟨h1, h2⟩
  · exact .inr (wst_none_yes h0 hb)
  · obtain ⟨h3, h4⟩ := wst_some_yes h1 hc
    exact .inr ⟨h3, h4.trans h2⟩
theorem on_end {C : Nat → Int} {N i j : Nat} (h0 : wst C N i = none) (h : On C N i j) (hj : j ≠ i) (hc : j < N → con C N j = false) : wal C N j = wal C N i ++ [(i, j)] ∧ Halt_ C N j := by
  obtain ⟨h1, h2⟩ := h.resolve_left hj
  unfold wal Halt_
  rw [h1, h2, h0]
  exact ⟨by simp [wfl], fun _ _ h => hc h⟩

set_option maxRecDepth 100000 in
set_option maxHeartbeats 4000000 in
theorem words_stops (n : Nat) (Bt : Nat) (A : Option Addr) (zs : List Int) (c : Nat) (hN : zs.length ≤ 100000) (w : World) (hT : Txt Bt A zs c w) :
    SeqStopsK Fence.wide n Tryd.prog 25 #[.pointer (some ⟨Bt, 0, none⟩)] encP (KpT Bt A zs c) (fun xs => xs = wrd (ix zs) zs.length) (fun pre => pre <+: wrd (ix zs) zs.length) (zs.length + 1) w := by
  intro l J Jx W hW hJ hJx hY h0
  have hTW := hT.kept (below_kept hW)
  clear hT hJx
  have HJ := hide (fun s W1 W2 (h : J s W1) (hb : Below W1.heap.size W1 W2) => hJ s W1 W2 none h (below_grown hb) (fun r e => by cases e))
  have HY := hide hY
  have HTk := hide (fun W1 W2 (h : Txt Bt A zs c W1) (hb : Below W1.heap.size W1 W2) => Txt.kept h (below_kept hb))
  clear hJ hY
  refine callsIn_of_wp Tryd.func25 rfl trivial ?_ rfl
  simp only [Tryd.ntmps25, List.size_toArray, List.length_cons, List.length_nil, Nat.reduceAdd, Nat.reduceSub, Array.replicate_succ, Array.replicate_zero, List.push_toArray, List.append_toArray, List.nil_append, List.cons_append]
  gi_wp2
  gi_loopw [3] (fun p wr => ∃ i : Nat, i ≤ zs.length ∧ p = .int .i64 (i : Int) ∧ J (wal (ix zs) zs.length i) wr ∧ Txt Bt A zs c wr ∧ Hid (Halt_ (ix zs) zs.length i)) (fun p => fun _ => zs.length + 1 - (intOf p).toNat)
  case atStart => exact ⟨0, by omega, rfl, h0, hTW, fun f h => by cases h⟩
  case round =>
    clear h0 hTW
    obtain ⟨i, hi, rfl, hJs, hTs, Hh⟩ := hrel
    have htx := hTs.1
    by_cases hiN : i < zs.length
    · obtain ⟨b, off, rfl, k0⟩ := hTs.2.1.at_ hiN
      have Hlt := hide (letter_ok (ix zs i) wr hTs.2.2)
      gi_wp2
      refine ⟨trivial, fun h => (by cases h), ?_⟩
      refine (callsIn_wide.2 Hlt.out).mono ?_
      rintro e w1 ⟨rfl, hb1⟩
      have hJ1 := HJ.out _ wr w1 hJs hb1
      have hT1 := HTk.out wr w1 hTs hb1
      have htx1 := hT1.1
      have k1 := below_kept hb1 _ _ k0
      clear hJs hTs htx k0 Hlt
      cases hl : ltrB (ix zs i) with
      | false =>
        have Hs := hide (wal_skip hiN Hh.out (by unfold beg; rw [hl]; rfl))
        gi_wp2
        refine ⟨trivial, ?_⟩
        gi_wp2
        go_roundw
        case rel => exact ⟨i + 1, by omega, by go_num, by rw [Hs.out.1]; exact hJ1, hT1, Hs.out.2⟩
        case measure => simp [intOf]; omega
      | true =>
        have Hcl := hide (class_ok (ix zs i) w1 hT1.2.2)
        gi_wp2
        refine ⟨trivial, fun h => (by cases h), ?_⟩
        refine (callsIn_wide.2 Hcl.out).mono ?_
        rintro e w2 ⟨rfl, hb2⟩
        have hJ2 := HJ.out _ w1 w2 hJ1 hb2
        have hT2 := HTk.out w1 w2 hT1 hb2
        have htx2 := hT2.1
        have k2 := below_kept hb2 _ _ k1
        clear hJ1 hT1 htx1 k1 Hcl hb1 hb2
        cases hm : (cls (ix zs i) == 10) with
        | true =>
          have Hs := hide (wal_skip hiN Hh.out (by unfold beg; rw [hl]; simp at hm ⊢; exact hm))
          gi_wp2
          go_roundw
          case rel => exact ⟨i + 1, by omega, by go_num, by rw [Hs.out.1]; exact hJ2, hT2, Hs.out.2⟩
          case measure => simp [intOf]; omega
        | false =>
          have hbeg : beg (ix zs) i = true := by unfold beg; rw [hl]; simp at hm ⊢; exact hm
          have hw0 : wst (ix zs) zs.length i = none := by
            cases hw : wst (ix zs) zs.length i with
            | none => rfl
            | some f =>
              have := Hh.out f hw hiN
              unfold con at this
              rw [hl] at this
              cases this
          have Hb := hide (And.intro hbeg (And.intro hw0 hl))
          clear hbeg hw0
          gi_wp2
          gi_loopw [3] (fun p wr => ∃ j : Nat, i ≤ j ∧ j ≤ zs.length ∧ p = .int .i64 (j : Int) ∧ J (wal (ix zs) zs.length i) wr ∧ Txt Bt (some ⟨b, off, none⟩) zs c wr ∧ Hid (On (ix zs) zs.length i j)) (fun p => fun _ => zs.length + 1 - (intOf p).toNat)
          case atStart => exact ⟨i, Nat.le_refl _, hi, rfl, hJ2, hT2, .inl rfl⟩
          case round =>
            clear hJ2 hT2 htx2 k2 hl hm
            obtain ⟨j, hij, hj, rfl, hJ3, hT3, Ho⟩ := hrel
            have htx3 := hT3.1
            have hlen : (wal (ix zs) zs.length i).length < zs.length + 1 := by
              have := wls_len (ix zs) zs.length i
              unfold wal
              rw [Hb.out.2.1]
              simp [wfl]
              omega
            by_cases hjN : j < zs.length
            · obtain ⟨b', off', hA, k3⟩ := hT3.2.1.at_ hjN
              injection hA with hA
              injection hA with hA1 hA2
              subst hA1 hA2
              have Hlj := hide (letter_ok (ix zs j) wr hT3.2.2)
              gi_wp2
              refine ⟨trivial, fun h => (by cases h), ?_⟩
              refine (callsIn_wide.2 Hlj.out).mono ?_
              rintro e w4 ⟨rfl, hb4⟩
              have hJ4 := HJ.out _ wr w4 hJ3 hb4
              have hT4 := HTk.out wr w4 hT3 hb4
              have htx4 := hT4.1
              clear hJ3 htx3 k3 Hlj
              cases hlj : ltrB (ix zs j) with
              | true =>
                have Hs := hide (on_step Hb.out.2.1 Hb.out.1 Ho.out (show con (ix zs) zs.length j = true by unfold con; rw [hlj]; rfl))
                gi_wp2
                refine ⟨trivial, ?_⟩
                gi_wp2
                go_roundw
                case rel => exact ⟨j + 1, by omega, by omega, by go_num, hJ4, hT4, Hs.out⟩
                case measure => simp [intOf]; omega
              | false =>
                have hji : j ≠ i := fun h => by rw [h, Hb.out.2.2] at hlj; cases hlj
                have Hin := hide (inside_ok (some ⟨b, off, none⟩) c zs j w4 hT4.2.2 hT4.2.1 (by omega) hjN hN)
                gi_wp2
                refine ⟨trivial, fun h => (by cases h), ?_⟩
                refine (callsIn_wide.2 Hin.out).mono ?_
                rintro e w5 ⟨rfl, hb5⟩
                have hJ5 := HJ.out _ w4 w5 hJ4 hb5
                have hT5 := HTk.out w4 w5 hT4 hb5
                clear hJ4 hT4 htx4 Hin hT3
                cases hij2 : insB (ix zs) zs.length j with
                | true =>
                  have Hs := hide (on_step Hb.out.2.1 Hb.out.1 Ho.out (show con (ix zs) zs.length j = true by unfold con; rw [hlj, hij2]; rfl))
                  gi_wp2
                  go_roundw
                  case rel => exact ⟨j + 1, by omega, by omega, by go_num, hJ5, hT5, Hs.out⟩
                  case measure => simp [intOf]; omega
                | false =>
                  have He := hide (on_end Hb.out.2.1 Ho.out hji (fun _ => show con (ix zs) zs.length j = false by unfold con; rw [hlj, hij2]; rfl))
                  obtain ⟨fn, tmps, assign, body, hy0, hR⟩ := HY.out _ (i, j) w5 hJ5 hlen
                  have hy : (Instr.yield l #[.int .i64 (i : Int), .int .i64 (j : Int)]).run Tryd.prog w5 = .ok (.round l fn tmps assign body) w5 := hy0
                  clear hy0
                  gi_wp2
                  refine ⟨fun h => (by cases h), ?_⟩
                  refine hR.mono ?_
                  rintro e W3 (⟨rfl, hJ6, hk6⟩ | ⟨rfl, hJx6⟩)
                  · have hT6 := hk6 hT5
                    gi_wp2
                    go_roundw
                    case rel => exact ⟨j, by omega, by go_num, by rw [He.out.1]; exact hJ6, hT6, He.out.2⟩
                    case measure => simp [intOf]; omega
                  · gi_wp2
                    refine bodyPost_ret (results_none rfl _ _ _) rfl ?_
                    refine ⟨⟨_, rfl⟩, .inr ⟨_, ?_, hJx6⟩⟩
                    rw [← He.out.1]
                    exact fl_prefix _ _ _ hj He.out.2
            · have hjz : j = zs.length := by omega
              subst hjz
              have hji : zs.length ≠ i := by omega
              have He := hide (on_end Hb.out.2.1 Ho.out hji (fun h => absurd h hjN))
              obtain ⟨fn, tmps, assign, body, hy0, hR⟩ := HY.out _ (i, zs.length) wr hJ3 hlen
              have hy : (Instr.yield l #[.int .i64 (i : Int), .int .i64 (zs.length : Int)]).run Tryd.prog wr = .ok (.round l fn tmps assign body) wr := hy0
              have hT5 := hT3
              clear hy0
              gi_wp2
              refine ⟨trivial, ?_⟩
              gi_wp2
              case h_2 =>
                refine ⟨trivial, ?_⟩
                gi_wp2
                refine ⟨fun h => (by cases h), ?_⟩
                refine hR.mono ?_
                rintro e W3 (⟨rfl, hJ6, hk6⟩ | ⟨rfl, hJx6⟩)
                · have hT6 := hk6 hT5
                  gi_wp2
                  go_roundw
                  case rel => exact ⟨zs.length, by omega, by go_num, by rw [He.out.1]; exact hJ6, hT6, He.out.2⟩
                  case measure => simp [intOf]; omega
                · gi_wp2
                  refine bodyPost_ret (results_none rfl _ _ _) rfl ?_
                  refine ⟨⟨_, rfl⟩, .inr ⟨_, ?_, hJx6⟩⟩
                  rw [← He.out.1]
                  exact fl_prefix _ _ _ hj He.out.2
              all_goals (rename_i hq1 hq2; exfalso; revert hq1; simp [undef])
    · have hiz : i = zs.length := by omega
      subst hiz
      gi_wp2
      go_end0
      exact ⟨⟨_, rfl⟩, .inl ⟨_, rfl, hJs⟩⟩
end Go.Proofs.YtdhhkcboejhoaaaDoor.Bre
