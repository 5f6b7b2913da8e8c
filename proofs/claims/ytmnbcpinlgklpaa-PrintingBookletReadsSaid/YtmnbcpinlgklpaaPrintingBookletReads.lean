/- PROVED HERE: whatever the list of numbers, chancerykeep3.PrintingBookletReads returns true, and its argument reads behind the call as before. No condition beside those of the given row. -/
import Derived.Test.YtmnbcpinlgklpaaRows
import Derived.Test.YtmnbcpinlgklpaaPrintPlain
namespace Go.Proofs.Ytmnbcpinlgklpaa.PrintingBookletReadsDone
open Go.RowKit Go.Frm Go.ChangeShapes Go.WideShapes Go.ChangeAt Prn Wi

set_option maxRecDepth 100000 in
set_option maxHeartbeats 2000000 in
theorem walk (A : Option Addr) (c : Nat) (zs : List Int) (w : World) (h : RdI w A zs) (hl : zs.length ≤ 9223372036854775807) (hwf : ∀ j, j < zs.length → (Lit.int .i64 (ix zs j)).wf = true) :
    Calls Try.prog 4 #[.slice A zs.length c] w fun e w' => e = .returned (.bool true) ∧ Below w.heap.size w w' := by
  have Hwf := hide hwf
  clear hwf
  go_enter Try.func4, Try.ntmps4
  go_wp2_with fail
  have hbel0 : Below w.heap.size w (w.alloc (.cells #[.int .i64 1, .int .i64 2, .int .i64 3] 3)) := (Below.refl _ _).alloc (Nat.le_refl _) _
  have hr0 : RdI (w.alloc (.cells #[.int .i64 1, .int .i64 2, .int .i64 3] 3)) (some ⟨w.heap.size, 0, none⟩) [1, 2, 3] :=
    RdI.of_own (World.ownsRow_lit (base := 0) (size := 1) w _ 3 (by omega) (by decide) rfl)
  generalize w.alloc (.cells #[.int .i64 1, .int .i64 2, .int .i64 3] 3) = w0 at *
  refine (booklet_ok _ 3 [1, 2, 3] _ hr0 (by decide) (by decide) 1 rfl).mono ?_
  rintro e w1 ⟨v, rfl, hown, hbel1⟩
  obtain ⟨A1, c1, rfl⟩ := own_form hown
  obtain ⟨b1, off1, rfl, hc⟩ := (RdF.of_own hown).at_ (show 0 < 1 by omega)
  have k0 : w1.cell? ⟨b1, off1, none⟩ = some (.int .i64 0) := by have := hc 0 (by omega); simpa [shv, sh, ix] using this
  have k1 : w1.cell? ⟨b1, off1 + 1, none⟩ = some (.int .i64 1) := by have := hc 1 (by omega); simpa [shv, sh, ix] using this
  have k2 : w1.cell? ⟨b1, off1 + 2, none⟩ = some (.int .i64 2) := by have := hc 2 (by omega); simpa [shv, sh, ix] using this
  have k3 : w1.cell? ⟨b1, off1 + 3, none⟩ = some (.int .i64 3) := by have := hc 3 (by omega); simpa [shv, sh, ix] using this
  have hbel : Below w.heap.size w w1 := hbel0.trans (hbel1.mono hbel0.size)
  clear hc hown hr0 hbel0 hbel1
  go_wp2_with fail
  clear k0 k1 k2 k3
  have hsz1 := hbel.size
  go_loopw [5, 6] (fun v i wr => ∃ k : Nat, k ≤ zs.length ∧ k ≤ 200 ∧ i = .int .i64 k ∧ wr.ownsRow w1.heap.size 3 1 v k ((own zs k).map (Value.int .i64)) ∧ Below w1.heap.size w1 wr) (fun _ i _ => zs.length - (intOf i).toNat)
  case atStart => exact ⟨0, by omega, by omega, rfl, World.ownsRow_nil _ _ _ _, Below.refl _ _⟩
  case round =>
    obtain ⟨k, hk, hk2, rfl, hown, hbel1⟩ := hrel
    have hsz2 := hbel1.size
    by_cases hlt : k < zs.length ∧ k < 200
    · obtain ⟨hlt1, hlt2⟩ := hlt
      obtain ⟨b, off, rfl, hc⟩ := ((h.below hbel).below hbel1).at_ hlt1
      have hw := Hwf.out k hlt1
      go_wp2_with (first
        | (go_at_call 13; refine (within_any _ _ _ _ hw (by omega) (by omega) (by omega)).mono ?_; rintro e w2 ⟨rfl, rfl⟩)
        | (at_builtin; refine wpL_append rfl rfl Try.underlying29 int_info rfl (by decide) rfl rfl (hown.alloc _) (news_at _ _ _ _ (by simp)) rfl (by simp [Value.oneCell']) (by omega) (by omega) (by simp; omega) ?_; intro v2 w2 hown2 hgrow2))
      go_roundw
      case rel => exact ⟨k + 1, by omega, by omega, by go_num, by rw [own_succ, List.map_append]; exact hown2, below_app (hbel1.alloc hsz2 _) (by simp; omega) (hown.alloc _) hgrow2⟩
      case measure => simp [intOf]; omega
    · have hlt' : ¬ k < zs.length ∨ (k < zs.length ∧ ¬ k < 200) := by omega
      clear hlt
      obtain ⟨A3, c3, rfl⟩ := own_form hown
      have hm : ∃ m, (k + 3) / 4 = m := ⟨_, rfl⟩
      obtain ⟨m, hm⟩ := hm
      have Hm := hide hm
      clear hm
      rcases hlt' with hn | ⟨hp, hn⟩
      all_goals
        go_wp2_with fail
        have hB := booklet_ok A3 c3 (own zs k) wr (RdI.of_own hown) (by rw [own_length]; omega) (fun j _ => by have := own_bd zs k j; omega) m (by rw [own_length]; exact Hm.out)
        rw [own_length] at hB
        refine hB.mono ?_
        clear hB
        rintro e w2 ⟨v2, rfl, hown2, hbel2⟩
        obtain ⟨A4, c4, rfl⟩ := own_form hown2
        go_wp2_with fail
        refine (read_ok A4 c4 m (sh (own zs k) m) w2 (RdF.of_own hown2) (by have := Hm.out; omega) (fun j hj => by rw [read_sheets _ _ _ hj]; have := own_bd zs k j; omega)).mono ?_
        rintro e w3 ⟨A5, c5, rfl, hown3, hbel3⟩
        have hm1 : k ≤ 4 * m := by have := Hm.out; omega
        have hm2 : 4 * m ≤ k + 3 := by have := Hm.out; omega
        have hr5 := RdI.of_own hown3
        have hr3 := (((RdI.of_own hown).below hbel2).below hbel3)
        have hbelA : Below w.heap.size w w3 := ((hbel.trans (hbel1.mono hsz1)).trans (hbel2.mono (by omega))).trans (hbel3.mono (by have := hbel2.size; omega))
        have hlen : (o1 (sh (own zs k) m) m ++ o2 (sh (own zs k) m) m m).length = 4 * m := by rw [List.length_append, o1_length, o2_length]; omega
        have Hlen := hide hlen
        clear hlen hown hown2 hown3 hbel1 hbel2 hbel3 Hm
        go_wp2_with fail
        go_loop [91] (fun i => ∃ j : Nat, j ≤ 4 * m ∧ i = .int .i64 j) (fun i => 4 * m - (intOf i).toNat)
        case atStart => exact ⟨0, by omega, rfl⟩
        case round =>
          obtain ⟨j, hj, rfl⟩ := hrel
          by_cases hlt2 : j < 4 * m
          · obtain ⟨b5, off5, rfl, hc5⟩ := hr5.at_ (show j < _ by rw [Hlen.out]; exact hlt2)
            rw [read_sheets _ _ _ hlt2] at hc5
            by_cases hlt3 : j < k
            · obtain ⟨b3, off3, rfl, hc3⟩ := hr3.at_ (show j < _ by rw [own_length]; exact hlt3)
              go_wp2
              go_round
              case rel => exact ⟨j + 1, by omega, by go_num⟩
              case measure => simp [intOf]; omega
            · rw [own_out _ _ _ (by omega)] at hc5
              go_wp2
              all_goals
                go_round
                case rel => exact ⟨j + 1, by omega, by go_num⟩
                case measure => simp [intOf]; omega
          · go_wp2
            go_ret
            exact ⟨rfl, hbelA⟩

theorem walked : Walked Try.checked.prog 4 Try.f4 := by
  intro H enc W args ds ps hval hA
  rw [Try.params4] at hA hval
  obtain ⟨v0, d0, hargs, rfl, h0⟩ := trodAll_one hA
  obtain rfl : args = #[v0] := by cases args; simp_all
  obtain ⟨A, c, zs, rfl, hr, hl, hwf⟩ := ints_arg Try.underlying29 Try.underlying3 (by kernel_rfl) (hval 0 _ _ rfl rfl) h0
  exact walk A c zs W hr hl hwf

theorem lifted (os : Os) (started : os.Started) (H : Type) (enc : TypeId × Value → H) :
    ReturnsInHanded {} Try.checked os 4 .any (Rows.printingBookletReadsSpec.pre6 enc Try.prog Try.f4 Rows.printingBookletReadsRow.domain false) (Rows.printingBookletReadsSpec.post enc Try.prog Try.f4 false true false false) :=
  law_lift (C := Try.checked) (tb := 4) (by kernel_rfl) started (by kernel_rfl) Try.func4 rfl
    (fun ds h => match ds, h with | [_], _ => rfl) rfl Try.underlying4 (by kernel_rfl) (by kernel_rfl)
    (ChangeSpec.witness6 (enc := enc) (C := Try.checked) false ⟨#[], #[.slice none 0 0], []⟩ 8 (by kernel_rfl) (by kernel_rfl) (by kernel_rfl) (by kernel_rfl))
    walked

/-- THE STATEMENT -/
theorem proved : Rows.PrintingBookletReadsSaid :=
  OpenClaim.holds_of_wide 4 Try.f4 rfl rfl rfl rfl rfl rfl rfl ⟨rfl, rfl, rfl, rfl, rfl⟩ rfl rfl rfl rfl rfl (by kernel_rfl) Try.func4 (by kernel_rfl)
    (of_decide_eq_true (by kernel_rfl)) (by unfold Func.isWrapper; first | (rw [if_pos (by decide +kernel)]; kernel_rfl) | (rw [if_neg (by decide +kernel)]; exact ⟨rfl, rfl⟩))
    (fun os started H enc _ => lifted os started H enc)
#print axioms proved
end Go.Proofs.Ytmnbcpinlgklpaa.PrintingBookletReadsDone
