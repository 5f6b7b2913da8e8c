/- PROVED HERE: whatever the text and the number, chancerykeep3.BreaksMustBehindNewlines returns true, and its arguments read behind the call as before, where the listed table of package metric holds what the row lists. No condition beside those of the given row. -/
import Derived.Test.YtdhhkcboejhoaaaDoorRows
import Derived.Test.YtdhhkcboejhoaaaDoorCards
import Derived.Test.YtdhhkcboejhoaaaDoorTie
import Derived.Test.YtdhhkcboejhoaaaDoorMetricTabs
import Derived.Test.YtdhhkcboejhoaaaDoorChars
import Derived.Test.YtdhhkcboejhoaaaDoorBreaksFind
import Derived.Deep.CutBlock
import Derived.SevenTiedAt
namespace Go.Proofs.YtdhhkcboejhoaaaDoor.BreaksMustBehindNewlinesDone
open Go.RowKit Go.Frm Go.ChangeShapes Go.WideShapes Go.ChangeAt Mtr Wi Cha Bre

/-- the text with newlines laid into its first k places -/
def txt (C : Nat → Int) (m : Int) (k : Nat) : Nat → Int := fun i => if i < k ∧ ((i % 7 : Nat) : Int) = m then 10 else C i
theorem txt_yes {C : Nat → Int} {m : Int} {k : Nat} (h : ((k % 7 : Nat) : Int) = m) : upd (txt C m k) k 10 = txt C m (k + 1) := by
  funext i
  unfold upd txt
  by_cases hi : i = k
  · subst hi; rw [if_pos rfl, if_pos ⟨by omega, h⟩]
  · rw [if_neg hi]
    by_cases h2 : i < k
    · simp [h2, show i < k + 1 by omega]
    · rw [if_neg (fun hh => h2 hh.1), if_neg (fun hh => by omega)]
theorem txt_no {C : Nat → Int} {m : Int} {k : Nat} (h : ¬ ((k % 7 : Nat) : Int) = m) : txt C m k = txt C m (k + 1) := by
  funext i
  unfold txt
  by_cases hi : i = k
  · subst hi; rw [if_neg (fun hh => by omega), if_neg (fun hh => h hh.2)]
  · by_cases h2 : i < k
    · simp [h2, show i < k + 1 by omega]
    · rw [if_neg (fun hh => h2 hh.1), if_neg (fun hh => by omega)]

set_option maxRecDepth 100000 in
set_option maxHeartbeats 4000000 in
theorem walk (B : Option Addr) (cb : Nat) (xs : List Int) (marks : Int) (w : World) (ht : TabM w) (hr : RdI w B xs) (hl : xs.length ≤ 9223372036854775807) (hwf : ∀ j, j < xs.length → (Lit.int .i64 (ix xs j)).wf = true) (fm : (Lit.int .i64 marks).wf = true) :
    Calls Tryd.prog 4 #[.slice B xs.length cb, .int .i64 marks] w fun e w' => e = .returned (.bool true) ∧ Below w.heap.size w w' := by
  have hwm := fun wx => within_any marks 0 6 wx fm (by omega) (by omega) (by omega)
  have bm := wi_bd marks (show (0 : Int) ≤ 6 by omega)
  have hch := fun wx hrx => chars_ok B cb xs 60 wx hrx hl (by omega) hwf
  generalize wi marks 0 6 = m at *
  have Wm := hide hwm
  have Hch := hide hch
  have Ht := hide ht
  clear hwm hch fm ht hwf
  go_enter Tryd.func4, Tryd.ntmps4
  go_wp2_with fail
  refine (placed_ok w Ht.out).mono ?_
  rintro e w1 ⟨rfl, hbel1⟩
  go_wp2_with fail
  refine (Hch.out w1 (hr.below hbel1)).mono ?_
  rintro e w2 ⟨A, cp, rfl, hown, hbel2⟩
  have hbelB := hbel1.trans (hbel2.mono hbel1.size)
  have hN : min xs.length 60 ≤ 60 := by omega
  generalize min xs.length 60 = N at *
  have hB1 := hbel1.size
  go_wp2_with fail
  go_loopw [15] (fun a wr => ∃ k : Nat, k ≤ N ∧ a = .int .i64 k ∧ wr.ownsRow w1.heap.size 3 1 (.slice A N cp) N (tabV N (fun i => .int .i64 (txt (chv xs) m k i))) ∧ Below w.heap.size w wr) (fun a _ => N - (intOf a).toNat)
  case atStart => exact ⟨0, by omega, rfl, by rw [tabV_congr (G := fun i => .int .i64 (chv xs i)) (fun i _ => by unfold txt; rw [if_neg (fun h => by omega)])]; exact hown, hbelB⟩
  case round =>
    clear hown hbelB
    obtain ⟨k, hk, rfl, hown, hbl⟩ := hrel
    by_cases hlt : k < N
    · obtain ⟨g, rfl, hg⟩ := own_at hown (by omega)
      have a0 := own_cell hown hlt
      have a3 := World.ownsRow.frozenAt hown k
      have hrem : (k : Int) % 7 = ((k % 7 : Nat) : Int) := by omega
      by_cases h7 : ((k % 7 : Nat) : Int) = m
      · have hs := own_store hown k (.int .i64 10)
        have he : tabV N (upd (fun i => Value.int .i64 (txt (chv xs) m k i)) k (.int .i64 10)) = tabV N (fun i => .int .i64 (txt (chv xs) m (k + 1) i)) := tabV_congr fun i _ => by
          rw [← txt_yes h7]
          unfold upd
          split <;> rfl
        rw [he] at hs
        have Hs := hide hs
        have hq : (((k : Int) % 7) == m) = true := by rw [hrem]; simpa using h7
        have hb2 := hbl.setCell (p := ⟨g, k, none⟩) (show w.heap.size ≤ g by omega) (.int .i64 10)
        clear hs hown he h7 hrem
        go_wp2_with (go_at_call 13; refine (Wm.out _).mono ?_; rintro e w' ⟨rfl, rfl⟩)
        go_roundw
        case rel => exact ⟨k + 1, by omega, by go_num, Hs.out, hb2⟩
        case measure => simp [intOf]; omega
      · have hq : (((k : Int) % 7) == m) = false := by rw [hrem]; simpa using h7
        have he : txt (chv xs) m k = txt (chv xs) m (k + 1) := txt_no h7
        rw [he] at hown
        clear he h7 hrem a0
        go_wp2_with (go_at_call 13; refine (Wm.out _).mono ?_; rintro e w' ⟨rfl, rfl⟩)
        go_roundw
        case rel => exact ⟨k + 1, by omega, by go_num, hown, hbl⟩
        case measure => simp [intOf]; omega
    · obtain rfl : k = N := by omega
      rw [tabV_ints] at hown
      have hrt := RdI.of_own hown
      have hlen := tab_length k (txt (chv xs) m k)
      have hix : ∀ j, j < k → ix (tab k (txt (chv xs) m k)) j = txt (chv xs) m k j := fun j hj => tab_ix _ hj
      have hv : ∀ j, j < k → 0 ≤ ix (tab k (txt (chv xs) m k)) j ∧ ix (tab k (txt (chv xs) m k)) j ≤ 1114111 := fun j hj => by
        rw [hix j hj]
        unfold txt
        split
        · omega
        · exact chv_bd xs j
      have hmu := fun (i : Nat) h1 h2 => must_iff (ix (tab k (txt (chv xs) m k))) (i := i) (N := k) h1 h2
      have hpl := places_ok A cp (tab k (txt (chv xs) m k)) wr (Ht.out.below hbl) hrt (by omega) (fun j hj => hv j (by omega))
      unfold PlacesPost at hpl
      have hpn := plcs_len (ix (tab k (txt (chv xs) m k))) k
      rw [hlen] at hpl
      generalize tab k (txt (chv xs) m k) = zs at *
      generalize plcs (ix zs) k = l at *
      have Hpl := hide hpl
      have Hmu := hide hmu
      have Hlen := hide hlen
      clear hpl hmu hix hv hown hlen
      go_wp2_with fail
      refine Hpl.out.mono ?_
      rintro e w3 ⟨P, cP, rfl, hownP, hbel3⟩
      have hbelC := hbl.trans (hbel3.mono hbl.size)
      rw [flat_rowF] at hownP
      have hrP := RdF.of_own hownP
      have hrT := hrt.below hbel3
      have hcon := fun (wx : World) hrx (i : Nat) (mm : Bool) hm => contains_ok P cP l (i : Int) 2 wx hrx (by omega) mm hm
      have Hcon := hide hcon
      generalize l.length = n at *
      clear hownP hbel3 hbl hrt hcon
      go_wp2_with fail
      go_loopw [8] (fun a wr => ∃ i : Nat, 1 ≤ i ∧ (i ≤ k ∨ i = 1) ∧ a = .int .i64 i ∧ Below w3.heap.size w3 wr) (fun a _ => k + 1 - (intOf a).toNat)
      case atStart => exact ⟨1, by omega, .inr rfl, rfl, Below.refl _ _⟩
      case round =>
        obtain ⟨i, hi1, hi2, rfl, hbx⟩ := hrel
        by_cases hlti : i < k
        · have hrTx := hrT.below hbx
          obtain ⟨b, off, rfl, hc⟩ := hrTx.at_ (show i - 1 < zs.length by have := Hlen.out; omega)
          have hmu := Hmu.out i hi1 hlti
          have Hrp := hide (hrP.below hbx)
          have hbt := World.block_lt_of_cell? wr _ hc
          have hcase : ∃ mm : Bool, (mm = true ↔ ((i : Int), (2 : Int)) ∈ l) ∧ (ix zs (i - 1) == 10) = mm := by
            refine ⟨(ix zs (i - 1) == 10), ?_, rfl⟩
            rw [hmu]
            exact beq_iff_eq
          obtain ⟨mm, hm1, hm2⟩ := hcase
          have hcx := fun wx hrx => Hcon.out wx hrx i mm hm1
          have Hcx := hide hcx
          generalize ix zs (i - 1) = z at *
          have s1 : IntKind.i64.wrap ((i : Int) - 1) = (i : Int) - 1 := IntWalk.i64_in _ (by omega)
          clear hcx hm1 hmu
          go_wp2_with fail
          have s1 : IntKind.i64.wrap ((i : Int) - 1) = (i : Int) - 1 := IntWalk.i64_in _ (by omega)
          have s2 : (0 : Int) ≤ (i : Int) - 1 := by omega
          have s3 : ((i : Int) - 1).toNat = i - 1 := by omega
          have s4 : (i : Int) - 1 < (k : Int) := by omega
          have s6 : (1 : Int) ≤ (i : Int) := by omega
          have s7 : (i : Int) ≤ (k : Int) := by omega
          have s8 : (i : Int) < (k : Int) + 1 := by omega
          go_region_held3 (fun w' => w'.cell? ⟨b, off + (i - 1), none⟩ = some (.int .i64 z))
            (first
              | go_keep
              | exact (hbel8.cell (p := ⟨b, off + (i - 1), none⟩) hbt).trans hc)
            ((go_at_call 15; refine (Hcx.out _ (by exact Hrp.out)).mono ?_; rintro e w8 ⟨rfl, hbel8⟩))
          clear s1 s2 s3 s4 s6 s7 s8
          go_wp2_with fail
          go_roundw
          case rel => exact ⟨i + 1, by omega, .inl (by omega), by go_num, (below_drewN hbx 1).trans (hbel8.mono hbx.size)⟩
          case measure => simp [intOf]; omega
        · have hd : decide ((i : Int) < (k : Int)) = false := decide_eq_false (by omega)
          go_wp2_with fail
          go_ret
          exact ⟨rfl, hbelC.trans (hbx.mono hbelC.size)⟩

theorem walked : WalkedL Tryd.checked.prog 4 Tryd.f4 [("chancery/metric.marks", Rows.laid_chancery_metric_marks)] := by
  intro H enc W args ds ps hval hA hL
  have ht : TabM W := tabM_of ⟨_, _, rfl, rfl⟩ (by kernel_rfl) hL
  rw [Tryd.params4] at hA hval
  obtain ⟨v0, v1, d0, d1, p0, p1, hargs, rfl, _, h0, h1⟩ := trodAll_two hA
  obtain rfl : args = #[v0, v1] := by cases args; simp_all
  obtain ⟨A, c, zs, rfl, hr, hl, hwf⟩ := ints_arg Tryd.underlying22 Tryd.underlying3 (by kernel_rfl) (hval 0 _ _ rfl rfl) h0
  obtain ⟨x, rfl, _, _, wx⟩ := open_int Tryd.underlying3 (hval 1 _ _ rfl rfl) h1
  exact walk A c zs x W ht hr hl hwf wx

def laidL : List (String × DataW Unit) := [("chancery/metric.marks", Rows.laid_chancery_metric_marks)]
theorem door_met (os : Os) (args : Array Value) : laidMetH Tryd.prog laidL ((World.doorLaid Tryd.prog 400 os).forCall (fun _ _ => 0) ⟨#[], args, []⟩).memory :=
  laidMetH_of_parts3 (fuel := 8) (laidMet_of_run' 8 (by kernel_rfl) (by kernel_rfl)) (by kernel_rfl) (by kernel_rfl)

set_option maxRecDepth 100000 in
theorem lifted (os : Os) (started : os.Started) (H : Type) (enc : TypeId × Value → H) :
    ReturnsInHanded {} Tryd.checked os 4 .any (fun w args => (Rows.breaksMustBehindNewlinesSpec.pre enc Tryd.prog Tryd.f4 [] false w args ∧ laidMetH Tryd.prog laidL w) ∧ sizedMet enc Tryd.prog Tryd.f4 (OpenSpec.ofChange Rows.breaksMustBehindNewlinesSpec) false w args) (Rows.breaksMustBehindNewlinesSpec.post enc Tryd.prog Tryd.f4 false true false false) :=
  law_lift_laid (C := Tryd.checked) (tb := 4) (laid := laidL) (by kernel_rfl) started (by kernel_rfl) Tryd.func4 rfl
    (fun ds h => match ds, h with | [_, _], _ => rfl) rfl Tryd.underlying4 (by kernel_rfl) (by kernel_rfl)
    (ChangeSpec.witness_shaped (enc := enc) (C := Tryd.checked) (os := os) (X := fun w _ => laidMetH Tryd.prog laidL w) false (World.doorLaid Tryd.prog 400 os) #[.slice none 0 0, .int .i64 0] 8 rfl (World.shaped_of_RefB (by kernel_rfl) (by kernel_rfl)) (by kernel_rfl) (by kernel_rfl) (by kernel_rfl) (door_met os _))
    walked

theorem said : Rows.BreaksMustBehindNewlinesSaid :=
  OpenClaim.holds_of_wide 4 Tryd.f4 rfl rfl rfl rfl rfl rfl rfl ⟨rfl, rfl, rfl, rfl, rfl⟩ rfl rfl rfl rfl rfl (by kernel_rfl) Tryd.func4 (by kernel_rfl)
    (of_decide_eq_true (by kernel_rfl)) (by unfold Func.isWrapper; first | (rw [if_pos (by decide +kernel)]; kernel_rfl) | (rw [if_neg (by decide +kernel)]; exact ⟨rfl, rfl⟩))
    (fun os started H enc _ => lifted os started H enc)

/-- THE STATEMENT: the tied card -/
theorem proved : Rows.BreaksMustBehindNewlinesCardSaid :=
  Claim7.holds_tied_plain_at .later [] [.widerDeep] true (true, "615198ff36b7c7e435cabbe38a7256887dfbc5d265756060a0dddb598d2df81c") false
    said (fun _ h => by cases h) (by kernel_rfl) (fun _ h => by cases h) breaksMustBehindNewlines_row_tie rfl ⟨rfl, rfl⟩ (by kernel_rfl) rfl
    (fun f fn hf hfn => by
      obtain rfl : f = 4 := Option.some.inj ((show Tryd.prog.funcNamed "chancery/chancerykeep3.BreaksMustBehindNewlines" = some 4 by kernel_rfl).symm.trans hf) |>.symm
      obtain rfl : fn = Tryd.f4 := (Option.some.inj (Tryd.func4.symm.trans hfn)).symm
      exact ⟨by kernel_rfl, fun j t ht => by
        have hm : t ∈ Tryd.f4.params.toList := by simpa using Array.mem_of_getElem? ht
        have hall : (Tryd.f4.params.toList.all fun u => !Tryd.prog.wantsStandIn u) = true := by kernel_rfl
        exact (show Tryd.prog.wantsStandIn t = false by simpa using List.all_eq_true.1 hall t hm)⟩)
    (by kernel_rfl)
#print axioms proved
end Go.Proofs.YtdhhkcboejhoaaaDoor.BreaksMustBehindNewlinesDone
