/- PROVED HERE: whatever the numbers, chancerykeep3.BidiOrderIsPermutation returns true, and its arguments read behind the call as before, where the listed tables of package bidi hold what the row lists. No condition beside those of the given row. -/
import Derived.Test.YtdikfldogmbeaaaDoorRows
import Derived.Test.YtdikfldogmbeaaaDoorCards
import Derived.Test.YtdikfldogmbeaaaDoorTie
import Derived.Test.YtdikfldogmbeaaaDoorBdLine
import Derived.Test.YtdikfldogmbeaaaDoorBdBounds
import Derived.Test.YtdikfldogmbeaaaDoorBdSort
import Derived.Test.YtdikfldogmbeaaaDoorBdTabs
import Derived.Test.YtdikfldogmbeaaaDoorEqual
import Derived.Deep.CutBlock
import Derived.SevenTiedAt
namespace Go.Proofs.YtdikfldogmbeaaaDoor.BidiOrderIsPermutationDone
open Go.RowKit Go.Frm Go.ChangeShapes Go.WideShapes Go.ChangeAt Bd Wi Scl Cha

theorem first_text : tab 2 (lvP [97, 1488] (baseOf [97, 1488] 0)).lev = [0, 1] := by decide +kernel
theorem first_chk : chk [97, 1488] = 0 := by decide +kernel
def fixN (x : Int) : Int := if x = 10 then 9 else x
theorem fixN_bd {x : Int} (h : 0 ≤ x ∧ x ≤ 1114111) : 0 ≤ fixN x ∧ fixN x ≤ 1114111 ∧ fixN x ≠ 10 := by
  unfold fixN
  split <;> omega
theorem chk_ok {zs : List Int} (hn : zs.length ≤ 100000) (h : ∀ i, i < zs.length → 0 ≤ ix zs i ∧ ix zs i ≤ 1114111 ∧ ix zs i ≠ 10) : chk zs = 0 := by
  unfold chk
  rw [if_neg (by omega)]
  have hr : ∀ r i, i + r = zs.length → chkR zs r i = 0 := by
    intro r
    induction r with
    | zero => intro i _; rfl
    | succ r ih =>
      intro i e
      unfold chkR
      have h1 := h i (by omega)
      rw [if_neg (by omega), if_neg (fun hh => (h (i - 1) (by omega)).2.2 hh.2)]
      exact ih (i + 1) (by omega)
  exact hr _ _ (by omega)
theorem own_none {w : World} {b n c size : Nat} {e : TypeId} {A : Option Addr} {xs : List Value} (h : w.ownsRow b e size (.slice A n c) n xs) : A = none → c = 0 := fun hA => by
  rcases h.2 with ⟨h1, _⟩ | ⟨g, cap, cur, h1, _⟩
  · injection h1
  · injection h1 with h2
    rw [hA] at h2
    cases h2
set_option maxRecDepth 100000 in
set_option maxHeartbeats 8000000 in
theorem walk (A : Option Addr) (cp : Nat) (zs : List Int) (dir fr0 to0 : Int) (w : World) (ht : TabC w) (hB : BrC w) (hr : RdI w A zs) (hl : zs.length ≤ 9223372036854775807) (hz : ∀ j, j < zs.length → (Lit.int .i64 (ix zs j)).wf = true)
    (fd : (Lit.int .i64 dir).wf = true) (ff : (Lit.int .i64 fr0).wf = true) (ft : (Lit.int .i64 to0).wf = true) :
    Calls Tryd.prog 5 #[.slice A zs.length cp, .int .i64 dir, .int .i64 fr0, .int .i64 to0] w fun e w' => e = .returned (.bool true) ∧ Below w.heap.size w w' := by
  have Ht := hide ht
  have HB := hide hB
  have Hch := hide (fun wx (h : Below w.heap.size w wx) => chars_ok A cp zs 100 wx (hr.below h) hl (by decide) hz)
  have Hd := hide (fun wx => within_any dir (-1) 1 wx fd (by decide) (by decide) (by decide))
  have hd01 := wi_bd dir (show (-1 : Int) ≤ 1 by decide)
  have Hf := hide ff
  have Htt := hide ft
  have hw1 : Below w.heap.size w (w.alloc (.cells #[.int .i64 97, .int .i64 1488] 3)) := (Below.refl _ _).alloc (Nat.le_refl _) _
  have Hl1 := hide (levels_ok (some ⟨w.heap.size, 0, none⟩) 2 [97, 1488] 0 (w.alloc (.cells #[.int .i64 97, .int .i64 1488] 3)) (ht.below hw1) (hB.below hw1) (rdI_lit w 3 w.heap.size [97, 1488] rfl (by decide)) first_chk (by decide))
  clear ht hB hr hl hz fd ff ft
  go_enter Tryd.func5, Tryd.ntmps5
  go_wp2_with fail
  refine Hl1.out.mono ?_
  rintro e9 w2 ⟨g, rfl, hg, hbi, hb2⟩
  have hbl2 : Below w.heap.size w w2 := hw1.trans (hb2.mono (by simp))
  have he : RdI w2 (some ⟨g, 0, none⟩) [0, 1] := by
    have h := BI.rd hbi
    rwa [show tab ([97, 1488] : List Int).length (lvP [97, 1488] (baseOf [97, 1488] 0)).lev = [0, 1] from first_text] at h
  have Heq := hide (equal_any (some ⟨g, 0, none⟩) (some ⟨w2.heap.size, 0, none⟩) 2 2 [0, 1] [0, 1] (w2.alloc (.cells #[.int .i64 0, .int .i64 1] 3)) (he.alloc _) (rdI_lit w2 3 w2.heap.size [0, 1] rfl (by decide)) (by decide) (by decide))
  rw [decide_eq_true (rfl : ([0, 1] : List Int) = [0, 1])] at Heq
  have hbl3 := hbl2.alloc hbl2.size (.cells #[.int .i64 0, .int .i64 1] 3)
  clear Hl1 hw1 hb2 hbi he hg
  generalize baseOf [97, 1488] 0 = b0 at *
  go_upto_region 4 with (go_at_call 7; refine Heq.out.mono ?_; rintro e9 w9 ⟨rfl, d, rfl⟩)
  have hbl4 := (below_drewN hbl3 d)
  generalize (w2.alloc (.cells #[.int .i64 0, .int .i64 1] 3)).drewN d = w3 at *
  clear Heq hbl2 hbl3
  have hs3 := hbl4.size
  obtain ⟨N, HN⟩ : ∃ N, Hid (N = min zs.length 100) := ⟨_, rfl⟩
  have hN : N ≤ 100 := by rw [HN.out]; omega
  have Hch3 := hide (Hch.out w3 hbl4)
  unfold CharsPost at Hch3
  rw [← HN.out] at Hch3
  clear Hch
  go_wp2_with fail
  refine Hch3.out.mono ?_
  rintro e9 w4 ⟨A0, c0, rfl, hown, hbl5⟩
  have hbv := hide (chv_bd zs)
  generalize chv zs = F at *
  have hs4 := hbl5.size
  clear Hch3 HN
  go_upto_block 0 with fail
  go_cut [] (fun wc => wc.ownsRow w3.heap.size 3 1 (.slice A0 N c0) N (tabV N fun i => .int .i64 (fixN (F i))) ∧ Below w3.heap.size w3 wc)
  case first => as_aux_lemma =>
    go_wp2_with fail
    go_loopw [40] (fun a wr => ∃ k : Nat, k ≤ N ∧ a = .int .i64 k ∧ wr.ownsRow w3.heap.size 3 1 (.slice A0 N c0) N (tabV N fun i => .int .i64 (if i < k then fixN (F i) else F i)) ∧ Below w3.heap.size w3 wr) (fun a _ => N - (intOf a).toNat)
    case atStart => exact ⟨0, Nat.zero_le _, rfl, by simpa using hown, hbl5⟩
    case round =>
      obtain ⟨wo, rfl⟩ : ∃ wx : World, wx = wr := ⟨_, rfl⟩
      clear hown hbl5
      obtain ⟨k, hk, rfl, hown, hbl⟩ := hrel
      by_cases hlt : k < N
      · obtain ⟨g0, rfl, hg0⟩ := own_at hown (by omega)
        have ck := own_cell hown (j := k) hlt
        simp only [Nat.lt_irrefl, if_false] at ck
        have fk := World.ownsRow.frozenAt hown k
        have Hst := hide (own_store hown k (.int .i64 9))
        have Hsame : Hid (∀ x, F k = x → fixN (F k) = if x = 10 then 9 else x) := hide (fun x hx => by unfold fixN; rw [hx])
        have hstep : ∀ v : Int, fixN (F k) = v → (tabV N fun i => Value.int .i64 (if i < k + 1 then fixN (F i) else F i)) = tabV N (upd (fun i => Value.int .i64 (if i < k then fixN (F i) else F i)) k (.int .i64 v)) := fun v hv => tabV_congr fun i hi => by
          unfold upd
          by_cases e : i = k
          · rw [if_pos e, if_pos (by omega), e, hv]
          · rw [if_neg e]
            show _ = Value.int .i64 (if i < k then fixN (F i) else F i)
            by_cases h1 : i < k
            · rw [if_pos h1, if_pos (by omega)]
            · rw [if_neg h1, if_neg (by omega)]
        have hskip : fixN (F k) = F k → (tabV N fun i => Value.int .i64 (if i < k + 1 then fixN (F i) else F i)) = tabV N (fun i => Value.int .i64 (if i < k then fixN (F i) else F i)) := fun hv => tabV_congr fun i hi => by
          by_cases e : i = k
          · rw [if_pos (by omega), if_neg (by omega), e, hv]
          · by_cases h1 : i < k
            · rw [if_pos h1, if_pos (by omega)]
            · rw [if_neg h1, if_neg (by omega)]
        have Hstep := hide hstep
        have Hskip := hide hskip
        clear hstep hskip
        obtain ⟨x, Hx⟩ : ∃ x, Hid (x = F k) := ⟨_, rfl⟩
        rw [← Hx.out] at ck
        cases h10 : (x == 10) with
        | true =>
          have hx10 : x = 10 := by simpa using h10
          have e1 : Hid (fixN (F k) = 9) := hide (by rw [← Hx.out, hx10]; rfl)
          clear hx10
          go_wp2_with fail
          go_roundw
          case rel => exact ⟨k + 1, by omega, by go_num, by rw [Hstep.out 9 e1.out]; exact Hst.out, hbl.setCell (p := ⟨g0, k, none⟩) hg0 _⟩
          case measure => simp [intOf]; omega
        | false =>
          have e1 : Hid (fixN (F k) = F k) := hide (by rw [← Hx.out]; unfold fixN; rw [if_neg (by simpa using h10)])
          go_wp2_with fail
          go_roundw
          case rel => exact ⟨k + 1, by omega, by go_num, by rw [Hskip.out e1.out]; exact hown, hbl⟩
          case measure => simp [intOf]; omega
      · obtain rfl : k = N := by omega
        go_wp2_with fail
        go_meet
        exact ⟨by rw [tabV_congr (F := fun i => Value.int .i64 (fixN (F i))) (G := fun i => Value.int .i64 (if i < k then fixN (F i) else F i)) (fun i hi => by rw [if_pos hi])]; exact hown, hbl⟩
  case rest =>
    obtain ⟨w5, rfl⟩ : ∃ wx : World, wx = wc := ⟨_, rfl⟩
    clear hown hbl5
    obtain ⟨hown, hbl6⟩ := hcut
    have hbw5 : Below w.heap.size w w5 := hbl4.trans (hbl6.mono hs3)
    have hcap := own_cap hown
    have hA0 := own_none hown
    obtain ⟨T, HT⟩ : ∃ T, Hid (T = tab N fun i => fixN (F i)) := ⟨_, rfl⟩
    have hTl : T.length = N := by rw [HT.out, tab_length]
    have hrT : RdI w5 A0 T := by rw [HT.out]; exact RdI.of_own (by rw [← tabV_ints]; exact hown)
    have hTc : chk T = 0 := chk_ok (by omega) (fun i hi => by rw [HT.out, tab_ix _ (by omega)]; exact fixN_bd (hbv.out i))
    obtain ⟨dd, Hdd⟩ : ∃ x, Hid (x = wi dir (-1) 1) := ⟨_, rfl⟩
    rw [← Hdd.out] at Hd hd01
    have Hlv := hide (levels_ok A0 c0 T dd w5 (Ht.out.below hbw5) (HB.out.below hbw5) hrT hTc hd01)
    have hb01 := baseOf_01 (zs := T) hd01
    have Hbd := hide (fun j (hj : j < T.length) => lev_126 (lvP T (baseOf T dd)) hb01 (j := j) hj)
    have Hbb : Hid ((lvP T (baseOf T dd)).base = baseOf T dd) := hide rfl
    rw [Hbb.out] at Hbd
    generalize (lvP T (baseOf T dd)).lev = L at *
    generalize baseOf T dd = base at *
    rw [hTl] at Hlv Hbd
    have HrT := hide hrT
    have HTc := hide hTc
    have HTl := hide hTl
    clear hown hbl6 hbv HT hrT hTc hTl Hbb Hdd
    go_wp2_with fail
    refine (Hd.out _).mono ?_
    rintro e9 w9 ⟨rfl, rfl⟩
    go_wp2_with fail
    refine Hlv.out.mono ?_
    rintro e9 w6 ⟨gl, rfl, hgl, hbi, hb6⟩
    have hbw6 : Below w.heap.size w w6 := hbw5.trans (hb6.mono hbw5.size)
    have Hr6 := hide (HrT.out.below hb6)
    clear Hd Hlv hb6 HrT
    go_wp2_with fail
    go_loopw [72] (fun a wr => ∃ k : Nat, k ≤ N ∧ a = .int .i64 k ∧ w6 = wr) (fun a _ => N - (intOf a).toNat)
    case atStart => exact ⟨0, Nat.zero_le _, rfl, rfl⟩
    case round =>
      obtain ⟨k, hk, rfl, rfl⟩ := hrel
      by_cases hlt : k < N
      · have ck := hbi.cell hlt
        have hLk := Hbd.out k hlt
        generalize L k = x at *
        have e1 : decide (x < base) = false := decide_eq_false (by omega)
        have e2 : decide (126 < x) = false := decide_eq_false (by omega)
        clear hLk
        go_wp2_with fail
        go_roundw
        case rel => exact ⟨k + 1, by omega, by go_num, by first | rfl | trivial⟩
        case measure => simp [intOf]; omega
      · obtain rfl : k = N := by omega
        have hfw := wi_bd fr0 (show (0 : Int) ≤ (k : Int) by omega)
        obtain ⟨fr, hfr⟩ : ∃ x : Nat, wi fr0 0 (k : Int) = x := ⟨(wi fr0 0 (k : Int)).toNat, by omega⟩
        have Hw1 := hide (fun wx => within_any fr0 0 (k : Int) wx Hf.out (by omega) (by omega) (by omega))
        rw [hfr] at Hw1 hfw
        have htw := wi_bd to0 (show (fr : Int) ≤ (k : Int) by omega)
        obtain ⟨tz, htz⟩ : ∃ x : Nat, wi to0 (fr : Int) (k : Int) = x := ⟨(wi to0 (fr : Int) (k : Int)).toNat, by omega⟩
        have Hw2 := hide (fun wx => within_any to0 (fr : Int) (k : Int) wx Htt.out (by omega) (by omega) (by omega))
        rw [htz] at Hw2 htw
        obtain ⟨m, rfl⟩ : ∃ m, tz = fr + m := ⟨tz - fr, by omega⟩
        have hln := line_ok A0 c0 T gl L base fr m w6 (Ht.out.below hbw6) Hr6.out HTc.out (by rw [HTl.out]; exact hcap.1) hcap.2 (by rw [HTl.out]; exact hbi) (fun j hj => by have := Hbd.out j (by rw [← HTl.out]; exact hj); omega) hb01 (by rw [HTl.out]; omega) hA0
        rw [HTl.out] at hln
        have Hln := hide hln
        have hmk : fr + m ≤ k := by omega
        clear hfr htz hfw htw hln Hf Htt
        go_wp2_with fail
        refine (Hw1.out _).mono ?_
        rintro e9 w9 ⟨rfl, rfl⟩
        go_wp2_with fail
        refine (Hw2.out _).mono ?_
        rintro e9 w9 ⟨rfl, rfl⟩
        go_wp2_with fail
        refine Hln.out.mono ?_
        rintro e9 w7 ⟨g7, o, rfl, hpm, hb7, hbl7⟩
        have hbw7 : Below w.heap.size w w7 := hbw6.trans (hbl7.mono hbw6.size)
        obtain ⟨o', hp1, hp2⟩ := hpm
        have Hso := hide (sorted_range (from_ := fr) hp1 hp2)
        have e3 : (((m : Nat) : Int) != ((fr + m : Nat) : Int) - (fr : Int)) = false := by simp; omega
        have hcl := clone_rd (c := m) (BI.rd hb7) (by rw [tab_length]; omega)
        rw [tab_length] at hcl
        have Hcl := hide hcl
        clear Hw1 Hw2 Hln hb7 hbl7 hcl hp1 hp2
        go_wp2_with fail
        refine Hcl.out.mono ?_
        rintro e9 w8 ⟨A8, c8, rfl, hown8, hb8⟩
        have hbw8 : Below w.heap.size w w8 := hbw7.trans (hb8.mono hbw7.size)
        have Hsr := hide (sort_own (tab_length m _) hown8 hb8.size (by rw [tab_length]; omega))
        clear Hcl hown8 hb8
        have hs7 := hbw7.size
        go_wp2_with fail
        refine Hsr.out.mono ?_
        rintro e9 w9 ⟨rfl, hown9, hb9⟩
        rw [Hso.out] at hown9
        have hbw9 : Below w.heap.size w w9 := hbw8.trans (hb9.mono hs7)
        clear Hsr hb9
        go_wp2_with fail
        go_loopw [118] (fun a wr => ∃ i : Nat, i ≤ m ∧ a = .int .i64 i ∧ w9 = wr) (fun a _ => m - (intOf a).toNat)
        case atStart => exact ⟨0, Nat.zero_le _, rfl, rfl⟩
        case round =>
          obtain ⟨i, hi, rfl, rfl⟩ := hrel
          by_cases hlt3 : i < m
          · obtain ⟨g9, rfl, _⟩ := own_at hown9 (by omega)
            have ci : w9.cell? ⟨g9, i, none⟩ = some (.int .i64 ((fr + i : Nat) : Int)) := own_cell (F := fun j => .int .i64 ((fr + j : Nat) : Int)) (by rw [tabV_ints]; exact hown9) (j := i) hlt3
            obtain ⟨y, Hy⟩ : ∃ y, Hid (y = fr + i) := ⟨_, rfl⟩
            rw [← Hy.out] at ci
            have i1 : (fr : Int) + (i : Int) = (y : Int) := by have := Hy.out; omega
            have ly : y ≤ 1000 := by have := Hy.out; omega
            go_wp2_with fail
            go_roundw
            case rel => exact ⟨i + 1, by omega, by go_num, by first | rfl | trivial⟩
            case measure => simp [intOf]; omega
          · obtain rfl : i = m := by omega
            go_wp2_with fail
            go_ret
            exact ⟨rfl, hbw9⟩

theorem walked : WalkedL Tryd.checked.prog 5 Tryd.f5 [("chancery/bidi.table", Rows.laid_chancery_bidi_table), ("chancery/bidi.brackets", Rows.laid_chancery_bidi_brackets)] := by
  intro H enc W args ds ps hval hA hL
  obtain ⟨ht, hB⟩ : TabC W ∧ BrC W := tabs_of ⟨_, _, _, rfl, rfl, rfl⟩ (by kernel_rfl) hL
  rw [Tryd.params5] at hA hval
  obtain ⟨v0, v1, v2, v3, d0, d1, d2, d3, p0, p1, p2, p3, hargs, rfl, rfl, h0, h1, h2, h3⟩ := trodAll_four hA
  obtain rfl : args = #[v0, v1, v2, v3] := by cases args; simp_all
  obtain ⟨A0, c0, z0, rfl, r0, l0, f0⟩ := ints_arg Tryd.underlying22 Tryd.underlying3 (by kernel_rfl) (hval 0 _ _ rfl rfl) h0
  obtain ⟨x, rfl, _, _, wx⟩ := open_int Tryd.underlying3 (hval 1 _ _ rfl rfl) h1
  obtain ⟨y, rfl, _, _, wy⟩ := open_int Tryd.underlying3 (hval 2 _ _ rfl rfl) h2
  obtain ⟨z, rfl, _, _, wz⟩ := open_int Tryd.underlying3 (hval 3 _ _ rfl rfl) h3
  exact walk A0 c0 z0 x y z W ht hB r0 l0 f0 wx wy wz

def laidL : List (String × DataW Unit) := [("chancery/bidi.table", Rows.laid_chancery_bidi_table), ("chancery/bidi.brackets", Rows.laid_chancery_bidi_brackets)]
theorem door_met (os : Os) (args : Array Value) : laidMetH Tryd.prog laidL ((World.doorLaid Tryd.prog 400 os).forCall (fun _ _ => 0) ⟨#[], args, []⟩).memory :=
  laidMetH_of_parts3 (fuel := 8) (laidMet_of_run' 8 (by kernel_rfl) (by kernel_rfl)) (by kernel_rfl) (by kernel_rfl)

set_option maxRecDepth 100000 in
theorem lifted (os : Os) (started : os.Started) (H : Type) (enc : TypeId × Value → H) :
    ReturnsInHanded {} Tryd.checked os 5 .any (fun w args => (Rows.bidiOrderIsPermutationSpec.pre enc Tryd.prog Tryd.f5 [] false w args ∧ laidMetH Tryd.prog laidL w) ∧ sizedMet enc Tryd.prog Tryd.f5 (OpenSpec.ofChange Rows.bidiOrderIsPermutationSpec) false w args) (Rows.bidiOrderIsPermutationSpec.post enc Tryd.prog Tryd.f5 false true false false) :=
  law_lift_laid (C := Tryd.checked) (tb := 4) (laid := laidL) (by kernel_rfl) started (by kernel_rfl) Tryd.func5 rfl
    (fun ds h => match ds, h with | [_, _, _, _], _ => rfl) rfl Tryd.underlying4 (by kernel_rfl) (by kernel_rfl)
    (ChangeSpec.witness_shaped (enc := enc) (C := Tryd.checked) (os := os) (X := fun w _ => laidMetH Tryd.prog laidL w) false (World.doorLaid Tryd.prog 400 os) #[.slice none 0 0, .int .i64 0, .int .i64 0, .int .i64 0] 8 rfl (World.shaped_of_RefB (by kernel_rfl) (by kernel_rfl)) (by kernel_rfl) (by kernel_rfl) (by kernel_rfl) (door_met os _))
    walked

theorem said : Rows.BidiOrderIsPermutationSaid :=
  OpenClaim.holds_of_wide 5 Tryd.f5 rfl rfl rfl rfl rfl rfl rfl ⟨rfl, rfl, rfl, rfl, rfl⟩ rfl rfl rfl rfl rfl (by kernel_rfl) Tryd.func5 (by kernel_rfl)
    (of_decide_eq_true (by kernel_rfl)) (by unfold Func.isWrapper; first | (rw [if_pos (by decide +kernel)]; kernel_rfl) | (rw [if_neg (by decide +kernel)]; exact ⟨rfl, rfl⟩))
    (fun os started H enc _ => lifted os started H enc)

/-- THE STATEMENT: the tied card -/
theorem proved : Rows.BidiOrderIsPermutationCardSaid :=
  Claim7.holds_tied_plain_at .later [] [.data, .widerDeep] true (true, "dc325a33d721ee8d36ed2a63bc3423150babb9981c2998a8110c55e155ad6a67") false
    said (fun _ h => by cases h) (by kernel_rfl) (fun _ h => by cases h) bidiOrderIsPermutation_row_tie rfl ⟨rfl, rfl⟩ (by kernel_rfl) rfl
    (fun f fn hf hfn => by
      obtain rfl : f = 5 := Option.some.inj ((show Tryd.prog.funcNamed "chancery/chancerykeep3.BidiOrderIsPermutation" = some 5 by kernel_rfl).symm.trans hf) |>.symm
      obtain rfl : fn = Tryd.f5 := (Option.some.inj (Tryd.func5.symm.trans hfn)).symm
      exact ⟨by kernel_rfl, fun j t ht => by
        have hm : t ∈ Tryd.f5.params.toList := by simpa using Array.mem_of_getElem? ht
        have hall : (Tryd.f5.params.toList.all fun u => !Tryd.prog.wantsStandIn u) = true := by kernel_rfl
        exact (show Tryd.prog.wantsStandIn t = false by simpa using List.all_eq_true.1 hall t hm)⟩)
    (by kernel_rfl)
#print axioms proved
end Go.Proofs.YtdikfldogmbeaaaDoor.BidiOrderIsPermutationDone
