/- PROVED HERE: whatever the numbers and the direction, chancerykeep3.BidiOneDirection returns true, and its arguments read behind the call as before, where the listed tables of package bidi hold what the row lists. No condition beside those of the given row. -/
import Derived.Test.YtdikfldogmbeaaaDoorRows
import Derived.Test.YtdikfldogmbeaaaDoorCards
import Derived.Test.YtdikfldogmbeaaaDoorTie
import Derived.Test.YtdikfldogmbeaaaDoorBdLevels
import Derived.Test.YtdikfldogmbeaaaDoorBdOnePlain
import Derived.Test.YtdikfldogmbeaaaDoorBdTabs
import Derived.Test.YtdikfldogmbeaaaDoorEqual
import Derived.Test.YtdikfldogmbeaaaDoorWithin
import Derived.Deep.CutBlock
import Derived.SevenTiedAt
namespace Go.Proofs.YtdikfldogmbeaaaDoor.BidiOneDirectionDone
open Go.RowKit Go.Frm Go.ChangeShapes Go.WideShapes Go.ChangeAt Bd Wi Scl

/-- the letter that is made, and its class -/
def mkc (right : Bool) (x : Int) : Int := if right = true then wi x 1488 1514 else wi x 97 122
def cOf (right : Bool) : Int := if right = true then 1 else 0
theorem cOf_calm (right : Bool) : Bd.Calm (cOf right) := by cases right <;> simp [Bd.Calm, cOf]
theorem mkc_cls (right : Bool) (x : Int) : clsOf (mkc right x) = cOf right := by
  cases right with
  | true => exact cls_r (wi_bd x (by decide))
  | false => exact cls_l (wi_bd x (by decide))
theorem mkc_bd (right : Bool) (x : Int) : 97 ≤ mkc right x ∧ mkc right x ≤ 1514 := by
  cases right with
  | true => have := wi_bd x (show (1488 : Int) ≤ 1514 by decide); show 97 ≤ wi x 1488 1514 ∧ wi x 1488 1514 ≤ 1514; omega
  | false => have := wi_bd x (show (97 : Int) ≤ 122 by decide); show 97 ≤ wi x 97 122 ∧ wi x 97 122 ≤ 1514; omega
theorem chkR_zero {zs : List Int} (h : ∀ i, i < zs.length → 11 ≤ ix zs i ∧ ix zs i ≤ 1114111) : ∀ r i, i + r = zs.length → chkR zs r i = 0
  | 0, _, _ => rfl
  | r + 1, i, e => by
    unfold chkR
    have h1 := h i (by omega)
    rw [if_neg (by omega), if_neg (fun hh => by have := h (i - 1) (by omega); omega)]
    exact chkR_zero h r (i + 1) (by omega)
theorem chk_zero {zs : List Int} (hn : zs.length ≤ 100000) (h : ∀ i, i < zs.length → 11 ≤ ix zs i ∧ ix zs i ≤ 1114111) : chk zs = 0 := by
  unfold chk
  rw [if_neg (by omega)]
  exact chkR_zero h _ _ (by omega)
theorem order_two : tab 2 (fun j => (order (fun _ => 1) 2 j : Int)) = [1, 0] := by decide

set_option maxRecDepth 100000 in
set_option maxHeartbeats 8000000 in
theorem walk (A : Option Addr) (cp : Nat) (zs : List Int) (right : Bool) (w : World) (ht : TabC w) (hB : BrC w) (hr : RdI w A zs) (hz : ∀ j, j < zs.length → (Lit.int .i64 (ix zs j)).wf = true) (hlen : zs.length ≤ 9223372036854775807) :
    Calls Tryd.prog 4 #[.slice A zs.length cp, .bool right] w fun e w' => e = .returned (.bool true) ∧ Below w.heap.size w w' := by
  have Ht := hide ht
  have HB := hide hB
  have Hr := hide hr
  have Hz := hide hz
  clear ht hB hr hz
  have hw1 : Below w.heap.size w (w.alloc (.cells #[.int .i64 1, .int .i64 1] 3)) := (Below.refl _ _).alloc (Nat.le_refl _) _
  have Ho := hide (order_ok (some ⟨w.heap.size, 0, none⟩) 2 2 (fun _ => 1) (w.alloc (.cells #[.int .i64 1, .int .i64 1] 3)) (rdI_lit w 3 w.heap.size [1, 1] rfl (by decide)) (by decide) (fun _ _ => ⟨by decide, by decide⟩))
  go_enter Tryd.func4, Tryd.ntmps4
  go_wp2_with fail
  refine Ho.out.mono ?_
  rintro e9 w2 ⟨g, rfl, hg, hbn, hb2⟩
  have hbl2 : Below w.heap.size w w2 := hw1.trans (hb2.mono (by simp))
  have he : RdI w2 (some ⟨g, 0, none⟩) [1, 0] := by
    have h := hbn.bi.rd
    rwa [order_two] at h
  have Heq := hide (equal_any (some ⟨g, 0, none⟩) (some ⟨w2.heap.size, 0, none⟩) 2 2 [1, 0] [1, 0] (w2.alloc (.cells #[.int .i64 1, .int .i64 0] 3)) (he.alloc _) (rdI_lit w2 3 w2.heap.size [1, 0] rfl (by decide)) (by decide) (by decide))
  rw [decide_eq_true (rfl : ([1, 0] : List Int) = [1, 0])] at Heq
  have hbl3 := hbl2.alloc hbl2.size (.cells #[.int .i64 1, .int .i64 0] 3)
  clear Ho hw1 hb2 hbn he
  go_upto_region 4 with (go_at_call 7; refine Heq.out.mono ?_; rintro e9 w9 ⟨rfl, d, rfl⟩)
  have hbl3 : Below w.heap.size w ((w2.alloc (.cells #[.int .i64 1, .int .i64 0] 3)).drewN d) := below_drewN hbl3 d
  generalize (w2.alloc (.cells #[.int .i64 1, .int .i64 0] 3)).drewN d = w3 at *
  clear Heq hbl2
  have hs3 := hbl3.size
  obtain ⟨m, Hm⟩ : ∃ m, Hid (m = min zs.length 60) := ⟨_, rfl⟩
  have hm60 : m ≤ 60 := by rw [Hm.out]; omega
  have hmz : m ≤ zs.length := by rw [Hm.out]; omega
  go_upto_block 0 with fail
  go_cut [7] (fun v wc => wc.ownsRow w3.heap.size 3 1 v m (tabV m fun i => .int .i64 (mkc right (ix zs i))) ∧ Below w3.heap.size w3 wc)
  case first => as_aux_lemma =>
    go_wp2_with fail
    go_loopw [7, 8] (fun v a wr => ∃ i : Nat, i ≤ m ∧ a = .int .i64 i ∧ wr.ownsRow w3.heap.size 3 1 v i (tabV i fun i => .int .i64 (mkc right (ix zs i))) ∧ Below w3.heap.size w3 wr) (fun _ a _ => m - (intOf a).toNat)
    case atStart => exact ⟨0, Nat.zero_le _, rfl, World.ownsRow_nil _ _ _ _, Below.refl _ _⟩
    case round =>
      obtain ⟨wo, rfl⟩ : ∃ wx : World, wx = wr := ⟨_, rfl⟩
      obtain ⟨i, hi, rfl, hown, hbl⟩ := hrel
      obtain ⟨A7, c7, rfl⟩ := own_form hown
      by_cases hlt : i < m
      · have hiz : i < zs.length := by omega
        have i60 : i < 60 := by omega
        obtain ⟨b, off, rfl, hc⟩ := ((Hr.out.below hbl3).below hbl).at_ hiz
        have hwf := Hz.out i hiz
        have Hw1 := hide (fun w => within_any (ix zs i) 97 122 w hwf (by decide) (by decide) (by decide))
        have Hw2 := hide (fun w => within_any (ix zs i) 1488 1514 w hwf (by decide) (by decide) (by decide))
        have hsz := hbl.size
        clear hwf
        have Htab := hide (tabV_succ i (fun i => .int .i64 (mkc right (ix zs i))))
        have Hmk : Hid (mkc right (ix zs i) = if right = true then wi (ix zs i) 1488 1514 else wi (ix zs i) 97 122) := hide rfl
        generalize ix zs i = x at *
        cases right with
        | true =>
          have hmk2 : Hid (mkc true x = wi x 1488 1514) := hide Hmk.out
          go_wp2_with (first
            | (go_at_call 12; with_reducible refine (Hw1.out _).mono ?_; rintro e9 w9 ⟨rfl, rfl⟩)
            | (go_at_call 12; with_reducible refine (Hw2.out _).mono ?_; rintro e9 w9 ⟨rfl, rfl⟩)
            | (at_builtin; refine wpL_append rfl rfl Tryd.underlying22 int_info rfl (by decide) rfl rfl (hown.alloc _) (news_at _ _ _ _ (by simp)) rfl (by simp [Value.oneCell']) (by omega) (by omega) (by simp; omega) ?_; intro v7 w7 hown7 hgrow7))
          go_roundw
          case rel => exact ⟨i + 1, by omega, by go_num, by rw [Htab.out, hmk2.out]; exact hown7, below_app (hbl.alloc hsz _) (by simp; omega) (hown.alloc _) hgrow7⟩
          case measure => simp [intOf]; omega
        | false =>
          have hmk2 : Hid (mkc false x = wi x 97 122) := hide Hmk.out
          go_wp2_with (first
            | (go_at_call 12; with_reducible refine (Hw1.out _).mono ?_; rintro e9 w9 ⟨rfl, rfl⟩)
            | (go_at_call 12; with_reducible refine (Hw2.out _).mono ?_; rintro e9 w9 ⟨rfl, rfl⟩)
            | (at_builtin; refine wpL_append rfl rfl Tryd.underlying22 int_info rfl (by decide) rfl rfl (hown.alloc _) (news_at _ _ _ _ (by simp)) rfl (by simp [Value.oneCell']) (by omega) (by omega) (by simp; omega) ?_; intro v7 w7 hown7 hgrow7))
          go_roundw
          case rel => exact ⟨i + 1, by omega, by go_num, by rw [Htab.out, hmk2.out]; exact hown7, below_app (hbl.alloc hsz _) (by simp; omega) (hown.alloc _) hgrow7⟩
          case measure => simp [intOf]; omega
      · obtain rfl : i = m := by omega
        have hdd : (decide ((i : Int) < (zs.length : Int)) && decide ((i : Int) < 60)) = false := by
          have := Hm.out
          rw [Bool.and_eq_false_iff]
          by_cases h : zs.length ≤ i
          · left; simp; omega
          · right; simp; omega
        by_cases hzl : zs.length ≤ i
        · have h1 : decide ((i : Int) < (zs.length : Int)) = false := by simp; omega
          go_wp2_with fail
          go_meet
          exact ⟨hown, hbl⟩
        · have h1 : decide ((i : Int) < (zs.length : Int)) = true := by simp; omega
          have h2 : decide ((i : Int) < 60) = false := by have := Hm.out; simp; omega
          go_wp2_with fail
          go_meet
          exact ⟨hown, hbl⟩
  case rest =>
    obtain ⟨w4, rfl⟩ : ∃ wx : World, wx = wc := ⟨_, rfl⟩
    obtain ⟨hown, hbl4⟩ := hcut
    obtain ⟨A7, c7, rfl⟩ := own_form hown
    have hbw4 : Below w.heap.size w w4 := hbl3.trans (hbl4.mono hs3)
    obtain ⟨ys, Hys⟩ : ∃ ys, Hid (ys = tab m fun i => mkc right (ix zs i)) := ⟨_, rfl⟩
    have hyl : ys.length = m := by rw [Hys.out, tab_length]
    have hyi : ∀ i, i < m → ix ys i = mkc right (ix zs i) := fun i hi => by rw [Hys.out]; exact tab_ix _ hi
    have hry : RdI w4 A7 ys := by
      rw [Hys.out]
      exact RdI.of_own (by rw [← tabV_ints]; exact hown)
    have hchk : chk ys = 0 := chk_zero (by omega) (fun i hi => by rw [hyi i (by omega)]; have := mkc_bd right (ix zs i); omega)
    have hcls : ∀ i, i < ys.length → clsX ys i = cOf right := fun i hi => by
      unfold clsX
      rw [hyi i (by omega)]
      exact mkc_cls right _
    have Hlv := hide (levels_ok A7 c7 ys (-1) w4 (Ht.out.below hbw4) (HB.out.below hbw4) hry hchk (by decide))
    have Hbase : Hid (0 < m → baseOf ys (-1) = cOf right) := hide (fun h => base_calm (cOf_calm right) (by omega) hcls)
    have Hlev : Hid (∀ i, i < m → (lvP ys (baseOf ys (-1))).lev i = cOf right) := hide (fun i hi => by
      have hb := Hbase.out (by omega)
      exact lev_all (cOf_calm right) (show 0 < (lvP ys (baseOf ys (-1))).n by show 0 < ys.length; omega) hcls hb i (show i < ys.length by omega))
    generalize (lvP ys (baseOf ys (-1))).lev = lev at *
    generalize baseOf ys (-1) = base at *
    rw [hyl] at Hlv
    clear hown hry hchk hcls hyi hyl Hys
    go_wp2_with fail
    refine Hlv.out.mono ?_
    rintro e9 w5 ⟨gl, rfl, hgl, hbi, hb5⟩
    have hbw5 : Below w.heap.size w w5 := hbw4.trans (hb5.mono hbw4.size)
    have Hor := hide (order_ok (some ⟨gl, 0, none⟩) m m lev w5 hbi.rd (by omega) (fun i hi => by rw [Hlev.out i hi]; cases right <;> decide))
    clear Hlv hb5
    go_wp2_with fail
    refine Hor.out.mono ?_
    rintro e9 w6 ⟨g2, rfl, hg2, hbn, hb6⟩
    have hbw6 : Below w.heap.size w w6 := hbw5.trans (hb6.mono hbw5.size)
    clear Hor hb6 hbi
    have Hbn := hide hbn
    go_upto_region 16 with fail
    go_cut [87] (fun v wc => v = .bool false ∧ w6 = wc)
    case first => as_aux_lemma =>
      by_cases hm0 : m = 0
      · subst hm0
        go_wp2_with fail
        go_meet
        exact ⟨rfl, rfl⟩
      · have hb := Hbase.out (by omega)
        subst hb
        have hpos : 0 < m := by omega
        cases right with
        | true =>
          have e1 : cOf true = 1 := rfl
          rw [e1]
          go_wp2_with fail
          go_meet
          exact ⟨rfl, rfl⟩
        | false =>
          have e1 : cOf false = 0 := rfl
          rw [e1]
          go_wp2_with fail
          go_meet
          exact ⟨rfl, rfl⟩
    case rest =>
      obtain ⟨rfl, rfl⟩ := hcut
      go_wp2_with fail
      go_loopw [90] (fun a wr => ∃ i : Nat, i ≤ m ∧ a = .int .i64 i ∧ ∃ d, wr = w6.drewN d) (fun a _ => m - (intOf a).toNat)
      case atStart => exact ⟨0, Nat.zero_le _, rfl, 0, rfl⟩
      case round =>
        obtain ⟨i, hi, rfl, d, rfl⟩ := hrel
        by_cases hlt : i < m
        · have co : (w6.drewN d).cell? ⟨g2, i, none⟩ = some (.int .i64 (order lev m i : Nat)) := Hbn.out.bi.cell hlt
          cases right with
          | true =>
            have e1 : Hid (order lev m i = m - 1 - i) := hide (order_one Hlev.out i hlt)
            rw [e1.out] at co
            have i1 : ((m : Int) - 1 - (i : Int)) = ((m - 1 - i : Nat) : Int) := by omega
            have i2 : ((m : Int) - 1) = ((m - 1 : Nat) : Int) := by omega
            have i3 : (((m - 1 : Nat) : Int) - (i : Int)) = ((m - 1 - i : Nat) : Int) := by omega
            go_wp2_with fail
            go_roundw
            case rel => exact ⟨i + 1, by omega, by go_num, d, rfl⟩
            case measure => simp [intOf]; omega
          | false =>
            have e1 : Hid (order lev m i = i) := hide (order_zero Hlev.out i)
            rw [e1.out] at co
            go_wp2_with fail
            go_roundw
            case rel => exact ⟨i + 1, by omega, by go_num, d, rfl⟩
            case measure => simp [intOf]; omega
        · obtain rfl : i = m := by omega
          go_wp2_with fail
          go_ret
          exact ⟨rfl, below_drewN hbw6 d⟩

theorem walked : WalkedL Tryd.checked.prog 4 Tryd.f4 [("chancery/bidi.table", Rows.laid_chancery_bidi_table), ("chancery/bidi.brackets", Rows.laid_chancery_bidi_brackets)] := by
  intro H enc W args ds ps hval hA hL
  obtain ⟨ht, hB⟩ : TabC W ∧ BrC W := tabs_of ⟨_, _, _, rfl, rfl, rfl⟩ (by kernel_rfl) hL
  rw [Tryd.params4] at hA hval
  obtain ⟨v0, v1, d0, d1, p0, p1, hargs, rfl, _, h0, h1⟩ := trodAll_two hA
  obtain rfl : args = #[v0, v1] := by cases args; simp_all
  obtain ⟨A, c, zs, rfl, hr, hl, hwf⟩ := ints_arg Tryd.underlying22 Tryd.underlying3 (by kernel_rfl) (hval 0 _ _ rfl rfl) h0
  obtain ⟨x, rfl, _, _⟩ := open_bool Tryd.underlying4 (hval 1 _ _ rfl rfl) h1
  exact walk A c zs x W ht hB hr hwf hl

def laidL : List (String × DataW Unit) := [("chancery/bidi.table", Rows.laid_chancery_bidi_table), ("chancery/bidi.brackets", Rows.laid_chancery_bidi_brackets)]
theorem door_met (os : Os) (args : Array Value) : laidMetH Tryd.prog laidL ((World.doorLaid Tryd.prog 400 os).forCall (fun _ _ => 0) ⟨#[], args, []⟩).memory :=
  laidMetH_of_parts3 (fuel := 8) (laidMet_of_run' 8 (by kernel_rfl) (by kernel_rfl)) (by kernel_rfl) (by kernel_rfl)

set_option maxRecDepth 100000 in
theorem lifted (os : Os) (started : os.Started) (H : Type) (enc : TypeId × Value → H) :
    ReturnsInHanded {} Tryd.checked os 4 .any (fun w args => (Rows.bidiOneDirectionSpec.pre enc Tryd.prog Tryd.f4 [] false w args ∧ laidMetH Tryd.prog laidL w) ∧ sizedMet enc Tryd.prog Tryd.f4 (OpenSpec.ofChange Rows.bidiOneDirectionSpec) false w args) (Rows.bidiOneDirectionSpec.post enc Tryd.prog Tryd.f4 false true false false) :=
  law_lift_laid (C := Tryd.checked) (tb := 4) (laid := laidL) (by kernel_rfl) started (by kernel_rfl) Tryd.func4 rfl
    (fun ds h => match ds, h with | [_, _], _ => rfl) rfl Tryd.underlying4 (by kernel_rfl) (by kernel_rfl)
    (ChangeSpec.witness_shaped (enc := enc) (C := Tryd.checked) (os := os) (X := fun w _ => laidMetH Tryd.prog laidL w) false (World.doorLaid Tryd.prog 400 os) #[.slice none 0 0, .bool false] 8 rfl (World.shaped_of_RefB (by kernel_rfl) (by kernel_rfl)) (by kernel_rfl) (by kernel_rfl) (by kernel_rfl) (door_met os _))
    walked

theorem said : Rows.BidiOneDirectionSaid :=
  OpenClaim.holds_of_wide 4 Tryd.f4 rfl rfl rfl rfl rfl rfl rfl ⟨rfl, rfl, rfl, rfl, rfl⟩ rfl rfl rfl rfl rfl (by kernel_rfl) Tryd.func4 (by kernel_rfl)
    (of_decide_eq_true (by kernel_rfl)) (by unfold Func.isWrapper; first | (rw [if_pos (by decide +kernel)]; kernel_rfl) | (rw [if_neg (by decide +kernel)]; exact ⟨rfl, rfl⟩))
    (fun os started H enc _ => lifted os started H enc)

/-- THE STATEMENT: the tied card -/
theorem proved : Rows.BidiOneDirectionCardSaid :=
  Claim7.holds_tied_plain_at .later [] [.data, .widerDeep] true (true, "dc325a33d721ee8d36ed2a63bc3423150babb9981c2998a8110c55e155ad6a67") false
    said (fun _ h => by cases h) (by kernel_rfl) (fun _ h => by cases h) bidiOneDirection_row_tie rfl ⟨rfl, rfl⟩ (by kernel_rfl) rfl
    (fun f fn hf hfn => by
      obtain rfl : f = 4 := Option.some.inj ((show Tryd.prog.funcNamed "chancery/chancerykeep3.BidiOneDirection" = some 4 by kernel_rfl).symm.trans hf) |>.symm
      obtain rfl : fn = Tryd.f4 := (Option.some.inj (Tryd.func4.symm.trans hfn)).symm
      exact ⟨by kernel_rfl, fun j t ht => by
        have hm : t ∈ Tryd.f4.params.toList := by simpa using Array.mem_of_getElem? ht
        have hall : (Tryd.f4.params.toList.all fun u => !Tryd.prog.wantsStandIn u) = true := by kernel_rfl
        exact (show Tryd.prog.wantsStandIn t = false by simpa using List.all_eq_true.1 hall t hm)⟩)
    (by kernel_rfl)
#print axioms proved
end Go.Proofs.YtdikfldogmbeaaaDoor.BidiOneDirectionDone
