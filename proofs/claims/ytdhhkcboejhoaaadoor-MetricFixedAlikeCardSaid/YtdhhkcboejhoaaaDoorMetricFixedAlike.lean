/- PROVED HERE: whatever the characters and the look, chancerykeep3.MetricFixedAlike returns true, and its arguments read behind the call as before, where the listed tables of package metric hold what the row lists. No condition beside those of the given row. -/
import Derived.Test.YtdhhkcboejhoaaaDoorRows
import Derived.Test.YtdhhkcboejhoaaaDoorCards
import Derived.Test.YtdhhkcboejhoaaaDoorTie
import Derived.Test.YtdhhkcboejhoaaaDoorMetricTabs2
import Derived.Test.YtdhhkcboejhoaaaDoorSink
import Derived.Deep.CutBlock
import Derived.SevenTiedAt
namespace Go.Proofs.YtdhhkcboejhoaaaDoor.MetricFixedAlikeDone
open Go.RowKit Go.Frm Go.ChangeShapes Go.WideShapes Go.ChangeAt Mtr Wi

theorem em_i : em 105 = 280 := by decide +kernel
/-- the ways of the last test -/
theorem ways (s a : Int) (bold : Bool) : adv s bold true 105 = rnd (600 * s) 1000 ∧
    (((em a == 0) = true ∧ adv s bold true a = 0) ∨ ((em a == 0) = false ∧ (em a == 1000) = true ∧ 2 * rnd (600 * s) 1000 - 1 ≤ adv s bold true a ∧ adv s bold true a ≤ 2 * rnd (600 * s) 1000 + 1) ∨
     ((em a == 0) = false ∧ (em a == 1000) = false ∧ adv s bold true a = rnd (600 * s) 1000)) := by
  refine ⟨?_, ?_⟩
  · unfold adv
    rw [em_i]
    rfl
  · unfold adv
    by_cases e0 : em a = 0
    · exact .inl ⟨by simpa using e0, by rw [if_pos e0]⟩
    · rw [if_neg e0]
      by_cases e1 : em a = 1000
      · refine .inr (.inl ⟨by simpa using e0, by simpa using e1, ?_⟩)
        rw [if_pos ⟨rfl, e1⟩]
        unfold rnd
        omega
      · refine .inr (.inr ⟨by simpa using e0, by simpa using e1, ?_⟩)
        rw [if_neg (fun h => e1 h.2), if_pos rfl]
theorem adv_alike (s a : Int) (b b' : Bool) : adv s b true a = adv s b' true a := by unfold adv; simp

/-- the look that was made -/
def Made (w : World) (C : Nat) (s : Int) (bold : Bool) (wc : World) : Prop := Blk wc C 46 #[.int .i64 s, .bool bold, .bool true] ∧ Below w.heap.size w wc

set_option maxRecDepth 100000 in
set_option maxHeartbeats 4000000 in
theorem walk (a b size : Int) (bold fixed : Bool) (w : World) (ht : Tabs w) (fa : (Lit.int .i64 a).wf = true) (fb : (Lit.int .i64 b).wf = true) (fs : (Lit.int .i64 size).wf = true) :
    Calls Tryd.prog 7 #[.int .i64 a, .int .i64 b, .agg #[.int .i64 size, .bool bold, .bool fixed]] w fun e w' => e = .returned (.bool true) ∧ Below w.heap.size w w' := by
  have hwa := fun wx => within_any a 0 1114111 wx fa (by omega) (by omega) (by omega)
  have hwb := fun wx => within_any b 0 1114111 wx fb (by omega) (by omega) (by omega)
  have hlk := fun wx => look_ok size bold fixed wx fs
  have ba := wi_bd a (show (0 : Int) ≤ 1114111 by omega)
  have bb := wi_bd b (show (0 : Int) ≤ 1114111 by omega)
  have bs := wi_bd size (show (40 : Int) ≤ 4000 by omega)
  generalize wi a 0 1114111 = a9 at *
  generalize wi b 0 1114111 = b9 at *
  generalize wi size 40 4000 = s at *
  have Wa := hide hwa
  have Wb := hide hwb
  have Hlk := hide hlk
  have Ht := hide ht
  clear hwa hwb hlk fa fb fs ht
  go_enter Tryd.func7, Tryd.ntmps7
  go_wp2_with fail
  have hb0 := Blk.new w 46 #[.int .i64 size, .bool bold, .bool fixed]
  have hbel0 : Below w.heap.size w (w.alloc (.cells #[.int .i64 size, .bool bold, .bool fixed] 46)) := (Below.refl _ _).alloc (Nat.le_refl _) _
  generalize w.alloc (.cells #[.int .i64 size, .bool bold, .bool fixed] 46) = w0 at *
  refine (metrics_ok w0 (Ht.out.below hbel0)).mono ?_
  rintro e w1 ⟨rfl, hbel1⟩
  have hb1 := hb0.below hbel1 hb0.lt
  have hM := hb1.lt
  have hbelA := hbel0.trans (hbel1.mono hbel0.size)
  have a0 : w1.cell? ⟨w.heap.size, 0, none⟩ = some (.int .i64 size) := hb1.cell 0
  have a1 : w1.cell? ⟨w.heap.size, 1, none⟩ = some (.bool bold) := hb1.cell 1
  have a2 : w1.cell? ⟨w.heap.size, 2, none⟩ = some (.bool fixed) := hb1.cell 2
  clear hb0 hbel0 hbel1
  go_upto_region 3 with fail
  go_cut [0, 1] (fun u v wc => u = .int .i64 a9 ∧ v = .int .i64 b9 ∧ Blk wc w.heap.size 46 #[.int .i64 s, .bool bold, .bool fixed] ∧ Below w.heap.size w wc)
  case first =>
    refine wp_region_sink (S := fun w' => w'.cell? ⟨w.heap.size, 0, none⟩ = some (.int .i64 size) ∧ w'.cell? ⟨w.heap.size, 1, none⟩ = some (.bool bold) ∧ w'.cell? ⟨w.heap.size, 2, none⟩ = some (.bool fixed)) 8 (by kernel_rfl) (by kernel_rfl) (by kernel_rfl) (by kernel_rfl) ?hSq (fun hHeld => ?_)
    case hSq => exact ⟨a0, a1, a2⟩
    simp only [List.take_succ_cons, List.take_zero]
    refine wpAnyH_take (i := 0) (v := ?vqn0) rfl (by kernel_rfl) (by kernel_rfl) (by kernel_rfl) (fun _ _ _ h => h) (Or.inl ⟨by rfl, ?hyqn0⟩) (by assumption) ?_
    case hyqn0 => (intro w hSw; (try dsimp only at hSw); go_simp; try with_reducible rfl)
    try simp only [Act.put]
    refine wpAnyH_take (i := 2) (v := ?vqn2) rfl (by kernel_rfl) (by kernel_rfl) (by kernel_rfl) (fun _ _ _ h => h) (Or.inl ⟨by rfl, ?hyqn2⟩) (by assumption) ?_
    case hyqn2 => (intro w hSw; (try dsimp only at hSw); go_simp; try with_reducible rfl)
    try simp only [Act.put]
    refine wpAnyH_take (i := 4) (v := ?vqn4) rfl (by kernel_rfl) (by kernel_rfl) (by kernel_rfl) (fun _ _ _ h => h) (Or.inl ⟨by rfl, ?hyqn4⟩) (by assumption) ?_
    case hyqn4 => (intro w hSw; (try dsimp only at hSw); go_simp; try with_reducible rfl)
    try simp only [Act.put]
    refine wpAnyH_ready (rs := [1]) (by kernel_rfl) (by simp) (AllReadyH.cons rfl (fun K hK => ?_) AllReadyH.nil)
    go_simp
    go_at_call 13
    with_reducible refine (Wa.out _).mono ?_
    rintro e w' ⟨rfl, rfl⟩
    go_wp2_with fail
    refine hK.out _ _ ?hkqn1 (fun hHeld => ?_)
    case hkqn1 => exact hHeld
    clear hK K
    try simp only [Act.put]
    refine wpAnyH_ready (rs := [3]) (by kernel_rfl) (by simp) (AllReadyH.cons rfl (fun K hK => ?_) AllReadyH.nil)
    go_simp
    go_at_call 13
    with_reducible refine (Wb.out _).mono ?_
    rintro e w' ⟨rfl, rfl⟩
    go_wp2_with fail
    refine hK.out _ _ ?hkqn3 (fun hHeld => ?_)
    case hkqn3 => exact hHeld
    clear hK K
    try simp only [Act.put]
    refine wpAnyH_ready (rs := [5]) (by kernel_rfl) (by simp) (AllReadyH.cons rfl (fun K hK => ?_) AllReadyH.nil)
    go_simp
    go_at_call 18
    refine (Hlk.out _).mono ?_
    rintro e w2 ⟨rfl, hbel2⟩
    have hb2 : Blk w2 w.heap.size 46 #[.int .i64 size, .bool bold, .bool fixed] := Blk.below (w := w1.drew) hb1 hbel2 hM
    have z0 := hb2.frozen 0
    have z1 := hb2.frozen 1
    have z2 := hb2.frozen 2
    have c0 : w2.cell? ⟨w.heap.size, 0, none⟩ = some (.int .i64 size) := hb2.cell 0
    have c1 : w2.cell? ⟨w.heap.size, 1, none⟩ = some (.bool bold) := hb2.cell 1
    have c2 : w2.cell? ⟨w.heap.size, 2, none⟩ = some (.bool fixed) := hb2.cell 2
    go_wp2_with fail
    refine hK.out _ _ ?hkqn5 (fun hHeld => ?_)
    case hkqn5 => exact ⟨c0, c1, c2⟩
    clear hK K
    try simp only [Act.put]
    refine wpAnyH_take (i := 6) (v := ?vqn6) rfl (by kernel_rfl) (by kernel_rfl) (by kernel_rfl) (fun _ _ _ h => h) (Or.inl ⟨by rfl, ?hyqn6⟩) (by assumption) ?_
    case hyqn6 => (intro w hSw; (try dsimp only at hSw); go_simp; try with_reducible rfl)
    try simp only [Act.put]
    refine wpAnyH_take (i := 7) (v := ?vqn7) rfl (by kernel_rfl) (by kernel_rfl) (by kernel_rfl) (fun _ _ _ h => h) (Or.inl ⟨by rfl, ?hyqn7⟩) (by assumption) ?_
    case hyqn7 => (intro w hSw; (try dsimp only at hSw); go_simp; try with_reducible rfl)
    try simp only [Act.put]
    refine wpAnyH_done (by kernel_rfl) ?_ _
    refine sink_run rfl rfl ?_
    go_simp
    go_wp2_with fail
    go_meet
    exact ⟨rfl, rfl, ((hb2.set_ 0 _).set_ 1 _).set_ 2 _, ((((below_drewN hbelA 1).trans (hbel2.mono hbelA.size)).setCell (p := ⟨w.heap.size, 0, none⟩) (Nat.le_refl _) _).setCell (p := ⟨w.heap.size, 1, none⟩) (Nat.le_refl _) _).setCell (p := ⟨w.heap.size, 2, none⟩) (Nat.le_refl _) _⟩
  case rest =>
    clear hb1 a0 a1 a2 hbelA hM
    obtain ⟨rfl, rfl, hb, hbel⟩ := hcut
    have z2 := hb.frozen 2
    have a0 : wc.cell? ⟨w.heap.size, 0, none⟩ = some (.int .i64 s) := hb.cell 0
    have a1 : wc.cell? ⟨w.heap.size, 1, none⟩ = some (.bool bold) := hb.cell 1
    have a2 : wc.cell? ⟨w.heap.size, 2, none⟩ = some (.bool fixed) := hb.cell 2
    have hM := hb.lt
    have hb2 := hb.set_ 2 (.bool true)
    have hbel2 := hbel.setCell (p := ⟨w.heap.size, 2, none⟩) (Nat.le_refl _) (.bool true)
    go_upto_region 5 with fail
    generalize wc.setCell ⟨w.heap.size, 2, none⟩ (.bool true) = wd at *
    clear a0 a1 a2 z2 hb hbel hM
    have hb2 : Blk wd w.heap.size 46 #[.int .i64 s, .bool bold, .bool true] := hb2
    have a0 : wd.cell? ⟨w.heap.size, 0, none⟩ = some (.int .i64 s) := hb2.cell 0
    have a1 : wd.cell? ⟨w.heap.size, 1, none⟩ = some (.bool bold) := hb2.cell 1
    have a2 : wd.cell? ⟨w.heap.size, 2, none⟩ = some (.bool true) := hb2.cell 2
    have hM := hb2.lt
    go_wp2_with fail
    have hb3 := hb2.alloc (.cells #[.int .i64 s, .bool (!bold), .bool true] 46)
    have hc3 : Blk (wd.alloc (.cells #[.int .i64 s, .bool (!bold), .bool true] 46)) wd.heap.size 46 #[.int .i64 s, .bool (!bold), .bool true] := Blk.new wd _ _
    have hbel3 := hbel2.alloc hbel2.size (.cells #[.int .i64 s, .bool (!bold), .bool true] 46)
    generalize wd.alloc (.cells #[.int .i64 s, .bool (!bold), .bool true] 46) = we at *
    generalize wd.heap.size = D at *
    clear hb2 hbel2 a0 a1 a2 hM
    refine (Advance_ok a9 s bold true we (Ht.out.below hbel3) (by omega) (by omega) (by omega) (by omega)).mono ?_
    rintro e w4 ⟨rfl, hbel4⟩
    have hb4 := hb3.below hbel4 hb3.lt
    have hc4 := hc3.below hbel4 hc3.lt
    have hbelB := hbel3.trans (hbel4.mono hbel3.size)
    have a0 : w4.cell? ⟨D, 0, none⟩ = some (.int .i64 s) := hc4.cell 0
    have a1 : w4.cell? ⟨D, 1, none⟩ = some (.bool (!bold)) := hc4.cell 1
    have a2 : w4.cell? ⟨D, 2, none⟩ = some (.bool true) := hc4.cell 2
    clear hb3 hc3 hbel3 hbel4
    go_wp2_with fail
    refine (Advance_ok a9 s (!bold) true w4 (Ht.out.below hbelB) (by omega) (by omega) (by omega) (by omega)).mono ?_
    rintro e w5 ⟨rfl, hbel5⟩
    rw [adv_alike s a9 (!bold) bold]
    have hb5 := hb4.below hbel5 hb4.lt
    have hbelC := hbelB.trans (hbel5.mono hbelB.size)
    have a0 : w5.cell? ⟨w.heap.size, 0, none⟩ = some (.int .i64 s) := hb5.cell 0
    have a1 : w5.cell? ⟨w.heap.size, 1, none⟩ = some (.bool bold) := hb5.cell 1
    have a2 : w5.cell? ⟨w.heap.size, 2, none⟩ = some (.bool true) := hb5.cell 2
    clear hb4 hc4 hbel5 hbelB
    go_wp2_with fail
    refine (Kern_ok a9 b9 s bold true w5 (by omega) (by omega) (by omega) (by omega) (by omega) (by omega)).mono ?_
    rintro e w6 ⟨rfl, hbel6⟩
    have hb6 := hb5.below hbel6 hb5.lt
    have hbelD := hbelC.trans (hbel6.mono hbelC.size)
    have a0 : w6.cell? ⟨w.heap.size, 0, none⟩ = some (.int .i64 s) := hb6.cell 0
    have a1 : w6.cell? ⟨w.heap.size, 1, none⟩ = some (.bool bold) := hb6.cell 1
    have a2 : w6.cell? ⟨w.heap.size, 2, none⟩ = some (.bool true) := hb6.cell 2
    rw [show krn s true a9 b9 = 0 from rfl]
    clear hb5 hbel6 hbelC
    go_wp2_with fail
    refine (Advance_ok 105 s bold true w6 (Ht.out.below hbelD) (by omega) (by omega) (by omega) (by omega)).mono ?_
    rintro e w7 ⟨rfl, hbel7⟩
    have hbelE := hbelD.trans (hbel7.mono hbelD.size)
    have hem := em_ok a9 w7 (Ht.out.below hbelE)
    have hwy := ways s a9 bold
    have hrb := rnd_bd (a := 600 * s) (by omega) (by omega)
    have hab := adv_bd bold true a9 (show 40 ≤ s by omega) (show s ≤ 4000 by omega)
    rw [hwy.1]
    have hwy := hwy.2
    generalize rnd (600 * s) 1000 = x at *
    generalize adv s bold true a9 = y at *
    generalize em a9 = m at *
    have Hem := hide hem
    clear hem hb6 hbelD hbel7 a0 a1 a2
    rcases hwy with ⟨e0, rfl⟩ | ⟨e0, e1, y0, y1⟩ | ⟨e0, e1, rfl⟩
    all_goals
      go_wp2_with fail
      refine Hem.out.mono ?_
      rintro e w8 ⟨rfl, hbel8⟩
      go_wp2_with fail
      go_ret
      exact ⟨rfl, hbelE.trans (hbel8.mono hbelE.size)⟩

theorem walked : WalkedL Tryd.checked.prog 7 Tryd.f7 [("chancery/metric.marks", Rows.laid_chancery_metric_marks), ("chancery/metric.others", Rows.laid_chancery_metric_others)] := by
  intro H enc W args ds ps hval hA hL
  have ht : Tabs W := tabs_of ⟨_, _, _, rfl, rfl, rfl⟩ (by kernel_rfl) hL
  rw [Tryd.params7] at hA hval
  obtain ⟨v0, v1, v2, d0, d1, d2, p0, p1, p2, hargs, rfl, rfl, h0, h1, h2⟩ := trodAll_three hA
  obtain rfl : args = #[v0, v1, v2] := by cases args; simp_all
  obtain ⟨x, rfl, _, _, wx⟩ := open_int Tryd.underlying3 (hval 0 _ _ rfl rfl) h0
  obtain ⟨y, rfl, _, _, wy⟩ := open_int Tryd.underlying3 (hval 1 _ _ rfl rfl) h1
  obtain ⟨c0, c1, c2, y0, y1, y2, m, rfl, rfl, rfl, hy0, hy1, hy2⟩ := Go.Joins.open_agg3 Tryd.underlying46 (by kernel_rfl) (by kernel_rfl) (hval 2 _ _ rfl rfl) h2
  obtain ⟨s, e0, rfl, ws⟩ := DataW.trod_int Tryd.underlying3 hy0
  obtain ⟨b, e1, rfl⟩ := DataW.trod_bool Tryd.underlying4 hy1
  obtain ⟨f, e2, rfl⟩ := DataW.trod_bool Tryd.underlying4 hy2
  simp at e0 e1 e2
  subst e0 e1 e2
  exact walk x y s b f W ht wx wy ws

def laidL : List (String × DataW Unit) := [("chancery/metric.marks", Rows.laid_chancery_metric_marks), ("chancery/metric.others", Rows.laid_chancery_metric_others)]
theorem door_met (os : Os) (args : Array Value) : laidMetH Tryd.prog laidL ((World.doorLaid Tryd.prog 400 os).forCall (fun _ _ => 0) ⟨#[], args, []⟩).memory :=
  laidMetH_of_parts3 (fuel := 8) (laidMet_of_run' 8 (by kernel_rfl) (by kernel_rfl)) (by kernel_rfl) (by kernel_rfl)

set_option maxRecDepth 100000 in
theorem lifted (os : Os) (started : os.Started) (H : Type) (enc : TypeId × Value → H) :
    ReturnsInHanded {} Tryd.checked os 7 .any (fun w args => (Rows.metricFixedAlikeSpec.pre enc Tryd.prog Tryd.f7 [] false w args ∧ laidMetH Tryd.prog laidL w) ∧ sizedMet enc Tryd.prog Tryd.f7 (OpenSpec.ofChange Rows.metricFixedAlikeSpec) false w args) (Rows.metricFixedAlikeSpec.post enc Tryd.prog Tryd.f7 false true false false) :=
  law_lift_laid (C := Tryd.checked) (tb := 4) (laid := laidL) (by kernel_rfl) started (by kernel_rfl) Tryd.func7 rfl
    (fun ds h => match ds, h with | [_, _, _], _ => rfl) rfl Tryd.underlying4 (by kernel_rfl) (by kernel_rfl)
    (ChangeSpec.witness_shaped (enc := enc) (C := Tryd.checked) (os := os) (X := fun w _ => laidMetH Tryd.prog laidL w) false (World.doorLaid Tryd.prog 400 os) #[.int .i64 0, .int .i64 0, .agg #[.int .i64 0, .bool false, .bool false]] 8 rfl (World.shaped_of_RefB (by kernel_rfl) (by kernel_rfl)) (by kernel_rfl) (by kernel_rfl) (by kernel_rfl) (door_met os _))
    walked

theorem said : Rows.MetricFixedAlikeSaid :=
  OpenClaim.holds_of_wide 7 Tryd.f7 rfl rfl rfl rfl rfl rfl rfl ⟨rfl, rfl, rfl, rfl, rfl⟩ rfl rfl rfl rfl rfl (by kernel_rfl) Tryd.func7 (by kernel_rfl)
    (of_decide_eq_true (by kernel_rfl)) (by unfold Func.isWrapper; first | (rw [if_pos (by decide +kernel)]; kernel_rfl) | (rw [if_neg (by decide +kernel)]; exact ⟨rfl, rfl⟩))
    (fun os started H enc _ => lifted os started H enc)

/-- THE STATEMENT: the tied card -/
theorem proved : Rows.MetricFixedAlikeCardSaid :=
  Claim7.holds_tied_plain_at .later [] [.widerDeep, .widerDeep] true (true, "615198ff36b7c7e435cabbe38a7256887dfbc5d265756060a0dddb598d2df81c") false
    said (fun _ h => by cases h) (by kernel_rfl) (fun _ h => by cases h) metricFixedAlike_row_tie rfl ⟨rfl, rfl⟩ (by kernel_rfl) rfl
    (fun f fn hf hfn => by
      obtain rfl : f = 7 := Option.some.inj ((show Tryd.prog.funcNamed "chancery/chancerykeep3.MetricFixedAlike" = some 7 by kernel_rfl).symm.trans hf) |>.symm
      obtain rfl : fn = Tryd.f7 := (Option.some.inj (Tryd.func7.symm.trans hfn)).symm
      exact ⟨by kernel_rfl, fun j t ht => by
        have hm : t ∈ Tryd.f7.params.toList := by simpa using Array.mem_of_getElem? ht
        have hall : (Tryd.f7.params.toList.all fun u => !Tryd.prog.wantsStandIn u) = true := by kernel_rfl
        exact (show Tryd.prog.wantsStandIn t = false by simpa using List.all_eq_true.1 hall t hm)⟩)
    (by kernel_rfl)
#print axioms proved
end Go.Proofs.YtdhhkcboejhoaaaDoor.MetricFixedAlikeDone
