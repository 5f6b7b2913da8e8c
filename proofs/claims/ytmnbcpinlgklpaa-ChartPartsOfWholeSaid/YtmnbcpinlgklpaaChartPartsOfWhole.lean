/- PROVED HERE: whatever the chart, chancerykeep3.ChartPartsOfWhole returns true, and its argument reads behind the call as before. No condition beside those of the given row. -/
import Derived.Test.YtmnbcpinlgklpaaRows
import Derived.Test.YtmnbcpinlgklpaaShares
import Derived.Test.YtmnbcpinlgklpaaBars
import Derived.Test.YtmnbcpinlgklpaaArgs
namespace Go.Proofs.Ytmnbcpinlgklpaa.ChartPartsOfWholeDone
open Go.RowKit Go.Frm Go.ChangeShapes Go.WideShapes Go.ChangeAt Chr

set_option maxRecDepth 100000 in
set_option maxHeartbeats 2000000 in
theorem charted_ok (w : World) : Calls Try.prog 20 #[] w fun e w' => e = .returned (.bool true) ∧ Below w.heap.size w w' := by
  go_enter Try.func20, Try.ntmps20
  go_wp2_with fail
  have hbel : Below w.heap.size w (((w.alloc (.cells #[.string ⟨#[97]⟩, .string ⟨#[98]⟩] 9)).alloc (.cells #[.int .i64 1, .int .i64 3] 3)).alloc (.cells #[.slice (some ⟨w.heap.size + 1, 0, none⟩) 2 2] 29)) :=
    (((Below.refl _ _).alloc (Nat.le_refl _) _).alloc (by simp) _).alloc (by simp; omega) _
  have hr1 : RdI ((w.alloc (.cells #[.string ⟨#[97]⟩, .string ⟨#[98]⟩] 9)).alloc (.cells #[.int .i64 1, .int .i64 3] 3)) (some ⟨w.heap.size + 1, 0, none⟩) [1, 3] := by
    exact rdI_lit _ _ _ [1, 3] (by simp) (by decide)
  have hr2 := hr1.alloc (.cells #[.slice (some ⟨w.heap.size + 1, 0, none⟩) 2 2] 29)
  have hm : RdM (((w.alloc (.cells #[.string ⟨#[97]⟩, .string ⟨#[98]⟩] 9)).alloc (.cells #[.int .i64 1, .int .i64 3] 3)).alloc (.cells #[.slice (some ⟨w.heap.size + 1, 0, none⟩) 2 2] 29)) (some ⟨w.heap.size + 1 + 1, 0, none⟩) 1 (fun _ => [1, 3]) := by
    refine .inr ⟨_, _, rfl, fun i hi => ⟨some ⟨w.heap.size + 1, 0, none⟩, 2, ?_, hr2⟩⟩
    obtain rfl : i = 0 := by omega
    exact (World.cell?_alloc_at _ _ _ _ (by simp)).trans rfl
  generalize ((w.alloc (.cells #[.string ⟨#[97]⟩, .string ⟨#[98]⟩] 9)).alloc (.cells #[.int .i64 1, .int .i64 3] 3)).alloc (.cells #[.slice (some ⟨w.heap.size + 1, 0, none⟩) 2 2] 29) = w0 at *
  clear hr1 hr2
  refine (sectors_ok _ _ 2 _ _ (fun _ => [1, 3]) _ ⟨by omega, by omega, by omega, by omega, by omega, by omega, fun _ => rfl, fun _ _ => rfl, fun i j _ hj => by
    match j, hj with
    | 0, _ => decide
    | 1, _ => decide⟩ hm).mono ?_
  rintro e w1 ⟨A, c, rfl, hown, hbel1⟩
  obtain ⟨b, off, rfl, hc⟩ := (RdF.of_own hown).at_ (show 1 < 2 by omega)
  have k0 : w1.cell? ⟨b, off + 3, none⟩ = some (.int .i64 1) := hc 0 (by omega)
  have k1 : w1.cell? ⟨b, off + 3 + 1, none⟩ = some (.int .i64 900) := hc 1 (by omega)
  have k2 : w1.cell? ⟨b, off + 3 + 2, none⟩ = some (.int .i64 3600) := hc 2 (by omega)
  clear hc hown
  go_wp2_with fail
  go_ret
  exact ⟨rfl, hbel.trans (hbel1.mono hbel.size)⟩

theorem ends_mono {all S T : Int} (h : S ≤ T) : ends all S ≤ ends all T := by
  unfold ends
  split
  · exact Int.ediv_le_ediv (by omega) (by omega)
  · omega
theorem from_le {zs : List Int} {all : Int} {i : Nat} (h : 0 ≤ ix zs i) (_h0 : 0 ≤ all) : from_ zs all i ≤ ends all (psum zs (i + 1)) := by
  cases i with
  | zero =>
    show 0 ≤ _
    unfold ends
    split
    · have : 0 ≤ psum zs (0 + 1) := by show 0 ≤ 0 + ix zs 0; omega
      exact Int.ediv_nonneg (by omega) (by omega)
    · omega
  | succ i => exact ends_mono (by rw [psum_succ zs (i + 1)]; omega)
theorem from_end {zs : List Int} {n : Nat} (hn : 1 ≤ n) (h : 0 < psum zs n) : from_ zs (psum zs n) n = 3600 := by
  match n, hn with
  | n + 1, _ =>
    show ends _ _ = _
    unfold ends
    rw [if_pos h, Int.ediv_eq_iff_of_pos (by omega)]
    omega
theorem from_none {zs : List Int} (n : Nat) : from_ zs 0 n = 0 := by cases n <;> rfl
theorem ends_bd {all S : Int} (h0 : 0 ≤ S) (h1 : S ≤ all) : 0 ≤ ends all S ∧ ends all S ≤ 3600 := by
  unfold ends
  split
  · refine ⟨Int.ediv_nonneg (by omega) (by omega), ?_⟩
    have : (2 * S * 3600 + all) / (2 * all) < 3601 := by rw [Int.ediv_lt_iff_lt_mul (by omega)]; omega
    omega
  · omega

set_option maxRecDepth 100000 in
set_option maxHeartbeats 4000000 in
theorem walk (k0 : Int) (Aa As : Option Addr) (na ca ms cs : Nat) (rows : Nat → List Int) (w : World) (hr : RdM w As ms rows) (hna : na ≤ 9223372036854775807) (hms : ms ≤ 9223372036854775807)
    (hlen : ∀ i, i < ms → (rows i).length ≤ 9223372036854775807) (hwf : ∀ i j, i < ms → j < (rows i).length → (Lit.int .i64 (ix (rows i) j)).wf = true) :
    Calls Try.prog 6 #[.agg #[.int .i64 k0, .slice Aa na ca, .slice As ms cs]] w fun e w' => e = .returned (.bool true) ∧ Below w.heap.size w w' := by
  have Hlen := hide hlen
  have Hwf := hide hwf
  clear hlen hwf
  go_enter Try.func6, Try.ntmps6
  go_wp2_with fail
  have hb0 := Blk.new w 52 #[.int .i64 k0, .slice Aa na ca, .slice As ms cs]
  have hr0 := hr.alloc (.cells #[.int .i64 k0, .slice Aa na ca, .slice As ms cs] 52)
  have hbel0 : Below w.heap.size w (w.alloc (.cells #[.int .i64 k0, .slice Aa na ca, .slice As ms cs] 52)) := (Below.refl _ _).alloc (Nat.le_refl _) _
  generalize w.alloc (.cells #[.int .i64 k0, .slice Aa na ca, .slice As ms cs] 52) = w0 at *
  refine (charted_ok _).mono ?_
  rintro e w1 ⟨rfl, hbel1⟩
  have hb1 := hb0.below hbel1 hb0.lt
  have hr1 := hr0.below hbel1
  have a0 : w1.cell? ⟨w.heap.size, 0, none⟩ = some (.int .i64 k0) := hb1.cell 0
  have a1 : w1.cell? ⟨w.heap.size, 1, none⟩ = some (.slice Aa na ca) := hb1.cell 1
  have a2 : w1.cell? ⟨w.heap.size, 2, none⟩ = some (.slice As ms cs) := hb1.cell 2
  have hbelA := hbel0.trans (hbel1.mono hbel0.size)
  go_wp2_with fail
  refine (bars_ok k0 3 Aa As na ca ms cs rows w1 hr1 hna hms Hlen.out Hwf.out (by omega) (by omega)).mono ?_
  rintro e w2 ⟨An, Bs, n, cn, m, cm, rs, rfl, n0, n1, m0, m1, mk, hm, hv, hbel2⟩
  obtain rfl := mk rfl
  have hb2 := hb1.below hbel2 hb1.lt
  have a0 : w2.cell? ⟨w.heap.size, 0, none⟩ = some (.int .i64 k0) := hb2.cell 0
  have a1 : w2.cell? ⟨w.heap.size, 1, none⟩ = some (.slice Aa na ca) := hb2.cell 1
  have a2 : w2.cell? ⟨w.heap.size, 2, none⟩ = some (.slice As ms cs) := hb2.cell 2
  have z0 := hb2.frozen 0
  have z1 := hb2.frozen 1
  have z2 := hb2.frozen 2
  have hbelB := hbelA.trans (hbel2.mono hbelA.size)
  obtain ⟨hlen, hval⟩ := hv 0 (by omega)
  have hval2 : ∀ j, j < n → 0 ≤ ix (rs 0) j ∧ ix (rs 0) j ≤ 1000 := hval
  have hch : Ch 3 n 1 rs := ⟨by omega, by omega, n0, by omega, by omega, by omega, fun _ => rfl, fun i hi => (hv i hi).1, fun i j hi hj => by
    have h1 := (hv i hi).2 j hj
    have h2 : lowOf 3 = 0 := rfl
    omega⟩
  have Hch := hide hch
  have Hval := hide hval2
  have Hlen := hide hlen
  clear hv hval hval2 hlen hch hr0 hr1 hbel0 hbel1 hbel2 hbelA mk
  have hm3 := hm (((w2.setCell ⟨w.heap.size, 0, none⟩ (.int .i64 3)).setCell ⟨w.heap.size, 1, none⟩ (.slice An n cn)).setCell ⟨w.heap.size, 2, none⟩ (.slice Bs 1 cm)) ((((AboveEq.refl _ _).setCell hb1.lt _).setCell hb1.lt _).setCell hb1.lt _)
  have hb3 := ((hb2.set_ 0 (.int .i64 3)).set_ 1 (.slice An n cn)).set_ 2 (.slice Bs 1 cm)
  have hbelC := ((hbelB.setCell (p := ⟨w.heap.size, 0, none⟩) (Nat.le_refl _) (.int .i64 3)).setCell (p := ⟨w.heap.size, 1, none⟩) (Nat.le_refl _) (.slice An n cn)).setCell (p := ⟨w.heap.size, 2, none⟩) (Nat.le_refl _) (.slice Bs 1 cm)
  go_upto_region 4 with fail
  generalize ((w2.setCell ⟨w.heap.size, 0, none⟩ (.int .i64 3)).setCell ⟨w.heap.size, 1, none⟩ (.slice An n cn)).setCell ⟨w.heap.size, 2, none⟩ (.slice Bs 1 cm) = w3 at *
  clear hm hb2 hb1 hb0 a0 a1 a2 z0 z1 z2 hbelB
  have a0 : w3.cell? ⟨w.heap.size, 0, none⟩ = some (.int .i64 3) := hb3.cell 0
  have a1 : w3.cell? ⟨w.heap.size, 1, none⟩ = some (.slice An n cn) := hb3.cell 1
  have a2 : w3.cell? ⟨w.heap.size, 2, none⟩ = some (.slice Bs 1 cm) := hb3.cell 2
  have hmm := hm3
  obtain ⟨b, off, A0, c0, rfl, hc0, hr2⟩ := hm3.at_ (show 0 < 1 by omega)
  rw [Hlen.out, Nat.add_zero] at hc0
  go_wp2_with fail
  refine (sectors_ok _ _ n cn cm rs _ Hch.out hmm).mono ?_
  rintro e w4 ⟨S, cS, rfl, hownS, hbel4⟩
  go_wp2_with fail
  refine (shares_ok A0 c0 n (rs 0) _ (hr2.below hbel4) Hlen.out n0 (by omega) Hval.out).mono ?_
  rintro e w5 ⟨X, cX, x, rfl, hownX, hX, hbel5⟩
  go_wp2_with fail
  have hrV := (hr2.below hbel4).below hbel5
  have hrS := (RdF.of_own hownS).below hbel5
  rw [tabV_ints] at hownX
  have hrX := RdI.of_own hownX
  have hbelD := (hbelC.trans (hbel4.mono hbelC.size)).trans (hbel5.mono (by have := hbelC.size; have := hbel4.size; omega))
  have hpb := psum_bd (rs 0) 1000 n Hval.out
  have hpm := psum_mono (rs 0) n (fun j hj => (Hval.out j hj).1)
  have hxb : ∀ i, i ≤ n → 0 ≤ fsum x i ∧ fsum x i ≤ i * 1001 := fun i hi => by
    refine ⟨fsum_nonneg fun k hk => (hX.bd k (by omega)).1, ?_⟩
    rw [← fsum_const]
    exact fsum_le fun k hk => (hX.bd k (by omega)).2
  have Hpb := hide hpb
  have Hpm := hide hpm
  have HX := hide hX
  have Hxb := hide hxb
  clear hpb hpm hX hxb hownX hownS hr2 hmm hm3 hbel4 hbel5 hbelC hb3 hc0 a0 a1 a2
  have HA := hide (show psum (rs 0) n = psum (rs 0) n from rfl)
  go_loopw [8, 9, 10, 53] (fun a s l i wr => ∃ (k d : Nat), k ≤ n ∧ i = .int .i64 k ∧ a = .int .i64 (from_ (rs 0) (psum (rs 0) n) k) ∧ s = .int .i64 (fsum x k) ∧ l = .int .i64 (psum (rs 0) k) ∧ wr = w5.drewN d) (fun _ _ _ i _ => n - (intOf i).toNat)
  case atStart => exact ⟨0, 0, by omega, rfl, rfl, rfl, rfl, rfl⟩
  case round =>
    obtain ⟨k, d, hk, rfl, rfl, rfl, rfl, rfl⟩ := hrel
    have p1 := Hpb.out k hk
    have p2 := Hxb.out k hk
    by_cases hlt : k < n
    · obtain ⟨b1, off1, rfl, hcS⟩ := hrS.at_ hlt
      have s0 : w5.cell? ⟨b1, off1 + k * 3, none⟩ = some (.int .i64 (k : Int)) := hcS 0 (by omega)
      have s1 : w5.cell? ⟨b1, off1 + k * 3 + 1, none⟩ = some (.int .i64 (from_ (rs 0) (psum (rs 0) n) k)) := hcS 1 (by omega)
      have s2 : w5.cell? ⟨b1, off1 + k * 3 + 2, none⟩ = some (.int .i64 (ends (psum (rs 0) n) (psum (rs 0) (k + 1)))) := hcS 2 (by omega)
      clear hcS
      obtain ⟨b2, off2, rfl, hcX⟩ := hrX.at_ (show k < _ by rw [tab_length]; exact hlt)
      rw [tab_ix _ hlt] at hcX
      obtain ⟨b3, off3, rfl, hcV⟩ := hrV.at_ (show k < _ by rw [Hlen.out]; exact hlt)
      have v1 := Hval.out k hlt
      have x1 := HX.out.bd k hlt
      have f1 := from_le (all := psum (rs 0) n) v1.1 (Hpb.out n (Nat.le_refl _)).1
      have e1 := ends_bd (Hpb.out (k + 1) (by omega)).1 (Hpm.out (k + 1) (by omega))
      generalize hE : ends (psum (rs 0) n) (psum (rs 0) (k + 1)) = E at *
      have HE := hide hE
      clear hE
      go_wp2_with fail
      go_quiet (fail)
      go_wp2_with fail
      clear s0 s1 s2 e1 f1 hcX
      go_loopw [100] (fun i wx => ∃ (j t : Nat), j ≤ n ∧ i = .int .i64 j ∧ wx = w5.drewN t) (fun i _ => n - (intOf i).toNat)
      case atStart => exact ⟨0, _, by omega, rfl, rfl⟩
      case round =>
        obtain ⟨j, t, hj, rfl, rfl⟩ := hrel
        by_cases hlt2 : j < n
        · have c1 := hrV.get (show j < _ by rw [Hlen.out]; exact hlt2)
          have c3 := hrX.get (show j < _ by rw [tab_length]; exact hlt2)
          have c4 := hrX.get (show k < _ by rw [tab_length]; exact hlt)
          rw [tab_ix _ hlt2] at c3
          rw [tab_ix _ hlt] at c4
          by_cases hgt : ix (rs 0) k < ix (rs 0) j
          · have hmo := HX.out.mono k j hlt hlt2 hgt
            go_wp2_with fail
            go_quiet (fail)
            go_wp2_with fail
            go_roundw
            case rel => exact ⟨j + 1, _, by omega, by go_num, rfl⟩
            case measure => simp [intOf]; omega
          · have hd : decide (ix (rs 0) k < ix (rs 0) j) = false := by simpa using hgt
            go_wp2_with fail
            go_quiet (fail)
            go_wp2_with fail
            go_roundw
            case rel => exact ⟨j + 1, _, by omega, by go_num, rfl⟩
            case measure => simp [intOf]; omega
        · go_wp2_with fail
          go_roundw
          case rel => exact ⟨k + 1, t, by omega, by go_num, val_int HE.out.symm, rfl, rfl, rfl⟩
          case measure => simp [intOf]; omega
    · obtain rfl : k = n := by omega
      by_cases h0 : psum (rs 0) k = 0
      · have hz := HX.out.zero h0
        have hz2 : from_ (rs 0) (psum (rs 0) k) k = 0 := by rw [h0]; exact from_none k
        rw [hz, hz2]
        have hq : (psum (rs 0) k == 0) = true := by simpa using h0
        clear hz hz2 h0 p1 p2
        go_wp2_with fail
        go_ret
        exact ⟨rfl, below_drewN hbelD d⟩
      · have hz := HX.out.all h0
        have hz2 : from_ (rs 0) (psum (rs 0) k) k = 3600 := from_end n0 (by omega)
        rw [hz, hz2]
        have hq : (psum (rs 0) k == 0) = false := by simpa using h0
        clear hz hz2 h0 p1 p2
        go_wp2_with fail
        go_ret
        exact ⟨rfl, below_drewN hbelD d⟩

theorem walked : Walked Try.checked.prog 6 Try.f6 := by
  intro H enc W args ds ps hval hA
  rw [Try.params6] at hA hval
  obtain ⟨v0, d0, hargs, rfl, h0⟩ := trodAll_one hA
  obtain rfl : args = #[v0] := by cases args; simp_all
  obtain ⟨c0, c1, c2, y0, y1, y2, m, rfl, rfl, rfl, hy0, hy1, hy2⟩ := Go.Joins.open_agg3 Try.underlying52 (by kernel_rfl) (by kernel_rfl) (hval 0 _ _ rfl rfl) h0
  obtain ⟨k0, e0, rfl, _⟩ := DataW.trod_int Try.underlying3 hy0
  simp at e0
  subst e0
  obtain ⟨Aa, na, ca, rfl, hna, _⟩ := slice_trod Try.underlying49 hy1
  obtain ⟨As, ms, cs, rows, rfl, hr, hms, hlen, hwf⟩ := ints2_trod Try.underlying50 Try.underlying29 Try.underlying3 (by kernel_rfl) (by kernel_rfl) hy2
  exact walk k0 Aa As na ca ms cs rows W hr hna hms hlen hwf

theorem lifted (os : Os) (started : os.Started) (H : Type) (enc : TypeId × Value → H) :
    ReturnsInHanded {} Try.checked os 6 .any (Rows.chartPartsOfWholeSpec.pre6 enc Try.prog Try.f6 Rows.chartPartsOfWholeRow.domain false) (Rows.chartPartsOfWholeSpec.post enc Try.prog Try.f6 false true false false) :=
  law_lift (C := Try.checked) (tb := 4) (by kernel_rfl) started (by kernel_rfl) Try.func6 rfl
    (fun ds h => match ds, h with | [_], _ => rfl) rfl Try.underlying4 (by kernel_rfl) (by kernel_rfl)
    (ChangeSpec.witness6 (enc := enc) (C := Try.checked) false ⟨#[], #[.agg #[.int .i64 0, .slice none 0 0, .slice none 0 0]], []⟩ 8 (by kernel_rfl) (by kernel_rfl) (by kernel_rfl) (by kernel_rfl))
    walked

/-- THE STATEMENT -/
theorem proved : Rows.ChartPartsOfWholeSaid :=
  OpenClaim.holds_of_wide 6 Try.f6 rfl rfl rfl rfl rfl rfl rfl ⟨rfl, rfl, rfl, rfl, rfl⟩ rfl rfl rfl rfl rfl (by kernel_rfl) Try.func6 (by kernel_rfl)
    (of_decide_eq_true (by kernel_rfl)) (by unfold Func.isWrapper; first | (rw [if_pos (by decide +kernel)]; kernel_rfl) | (rw [if_neg (by decide +kernel)]; exact ⟨rfl, rfl⟩))
    (fun os started H enc _ => lifted os started H enc)
#print axioms proved
end Go.Proofs.Ytmnbcpinlgklpaa.ChartPartsOfWholeDone
