/- PROVED HERE: whatever the effects and the time, chancerykeep3.TimelineForthAndBack returns true. No condition beside those of the given statement. -/
import Derived.Test.YtlipdhoeklgdoaaTlTimed
import Derived.Test.YtlipdhoeklgdoaaTlState
import Derived.Test.YtlipdhoeklgdoaaTlMake
import Derived.Test.YtlipdhoeklgdoaaTlBack
import Derived.Test.YtlipdhoeklgdoaaChecked
import Derived.Test.YtlipdhoeklgdoaaRows
namespace Go.Proofs.Ytlipdhoeklgdoaa.TimelineForthAndBackDone
open Go.RowKit Go.Frm Go.ChangeShapes Go.WideShapes Go.ChangeAt Tl Wi

theorem later_none {F : Nat → Nat → Int} {q : Nat} (at_ : Int) (h : 0 < ck F (q + 1)) : ∀ i, q ≤ i → pF F 0 at_ i = 0 := by
  intro i hi
  have h1 := ck_le F (show q + 1 ≤ i + 1 by omega)
  unfold pF pg
  have a1 : ¬(ck F (i + 1) < 0 ∨ (ck F (i + 1) = 0 ∧ til F i ≤ at_)) := by rintro (h | ⟨h, _⟩) <;> omega
  rw [if_neg a1, if_pos (.inl (by omega))]

set_option maxRecDepth 100000 in
set_option maxHeartbeats 8000000 in
theorem walk (A : Option Addr) (n c : Nat) (F : Nat → Nat → Int) (x : Int) (w : World) (hn : n ≤ 9223372036854775807) (hr : RdF w A n 7 (efV F)) (hwf : ∀ i j, i < n → j < 7 → (Lit.int .i64 (F i j)).wf = true) (hx : (Lit.int .i64 x).wf = true) :
    Calls Try.prog 6 #[.slice A n c, .int .i64 x] w fun e w' => e = .returned (.bool true) ∧ Below w.heap.size w w' := by
  have hti := timed_ok w
  have hef := hide (fun wx (hb : Below w.heap.size w wx) => effects_ok A n c F wx (hr.below hb) hn hwf)
  have hw1 := hide (fun wx => within_any x 0 1500 wx hx (by omega) (by omega) (by omega))
  obtain ⟨v0, v1⟩ := wi_bd x (show (0 : Int) ≤ 1500 by omega)
  generalize wi x 0 1500 = v at *
  clear hr hwf hx
  go_enter Try.func6, Try.ntmps6
  go_wp2_with fail
  refine hti.mono ?_
  rintro e w1 ⟨rfl, hb1⟩
  clear hti
  go_wp2_with fail
  refine (hef.out w1 hb1).mono ?_
  rintro e w2 ⟨A2, c2, rfl, hown2, hb2⟩
  have hbl2 := hb1.trans (hb2.mono hb1.size)
  have hv := efG_ok F n
  have hr2 := RdF.of_own hown2
  obtain ⟨hcap, _⟩ := own_cap hown2
  clear hef hb1 hb2 hown2
  generalize efG F = E at *
  generalize min n 12 = m at *
  have hti2 := hide (Times_ok A2 m c2 E w2 hv hr2)
  go_wp2_with (go_at_call 9; (with_reducible refine (hw1.out _).mono ?_); rintro e w4 ⟨rfl, rfl⟩)
  refine hti2.out.mono ?_
  rintro e w3 ⟨A3, c3, rfl, hown3, hb3⟩
  have hbl3 := hbl2.trans (hb3.mono hbl2.size)
  have hr3 := hr2.below hb3
  have ht3 := RdF.of_own hown3
  have hm := hv.few
  have Hv := hide hv
  clear hti2 hr2 hbl2 hb3 hown3 hv hw1
  go_upto_block 0 with fail
  go_cut [7] (fun s wc => ∃ q : Nat, q ≤ m ∧ s = .int .i64 q ∧ (∀ i, q ≤ i → i < m → pF E 0 v i = 0) ∧ w3 = wc)
  case first =>
    go_wp2_with fail
    go_loopw [7] (fun s wr => ∃ q : Nat, q ≤ m ∧ s = .int .i64 q ∧ w3 = wr) (fun s _ => m - (intOf s).toNat)
    case atStart => exact ⟨0, by omega, rfl, rfl⟩
    case round =>
      obtain ⟨q, hq, rfl, rfl⟩ := hrel
      by_cases hlt : q < m
      · obtain ⟨b3, o3, rfl, hc⟩ := ht3.at_ hlt
        have t0 : w3.cell? ⟨b3, o3 + q * 3, none⟩ = some (.int .i64 (ck E (q + 1))) := hc 0 (by omega)
        clear hc
        by_cases h0 : ck E (q + 1) = 0
        · have d0 : (ck E (q + 1) == 0) = true := by simpa using h0
          clear h0
          go_wp2_with fail
          go_roundw
          case rel => exact ⟨q + 1, by omega, by go_num, trivial⟩
          case measure => simp [intOf]; omega
        · have d0 : (ck E (q + 1) == 0) = false := by simpa using h0
          have hlate := hide (later_none (F := E) (q := q) v (by have := ck_bd E (q + 1); omega))
          clear h0
          go_wp2_with fail
          go_meet
          exact ⟨q, hq, rfl, fun i h1 _ => hlate.out i h1, rfl⟩
      · go_wp2_with fail
        go_meet
        exact ⟨q, hq, rfl, fun i h1 h2 => by omega, rfl⟩
  case rest =>
    obtain ⟨q, hq, rfl, hlate, rfl⟩ := hcut
    have Hlate := hide hlate
    clear hlate ht3
    have hs1 := hide (state_ok A2 q c2 E 0 v w3 (Hv.out.take hq) (by
      rcases hr3 with h | ⟨b, o, rfl, hc⟩
      · exact .inl (by omega)
      · exact .inr ⟨b, o, rfl, fun i j hi hj => hc i j (by omega) hj⟩) (by omega) (by omega) v0 (by omega))
    have hs2 := hide (fun wx (hb : Below w3.heap.size w3 wx) => state_ok A2 m c2 E 0 v wx Hv.out (hr3.below hb) (by omega) (by omega) v0 (by omega))
    go_wp2_with fail
    refine hs1.out.mono ?_
    rintro e w4 ⟨A4, c4, rfl, hown4, hb4⟩
    have hbl4 := hbl3.trans (hb4.mono hbl3.size)
    have hS2 := hide (hs2.out w4 hb4)
    have hr4 := hr3.below hb4
    clear hs1 hs2 hr3 hbl3
    go_wp2_with fail
    refine hS2.out.mono ?_
    rintro e w5 ⟨A5, c5, rfl, hown5, hb5⟩
    have hbl5 := hbl4.trans (hb5.mono hbl4.size)
    have hr5 := hr4.below hb5
    have ho4 := RdF.of_own (own_below hown4 hb5)
    have ho5 := RdF.of_own hown5
    have hf4 : (sD E q).length ≤ 12 := by have := D_len E q; rw [sD_len]; omega
    have hf5 : (sD E m).length ≤ 12 := by have := D_len E m; rw [sD_len]; omega
    have hp : ∀ i, 0 ≤ pF E 0 v i ∧ pF E 0 v i ≤ 1000 := fun i => pg_bd
    have hsub : ∀ a, a < (sD E q).length → ∃ a', a' < (sD E m).length ∧ ix (sD E m) a' = ix (sD E q) a := fun a ha => by
      have h1 : ix (sD E q) a ∈ sD E q := by rw [ix_eq ha]; exact List.getElem_mem ha
      obtain ⟨j, hj, he⟩ := sD_mem.1 h1
      have h2 : ix (sD E q) a ∈ sD E m := sD_mem.2 ⟨j, by omega, he⟩
      obtain ⟨a', ha', he'⟩ := List.mem_iff_getElem.1 h2
      exact ⟨a', ha', by rw [ix_eq ha', he']⟩
    have Hsub := hide hsub
    have hrq : RdF w5 A2 q 7 (efV E) := by
      rcases hr5 with h | ⟨b, o, rfl, hc⟩
      · exact .inl (by omega)
      · exact .inr ⟨b, o, rfl, fun i j hi hj => hc i j (by omega) hj⟩
    clear hS2 hown4 hown5 hb4 hb5 hr4 hbl4 hp hsub hr5
    generalize hpp : pF E 0 v = p at *
    have hm' := hm
    generalize sD E q = L at *
    generalize sD E m = M at *
    go_wp2_with fail
    go_loopw [72] (fun s wr => ∃ a : Nat, a ≤ L.length ∧ s = .int .i64 a ∧ Below w5.heap.size w5 wr) (fun s _ => L.length - (intOf s).toNat)
    case atStart => exact ⟨0, by omega, rfl, Below.refl _ _⟩
    case round =>
      obtain ⟨a, ha, rfl, hbl⟩ := hrel
      by_cases hlt : a < L.length
      · obtain ⟨a', ha', hza⟩ := Hsub.out a hlt
        obtain ⟨b, off, rfl, k0, k1, k2, k3⟩ := cells4 (G := fun a b => stF E p q (ix L a) b) (ho4.below hbl) hlt
        simp only [stF] at k0 k1 k2 k3
        go_upto_region 17 with fail
        have bx : Blk (wr.alloc (.cells #[.int .i64 (ix L a), .int .i64 (sn E p (ix L a) q), .int .i64 (xA E p 5 (ix L a) q), .int .i64 (xA E p 6 (ix L a) q)] 42)) wr.heap.size 42 #[.int .i64 (ix L a), .int .i64 (sn E p (ix L a) q), .int .i64 (xA E p 5 (ix L a) q), .int .i64 (xA E p 6 (ix L a) q)] := Blk.new wr _ _
        have hb6 := hbl.alloc hbl.size (.cells #[.int .i64 (ix L a), .int .i64 (sn E p (ix L a) q), .int .i64 (xA E p 5 (ix L a) q), .int .i64 (xA E p 6 (ix L a) q)] 42)
        clear k0 k1 k2 k3 hbl
        generalize wr.alloc (.cells #[.int .i64 (ix L a), .int .i64 (sn E p (ix L a) q), .int .i64 (xA E p 5 (ix L a) q), .int .i64 (xA E p 6 (ix L a) q)] 42) = w6 at *
        generalize wr.heap.size = g at *
        obtain ⟨r, hfr⟩ := firstAt (fun a b => stF E p m (ix M a) b) (ix L a) M.length
        have hid := hide (indexB_ok A5 M.length c5 (fun a b => stF E p m (ix M a) b) (ix L a) g w6 (ho5.below hb6) (by omega) (bx.cell 0) r hfr)
        obtain ⟨i, rfl, hi, hiz⟩ : ∃ i : Nat, r = (i : Int) ∧ i < M.length ∧ ix M i = ix L a := by
          rcases hfr with ⟨i, h1, h2, h3, _⟩ | ⟨_, hno⟩
          · exact ⟨i, h1, h2, h3⟩
          · exact absurd hza (hno a' ha')
        clear hfr ha' hza
        go_wp2_with fail
        refine hid.out.mono ?_
        rintro e w7 ⟨rfl, hb7⟩
        have hbl7 := hb6.trans (hb7.mono hb6.size)
        have bx7 := bx.below hb7 bx.lt
        obtain ⟨b5, o5, rfl, q0, q1, q2, q3⟩ := cells4 (G := fun a b => stF E p m (ix M a) b) (ho5.below hbl7) hi
        simp only [stF] at q0 q1 q2 q3
        have x0 : w7.cell? ⟨g, 0, none⟩ = some (.int .i64 (ix L a)) := bx7.cell 0
        have x1 : w7.cell? ⟨g, 1, none⟩ = some (.int .i64 (sn E p (ix L a) q)) := bx7.cell 1
        have x2 : w7.cell? ⟨g, 2, none⟩ = some (.int .i64 (xA E p 5 (ix L a) q)) := bx7.cell 2
        have x3 : w7.cell? ⟨g, 3, none⟩ = some (.int .i64 (xA E p 6 (ix L a) q)) := bx7.cell 3
        have y5 : xA E p 5 (ix L a) m = xA E p 5 (ix L a) q := xA_stays m hq Hlate.out
        have y6 : xA E p 6 (ix L a) m = xA E p 6 (ix L a) q := xA_stays m hq Hlate.out
        have hseen := hide (fun (hk : kn E (ix L a) q = true) => sn_stays (p := p) hk m hq Hlate.out)
        have hcon := hide (fun wx (hb : Below w5.heap.size w5 wx) (hc : wx.cell? ⟨g, 0, none⟩ = some (.int .i64 (ix L a))) => contains_ok A2 q c2 E (ix L a) g wx (hrq.below hb) (by omega) hc)
        rw [hiz] at q1 q2 q3
        rw [y5] at q2
        rw [y6] at q3
        clear hid hb6 hb7 bx q0 y5 y6
        have hi0 : (0 : Int) ≤ (i : Int) := by omega
        have hi1 : (i : Int) < (M.length : Int) := by omega
        generalize xA E p 5 (ix L a) q = X at *
        generalize xA E p 6 (ix L a) q = Y at *
        have hsz7 := World.block_lt_of_cell? _ _ x0
        go_wp2_with fail
        go_quiet (fail)
        go_wp2_with fail
        refine (hcon.out _ (below_drewN hbl7 _) (by exact x0)).mono ?_
        rintro e w8 ⟨rfl, hb8⟩
        have hbl8 := (below_drewN hbl7 _).trans (hb8.mono (below_drewN hbl7 _).size)
        have z1 : w8.cell? ⟨b5, o5 + i * 4 + 1, none⟩ = some (.int .i64 (sn E p (ix L a) m)) := (hb8.cell (p := ⟨b5, o5 + i * 4 + 1, none⟩) (by exact World.block_lt_of_cell? _ _ q1)).trans (by exact q1)
        have t1 : w8.cell? ⟨g, 1, none⟩ = some (.int .i64 (sn E p (ix L a) q)) := (hb8.cell (p := ⟨g, 1, none⟩) (by exact World.block_lt_of_cell? _ _ x1)).trans (by exact x1)
        clear q1 q2 q3 x0 x1 x2 x3 hb8 hcon bx7
        cases hk : kn E (ix L a) q with
        | true =>
          rw [hseen.out hk] at z1
          clear hseen hk
          generalize sn E p (ix L a) q = sv at *
          go_wp2_with fail
          go_quiet (fail)
          go_wp2_with fail
          go_roundw
          case rel => exact ⟨a + 1, by omega, by go_num, below_drewN hbl8 _⟩
          case measure => simp [intOf]; omega
        | false =>
          clear hseen hk
          go_wp2_with fail
          go_quiet (fail)
          go_wp2_with fail
          go_roundw
          case rel => exact ⟨a + 1, by omega, by go_num, below_drewN hbl8 _⟩
          case measure => simp [intOf]; omega
      · obtain rfl : a = L.length := by omega
        go_wp2_with fail
        go_ret
        exact ⟨rfl, hbl5.trans (hbl.mono hbl5.size)⟩

theorem walked : Walked Try.checked.prog 6 Try.f6 := by
  intro H enc W args ds ps hval hA
  rw [Try.params6] at hA hval
  obtain ⟨v0, v1, d0, d1, p0, p1, hargs, rfl, rfl, h0, h1⟩ := trodAll_two hA
  obtain rfl : args = #[v0, v1] := by cases args; simp_all
  obtain ⟨x, rfl, _, _, wx⟩ := open_int Try.underlying3 (hval 1 _ _ rfl rfl) h1
  obtain ⟨a0, l0, k0, rfl⟩ := okWide_slice Try.underlying33 (hval 0 _ _ rfl rfl)
  obtain ⟨fuel, h0⟩ := h0
  obtain ⟨A, n, c, F, hs, hn, hr, hwf⟩ := effects_trod (v := .slice a0 l0 k0) h0
  rw [hs]
  exact walk A n c F x W hn hr hwf wx

theorem lifted (os : Os) (started : os.Started) (H : Type) (enc : TypeId × Value → H) :
    ReturnsInHanded {} Try.checked os 6 .any (Rows.timelineForthAndBackSpec.pre6 enc Try.prog Try.f6 Rows.timelineForthAndBackRow.domain false) (Rows.timelineForthAndBackSpec.post enc Try.prog Try.f6 false true false false) :=
  law_lift (C := Try.checked) (tb := 4) (by kernel_rfl) started (by kernel_rfl) Try.func6 rfl
    (fun ds h => match ds, h with | [_, _], _ => rfl) rfl Try.underlying4 (by kernel_rfl) (by kernel_rfl)
    (ChangeSpec.witness6 (enc := enc) (C := Try.checked) false ⟨#[], #[.slice none 0 0, .int .i64 0], []⟩ 8 (by kernel_rfl) (by kernel_rfl) (by kernel_rfl) (by kernel_rfl))
    walked

/-- THE STATEMENT -/
theorem proved : Rows.TimelineForthAndBackSaid :=
  OpenClaim.holds_of_wide 6 Try.f6 rfl rfl rfl rfl rfl rfl rfl ⟨rfl, rfl, rfl, rfl, rfl⟩ rfl rfl rfl rfl rfl (by kernel_rfl) Try.func6 (by kernel_rfl)
    (of_decide_eq_true (by kernel_rfl)) (by unfold Func.isWrapper; first | (rw [if_pos (by decide +kernel)]; kernel_rfl) | (rw [if_neg (by decide +kernel)]; exact ⟨rfl, rfl⟩))
    (fun os started H enc _ => lifted os started H enc)
#print axioms proved
end Go.Proofs.Ytlipdhoeklgdoaa.TimelineForthAndBackDone
