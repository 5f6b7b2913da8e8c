/- The contracts of breaks.check, breaks.Places and chancerykeep3.placed. -/
import Derived.Test.YtdhhkcboejhoaaaDoorBreaksMay
import Derived.Test.YtdhhkcboejhoaaaDoorBreaksStep
namespace Go.Proofs.YtdhhkcboejhoaaaDoor.Bre
open Go.RowKit Go.Frm Mtr

theorem break_info : (Tryd.prog.info? 41).map (fun i => (i.zero, i.size, i.bytes)) = some (some (.agg #[.int .i64 0, .int .i64 0]), 2, 16) := by kernel_rfl
theorem own_only {w w' : World} {base G : Nat} {e tm : TypeId} {size n : Nat} {v : Value} {xs : List Value} {cs : Array Value} (h : w.ownsRow base e size v n xs) (ho : Only G none w w') (hb : Blk w G tm cs) (he : e ≠ tm) : w'.ownsRow base e size v n xs := by
  refine ⟨h.1, ?_⟩
  rcases h.2 with h2 | ⟨g1, cap, cur, h1, h2, h3, h4⟩
  · exact .inl h2
  · refine .inr ⟨g1, cap, cur, h1, h2, ?_, h4⟩
    have hne : g1 ≠ G := by
      rintro rfl
      unfold Blk at hb
      rw [hb] at h3
      injection h3 with h3
      injection h3 with _ h5
      exact he h5.symm
    rw [ho.block g1 (Array.getElem?_eq_some_iff.1 h3).1 hne (by simp)]
    exact h3
theorem plcs_len (C : Nat → Int) : ∀ N, (plcs C N).length ≤ N
  | 0 => Nat.le_refl _
  | N + 1 => by
    have := plcs_len C N
    unfold plcs
    rw [List.length_append]
    split
    · simp; omega
    · simp; omega

set_option maxRecDepth 100000 in
set_option maxHeartbeats 1000000 in
theorem check_ok (A : Option Addr) (c : Nat) (zs : List Int) (w : World) (hr : RdI w A zs) (hl : zs.length ≤ 100000) (hv : ∀ j, j < zs.length → 0 ≤ ix zs j ∧ ix zs j ≤ 1114111) :
    Calls Tryd.prog 30 #[.slice A zs.length c] w fun e w' => e = .returned (.int .i64 0) ∧ w = w' := by
  have Hv := hide hv
  clear hv
  go_enter Tryd.func30, Tryd.ntmps30
  go_wp2_with fail
  go_loop [7] (fun i => ∃ k : Nat, k ≤ zs.length ∧ i = .int .i64 k) (fun i => zs.length - (intOf i).toNat)
  case atStart => exact ⟨0, by omega, rfl⟩
  case round =>
    obtain ⟨k, hk, rfl⟩ := hrel
    by_cases hlt : k < zs.length
    · obtain ⟨b, off, rfl, hc⟩ := hr.at_ hlt
      have hv := Hv.out k hlt
      go_wp2_with fail
      go_round
      case rel => exact ⟨k + 1, by omega, by go_num⟩
      case measure => simp [intOf]; omega
    · have : k = zs.length := by omega
      subst this
      go_wp2_with fail
      go_ret
      exact ⟨rfl, rfl⟩

def PlacesPost (w : World) (zs : List Int) (e : Ending) (w' : World) : Prop := ∃ B cb, e = .returned (.tuple #[.slice B (plcs (ix zs) zs.length).length cb, .int .i64 0]) ∧
  w'.ownsRow w.heap.size 41 2 (.slice B (plcs (ix zs) zs.length).length cb) (plcs (ix zs) zs.length).length (flat (plcs (ix zs) zs.length)) ∧ Below w.heap.size w w'

set_option maxRecDepth 100000 in
set_option maxHeartbeats 4000000 in
theorem places_ok (A : Option Addr) (c : Nat) (zs : List Int) (w : World) (ht : TabM w) (hr : RdI w A zs) (hl : zs.length ≤ 10000) (hv : ∀ j, j < zs.length → 0 ≤ ix zs j ∧ ix zs j ≤ 1114111) :
    Calls Tryd.prog 14 #[.slice A zs.length c] w (PlacesPost w zs) := by
  have Ht := hide ht
  have Hck := hide (check_ok A c zs w hr (by omega) hv)
  clear ht hv
  go_enter Tryd.func14, Tryd.ntmps14
  go_wp2_with fail
  refine Hck.out.mono ?_
  rintro e w1 ⟨rfl, rfl⟩
  go_wp2_with fail
  have hb0 : Blk (w.alloc (.cells #[.int .i64 0, .int .i64 1, .int .i64 0, .int .i64 0, .bool false, .bool false] 62)) w.heap.size 62 (stK (ix zs) 0).cells := Blk.new w _ _
  have hbel0 : Below w.heap.size w (w.alloc (.cells #[.int .i64 0, .int .i64 1, .int .i64 0, .int .i64 0, .bool false, .bool false] 62)) := (Below.refl _ _).alloc (Nat.le_refl _) _
  have hsz0 : w.heap.size + 1 ≤ (w.alloc (.cells #[.int .i64 0, .int .i64 1, .int .i64 0, .int .i64 0, .bool false, .bool false] 62)).heap.size := hb0.lt
  generalize w.alloc (.cells #[.int .i64 0, .int .i64 1, .int .i64 0, .int .i64 0, .bool false, .bool false] 62) = w0 at *
  go_loopw [5, 19] (fun v i wr => ∃ k : Nat, k ≤ zs.length ∧ i = .int .i64 k ∧ wr.ownsRow (w.heap.size + 1) 41 2 v (plcs (ix zs) k).length (flat (plcs (ix zs) k)) ∧ Blk wr w.heap.size 62 (stK (ix zs) k).cells ∧ Below w.heap.size w wr) (fun _ i _ => zs.length - (intOf i).toNat)
  case atStart => exact ⟨0, by omega, rfl, World.ownsRow_nil _ _ _ _, hb0, hbel0⟩
  case round =>
    clear hb0 hbel0 hsz0
    obtain ⟨k, hk, rfl, hown, hb, hbl⟩ := hrel
    by_cases hlt : k < zs.length
    · obtain ⟨b, off, rfl, hc⟩ := (hr.below hbl).at_ hlt
      have hsp := spaces_bd (ix zs) k
      have hst : stK (ix zs) (k + 1) = stepF (stK (ix zs) k) (ix zs k) := rfl
      have hpl : plcs (ix zs) (k + 1) = plcs (ix zs) k ++ (if decide (0 < k) = true ∧ (mayF (stK (ix zs) k) (cls (ix zs k))).2 = true then [((k : Int), (mayF (stK (ix zs) k) (cls (ix zs k))).1)] else []) := rfl
      have hpn := plcs_len (ix zs) k
      have hmay := fun wx hbx htx => may_ok w.heap.size (stK (ix zs) k) (ix zs k) wx hbx htx hsp.1 (by omega)
      have hstp := fun wx hbx htx => step_ok w.heap.size (stK (ix zs) k) (ix zs k) wx hbx htx hsp.1 (by omega)
      rw [← hst] at hstp
      generalize hS1 : stK (ix zs) (k + 1) = s1 at *
      have HS1 := hide hS1
      generalize mayF (stK (ix zs) k) (cls (ix zs k)) = mf at *
      generalize stK (ix zs) k = s0 at *
      generalize hP1 : plcs (ix zs) (k + 1) = P1 at *
      generalize plcs (ix zs) k = P0 at *
      obtain ⟨m1, m2⟩ := mf
      have HP1 := hide hP1
      have Hmay := hide hmay
      have Hstp := hide hstp
      have Htr := hide (Ht.out.below hbl)
      clear hmay hstp hst hP1 hsp hS1
      by_cases hk0 : k = 0
      · subst hk0
        have hpl : P1 = P0 := by rw [hpl]; simp
        subst hpl
        simp only [Nat.add_zero] at hc
        go_wp2_with fail
        refine (Hstp.out _ hb Htr.out).mono ?_
        rintro e w3 ⟨rfl, hb3, ho3⟩
        have hbl3 := hbl.trans ((ho3.near (base := w.heap.size + 1) hb.lt (fun _ h => by cases h)).below (Nat.le_refl _) (Nat.le_succ _))
        have hown3 := own_only hown ho3 hb (by decide)
        go_wp2_with fail
        go_roundw
        case rel => exact ⟨1, by omega, by go_num, by rw [HP1.out]; exact hown3, by rw [HS1.out]; exact hb3, hbl3⟩
        case measure => simp [intOf]; omega
      · have hd0 : (0 : Int) < (k : Int) := by omega
        cases m2
        · have hpl : P1 = P0 := by rw [hpl]; simp
          subst hpl
          go_wp2_with fail
          refine (Hmay.out _ hb Htr.out).mono ?_
          rintro e w2 ⟨rfl, hbel2⟩
          have hb2 := hb.below hbel2 hb.lt
          have hown2 := own_below hown hbel2
          go_wp2_with fail
          refine (Hstp.out _ hb2 (Htr.out.below hbel2)).mono ?_
          rintro e w3 ⟨rfl, hb3, ho3⟩
          have hbl2 := hbl.trans (hbel2.mono hbl.size)
          have hbl3 := hbl2.trans ((ho3.near (base := w.heap.size + 1) hb2.lt (fun _ h => by cases h)).below (Nat.le_refl _) (Nat.le_succ _))
          have hown3 := own_only hown2 ho3 hb2 (by decide)
          go_wp2_with fail
          go_roundw
          case rel => exact ⟨k + 1, by omega, by go_num, by rw [HP1.out]; exact hown3, by rw [HS1.out]; exact hb3, hbl3⟩
          case measure => simp [intOf]; omega
        · have hpl : P1 = P0 ++ [((k : Int), m1)] := by rw [hpl, if_pos ⟨decide_eq_true (by omega), rfl⟩]
          have Hpl := hide hpl
          clear hpl
          obtain ⟨B0, c0, rfl⟩ := own_form hown
          go_wp2_with fail
          refine (Hmay.out _ hb Htr.out).mono ?_
          rintro e w2 ⟨rfl, hbel2⟩
          have hb2 := hb.below hbel2 hb.lt
          have hown2 := own_below hown hbel2
          have hbl2 := hbl.trans (hbel2.mono hbl.size)
          have htr2 := hide (Htr.out.below hbel2)
          have hM2 := hb2.lt
          have hb2a := hb2.alloc (.cells #[.int .i64 (k : Int), .int .i64 m1] 41)
          have hown2a := hown2.alloc (.cells #[.int .i64 (k : Int), .int .i64 m1] 41)
          have hbl2a := hbl2.alloc (Nat.le_of_lt hM2) (.cells #[.int .i64 (k : Int), .int .i64 m1] 41)
          clear hown hbel2
          go_wp2_with (at_builtin; refine wpL_append rfl rfl Tryd.underlying35 break_info rfl (by decide) rfl rfl hown2a (news_at _ _ _ _ (by simp)) rfl (by simp [Value.oneCell']) (by omega) (by omega) (by simp; omega) ?_; intro v4 w4 hown4 hgrow4; have hb4 := hb2a.app hown2a (Nat.lt_succ_self w.heap.size) hgrow4; have hbl4 := hbl2a.grown hgrow4 hbl2a.size (fun q hq => Nat.le_of_succ_le (hown2a.lt q hq).1); obtain ⟨B4, c4, rfl⟩ := own_form hown4)
          refine (Hstp.out _ hb4 (Ht.out.below hbl4)).mono ?_
          rintro e w3 ⟨rfl, hb3, ho3⟩
          have hbl3 := hbl4.trans ((ho3.near (base := w.heap.size + 1) hb4.lt (fun _ h => by cases h)).below (Nat.le_refl _) (Nat.le_succ _))
          have hown3 := own_only hown4 ho3 hb4 (by decide)
          go_wp2_with fail
          go_roundw
          case rel => exact ⟨k + 1, by omega, by go_num, by rw [HP1.out, Hpl.out, flat_push, List.length_append, List.length_singleton]; exact hown3, by rw [HS1.out]; exact hb3, hbl3⟩
          case measure => simp [intOf]; omega
    · have : k = zs.length := by omega
      subst this
      obtain ⟨B, cb, rfl⟩ := own_form hown
      go_wp2_with fail
      go_ret2
      exact ⟨B, cb, rfl, ownsRow_less hown (by omega), hbl⟩
end Go.Proofs.YtdhhkcboejhoaaaDoor.Bre
