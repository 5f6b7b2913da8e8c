/- The contract of chancerykeep3.chars: numbers brought into the range of characters. -/
import Derived.Test.YtdikfldogmbeaaaDoorArgs
import Derived.Test.YtdikfldogmbeaaaDoorWithin
namespace Go.Proofs.YtdikfldogmbeaaaDoor.Cha
open Go.RowKit Go.Frm Wi
theorem int_info : (Tryd.prog.info? 3).map (fun i => (i.zero, i.size, i.bytes)) = some (some (.int .i64 0), 1, 8) := by kernel_rfl

/-- the numbers that are made -/
def chv (zs : List Int) (i : Nat) : Int := wi (ix zs i) 0 1114111
theorem chv_bd (zs : List Int) (i : Nat) : 0 ≤ chv zs i ∧ chv zs i ≤ 1114111 := wi_bd _ (by omega)
def CharsPost (w : World) (zs : List Int) (most : Nat) (e : Ending) (w' : World) : Prop := ∃ A c, e = .returned (.slice A (min zs.length most) c) ∧ w'.ownsRow w.heap.size 3 1 (.slice A (min zs.length most) c) (min zs.length most) (tabV (min zs.length most) (fun i => .int .i64 (chv zs i))) ∧ Below w.heap.size w w'

set_option maxRecDepth 100000 in
set_option maxHeartbeats 1000000 in
theorem chars_ok (A : Option Addr) (c : Nat) (zs : List Int) (most : Nat) (w : World) (hr : RdI w A zs) (hl : zs.length ≤ 9223372036854775807) (hm : most ≤ 1000000) (hwf : ∀ j, j < zs.length → (Lit.int .i64 (ix zs j)).wf = true) :
    Calls Tryd.prog 9 #[.slice A zs.length c, .int .i64 (most : Int)] w (CharsPost w zs most) := by
  have Hwf := hide hwf
  clear hwf
  generalize hN : min zs.length most = N at *
  have HN := hide hN
  have h1 : N ≤ most := by omega
  have h2 : N ≤ zs.length := by omega
  clear hN
  go_enter Tryd.func9, Tryd.ntmps9
  go_wp2_with fail
  go_loopw [5, 6] (fun v i wr => ∃ k : Nat, k ≤ N ∧ i = .int .i64 k ∧ wr.ownsRow w.heap.size 3 1 v k (tabV k (fun i => .int .i64 (chv zs i))) ∧ Below w.heap.size w wr) (fun _ i _ => N - (intOf i).toNat)
  case atStart => exact ⟨0, by omega, rfl, World.ownsRow_nil _ _ _ _, Below.refl _ _⟩
  case round =>
    obtain ⟨k, hk, rfl, hown, hbl⟩ := hrel
    have hsz := hbl.size
    by_cases hlt : k < N
    · obtain ⟨b, off, rfl, hc⟩ := (hr.below hbl).at_ (show k < zs.length by omega)
      have hw := fun wx => within_any (ix zs k) 0 1114111 wx (Hwf.out k (by omega)) (by omega) (by omega) (by omega)
      have Hw := hide hw
      have hlt1 : k < zs.length := by omega
      have hlt2 : k < most := by omega
      clear hw
      go_wp2_with (first
        | (go_at_call 12; refine (Hw.out _).mono ?_; rintro e w2 ⟨rfl, rfl⟩)
        | (at_builtin; refine wpL_append rfl rfl Tryd.underlying22 int_info rfl (by decide) rfl rfl (hown.alloc _) (news_at _ _ _ _ (by simp)) rfl (by simp [Value.oneCell']) (by omega) (by omega) (by simp; omega) ?_; intro v2 w2 hown2 hgrow2))
      go_roundw
      case rel => exact ⟨k + 1, by omega, by go_num, by rw [tabV_succ]; exact hown2, below_app (hbl.alloc hsz _) (by simp; omega) (hown.alloc _) hgrow2⟩
      case measure => simp [intOf]; omega
    · obtain rfl : k = N := by omega
      obtain ⟨A2, c2, rfl⟩ := own_form hown
      by_cases h3 : k < zs.length
      · have h4 : ¬ k < most := by have := HN.out; omega
        go_wp2_with fail
        go_ret
        exact ⟨A2, c2, by rw [HN.out]; rfl, by rw [HN.out]; exact hown, hbl⟩
      · have h5 : decide (k < zs.length) = false := by simpa using h3
        go_wp2_with fail
        go_ret
        exact ⟨A2, c2, by rw [HN.out]; rfl, by rw [HN.out]; exact hown, hbl⟩
end Go.Proofs.YtdikfldogmbeaaaDoor.Cha
