/- Contracts of package bidi: first, check, Base. -/
import Derived.Test.YtdikfldogmbeaaaDoorBdClass
namespace Go.Proofs.YtdikfldogmbeaaaDoor.Bd
open Go.RowKit Go.Frm

set_option maxRecDepth 100000 in
set_option maxHeartbeats 2000000 in
theorem first_ok (A : Option Addr) (n cp : Nat) (C : Nat → Int) (fr : Nat) (inner : Bool) (w : World) (hr : RdI w A (tab n C)) (hf : fr < n) (hn : n ≤ 100000) (hcp : n ≤ cp) (hc2 : cp ≤ 9223372036854775807) :
    Calls Tryd.prog 31 #[.slice A n cp, .int .i64 fr, .bool inner] w fun e w' => e = .returned (.int .i64 (firstR C inner (n - fr) fr 0)) ∧ w = w' := by
  obtain ⟨L, HL⟩ : ∃ L, Hid (L = firstR C inner (n - fr) fr 0) := ⟨_, rfl⟩
  rw [← HL.out]
  obtain ⟨b, off, rfl, _⟩ := hr.at_ (k := 0) (by rw [tab_length]; omega)
  have hc1 : ¬ cp = fr := by omega
  have hc3 : ((n : Int) - fr) = ((n - fr : Nat) : Int) := by omega
  go_enter Tryd.func31, Tryd.ntmps31
  go_wp2_with fail
  go_loopw [7, 14] (fun d a wr => ∃ k t : Nat, k ≤ n - fr ∧ t ≤ k ∧ a = .int .i64 k ∧ d = .int .i64 t ∧ Hid (L = firstR C inner (n - fr - k) (fr + k) t) ∧ w = wr) (fun _ a _ => (n - fr) - (intOf a).toNat)
  case atStart => exact ⟨0, 0, by omega, by omega, rfl, rfl, HL, rfl⟩
  case round =>
    clear HL
    obtain ⟨k, t, hk, htk, rfl, rfl, HL, rfl⟩ := hrel
    by_cases hlt : k < n - fr
    · have c0 := hr.get (k := fr + k) (by rw [tab_length]; omega)
      rw [tab_ix _ (by omega), ← Nat.add_assoc] at c0
      have hs : L = if iso (C (fr + k)) then firstR C inner (n - fr - (k + 1)) (fr + (k + 1)) (t + 1)
          else if C (fr + k) == 22 then (if t == 0 && inner then 0 else firstR C inner (n - fr - (k + 1)) (fr + (k + 1)) (t - 1))
          else if 0 < t then firstR C inner (n - fr - (k + 1)) (fr + (k + 1)) t
          else if C (fr + k) == 0 then 0
          else if C (fr + k) == 1 || C (fr + k) == 2 then 1
          else if C (fr + k) == 10 then 0
          else firstR C inner (n - fr - (k + 1)) (fr + (k + 1)) t := by
        rw [HL.out, show n - fr - k = (n - fr - (k + 1)) + 1 by omega]
        rfl
      have Hs := hide hs
      clear hs HL
      have Hi := hide (isolate_ok (C (fr + k)))
      have i1 : ((k : Nat) : Int) < ((n - fr : Nat) : Int) := by omega
      generalize C (fr + k) = v at *
      cases h1 : iso v with
      | true =>
        rw [h1] at Hi Hs
        have H2 : Hid (L = firstR C inner (n - fr - (k + 1)) (fr + (k + 1)) (t + 1)) := Hs
        clear Hs
        go_wp2_with fail
        refine (Hi.out _).mono ?_
        rintro e w1 ⟨rfl, rfl⟩
        go_wp2_with fail
        go_roundw
        case rel => exact ⟨k + 1, t + 1, by omega, by omega, by go_num, by go_num, H2, trivial⟩
        case measure => simp [intOf]; omega
      | false =>
        rw [h1] at Hi Hs
        cases h2 : (v == 22) with
        | true =>
          rw [h2] at Hs
          by_cases ht0 : t = 0
          · subst ht0
            cases inner with
            | true =>
              have H2 : Hid (L = 0) := Hs
              clear Hs
              go_wp2_with fail
              refine (Hi.out _).mono ?_
              rintro e w1 ⟨rfl, rfl⟩
              go_wp2_with fail
              go_ret
              exact ⟨ret_int H2.out.symm, rfl⟩
            | false =>
              have H2 : Hid (L = firstR C false (n - fr - (k + 1)) (fr + (k + 1)) 0) := Hs
              clear Hs
              go_wp2_with fail
              refine (Hi.out _).mono ?_
              rintro e w1 ⟨rfl, rfl⟩
              go_wp2_with fail
              go_roundw
              case rel => exact ⟨k + 1, 0, by omega, by omega, by go_num, by go_num, H2, trivial⟩
              case measure => simp [intOf]; omega
          · have hq : (t == 0) = false := by simpa using ht0
            have hq2 : (((t : Nat) : Int) == 0) = false := by rw [beq_eq_false_iff_ne]; omega
            rw [hq] at Hs
            have H2 : Hid (L = firstR C inner (n - fr - (k + 1)) (fr + (k + 1)) (t - 1)) := Hs
            clear Hs hq
            go_wp2_with fail
            refine (Hi.out _).mono ?_
            rintro e w1 ⟨rfl, rfl⟩
            go_wp2_with fail
            go_roundw
            case rel => exact ⟨k + 1, t - 1, by omega, by omega, by go_num, by go_num, H2, trivial⟩
            case measure => simp [intOf]; omega
        | false =>
          rw [h2] at Hs
          by_cases ht0 : 0 < t
          · have H2 : Hid (L = firstR C inner (n - fr - (k + 1)) (fr + (k + 1)) t) := hide (Hs.out.trans (by rw [if_neg (by decide), if_neg (by decide), if_pos ht0]))
            have hq2 : decide (0 < ((t : Nat) : Int)) = true := by simp; omega
            clear Hs
            go_wp2_with fail
            refine (Hi.out _).mono ?_
            rintro e w1 ⟨rfl, rfl⟩
            go_wp2_with fail
            go_roundw
            case rel => exact ⟨k + 1, t, by omega, by omega, by go_num, by go_num, H2, trivial⟩
            case measure => simp [intOf]; omega
          · obtain rfl : t = 0 := by omega
            clear ht0
            cases h10 : (v == 0) with
            | true =>
              rw [h10] at Hs
              have H2 : Hid (L = 0) := Hs
              clear Hs
              go_wp2_with fail
              refine (Hi.out _).mono ?_
              rintro e w1 ⟨rfl, rfl⟩
              go_wp2_with fail
              go_ret
              exact ⟨ret_int H2.out.symm, rfl⟩
            | false =>
              rw [h10] at Hs
              cases h11 : (v == 1) with
              | true =>
                rw [h11] at Hs
                have H2 : Hid (L = 1) := Hs
                clear Hs
                go_wp2_with fail
                refine (Hi.out _).mono ?_
                rintro e w1 ⟨rfl, rfl⟩
                go_wp2_with fail
                go_ret
                exact ⟨ret_int H2.out.symm, rfl⟩
              | false =>
                rw [h11] at Hs
                cases h12 : (v == 2) with
                | true =>
                  rw [h12] at Hs
                  have H2 : Hid (L = 1) := Hs
                  clear Hs
                  go_wp2_with fail
                  refine (Hi.out _).mono ?_
                  rintro e w1 ⟨rfl, rfl⟩
                  go_wp2_with fail
                  go_ret
                  exact ⟨ret_int H2.out.symm, rfl⟩
                | false =>
                  rw [h12] at Hs
                  cases h20 : (v == 10) with
                  | true =>
                    rw [h20] at Hs
                    have H2 : Hid (L = 0) := Hs
                    clear Hs
                    go_wp2_with fail
                    refine (Hi.out _).mono ?_
                    rintro e w1 ⟨rfl, rfl⟩
                    go_wp2_with fail
                    go_ret
                    exact ⟨ret_int H2.out.symm, rfl⟩
                  | false =>
                    rw [h20] at Hs
                    have H2 : Hid (L = firstR C inner (n - fr - (k + 1)) (fr + (k + 1)) 0) := Hs
                    clear Hs
                    go_wp2_with fail
                    refine (Hi.out _).mono ?_
                    rintro e w1 ⟨rfl, rfl⟩
                    go_wp2_with fail
                    go_roundw
                    case rel => exact ⟨k + 1, 0, by omega, by omega, by go_num, by go_num, H2, trivial⟩
                    case measure => simp [intOf]; omega
    · obtain rfl : k = n - fr := by omega
      have hL : L = 0 := by rw [HL.out, Nat.sub_self]; rfl
      have H2 := hide hL
      clear hL HL
      go_wp2_with fail
      go_ret
      exact ⟨ret_int H2.out.symm, rfl⟩

set_option maxRecDepth 100000 in
set_option maxHeartbeats 2000000 in
theorem first_end (A : Option Addr) (n : Nat) (C : Nat → Int) (inner : Bool) (w : World) (hn : n ≤ 100000) :
    Calls Tryd.prog 31 #[.slice A n n, .int .i64 n, .bool inner] w fun e w' => e = .returned (.int .i64 (firstR C inner (n - n) n 0)) ∧ w = w' := by
  rw [Nat.sub_self]
  show Calls Tryd.prog 31 #[.slice A n n, .int .i64 n, .bool inner] w fun e w' => e = .returned (.int .i64 0) ∧ w = w'
  go_enter Tryd.func31, Tryd.ntmps31
  go_wp2_with fail
  go_loopw [7, 14] (fun d a wr => a = .int .i64 0 ∧ w = wr) (fun _ a _ => 0)
  case atStart => exact ⟨rfl, rfl⟩
  case round =>
    obtain ⟨rfl, rfl⟩ := hrel
    go_wp2_with fail
    go_ret
    exact ⟨rfl, rfl⟩
theorem first_all (A : Option Addr) (n : Nat) (C : Nat → Int) (fr : Nat) (inner : Bool) (w : World) (hr : RdI w A (tab n C)) (hf : fr ≤ n) (hn : n ≤ 100000) :
    Calls Tryd.prog 31 #[.slice A n n, .int .i64 fr, .bool inner] w fun e w' => e = .returned (.int .i64 (firstR C inner (n - fr) fr 0)) ∧ w = w' := by
  by_cases h : fr = n
  · subst h
    exact first_end A fr C inner w hn
  · exact first_ok A n n C fr inner w hr (by omega) hn (Nat.le_refl _) (by omega)

/-- what is wrong with a text, r characters from i on -/
def chkR (zs : List Int) : Nat → Nat → Int
  | 0, _ => 0
  | r + 1, i => if ix zs i < 0 ∨ 1114111 < ix zs i then 2 else if 0 < i ∧ ix zs (i - 1) = 10 then 4 else chkR zs r (i + 1)
def chk (zs : List Int) : Int := if 100000 < zs.length then 3 else chkR zs zs.length 0

set_option maxRecDepth 100000 in
set_option maxHeartbeats 2000000 in
theorem check_ok (A : Option Addr) (cp : Nat) (zs : List Int) (w : World) (hr : RdI w A zs) (hm : zs.length ≤ 9223372036854775807) :
    Calls Tryd.prog 28 #[.slice A zs.length cp] w fun e w' => e = .returned (.int .i64 (chk zs)) ∧ w = w' := by
  by_cases hbig : 100000 < zs.length
  · have hc := hide (show chk zs = 3 from if_pos hbig)
    generalize chk zs = r at *
    go_enter Tryd.func28, Tryd.ntmps28
    go_wp2_with fail
    go_ret
    exact ⟨ret_int hc.out.symm, rfl⟩
  · have HL := hide (show chk zs = chkR zs zs.length 0 from if_neg hbig)
    generalize chk zs = L at *
    have hn : zs.length ≤ 100000 := by omega
    go_enter Tryd.func28, Tryd.ntmps28
    go_wp2_with fail
    go_loopw [10] (fun a wr => ∃ k : Nat, k ≤ zs.length ∧ a = .int .i64 k ∧ Hid (L = chkR zs (zs.length - k) k) ∧ w = wr) (fun a _ => zs.length - (intOf a).toNat)
    case atStart => exact ⟨0, by omega, rfl, HL, rfl⟩
    case round =>
      clear HL
      obtain ⟨k, hk, rfl, HL, rfl⟩ := hrel
      by_cases hlt : k < zs.length
      · obtain ⟨b, off, rfl, c0⟩ := hr.at_ hlt
        have hs : L = if ix zs k < 0 ∨ 1114111 < ix zs k then 2 else if 0 < k ∧ ix zs (k - 1) = 10 then 4 else chkR zs (zs.length - (k + 1)) (k + 1) := by
          rw [HL.out, show zs.length - k = (zs.length - (k + 1)) + 1 by omega]
          rfl
        have hp : 0 < k → w.cell? ⟨b, off + (k - 1), none⟩ = some (.int .i64 (ix zs (k - 1))) := fun h => hr.get (by omega)
        have hp2 := hide hp
        have Hs := hide hs
        clear hs HL hp
        generalize ix zs (k - 1) = u at *
        generalize ix zs k = v at *
        by_cases h1 : v < 0
        · have H2 : Hid (L = 2) := hide (Hs.out.trans (if_pos (.inl h1)))
          clear Hs
          go_wp2_with fail
          go_ret
          exact ⟨ret_int H2.out.symm, rfl⟩
        · by_cases h2 : 1114111 < v
          · have H2 : Hid (L = 2) := hide (Hs.out.trans (if_pos (.inr h2)))
            have h1' : 0 ≤ v := by omega
            clear Hs h1
            go_wp2_with fail
            go_ret
            exact ⟨ret_int H2.out.symm, rfl⟩
          · replace Hs := hide (Hs.out.trans (if_neg (by omega)))
            have h1' : 0 ≤ v := by omega
            have h2' : v ≤ 1114111 := by omega
            clear h1 h2
            by_cases h3 : 0 < k
            · have c1 := hp2.out h3
              have i1 : ((k - 1 : Nat) : Int) = (k : Int) - 1 := by omega
              cases h4 : (u == 10) with
              | true =>
                have H2 : Hid (L = 4) := hide (Hs.out.trans (if_pos ⟨h3, by simpa using h4⟩))
                clear Hs
                go_wp2_with fail
                go_ret
                exact ⟨ret_int H2.out.symm, rfl⟩
              | false =>
                have H2 : Hid (L = chkR zs (zs.length - (k + 1)) (k + 1)) := hide (Hs.out.trans (if_neg (fun h => by simp [h.2] at h4)))
                clear Hs
                go_wp2_with fail
                go_roundw
                case rel => exact ⟨k + 1, by omega, by go_num, H2, trivial⟩
                case measure => simp [intOf]; omega
            · obtain rfl : k = 0 := by omega
              have H2 : Hid (L = chkR zs (zs.length - 1) 1) := hide (Hs.out.trans (if_neg (fun h => by omega)))
              rw [Nat.add_zero] at c0
              clear Hs h3 hp2
              go_wp2_with fail
              go_roundw
              case rel => exact ⟨1, by omega, by go_num, H2, trivial⟩
              case measure => simp [intOf]; omega
      · obtain rfl : k = zs.length := by omega
        have hL : L = 0 := by rw [HL.out, Nat.sub_self]; rfl
        have H2 := hide hL
        clear hL HL
        go_wp2_with fail
        go_ret
        exact ⟨ret_int H2.out.symm, rfl⟩
end Go.Proofs.YtdikfldogmbeaaaDoor.Bd
