/- Contracts of package bidi: isolate, up, side, letterSide, neutral, first. -/
import Derived.Test.YtdikfldogmbeaaaDoorBdPlain
import Derived.Test.YtdikfldogmbeaaaDoorProg
namespace Go.Proofs.YtdikfldogmbeaaaDoor.Bd
open Go.RowKit Go.Frm

set_option maxHeartbeats 1000000 in
theorem isolate_ok (k : Int) (w : World) : Calls Tryd.prog 32 #[.int .i64 k] w fun e w' => e = .returned (.bool (iso k)) ∧ w = w' := by
  have hi := hide (show iso k = (k == 19 || k == 20 || k == 21) from rfl)
  generalize iso k = r at *
  cases h1 : (k == 19) with
  | true =>
    have hr := hide (hi.out.trans (by rw [h1]; rfl : _ = true))
    clear hi
    go_enter Tryd.func32, Tryd.ntmps32
    go_wp2_with fail
    go_ret
    exact ⟨ret_bool hr.out.symm, rfl⟩
  | false =>
    cases h2 : (k == 20) with
    | true =>
      have hr := hide (hi.out.trans (by rw [h1, h2]; rfl : _ = true))
      clear hi
      go_enter Tryd.func32, Tryd.ntmps32
      go_wp2_with fail
      go_ret
      exact ⟨ret_bool hr.out.symm, rfl⟩
    | false =>
      have hr := hide (hi.out.trans (by rw [h1, h2]; rfl : _ = (k == 21)))
      clear hi
      go_enter Tryd.func32, Tryd.ntmps32
      go_wp2_with fail
      go_ret
      exact ⟨ret_bool hr.out.symm, rfl⟩

set_option maxHeartbeats 1000000 in
theorem up_ok (l odd : Int) (h0 : 0 ≤ l) (h1 : l ≤ 1000) (ho : odd = 0 ∨ odd = 1) (w : World) : Calls Tryd.prog 33 #[.int .i64 l, .int .i64 odd] w fun e w' => e = .returned (.int .i64 (upL l odd)) ∧ w = w' := by
  have hu := hide (show upL l odd = if (l + 1) % 2 = odd then l + 1 else l + 2 from rfl)
  generalize upL l odd = r at *
  by_cases hc : (l + 1) % 2 = odd
  · have hr := hide (hu.out.trans (if_pos hc))
    have hq : ((l + 1) % 2 != odd) = false := by rw [hc]; simp
    clear hu hc
    go_enter Tryd.func33, Tryd.ntmps33
    go_wp2_with fail
    go_ret
    exact ⟨ret_int hr.out.symm, rfl⟩
  · have hr := hide (hu.out.trans (if_neg hc))
    have hq : ((l + 1) % 2 != odd) = true := by simpa using hc
    clear hu hc
    go_enter Tryd.func33, Tryd.ntmps33
    go_wp2_with fail
    go_ret
    exact ⟨ret_int (by rw [hr.out]; omega), rfl⟩

set_option maxHeartbeats 1000000 in
theorem side_ok (l : Int) (h0 : 0 ≤ l) (h1 : l ≤ 1000) (w : World) : Calls Tryd.prog 40 #[.int .i64 l] w fun e w' => e = .returned (.int .i64 (side l)) ∧ w = w' := by
  have hu := hide (show side l = if l % 2 = 1 then 1 else 0 from rfl)
  generalize side l = r at *
  by_cases hc : l % 2 = 1
  · have hr := hide (hu.out.trans (if_pos hc))
    have hq : (l % 2 == 1) = true := by rw [hc]; simp
    clear hu hc
    go_enter Tryd.func40, Tryd.ntmps40
    go_wp2_with fail
    go_ret
    exact ⟨ret_int hr.out.symm, rfl⟩
  · have hr := hide (hu.out.trans (if_neg hc))
    have hq : (l % 2 == 1) = false := by simpa using hc
    clear hu hc
    go_enter Tryd.func40, Tryd.ntmps40
    go_wp2_with fail
    go_ret
    exact ⟨ret_int hr.out.symm, rfl⟩

set_option maxHeartbeats 1000000 in
theorem letterSide_ok (c : Int) (w : World) : Calls Tryd.prog 42 #[.int .i64 c] w fun e w' => e = .returned (.int .i64 (lside c)) ∧ w = w' := by
  have hu := hide (show lside c = if (c == 0) = true then 0 else if (c == 1 || c == 3 || c == 6) = true then 1 else -1 from rfl)
  generalize lside c = r at *
  cases h0 : (c == 0) with
  | true =>
    have hr := hide (hu.out.trans (by rw [h0]; rfl : _ = (0 : Int)))
    clear hu
    go_enter Tryd.func42, Tryd.ntmps42
    go_wp2_with fail
    go_ret
    exact ⟨ret_int hr.out.symm, rfl⟩
  | false =>
    cases h1 : (c == 1) with
    | true =>
      have hr := hide (hu.out.trans (by rw [h0, h1]; rfl : _ = (1 : Int)))
      clear hu
      go_enter Tryd.func42, Tryd.ntmps42
      go_wp2_with fail
      go_ret
      exact ⟨ret_int hr.out.symm, rfl⟩
    | false =>
      cases h3 : (c == 3) with
      | true =>
        have hr := hide (hu.out.trans (by rw [h0, h1, h3]; rfl : _ = (1 : Int)))
        clear hu
        go_enter Tryd.func42, Tryd.ntmps42
        go_wp2_with fail
        go_ret
        exact ⟨ret_int hr.out.symm, rfl⟩
      | false =>
        cases h6 : (c == 6) with
        | true =>
          have hr := hide (hu.out.trans (by rw [h0, h1, h3, h6]; rfl : _ = (1 : Int)))
          clear hu
          go_enter Tryd.func42, Tryd.ntmps42
          go_wp2_with fail
          go_ret
          exact ⟨ret_int hr.out.symm, rfl⟩
        | false =>
          have hr := hide (hu.out.trans (by rw [h0, h1, h3, h6]; rfl : _ = (-1 : Int)))
          clear hu
          go_enter Tryd.func42, Tryd.ntmps42
          go_wp2_with fail
          go_ret
          exact ⟨ret_int hr.out.symm, rfl⟩

set_option maxHeartbeats 1000000 in
theorem neutral_ok (c : Int) (w : World) : Calls Tryd.prog 43 #[.int .i64 c] w fun e w' => e = .returned (.bool (neut c)) ∧ w = w' := by
  have hu := hide (show neut c = (c == 10 || c == 11 || c == 12 || c == 13 || iso c || c == 22) from rfl)
  have Hi := hide (isolate_ok c)
  generalize neut c = r at *
  generalize iso c = s at *
  cases h0 : (c == 10) with
  | true =>
    have hr := hide (hu.out.trans (by rw [h0]; rfl : _ = true))
    clear hu
    go_enter Tryd.func43, Tryd.ntmps43
    go_wp2_with fail
    go_ret
    exact ⟨ret_bool hr.out.symm, rfl⟩
  | false =>
    cases h1 : (c == 11) with
    | true =>
      have hr := hide (hu.out.trans (by rw [h0, h1]; rfl : _ = true))
      clear hu
      go_enter Tryd.func43, Tryd.ntmps43
      go_wp2_with fail
      go_ret
      exact ⟨ret_bool hr.out.symm, rfl⟩
    | false =>
      cases h2 : (c == 12) with
      | true =>
        have hr := hide (hu.out.trans (by rw [h0, h1, h2]; rfl : _ = true))
        clear hu
        go_enter Tryd.func43, Tryd.ntmps43
        go_wp2_with fail
        go_ret
        exact ⟨ret_bool hr.out.symm, rfl⟩
      | false =>
        cases h3 : (c == 13) with
        | true =>
          have hr := hide (hu.out.trans (by rw [h0, h1, h2, h3]; rfl : _ = true))
          clear hu
          go_enter Tryd.func43, Tryd.ntmps43
          go_wp2_with fail
          go_ret
          exact ⟨ret_bool hr.out.symm, rfl⟩
        | false =>
          cases h4 : s with
          | true =>
            subst h4
            have hr := hide (hu.out.trans (by rw [h0, h1, h2, h3]; rfl : _ = true))
            clear hu
            go_enter Tryd.func43, Tryd.ntmps43
            go_wp2_with fail
            refine (Hi.out _).mono ?_
            rintro e w1 ⟨rfl, rfl⟩
            go_wp2_with fail
            go_ret
            exact ⟨ret_bool hr.out.symm, rfl⟩
          | false =>
            subst h4
            have hr := hide (hu.out.trans (by rw [h0, h1, h2, h3]; rfl : _ = (c == 22)))
            clear hu
            go_enter Tryd.func43, Tryd.ntmps43
            go_wp2_with fail
            refine (Hi.out _).mono ?_
            rintro e w1 ⟨rfl, rfl⟩
            go_wp2_with fail
            go_ret
            exact ⟨ret_bool hr.out.symm, rfl⟩
end Go.Proofs.YtdikfldogmbeaaaDoor.Bd
