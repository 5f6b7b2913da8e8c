/- Contracts of package clock. -/
import Derived.Test.YtmnbcpinlgklpaaProg
import Derived.Test.YtmnbcpinlgklpaaClockPlain
namespace Go.Proofs.Ytmnbcpinlgklpaa.Clk
open Go.RowKit Go.Frm

/-- a slide's times as cells -/
def slf (s : CS) (i : Nat) : Nat → Value
  | 0 => .int .i64 (s.sn i)
  | 1 => .int .i64 (s.tm i)
  | _ => .int .i64 (s.ct i)
/-- the report in block G, its slides in a row from base on -/
structure Mem (w : World) (G base : Nat) (s : CS) (v : Value) : Prop where
  blk : Blk w G 66 #[.bool s.run, .int .i64 s.tot, .int .i64 s.sl, v]
  own : w.ownsRow base 72 3 v s.n (rowF s.n 3 (slf s))
  lt : G < base
  le : base ≤ w.heap.size
/-- the times when the first j slides have been looked at -/
def tmP (s : CS) (t : Int) (j i : Nat) : Int := if i < j ∧ s.sn i = s.sl then s.tm i + t else s.tm i
theorem tmP_self (s : CS) (t : Int) (j : Nat) : tmP s t j j = s.tm j := by unfold tmP; rw [if_neg (by omega)]
theorem tmP_hit {s : CS} {t : Int} {j n : Nat} (h : s.sn j = s.sl) : rowF n 3 (upd2 (slf { s with tm := tmP s t j }) j 1 (.int .i64 (s.tm j + t))) = rowF n 3 (slf { s with tm := tmP s t (j + 1) }) :=
  rowF_congr fun i k _ hk => by
    unfold upd2
    match k, hk with
    | 0, _ => rw [if_neg (by omega)]; rfl
    | 1, _ =>
      by_cases hij : i = j
      · rw [if_pos ⟨hij, rfl⟩, hij]
        show _ = Value.int .i64 (tmP s t (j + 1) j)
        unfold tmP
        rw [if_pos ⟨by omega, h⟩]
      · rw [if_neg (by omega)]
        show Value.int .i64 (tmP s t j i) = Value.int .i64 (tmP s t (j + 1) i)
        unfold tmP
        by_cases hc : i < j ∧ s.sn i = s.sl
        · rw [if_pos hc, if_pos ⟨by omega, hc.2⟩]
        · rw [if_neg hc, if_neg (by omega)]
    | 2, _ => rw [if_neg (by omega)]; rfl
theorem tmP_miss {s : CS} {t : Int} {j n : Nat} (h : s.sn j ≠ s.sl) : rowF n 3 (slf { s with tm := tmP s t j }) = rowF n 3 (slf { s with tm := tmP s t (j + 1) }) :=
  rowF_congr fun i k _ hk => by
    match k, hk with
    | 0, _ => rfl
    | 1, _ =>
      show Value.int .i64 (tmP s t j i) = Value.int .i64 (tmP s t (j + 1) i)
      unfold tmP
      by_cases hc : i < j ∧ s.sn i = s.sl
      · rw [if_pos hc, if_pos ⟨by omega, hc.2⟩]
      · rw [if_neg hc, if_neg]
        rintro ⟨h1, h2⟩
        by_cases hij : i = j
        · rw [hij] at h2; exact h h2
        · exact hc ⟨by omega, h2⟩
    | 2, _ => rfl
theorem tmP_start (s : CS) (t : Int) (n : Nat) : rowF n 3 (slf { s with tm := tmP s t 0 }) = rowF n 3 (slf s) :=
  rowF_congr fun i k _ hk => by
    match k, hk with
    | 0, _ => rfl
    | 1, _ =>
      show Value.int .i64 (tmP s t 0 i) = Value.int .i64 (s.tm i)
      unfold tmP
      rw [if_neg (by omega)]
    | 2, _ => rfl
theorem tmP_end {s : CS} {t : Int} (hr : s.run = true) : rowF s.n 3 (slf { s with tm := tmP s t s.n }) = rowF s.n 3 (slf (passS s t)) :=
  rowF_congr fun i k hi hk => by
    unfold passS
    rw [if_pos hr]
    match k, hk with
    | 0, _ => rfl
    | 1, _ =>
      show Value.int .i64 (tmP s t s.n i) = Value.int .i64 (if s.sn i = s.sl then s.tm i + t else s.tm i)
      unfold tmP
      by_cases hc : s.sn i = s.sl
      · rw [if_pos ⟨hi, hc⟩, if_pos hc]
      · rw [if_neg (by omega), if_neg hc]
    | 2, _ => rfl
def PassPost (w : World) (G base : Nat) (s : CS) (v : Value) (e : Ending) (w' : World) : Prop := e = .returned (.tuple #[]) ∧ Mem w' G base s v ∧ Only G v.ownBlock w w'

set_option maxRecDepth 100000 in
set_option maxHeartbeats 2000000 in
theorem pass_ok (w : World) (G base c : Nat) (A : Option Addr) (s : CS) (t M : Int) (k : Nat) (h : Mem w G base s (.slice A s.n c)) (hg : Good s M k) (hM : M ≤ 100000000) (hk : k ≤ 1000) (t0 : 0 ≤ t) (t1 : t ≤ 100000000) :
    Calls Try.prog 37 #[.pointer (some ⟨G, 0, none⟩), .int .i64 t] w (PassPost w G base (passS s t) (.slice A s.n c)) := by
  cases hrun : s.run with
  | false =>
    have hp : passS s t = s := by unfold passS; rw [hrun]; rfl
    have c0 : w.cell? ⟨G, 0, none⟩ = some (.bool false) := by rw [← hrun]; exact h.blk.cell 0
    have Hrun := hide hrun
    rw [hp]
    clear hrun
    go_enter Try.func37, Try.ntmps37
    go_wp2_with fail
    refine bodyPost_ret (results_none rfl _ _ _) rfl ?_
    exact ⟨rfl, h, Only.refl _ _ _⟩
  | true =>
    have hb := h.blk
    have hlt := h.lt
    have hle := h.le
    rw [hrun] at hb
    have c0 : w.cell? ⟨G, 0, none⟩ = some (.bool true) := hb.cell 0
    have c1 : w.cell? ⟨G, 1, none⟩ = some (.int .i64 s.tot) := hb.cell 1
    have z1 := hb.frozen 1
    have b1 := hg.t0
    have b2 := hg.t1
    have b3 := hg.nk
    have c3 : w.cell? ⟨G, 3, none⟩ = some (.slice A s.n c) := hb.cell 3
    have hb1 : Blk (w.setCell ⟨G, 1, none⟩ (.int .i64 (s.tot + t))) G 66 #[.bool true, .int .i64 (s.tot + t), .int .i64 s.sl, .slice A s.n c] := hb.set_ 1 _
    have ho1 := own_setCell_low h.own (a := ⟨G, 1, none⟩) h.lt (.int .i64 (s.tot + t))
    have hbel1 : Only G (Value.ownBlock (.slice A s.n c)) w (w.setCell ⟨G, 1, none⟩ (.int .i64 (s.tot + t))) := (Only.refl _ _ _).setCell (p := ⟨G, 1, none⟩) (.inl rfl) _
    have Hrun := hide hrun
    clear hrun hb h
    go_enter Try.func37, Try.ntmps37
    go_wp2_with fail
    generalize w.setCell ⟨G, 1, none⟩ (.int .i64 (s.tot + t)) = w1 at *
    clear c0 c1 z1 c3
    go_loopw [23] (fun i wr => ∃ j : Nat, j ≤ s.n ∧ i = .int .i64 j ∧ Blk wr G 66 #[.bool true, .int .i64 (s.tot + t), .int .i64 s.sl, .slice A s.n c] ∧
      wr.ownsRow base 72 3 (.slice A s.n c) s.n (rowF s.n 3 (slf { s with tm := tmP s t j })) ∧ Only G (Value.ownBlock (.slice A s.n c)) w wr) (fun i _ => s.n - (intOf i).toNat)
    case atStart => exact ⟨0, by omega, rfl, hb1, by rw [tmP_start]; exact ho1, hbel1⟩
    case round =>
      obtain ⟨j, hj, rfl, hb, ho, hbel⟩ := hrel
      by_cases hlt2 : j < s.n
      · obtain ⟨g, rfl, hgb⟩ := own_at ho (by omega)
        have d2 : wr.cell? ⟨G, 2, none⟩ = some (.int .i64 s.sl) := hb.cell 2
        have d3 : wr.cell? ⟨G, 3, none⟩ = some (.slice (some ⟨g, 0, none⟩) s.n c) := hb.cell 3
        have e0 : wr.cell? ⟨g, j * 3, none⟩ = some (.int .i64 (s.sn j)) := own_cellF ho hlt2 (j := 0) (by omega)
        have e1 : wr.cell? ⟨g, j * 3 + 1, none⟩ = some (.int .i64 (tmP s t j j)) := own_cellF ho hlt2 (j := 1) (by omega)
        rw [tmP_self] at e1
        have z1 := ho.frozenAt (j * 3 + 1)
        obtain ⟨m1, m2⟩ := hg.tm0 j hlt2
        by_cases he : s.sn j = s.sl
        · have hq : (s.sn j == s.sl) = true := by simpa using he
          have ho2 := own_storeF ho j (j := 1) (by omega) (.int .i64 (s.tm j + t))
          rw [tmP_hit he] at ho2
          have He := hide he
          clear he
          go_wp2_with fail
          go_quiet (fail)
          go_wp2_with fail
          go_roundw
          case rel => exact ⟨j + 1, by omega, by go_num, (hb.drewN _).far (by show G ≠ g; omega) _, ho2, (hbel.drewN _).setCell (p := ⟨g, j * 3 + 1, none⟩) (.inr rfl) _⟩
          case measure => simp [intOf]; omega
        · have hq : (s.sn j == s.sl) = false := by simpa using he
          go_wp2_with fail
          go_quiet (fail)
          go_wp2_with fail
          go_roundw
          case rel => exact ⟨j + 1, by omega, by go_num, hb.drewN _, by rw [← tmP_miss he]; exact own_drewN ho _, hbel.drewN _⟩
          case measure => simp [intOf]; omega
      · obtain rfl : j = s.n := by omega
        go_wp2_with fail
        refine bodyPost_end (results_none rfl _ _ _) rfl ?_
        have e : passS s t = { s with tot := s.tot + t, tm := fun i => if s.sn i = s.sl then s.tm i + t else s.tm i } := by unfold passS; rw [if_pos Hrun.out]
        refine ⟨rfl, ⟨?_, ?_, hlt, Nat.le_trans hle hbel.size⟩, hbel⟩
        · rw [e]
          show Blk wr G _ #[.bool s.run, .int .i64 (s.tot + t), .int .i64 s.sl, _]
          rw [Hrun.out]
          exact hb
        · rw [tmP_end Hrun.out] at ho
          rw [show (passS s t).n = s.n from passS_n s t]
          exact ho

theorem slide_info : (Try.prog.info? 72).map (fun i => (i.zero, i.size, i.bytes)) = some (some (.agg #[.int .i64 0, .int .i64 0, .int .i64 0]), 3, 24) := by kernel_rfl
def ShowPost (w : World) (G base : Nat) (s : CS) (row : Option Nat) (e : Ending) (w' : World) : Prop := ∃ (A : Option Addr) (c : Nat), e = .returned (.tuple #[]) ∧ Mem w' G base s (.slice A s.n c) ∧ Only G row w w'
theorem row_count {s : CS} {x : Int} {i n : Nat} : rowF n 3 (upd2 (slf s) i 2 (.int .i64 (s.ct i + 1))) = rowF n 3 (slf { s with sl := x, ct := upd s.ct i (s.ct i + 1) }) :=
  rowF_congr fun a k _ hk => by
    unfold upd2
    match k, hk with
    | 0, _ => rw [if_neg (by omega)]; rfl
    | 1, _ => rw [if_neg (by omega)]; rfl
    | 2, _ =>
      show _ = Value.int .i64 (upd s.ct i (s.ct i + 1) a)
      unfold upd
      by_cases h : a = i
      · rw [if_pos ⟨h, rfl⟩, if_pos h]
      · rw [if_neg (by omega), if_neg h]; rfl
theorem row_new {s : CS} {x : Int} : rowF s.n 3 (slf s) ++ [.int .i64 x, .int .i64 0, .int .i64 1] = rowF (s.n + 1) 3 (slf { s with sl := x, n := s.n + 1, sn := upd s.sn s.n x, tm := upd s.tm s.n 0, ct := upd s.ct s.n 1 }) := by
  rw [rowF_succ]
  congr 1
  · refine rowF_congr fun i k hi hk => ?_
    match k, hk with
    | 0, _ => show Value.int .i64 (s.sn i) = .int .i64 (upd s.sn s.n x i); rw [upd_other _ _ (by omega)]
    | 1, _ => show Value.int .i64 (s.tm i) = .int .i64 (upd s.tm s.n 0 i); rw [upd_other _ _ (by omega)]
    | 2, _ => show Value.int .i64 (s.ct i) = .int .i64 (upd s.ct s.n 1 i); rw [upd_other _ _ (by omega)]
  · show _ = [Value.int .i64 (upd s.sn s.n x s.n), Value.int .i64 (upd s.tm s.n 0 s.n), Value.int .i64 (upd s.ct s.n 1 s.n)]
    rw [upd_same, upd_same, upd_same]

set_option maxRecDepth 100000 in
set_option maxHeartbeats 2000000 in
theorem show_ok (w : World) (G base c : Nat) (A : Option Addr) (s : CS) (x M : Int) (k : Nat) (h : Mem w G base s (.slice A s.n c)) (hg : Good s M k) (hk : k ≤ 1000) :
    Calls Try.prog 38 #[.pointer (some ⟨G, 0, none⟩), .int .i64 x] w (ShowPost w G base (showS s x) (Value.ownBlock (.slice A s.n c))) := by
  have hb := h.blk
  have hlt := h.lt
  have hle := h.le
  have ho := h.own
  have b3 := hg.nk
  have c2 : w.cell? ⟨G, 2, none⟩ = some (.int .i64 s.sl) := hb.cell 2
  have z2 := hb.frozen 2
  have hb1 : Blk (w.setCell ⟨G, 2, none⟩ (.int .i64 x)) G 66 #[.bool s.run, .int .i64 s.tot, .int .i64 x, .slice A s.n c] := hb.set_ 2 _
  have ho1 := own_setCell_low h.own (a := ⟨G, 2, none⟩) h.lt (.int .i64 x)
  have hbel1 : Only G (Value.ownBlock (.slice A s.n c)) w (w.setCell ⟨G, 2, none⟩ (.int .i64 x)) := (Only.refl _ _ _).setCell (p := ⟨G, 2, none⟩) (.inl rfl) _
  have hag : (s.sl == x) = true ∨ (s.sl == x) = false := by cases (s.sl == x) <;> simp
  cases hf : fnd s.sn x s.n with
  | some i =>
    obtain ⟨f1, f2, f3⟩ := fnd_some hf
    have F3 := hide f3
    have Hf := hide hf
    clear f3 hf h ho hb
    rcases hag with ha | ha
    all_goals
      go_enter Try.func38, Try.ntmps38
      go_upto_region 2 with fail
      generalize w.setCell ⟨G, 2, none⟩ (.int .i64 x) = w1 at *
      clear c2 z2
      have d3 : w1.cell? ⟨G, 3, none⟩ = some (.slice A s.n c) := hb1.cell 3
      obtain ⟨g, rfl, hgb⟩ := own_at ho1 (by omega)
      go_wp2_with fail
      go_loop [21] (fun i_ => ∃ j : Nat, j ≤ i ∧ i_ = .int .i64 j) (fun i_ => s.n - (intOf i_).toNat)
      case atStart => exact ⟨0, by omega, rfl⟩
      case round =>
        obtain ⟨j, hj, rfl⟩ := hrel
        have e0 : w1.cell? ⟨g, j * 3, none⟩ = some (.int .i64 (s.sn j)) := own_cellF ho1 (i := j) (by omega) (j := 0) (by omega)
        by_cases hji : j < i
        · have hq : (s.sn j == x) = false := by simpa using F3.out j hji
          go_wp2_with fail
          go_round
          case rel => exact ⟨j + 1, by omega, by go_num⟩
          case measure => simp [intOf]; omega
        · obtain rfl : j = i := by omega
          have hq : (s.sn j == x) = true := by simpa using f2
          have e2 : w1.cell? ⟨g, j * 3 + 2, none⟩ = some (.int .i64 (s.ct j)) := own_cellF ho1 (i := j) (by omega) (j := 2) (by omega)
          have z2 := ho1.frozenAt (j * 3 + 2)
          obtain ⟨k1, k2⟩ := hg.ct0 j f1
          have F2 := hide f2
          clear f2
          go_wp2_with fail
          refine bodyPost_ret (results_none rfl _ _ _) rfl ?_
          have es : showS s x = { s with sl := x, ct := if s.sl = x then s.ct else upd s.ct j (s.ct j + 1) } := by unfold showS; rw [Hf.out]
          rw [es]
          first
            | (rw [if_neg (by simpa using ha)]
               refine ⟨some ⟨g, 0, none⟩, c, rfl, ⟨hb1.far (by show G ≠ g; omega) _, ?_, hlt, by have := hbel1.size; simp; omega⟩, hbel1.setCell (p := ⟨g, j * 3 + 2, none⟩) (.inr rfl) _⟩
               show World.ownsRow _ _ _ _ _ _ (rowF s.n 3 _)
               rw [← row_count]
               exact own_storeF ho1 j (by omega) _)
            | (rw [if_pos (by simpa using ha)]
               exact ⟨some ⟨g, 0, none⟩, c, rfl, ⟨hb1, ho1, hlt, Nat.le_trans hle hbel1.size⟩, hbel1⟩)
  | none =>
    have F3 := hide (fnd_none hf)
    have Hf := hide hf
    clear hf h ho hb
    have hB : G < w.heap.size := by
      have h9 := World.block_lt_of_cell? w _ c2
      exact h9
    rcases hag with ha | ha
    all_goals
      go_enter Try.func38, Try.ntmps38
      go_upto_region 2 with fail
      generalize w.setCell ⟨G, 2, none⟩ (.int .i64 x) = w1 at *
      clear c2 z2
      have d3 : w1.cell? ⟨G, 3, none⟩ = some (.slice A s.n c) := hb1.cell 3
      go_wp2_with fail
      go_loop [21] (fun i_ => ∃ j : Nat, j ≤ s.n ∧ i_ = .int .i64 j) (fun i_ => s.n - (intOf i_).toNat)
      case atStart => exact ⟨0, by omega, rfl⟩
      case round =>
        obtain ⟨j, hj, rfl⟩ := hrel
        by_cases hji : j < s.n
        · obtain ⟨g, rfl, hgb⟩ := own_at ho1 (by omega)
          have e0 : w1.cell? ⟨g, j * 3, none⟩ = some (.int .i64 (s.sn j)) := own_cellF ho1 (i := j) (by omega) (j := 0) (by omega)
          have hq : (s.sn j == x) = false := by simpa using F3.out j hji
          go_wp2_with fail
          go_round
          case rel => exact ⟨j + 1, by omega, by go_num⟩
          case measure => simp [intOf]; omega
        · have hle1 := Nat.le_trans hle hbel1.size
          go_wp2_with (at_builtin; refine wpL_append rfl rfl Try.underlying64 slide_info rfl (by decide) rfl rfl (ho1.alloc _) (news_at _ _ _ _ (by simp)) rfl (by simp [Value.oneCell']) (by omega) (by omega) (by simp; omega) ?_; intro v2 w2 hown2 hgrow2; have hb2 := (hb1.alloc (.cells #[.int .i64 x, .int .i64 0, .int .i64 1] 72)).app (ho1.alloc _) hlt hgrow2; have y3 := hb2.cell 3; have z3 := hb2.frozen 3; obtain ⟨A2, c2, rfl⟩ := own_form hown2)
          refine bodyPost_end (results_none rfl _ _ _) rfl ?_
          have es : showS s x = { s with sl := x, n := s.n + 1, sn := upd s.sn s.n x, tm := upd s.tm s.n 0, ct := upd s.ct s.n 1 } := by unfold showS; rw [Hf.out]
          rw [es]
          have hbel2 : Only G (Value.ownBlock (.slice A s.n c)) w1 w2 := ((Only.refl _ _ w1).alloc _).grown hgrow2
          refine ⟨A2, c2, rfl, ⟨hb2.set_ 3 _, ?_, hlt, by have := hbel2.size; simp; omega⟩, (hbel1.trans hbel2).setCell (.inl rfl) _⟩
          refine own_setCell_low ?_ hlt _
          show World.ownsRow _ _ _ _ _ _ (rowF (s.n + 1) 3 _)
          rw [← row_new]
          exact hown2
end Go.Proofs.Ytmnbcpinlgklpaa.Clk
