/- Contracts of package clock: Check, Clone, Report. -/
import Derived.Test.YtmnbcpinlgklpaaClock
import Derived.Deep.CutBlock
namespace Go.Proofs.Ytmnbcpinlgklpaa.Clk
open Go.RowKit Go.Frm

def runB (E : Evs) : Nat → Bool
  | 0 => false
  | i + 1 => if E.ek i = 0 then true else if E.ek i = 1 then false else runB E i
def lstE (E : Evs) : Nat → Int
  | 0 => 0
  | i + 1 => E.ea i
/-- what makes events valid (none stops the clock) -/
structure VE (E : Evs) : Prop where
  few : E.N ≤ 1000
  srt : Sorted E
  most : ∀ i, i < E.N → E.ea i ≤ 10000000
  kind : ∀ i, i < E.N → (E.ek i = 0 ∧ E.es i = 0 ∧ runB E i = false) ∨ (E.ek i = 1 ∧ E.es i = 0 ∧ runB E i = true) ∨ (E.ek i = 2 ∧ 1 ≤ E.es i ∧ E.es i ≤ 1000)
/-- an event as cells -/
def evf (E : Evs) (i : Nat) : Nat → Value
  | 0 => .int .i64 (E.ek i)
  | 1 => .int .i64 (E.ea i)
  | _ => .int .i64 (E.es i)
theorem lstE_le {E : Evs} (h : Sorted E) {i : Nat} (hi : i < E.N) : lstE E i ≤ E.ea i ∧ 0 ≤ lstE E i := by
  cases i with
  | zero => exact ⟨h.pos 0 hi, Int.le_refl _⟩
  | succ i => exact ⟨h.mono i (i + 1) (by omega) hi, h.pos i (by omega)⟩

set_option maxRecDepth 100000 in
set_option maxHeartbeats 2000000 in
theorem check_ok (E : Evs) (A : Option Addr) (c : Nat) (w : World) (h : VE E) (hr : RdF w A E.N 3 (evf E)) :
    Calls Try.prog 35 #[.slice A E.N c] w fun e w' => e = .returned (.int .i64 0) ∧ Below w.heap.size w w' := by
  obtain ⟨few, srt, most, kind⟩ := h
  have Srt := hide srt
  have Most := hide most
  have Kind := hide kind
  clear srt most kind
  go_enter Try.func35, Try.ntmps35
  go_wp2_with fail
  go_loopw [3, 4, 5, 13] (fun r l s i wr => ∃ k : Nat, k ≤ E.N ∧ i = .int .i64 k ∧ r = .bool (runB E k) ∧ l = .int .i64 (lstE E k) ∧ s = .bool false ∧ Below w.heap.size w wr) (fun _ _ _ i _ => E.N - (intOf i).toNat)
  case atStart => exact ⟨0, by omega, rfl, rfl, rfl, rfl, Below.refl _ _⟩
  case round =>
    obtain ⟨k, hk, rfl, rfl, rfl, rfl, hbel⟩ := hrel
    have hsz := hbel.size
    by_cases hlt : k < E.N
    · obtain ⟨b, off, rfl, hc⟩ := (hr.below hbel).at_ hlt
      have c0 : wr.cell? ⟨b, off + k * 3, none⟩ = some (.int .i64 (E.ek k)) := hc 0 (by omega)
      have c1 : wr.cell? ⟨b, off + k * 3 + 1, none⟩ = some (.int .i64 (E.ea k)) := hc 1 (by omega)
      have c2 : wr.cell? ⟨b, off + k * 3 + 2, none⟩ = some (.int .i64 (E.es k)) := hc 2 (by omega)
      clear hc
      obtain ⟨l1, l2⟩ := lstE_le Srt.out hlt
      have p0 := Srt.out.pos k hlt
      have p1 := Most.out k hlt
      rcases Kind.out k hlt with ⟨e0, e1, e2⟩ | ⟨e0, e1, e2⟩ | ⟨e0, e1, e3⟩
      · rw [e0] at c0
        rw [e1] at c2
        rw [e2]
        have er : runB E (k + 1) = true := by unfold runB; rw [if_pos e0]
        have Er := hide er
        clear e0 e1 e2 er
        go_wp2_with fail
        go_roundw
        case rel => exact ⟨k + 1, by omega, by go_num, by rw [Er.out], rfl, rfl, hbel.alloc hsz _⟩
        case measure => simp [intOf]; omega
      · rw [e0] at c0
        rw [e1] at c2
        rw [e2]
        have er : runB E (k + 1) = false := by unfold runB; rw [if_neg (by omega), if_pos e0]
        have Er := hide er
        clear e0 e1 e2 er
        go_wp2_with fail
        go_roundw
        case rel => exact ⟨k + 1, by omega, by go_num, by rw [Er.out], rfl, rfl, hbel.alloc hsz _⟩
        case measure => simp [intOf]; omega
      · rw [e0] at c0
        have er : runB E (k + 1) = runB E k := by rw [runB, if_neg (by omega), if_neg (by omega)]
        have Er := hide er
        clear e0 er
        have hd : decide (0 < E.es k) = true := by simp; omega
        go_wp2_with fail
        go_roundw
        case rel => exact ⟨k + 1, by omega, by go_num, by rw [Er.out], rfl, rfl, hbel.alloc hsz _⟩
        case measure => simp [intOf]; omega
    · go_wp2_with fail
      go_ret
      exact ⟨rfl, hbel⟩

theorem event_info : (Try.prog.info? 70).map (fun i => (i.zero, i.size, i.bytes)) = some (some (.agg #[.int .i64 0, .int .i64 0, .int .i64 0]), 3, 24) := by kernel_rfl
theorem evf_one (E : Evs) (n : Nat) : ∀ u ∈ rowF n 3 (evf E), u.oneCell' = true := by
  induction n with
  | zero => intro u hu; cases hu
  | succ n ih =>
    intro u hu
    rw [rowF_succ] at hu
    rcases List.mem_append.1 hu with h | h
    · exact ih u h
    · simp [List.range_succ] at h
      rcases h with rfl | rfl | rfl <;> rfl
def ClonePost (w : World) (E : Evs) (e : Ending) (w' : World) : Prop := ∃ (A : Option Addr) (c : Nat), e = .returned (.slice A E.N c) ∧ w'.ownsRow w.heap.size 70 3 (.slice A E.N c) E.N (rowF E.N 3 (evf E)) ∧ Below w.heap.size w w'

set_option maxRecDepth 100000 in
set_option maxHeartbeats 2000000 in
theorem clone_ok (E : Evs) (A : Option Addr) (c base : Nat) (w : World) (hN : E.N ≤ 1000) (ho : w.ownsRow base 70 3 (.slice A E.N c) E.N (rowF E.N 3 (evf E))) :
    Calls Try.prog 36 #[.slice A E.N c] w (ClonePost w E) := by
  have hr := RdF.of_own ho
  have hq := fun (wx : World) (a : Option Addr) (n c : Nat) => Lib.run_eql_slice_nil (P := Try.prog) wx 62 70 a n c 0 0 Try.underlying62
  have hform := ho.2
  rcases hform with ⟨hv, hn⟩ | ⟨g, cap, cur, hv, _, hg, _⟩
  · injection hv with hA hn' hc'
    subst hA hc'
    have Hn := hide hn
    clear hn
    go_enter Try.func36, Try.ntmps36
    go_wp2_with fail
    go_ret
    refine ⟨none, 0, ?_, ?_, Below.refl _ _⟩
    · show Ending.returned (.slice none 0 0) = _
      rw [Hn.out]
    · rw [Hn.out]
      exact World.ownsRow_nil _ _ _ _
  · injection hv with hA _ hc'
    subst hA hc'
    have hc0 : ∀ (j : Nat) (u : Value), (rowF E.N 3 (evf E))[j]? = some u → (w.alloc (.cells #[] 70)).cell? ((⟨g, 0, none⟩ : Addr).add j) = some u := fun j u hu => by
      have h1 := ho.cells (g := g) rfl j u hu
      rw [World.cell?_alloc_lt w _ _ (World.block_lt_of_cell? w _ h1)]
      exact h1
    go_enter Try.func36, Try.ntmps36
    go_wp2_with (at_builtin; refine wpL_append (size := 3) rfl rfl Try.underlying62 event_info rfl (by decide) rfl rfl (World.ownsRow_lit (base := w.heap.size) (size := 3) w #[] 0 (Nat.le_refl _) (by omega) rfl) hc0 (rowF_length _ _ _) (evf_one E E.N) (by omega) (by omega) (by simp) ?_; intro v1 w1 hown1 hgrow1)
    go_ret
    simp only [Nat.zero_add] at hown1
    obtain ⟨A1, c1, rfl⟩ := own_form hown1
    exact ⟨A1, c1, rfl, by simpa using hown1, ((Below.refl _ _).alloc (Nat.le_refl _) _).grown hgrow1 (by simp) (fun k hk => ((World.ownsRow_lit (e := 70) (base := w.heap.size) (size := 3) w #[] 0 (Nat.le_refl _) (by omega) rfl).lt k hk).1)⟩

/-- the events with the time of the question behind them -/
def extE (E : Evs) (t : Int) : Evs := ⟨E.N + 1, fun i => if i = E.N then -1 else E.ek i, fun i => if i = E.N then t else E.ea i, fun i => if i = E.N then 0 else E.es i⟩
theorem ext_row (E : Evs) (t : Int) : rowF E.N 3 (evf E) ++ [.int .i64 (-1), .int .i64 t, .int .i64 0] = rowF (E.N + 1) 3 (evf (extE E t)) := by
  rw [rowF_succ]
  congr 1
  · refine rowF_congr fun i k hi hk => ?_
    have hne : i ≠ E.N := by omega
    match k, hk with
    | 0, _ => show Value.int .i64 (E.ek i) = .int .i64 (if i = E.N then -1 else E.ek i); rw [if_neg hne]
    | 1, _ => show Value.int .i64 (E.ea i) = .int .i64 (if i = E.N then t else E.ea i); rw [if_neg hne]
    | 2, _ => show Value.int .i64 (E.es i) = .int .i64 (if i = E.N then 0 else E.es i); rw [if_neg hne]
  · show _ = [Value.int .i64 (if E.N = E.N then -1 else E.ek E.N), Value.int .i64 (if E.N = E.N then t else E.ea E.N), Value.int .i64 (if E.N = E.N then 0 else E.es E.N)]
    rw [if_pos rfl, if_pos rfl, if_pos rfl]
theorem ext_step (E : Evs) (t : Int) : ∀ i, i ≤ E.N → stepS (extE E t) t i = stepS E t i
  | 0, _ => rfl
  | i + 1, hi => by
    rw [stepS_succ, stepS_succ, ext_step E t i (by omega)]
    have hne : i ≠ E.N := by omega
    unfold oneS extE
    simp only [if_neg hne]
theorem ext_rep (E : Evs) (t : Int) : (stepS (extE E t) t (E.N + 1)).1 = rep E t := by
  rw [stepS_succ, ext_step E t E.N (Nat.le_refl _)]
  unfold oneS extE rep
  simp only [if_true]
  rw [if_neg (by omega), show min t t = t by omega]
  unfold kindS
  rw [if_neg (by omega), if_neg (by omega), if_neg (by omega)]

theorem Mem.alloc {w : World} {G base : Nat} {s : CS} {v : Value} (h : Mem w G base s v) (o : Obj) : Mem (w.alloc o) G base s v := ⟨h.blk.alloc o, h.own.alloc o, h.lt, by have := h.le; simp; omega⟩
theorem Mem.row {w : World} {G base : Nat} {s : CS} {v : Value} (h : Mem w G base s v) : ∀ k, v.ownBlock = some k → base ≤ k ∧ k < w.heap.size := fun k hk => h.own.lt k hk
theorem Mem.setRun {w : World} {G base : Nat} {s : CS} {v : Value} (h : Mem w G base s v) (b : Bool) : Mem (w.setCell ⟨G, 0, none⟩ (.bool b)) G base { s with run := b } v :=
  ⟨h.blk.set_ 0 _, own_setCell_low h.own (a := ⟨G, 0, none⟩) h.lt _, h.lt, by have := h.le; simp; omega⟩
theorem oneS_before {E : Evs} {t : Int} {i : Nat} (s : CS) (last : Int) (h : E.ea i ≤ t) : oneS E t i s last = (kindS (passS s (E.ea i - last)) (E.ek i) (E.es i), E.ea i) := by
  unfold oneS
  rw [if_neg (by omega), show min (E.ea i) t = E.ea i by omega]
/-- what is known ahead of event k -/
theorem rep_facts {E : Evs} (h : VE E) {t : Int} (t0 : 0 ≤ t) (t1 : t ≤ 10000000) {k : Nat} (hk : k ≤ E.N) :
    Good (stepS (extE E t) t k).1 (stepS (extE E t) t k).2 k ∧ 0 ≤ (stepS (extE E t) t k).2 ∧ (stepS (extE E t) t k).2 ≤ min ((extE E t).ea k) t ∧ 0 ≤ (extE E t).ea k ∧ (extE E t).ea k ≤ 10000000 ∧
      ((extE E t).ek k = -1 ∨ (extE E t).ek k = 0 ∨ (extE E t).ek k = 1 ∨ (extE E t).ek k = 2) := by
  have hl := last_le h.srt t0 k hk
  rw [ext_step E t k hk]
  refine ⟨good_step h.srt t0 k hk, hl.1, ?_⟩
  show (stepS E t k).2 ≤ min (if k = E.N then t else E.ea k) t ∧ 0 ≤ (if k = E.N then t else E.ea k) ∧ (if k = E.N then t else E.ea k) ≤ 10000000 ∧
    ((if k = E.N then -1 else E.ek k) = -1 ∨ (if k = E.N then -1 else E.ek k) = 0 ∨ (if k = E.N then -1 else E.ek k) = 1 ∨ (if k = E.N then -1 else E.ek k) = 2)
  by_cases hkn : k = E.N
  · rw [if_pos hkn, if_pos hkn]
    omega
  · rw [if_neg hkn, if_neg hkn]
    have h1 := hl.2.2 (by omega)
    have h2 := h.srt.pos k (by omega)
    have h3 := h.most k (by omega)
    refine ⟨h1, h2, h3, ?_⟩
    rcases h.kind k (by omega) with h | h | h
    · exact .inr (.inl h.1)
    · exact .inr (.inr (.inl h.1))
    · exact .inr (.inr (.inr h.1))
/-- what is told of a report -/
def RepPost (w : World) (E : Evs) (t : Int) (e : Ending) (w' : World) : Prop := ∃ (A : Option Addr) (c : Nat), e = .returned (.tuple #[.agg #[.bool (rep E t).run, .int .i64 (rep E t).tot, .int .i64 (rep E t).sl, .slice A (rep E t).n c], .int .i64 0]) ∧
  w'.ownsRow w.heap.size 72 3 (.slice A (rep E t).n c) (rep E t).n (rowF (rep E t).n 3 (slf (rep E t))) ∧ Below w.heap.size w w'

set_option maxRecDepth 100000 in
set_option maxHeartbeats 4000000 in
theorem report_ok (E : Evs) (A : Option Addr) (c base : Nat) (t : Int) (w : World) (h : VE E) (hN : E.N ≤ 900) (ho : w.ownsRow base 70 3 (.slice A E.N c) E.N (rowF E.N 3 (evf E))) (t0 : 0 ≤ t) (t1 : t ≤ 10000000) :
    Calls Try.prog 26 #[.slice A E.N c, .int .i64 t] w (RepPost w E t) := by
  have H := hide h
  go_enter Try.func26, Try.ntmps26
  go_wp2_with fail
  have ho0 := ho.alloc (.cells #[.bool false, .int .i64 0, .int .i64 0, .slice none 0 0] 66)
  have hb0 := Blk.new w 66 #[.bool false, .int .i64 0, .int .i64 0, .slice none 0 0]
  have hbel0 : Below w.heap.size w (w.alloc (.cells #[.bool false, .int .i64 0, .int .i64 0, .slice none 0 0] 66)) := (Below.refl _ _).alloc (Nat.le_refl _) _
  generalize w.alloc (.cells #[.bool false, .int .i64 0, .int .i64 0, .slice none 0 0] 66) = w0 at *
  refine (check_ok E A c w0 h (RdF.of_own ho0)).mono ?_
  rintro e w1 ⟨rfl, hbel1⟩
  have ho1 := own_below ho0 hbel1
  have hb1 := hb0.below hbel1 hb0.lt
  have hbelA := hbel0.trans (hbel1.mono hbel0.size)
  go_wp2_with fail
  have ho2 := ho1.alloc (.cells #[.bool false, .int .i64 0, .int .i64 0, .slice none 0 0] 66)
  have hb2 := hb1.alloc (.cells #[.bool false, .int .i64 0, .int .i64 0, .slice none 0 0] 66)
  have hr2 := Blk.new w1 66 #[.bool false, .int .i64 0, .int .i64 0, .slice none 0 0]
  have hbelB := hbelA.alloc hbelA.size (.cells #[.bool false, .int .i64 0, .int .i64 0, .slice none 0 0] 66)
  have hszB : (w1.alloc (.cells #[.bool false, .int .i64 0, .int .i64 0, .slice none 0 0] 66)).heap.size = w1.heap.size + 1 := by simp
  generalize w1.alloc (.cells #[.bool false, .int .i64 0, .int .i64 0, .slice none 0 0] 66) = w2 at *
  refine (clone_ok E A c base w2 (by omega) ho2).mono ?_
  rintro e w3 ⟨A3, c3, rfl, ho3, hbel3⟩
  have hb3 := hb2.below hbel3 hb2.lt
  have hr3 := hr2.below hbel3 hr2.lt
  have hbelC := hbelB.trans (hbel3.mono hbelB.size)
  have hlt1 := hb1.lt
  have hsz3 := hbel3.size
  go_wp2_with (at_builtin; refine wpL_append (size := 3) rfl rfl Try.underlying62 event_info rfl (by decide) rfl rfl (ho3.alloc _) (news_at _ _ _ _ (by simp)) rfl (by simp [Value.oneCell']) (by omega) (by omega) (by simp; omega) ?_; intro v4 w4 ho4 hgrow4; obtain ⟨A4, c4, rfl⟩ := own_form ho4)
  have hbelD : Below w.heap.size w w4 := (hbelC.alloc hbelC.size _).grown hgrow4 (by have := hbelC.size; simp; omega) (fun k hk => by have := ((ho3.alloc (.cells #[.int .i64 (-1), .int .i64 t, .int .i64 0] 70)).lt k hk).1; have := hbelB.size; omega)
  have hB4 : Below w2.heap.size w3 w4 := ((Below.refl _ w3).alloc hsz3 _).grown hgrow4 (by simp; omega) (fun k hk => ((ho3.alloc (.cells #[.int .i64 (-1), .int .i64 t, .int .i64 0] 70)).lt k hk).1)
  have hb4 := hb3.below hB4 hb2.lt
  have hr4 := hr3.below hB4 hr2.lt
  have hsz4 := hB4.size
  have ho4' : w4.ownsRow w2.heap.size 70 3 (.slice A4 (E.N + 1) c4) (E.N + 1) (rowF (E.N + 1) 3 (evf (extE E t))) := by rw [← ext_row]; exact ho4
  have hrow := RdF.of_own ho4'
  have hA4 : ∀ ad, A4 = some ad → ad.block < w4.heap.size ∧ ad.block ≠ w1.heap.size := fun ad had => by
    have := ho4'.lt ad.block (by rw [had]; rfl)
    omega
  clear ho4 hgrow4 hb0 hb1 hb2 hb3 hr2 hr3 hbel0 hbel1 hbel3 hbelA hbelB hbelC ho0 ho1 ho2 ho3
  have hbelG : w.heap.size < w1.heap.size := hlt1
  generalize w1.heap.size = G at *
  have hGlt : G < w4.heap.size := hr4.lt
  have hmem : Mem w4 G w4.heap.size init (.slice none 0 0) := ⟨hr4, World.ownsRow_nil _ _ _ _, hGlt, Nat.le_refl _⟩
  have HA4 := hide hA4
  have Hb4 := hide hb4
  clear hA4 hb4 hr4
  go_loopw [8, 32] (fun l i wr => ∃ (k : Nat) (A : Option Addr) (c : Nat), k ≤ E.N + 1 ∧ i = .int .i64 k ∧ l = .int .i64 (stepS (extE E t) t k).2 ∧
    Mem wr G w4.heap.size (stepS (extE E t) t k).1 (.slice A (stepS (extE E t) t k).1.n c) ∧ Near G w4.heap.size w4 wr) (fun _ i _ => E.N + 1 - (intOf i).toNat)
  case atStart => exact ⟨0, none, 0, by omega, rfl, rfl, hmem, Near.refl _ _ _⟩
  case round =>
    obtain ⟨k, A, c, hk, rfl, rfl, hm, hnear⟩ := hrel
    by_cases hlt : k < E.N + 1
    · obtain ⟨g1, g2, g3, g4, g5, g6⟩ := rep_facts h t0 t1 (show k ≤ E.N by omega)
      have hS := stepS_succ (extE E t) t k
      obtain ⟨b4, off4, rfl, hc⟩ := (hrow.near hnear HA4.out).at_ hlt
      have c0 : wr.cell? ⟨b4, off4 + k * 3, none⟩ = some (.int .i64 ((extE E t).ek k)) := hc 0 (by omega)
      have c1 : wr.cell? ⟨b4, off4 + k * 3 + 1, none⟩ = some (.int .i64 ((extE E t).ea k)) := hc 1 (by omega)
      have c2 : wr.cell? ⟨b4, off4 + k * 3 + 2, none⟩ = some (.int .i64 ((extE E t).es k)) := hc 2 (by omega)
      clear hc
      have hone1 : t < (extE E t).ea k → oneS (extE E t) t k (stepS (extE E t) t k).1 (stepS (extE E t) t k).2 = _ := fun hlt => oneS_beyond _ _ hlt
      have hone2 : (extE E t).ea k ≤ t → oneS (extE E t) t k (stepS (extE E t) t k).1 (stepS (extE E t) t k).2 = _ := fun hlt => oneS_before _ _ hlt
      rw [← hS] at hone1 hone2
      clear hS
      generalize (stepS (extE E t) t k).1 = s at *
      generalize (stepS (extE E t) t k).2 = last at *
      generalize (extE E t).ek k = kx at *
      generalize (extE E t).ea k = ax at *
      generalize (extE E t).es k = sx at *
      have hle := hm.le
      have hma := hm.alloc (.cells #[.int .i64 kx, .int .i64 ax, .int .i64 sx] 70)
      have hx := Blk.new wr 70 #[.int .i64 kx, .int .i64 ax, .int .i64 sx]
      have hrowlt := hm.row
      have hna := hnear.alloc hle (.cells #[.int .i64 kx, .int .i64 ax, .int .i64 sx] 70)
      have hsza : w4.heap.size ≤ (wr.alloc (.cells #[.int .i64 kx, .int .i64 ax, .int .i64 sx] 70)).heap.size := hma.le
      have Hone1 := hide hone1
      have Hone2 := hide hone2
      have Hrow := hide hrowlt
      clear hone1 hone2 hrowlt
      by_cases htx : t < ax
      · go_wp2_with fail
        refine (pass_ok _ G _ c A s _ last k hma g1 (by omega) (by omega) (by omega) (by omega)).mono ?_
        rintro e w5 ⟨rfl, hm5, ho5⟩
        have hx5 := ho5.blk hx (by omega) (fun he => by have := Hrow.out _ he.symm; omega)
        have x1 : w5.cell? ⟨wr.heap.size, 1, none⟩ = some (.int .i64 ax) := hx5.cell 1
        have hn5 := hna.trans (ho5.near hsza (fun q hq => (Hrow.out q hq).1))
        go_wp2_with fail
        go_roundw
        case rel =>
          refine ⟨k + 1, A, c, by omega, by go_num, val_int (by rw [Hone1.out htx]), ?_, hn5⟩
          rw [Hone1.out htx]
          show Mem w5 G _ (passS s (t - last)) (.slice A (passS s (t - last)).n c)
          rw [passS_n]
          exact hm5
        case measure => simp [intOf]; omega
      · by_cases hte : ax < t
        · go_wp2_with fail
          refine (pass_ok _ G _ c A s _ last k hma g1 (by omega) (by omega) (by omega) (by omega)).mono ?_
          rintro e w5 ⟨rfl, hm5, ho5⟩

          have hx5 := ho5.blk hx (by omega) (fun he => by have := Hrow.out _ he.symm; omega)
          have x0 : w5.cell? ⟨wr.heap.size, 0, none⟩ = some (.int .i64 kx) := hx5.cell 0
          have x1 : w5.cell? ⟨wr.heap.size, 1, none⟩ = some (.int .i64 ax) := hx5.cell 1
          have x2 : w5.cell? ⟨wr.heap.size, 2, none⟩ = some (.int .i64 sx) := hx5.cell 2
          have y0 : w5.cell? ⟨G, 0, none⟩ = some (.bool (passS s (ax - last)).run) := hm5.blk.cell 0
          have z0 := hm5.blk.frozen 0
          have hn5 := hna.trans (ho5.near hsza (fun q hq => (Hrow.out q hq).1))
          have hnn : (passS s (ax - last)).n = s.n := passS_n _ _
          rcases g6 with rfl | rfl | rfl | rfl
          · go_wp2_with fail
            go_roundw
            case rel =>
              refine ⟨k + 1, A, c, by omega, by go_num, val_int (by rw [Hone2.out (by omega)]), ?_, hn5⟩
              rw [Hone2.out (by omega)]
              show Mem w5 G _ (passS s (ax - last)) (.slice A (passS s (ax - last)).n c)
              rw [hnn]
              exact hm5
            case measure => simp [intOf]; omega
          · go_wp2_with fail
            go_roundw
            case rel =>
              refine ⟨k + 1, A, c, by omega, by go_num, val_int (by rw [Hone2.out (by omega)]), ?_, hn5.setCell (.inl rfl) _⟩
              rw [Hone2.out (by omega)]
              show Mem _ G _ { passS s (ax - last) with run := true } (.slice A (passS s (ax - last)).n c)
              rw [hnn]
              exact hm5.setRun true
            case measure => simp [intOf]; omega
          · go_wp2_with fail
            go_roundw
            case rel =>
              refine ⟨k + 1, A, c, by omega, by go_num, val_int (by rw [Hone2.out (by omega)]), ?_, hn5.setCell (.inl rfl) _⟩
              rw [Hone2.out (by omega)]
              show Mem _ G _ { passS s (ax - last) with run := false } (.slice A (passS s (ax - last)).n c)
              rw [hnn]
              exact hm5.setRun false
            case measure => simp [intOf]; omega
          · have hm5' : Mem w5 G w4.heap.size (passS s (ax - last)) (.slice A (passS s (ax - last)).n c) := by rw [hnn]; exact hm5
            have hg5 := good_pass (t := ax - last) g1 (by omega)
            have hrow5 := hm5'.row
            go_wp2_with fail
            refine (show_ok _ G _ c A _ sx _ k hm5' hg5 (by omega)).mono ?_
            rintro e w6 ⟨A6, c6, rfl, hm6, ho6⟩
            have hn6 := hn5.trans (ho6.near hm5'.le (fun q hq => (hrow5 q hq).1))
            clear hrow5
            go_wp2_with fail
            go_roundw
            case rel =>
              refine ⟨k + 1, A6, c6, by omega, by go_num, val_int (by rw [Hone2.out (by omega)]), ?_, hn6⟩
              rw [Hone2.out (by omega)]
              exact hm6
            case measure => simp [intOf]; omega
        · obtain rfl : ax = t := by omega
          go_wp2_with fail
          refine (pass_ok _ G _ c A s _ last k hma g1 (by omega) (by omega) (by omega) (by omega)).mono ?_
          rintro e w5 ⟨rfl, hm5, ho5⟩

          have hx5 := ho5.blk hx (by omega) (fun he => by have := Hrow.out _ he.symm; omega)
          have x0 : w5.cell? ⟨wr.heap.size, 0, none⟩ = some (.int .i64 kx) := hx5.cell 0
          have x1 : w5.cell? ⟨wr.heap.size, 1, none⟩ = some (.int .i64 ax) := hx5.cell 1
          have x2 : w5.cell? ⟨wr.heap.size, 2, none⟩ = some (.int .i64 sx) := hx5.cell 2
          have y0 : w5.cell? ⟨G, 0, none⟩ = some (.bool (passS s (ax - last)).run) := hm5.blk.cell 0
          have z0 := hm5.blk.frozen 0
          have hn5 := hna.trans (ho5.near hsza (fun q hq => (Hrow.out q hq).1))
          have hnn : (passS s (ax - last)).n = s.n := passS_n _ _
          rcases g6 with rfl | rfl | rfl | rfl
          · go_wp2_with fail
            go_roundw
            case rel =>
              refine ⟨k + 1, A, c, by omega, by go_num, val_int (by rw [Hone2.out (by omega)]), ?_, hn5⟩
              rw [Hone2.out (by omega)]
              show Mem w5 G _ (passS s (ax - last)) (.slice A (passS s (ax - last)).n c)
              rw [hnn]
              exact hm5
            case measure => simp [intOf]; omega
          · go_wp2_with fail
            go_roundw
            case rel =>
              refine ⟨k + 1, A, c, by omega, by go_num, val_int (by rw [Hone2.out (by omega)]), ?_, hn5.setCell (.inl rfl) _⟩
              rw [Hone2.out (by omega)]
              show Mem _ G _ { passS s (ax - last) with run := true } (.slice A (passS s (ax - last)).n c)
              rw [hnn]
              exact hm5.setRun true
            case measure => simp [intOf]; omega
          · go_wp2_with fail
            go_roundw
            case rel =>
              refine ⟨k + 1, A, c, by omega, by go_num, val_int (by rw [Hone2.out (by omega)]), ?_, hn5.setCell (.inl rfl) _⟩
              rw [Hone2.out (by omega)]
              show Mem _ G _ { passS s (ax - last) with run := false } (.slice A (passS s (ax - last)).n c)
              rw [hnn]
              exact hm5.setRun false
            case measure => simp [intOf]; omega
          · have hm5' : Mem w5 G w4.heap.size (passS s (ax - last)) (.slice A (passS s (ax - last)).n c) := by rw [hnn]; exact hm5
            have hg5 := good_pass (t := ax - last) g1 (by omega)
            have hrow5 := hm5'.row
            go_wp2_with fail
            refine (show_ok _ G _ c A _ sx _ k hm5' hg5 (by omega)).mono ?_
            rintro e w6 ⟨A6, c6, rfl, hm6, ho6⟩
            have hn6 := hn5.trans (ho6.near hm5'.le (fun q hq => (hrow5 q hq).1))
            clear hrow5
            go_wp2_with fail
            go_roundw
            case rel =>
              refine ⟨k + 1, A6, c6, by omega, by go_num, val_int (by rw [Hone2.out (by omega)]), ?_, hn6⟩
              rw [Hone2.out (by omega)]
              exact hm6
            case measure => simp [intOf]; omega
    · obtain rfl : k = E.N + 1 := by omega
      rw [ext_rep] at hm
      have hb := hm.blk
      have q0 : wr.cell? ⟨G, 0, none⟩ = some (.bool (rep E t).run) := hb.cell 0
      have q1 : wr.cell? ⟨G, 1, none⟩ = some (.int .i64 (rep E t).tot) := hb.cell 1
      have q2 : wr.cell? ⟨G, 2, none⟩ = some (.int .i64 (rep E t).sl) := hb.cell 2
      have q3 : wr.cell? ⟨G, 3, none⟩ = some (.slice A (rep E t).n c) := hb.cell 3
      have hw := hnear.blk Hb4.out (by omega) (by omega)
      have r0 : wr.cell? ⟨w.heap.size, 0, none⟩ = some (.bool false) := hw.cell 0
      have r1 : wr.cell? ⟨w.heap.size, 1, none⟩ = some (.int .i64 0) := hw.cell 1
      have r2 : wr.cell? ⟨w.heap.size, 2, none⟩ = some (.int .i64 0) := hw.cell 2
      have r3 : wr.cell? ⟨w.heap.size, 3, none⟩ = some (.slice none 0 0) := hw.cell 3
      have u0 := hw.frozen 0
      have u1 := hw.frozen 1
      have u2 := hw.frozen 2
      have u3 := hw.frozen 3
      have hle := hm.le
      go_wp2_with fail
      refine bodyPost_ret (v := .tuple #[.agg #[.bool (rep E t).run, .int .i64 (rep E t).tot, .int .i64 (rep E t).sl, .slice A (rep E t).n c], .int .i64 0]) (by simp [results, Try.results26, go_sem, r0, r1, r2, r3]) rfl ?_
      have hlow : w.heap.size < w4.heap.size := by omega
      refine ⟨A, c, rfl, ownsRow_less (own_setCell_low (own_setCell_low (own_setCell_low (own_setCell_low hm.own (a := ⟨w.heap.size, 0, none⟩) hlow _) (a := ⟨w.heap.size, 1, none⟩) hlow _) (a := ⟨w.heap.size, 2, none⟩) hlow _) (a := ⟨w.heap.size, 3, none⟩) hlow _) (by omega), ?_⟩
      exact ((((hbelD.trans (hnear.below (by omega) (by omega))).setCell (p := ⟨w.heap.size, 0, none⟩) (Nat.le_refl w.heap.size) _).setCell (p := ⟨w.heap.size, 1, none⟩) (Nat.le_refl w.heap.size) _).setCell (p := ⟨w.heap.size, 2, none⟩) (Nat.le_refl w.heap.size) _).setCell (p := ⟨w.heap.size, 3, none⟩) (Nat.le_refl w.heap.size) _
end Go.Proofs.Ytmnbcpinlgklpaa.Clk
