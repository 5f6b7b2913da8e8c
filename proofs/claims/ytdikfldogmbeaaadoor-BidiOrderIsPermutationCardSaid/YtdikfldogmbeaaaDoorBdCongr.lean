/- Sequences that look alike are dealt with alike. -/
import Derived.Test.YtdikfldogmbeaaaDoorBdLevPlain
import Derived.Test.YtdikfldogmbeaaaDoorBdEnds
import Derived.Test.YtdikfldogmbeaaaDoorBdImplicit
namespace Go.Proofs.YtdikfldogmbeaaaDoor.Bd
open Go.RowKit Go.Frm

theorem bkOne_ok {b : Nat → Nat → Int} {c : Int} {k j cnt : Nat} {s s' : Bk} (h : BkOk s cnt (k + 1)) (e : bkOne b c k j s = some s') : BkOk s' (cnt + 2) (k + 1) := by
  unfold bkOne at e
  split at e
  · split at e
    · cases e
    · rename_i h0 hm
      split at e
      · injection e with e
        subst e
        exact (h.push hm).close
      · injection e with e
        subst e
        exact (h.push hm).mono (by omega) (Nat.le_refl _)
  · split at e
    · injection e with e
      subst e
      exact h.close.mono (by omega) (Nat.le_refl _)
    · injection e with e
      subst e
      exact h.mono (by omega) (Nat.le_refl _)
theorem bkAll_ok {b : Nat → Nat → Int} {c : Int} {k cnt : Nat} {s : Bk} (h : BkOk s cnt (k + 1)) : ∀ j s', bkAll b c k s j = some s' → BkOk s' (cnt + 2 * j) (k + 1)
  | 0, s', e => by injection e with e; subst e; exact h
  | j + 1, s', e => by
    cases hj : bkAll b c k s j with
    | none => rw [bkAll_none hj 1] at e; cases e
    | some s2 =>
      rw [bkAll_next hj] at e
      exact (bkOne_ok (bkAll_ok h j s2 hj) e).mono (by omega) (Nat.le_refl _)
theorem bks_ok {q : Sq} {b : Nat → Nat → Int} {X C : Nat → Int} : ∀ k s, q.bks b X C k = some s → BkOk s (8 * k) k
  | 0, s, e => by injection e with e; subst e; exact BkOk.start
  | k + 1, s, e => by
    cases hk : q.bks b X C k with
    | none => rw [bks_none hk 1] at e; cases e
    | some s2 =>
      rw [bks_next hk] at e
      have h2 := bks_ok k s2 hk
      split at e
      · exact (bkAll_ok (h2.mono (Nat.le_refl _) (Nat.le_succ k)) 4 s e).mono (by omega) (Nat.le_refl _)
      · injection e with e
        subst e
        exact h2.mono (by omega) (Nat.le_succ k)
theorem prs_ok (q : Sq) (b : Nat → Nat → Int) (X C : Nat → Int) : PsOk (q.prs b X C).2 (q.prs b X C).1 q.n := by
  unfold Sq.prs
  cases h : q.bks b X C q.n with
  | none => exact fun i hi => absurd hi (Nat.not_lt_zero i)
  | some s => exact PsOk.srt (show PsOk (Ps.mk s.pa s.pb) s.n q.n from (bks_ok q.n s h).pa) s.n (Nat.le_refl _)

/-- two sequences that look alike -/
structure Twin (q q' : Sq) : Prop where
  n : q.n = q'.n
  lv : q.lv = q'.lv
  bg : q.bg = q'.bg
  en : q.en = q'.en
  inj : ∀ i j, i < q.n → j < q.n → q.A i = q.A j → i = j
  inj' : ∀ i j, i < q.n → j < q.n → q'.A i = q'.A j → i = j
  W : ∀ k, k < q.n → q.W (q.A k) = q'.W (q'.A k)
def Rel (q q' : Sq) (C C' : Nat → Int) : Prop := ∀ k, k < q.n → C (q.A k) = C' (q'.A k)
section
variable {q q' : Sq} (t : Twin q q') {C C' : Nat → Int}
include t
theorem Twin.get (h : Rel q q' C C') (k : Nat) : q.get C k = q'.get C' k := by
  unfold Sq.get
  rw [← t.n]
  split
  · rename_i hk; exact h k hk
  · exact t.en
theorem Twin.pre (h : Rel q q' C C') : ∀ k, k ≤ q.n → q.pre C k = q'.pre C' k
  | 0, _ => t.bg
  | k + 1, hk => h k (by omega)
theorem Twin.set (h : Rel q q' C C') {k : Nat} (hk : k < q.n) (x : Int) : Rel q q' (q.set C k x) (q'.set C' k x) := by
  intro i hi
  unfold Sq.set upd
  by_cases e : i = k
  · subst e; rw [if_pos rfl, if_pos rfl]
  · rw [if_neg (fun e2 => e (t.inj i k hi hk e2)), if_neg (fun e2 => e (t.inj' i k hi hk e2))]
    exact h i hi
theorem Twin.strong (h : Rel q q' C C') : ∀ k, k ≤ q.n → q.strong C k = q'.strong C' k
  | 0, _ => t.bg
  | k + 1, hk => by
    unfold Sq.strong
    rw [h k (by omega), Twin.strong h k (by omega)]
theorem Twin.w1 (h : Rel q q' C C') {k : Nat} (hk : k < q.n) : Rel q q' (q.w1 k C) (q'.w1 k C') := by
  unfold Sq.w1
  rw [t.get h, t.pre h k (by omega)]
  have hW : (decide (0 < k) && (iso (q.W (q.A (k - 1))) || q.W (q.A (k - 1)) == 22)) = (decide (0 < k) && (iso (q'.W (q'.A (k - 1))) || q'.W (q'.A (k - 1)) == 22)) := by rw [t.W (k - 1) (by omega)]
  rw [hW]
  split
  · split
    · exact t.set h hk _
    · exact t.set h hk _
  · exact h
theorem Twin.w2 (h : Rel q q' C C') {k : Nat} (hk : k < q.n) : Rel q q' (q.w2 k C) (q'.w2 k C') := by
  unfold Sq.w2
  rw [t.get h, t.strong h k (by omega)]
  split
  · exact t.set h hk _
  · exact h
theorem Twin.w3 (h : Rel q q' C C') {k : Nat} (hk : k < q.n) : Rel q q' (q.w3 k C) (q'.w3 k C') := by
  unfold Sq.w3
  rw [t.get h]
  split
  · exact t.set h hk _
  · exact h
theorem Twin.w4 (h : Rel q q' C C') {k : Nat} (hk : k + 1 < q.n) : Rel q q' (q.w4 k C) (q'.w4 k C') := by
  unfold Sq.w4
  rw [t.get h, t.get h, t.get h]
  split
  · exact t.set h hk _
  · exact h
theorem Twin.w5 (h : Rel q q' C C') {k : Nat} (hk : k < q.n) : Rel q q' (q.w5 k C) (q'.w5 k C') := by
  unfold Sq.w5
  rw [t.get h, t.strong h k (by omega)]
  split
  · exact t.set h hk _
  · exact h
theorem Twin.e2 (h : Rel q q' C C') {k : Nat} (hk : k < q.n) : Rel q q' (q.e2 k C) (q'.e2 k C') := by
  unfold Sq.e2
  rw [t.get h]
  split
  · exact t.set h hk _
  · exact h
omit t in
theorem rel_rounds {f f' : Nat → (Nat → Int) → Nat → Int} (h : Rel q q' C C') : ∀ K, (∀ k, k < K → ∀ D D', Rel q q' D D' → Rel q q' (f k D) (f' k D')) → Rel q q' (rounds f K C) (rounds f' K C')
  | 0, _ => h
  | K + 1, hf => hf K (Nat.lt_succ_self K) _ _ (rel_rounds h K fun k hk => hf k (by omega))
theorem Twin.upTo (h : Rel q q' C C') (T : Int → Bool) : ∀ r k, q.upTo T C r k = q'.upTo T C' r k
  | 0, _ => rfl
  | r + 1, k => by
    unfold Sq.upTo
    rw [t.get h, Twin.upTo h T r (k + 1)]
theorem Twin.fill (x : Int) : ∀ r k (C C' : Nat → Int), Rel q q' C C' → k + r ≤ q.n → Rel q q' (q.fill x r k C) (q'.fill x r k C')
  | 0, _, _, _, h, _ => h
  | r + 1, k, _, _, h, hk => Twin.fill x r (k + 1) _ _ (t.set h (by omega) x) (by omega)
theorem Twin.ends : ∀ f k (C C' : Nat → Int), Rel q q' C C' → Rel q q' (q.ends f k C) (q'.ends f k C')
  | 0, _, _, _, h => h
  | f + 1, k, C, C', h => by
    unfold Sq.ends
    rw [← t.n]
    split
    · exact h
    · rename_i hk
      rw [t.get h]
      split
      · have hb := upTo_bd q (· == 5) C (q.n - k) k
        simp only
        rw [← t.upTo h, t.pre h k (by omega), t.get h]
        refine Twin.ends f _ _ _ ?_
        split
        · exact t.fill 3 _ _ _ _ h (by omega)
        · exact h
      · exact Twin.ends f (k + 1) _ _ h
theorem Twin.weak (h : Rel q q' C C') : Rel q q' (q.weak C) (q'.weak C') := by
  unfold Sq.weak Sq.endsAll
  rw [← t.n]
  refine rel_rounds ?_ _ fun k hk _ _ h => t.w5 h hk
  refine rel_rounds ?_ _ fun k hk _ _ h => t.e2 h hk
  refine t.ends _ _ _ _ ?_
  refine rel_rounds ?_ _ fun k hk _ _ h => t.w4 h (by omega)
  refine rel_rounds ?_ _ fun k hk _ _ h => t.w3 h hk
  refine rel_rounds ?_ _ fun k hk _ _ h => t.w2 h hk
  exact rel_rounds h _ fun k hk _ _ h => t.w1 h hk
theorem Twin.neutral : ∀ f k (C C' : Nat → Int), Rel q q' C C' → Rel q q' (q.neutral f k C) (q'.neutral f k C')
  | 0, _, _, _, h => h
  | f + 1, k, C, C', h => by
    unfold Sq.neutral
    rw [← t.n]
    split
    · exact h
    · rename_i hk
      rw [t.get h]
      split
      · have hb := upTo_bd q neut C (q.n - k) k
        simp only
        rw [← t.upTo h, t.pre h k (by omega), t.get h, t.lv]
        exact Twin.neutral f _ _ _ (t.fill _ _ _ _ _ h (by omega))
      · exact Twin.neutral f (k + 1) _ _ h
theorem Twin.bks (b : Nat → Nat → Int) {X X' : Nat → Int} (hX : Rel q q' X X') (h : Rel q q' C C') : ∀ k, k ≤ q.n → q.bks b X C k = q'.bks b X' C' k
  | 0, _ => rfl
  | k + 1, hk => by
    show (q.bks b X C k).bind _ = (q'.bks b X' C' k).bind _
    rw [Twin.bks b hX h k (by omega), t.get h, hX k (by omega)]
theorem Twin.has (h : Rel q q' C C') (T : Int → Bool) : ∀ r k, q.has C T r k = q'.has C' T r k
  | 0, _ => rfl
  | r + 1, k => by
    unfold Sq.has
    rw [t.get h, Twin.has h T r (k + 1)]
theorem Twin.before (h : Rel q q' C C') : ∀ k, k ≤ q.n → q.before C k = q'.before C' k
  | 0, _ => t.bg
  | k + 1, hk => by
    unfold Sq.before
    rw [h k (by omega), Twin.before h k (by omega)]
theorem Twin.marks (x : Int) : ∀ r k (C C' : Nat → Int), Rel q q' C C' → k + r ≤ q.n → Rel q q' (q.marks x r k C) (q'.marks x r k C')
  | 0, _, _, _, h, _ => h
  | r + 1, k, _, _, h, hk => by
    unfold Sq.marks
    rw [t.W k (by omega)]
    split
    · exact Twin.marks x r (k + 1) _ _ (t.set h (by omega) x) (by omega)
    · exact h
theorem Twin.mark (x : Int) {k : Nat} (hk : k < q.n) (h : Rel q q' C C') : Rel q q' (q.mark x k C) (q'.mark x k C') := by
  unfold Sq.mark
  rw [← t.n]
  exact t.marks x _ _ _ _ (t.set h hk x) (by omega)
theorem Twin.brOne {a b : Nat} (ha : a < q.n) (hb : b < q.n) (h : Rel q q' C C') : Rel q q' (q.brOne a b C) (q'.brOne a b C') := by
  have hc : q.brClass C a b = q'.brClass C' a b := by
    unfold Sq.brClass
    rw [t.lv, t.has h, t.has h, t.before h a (by omega)]
  unfold Sq.brOne
  rw [hc]
  cases q'.brClass C' a b with
  | none => exact h
  | some x => exact t.mark x hb (t.mark x ha h)
theorem Twin.brS {p : Ps} {N : Nat} (hp : PsOk p N q.n) (h : Rel q q' C C') : ∀ i, i ≤ N → Rel q q' (q.brS p C i) (q'.brS p C' i)
  | 0, _ => h
  | i + 1, hi => t.brOne (hp i (by omega)).1 (hp i (by omega)).2 (Twin.brS hp h i (by omega))
theorem Twin.brackets (b : Nat → Nat → Int) {X X' : Nat → Int} (hX : Rel q q' X X') (h : Rel q q' C C') : Rel q q' (q.brackets b X C) (q'.brackets b X' C') := by
  rw [brackets_prs, brackets_prs]
  have hp := prs_ok q b X C
  have he : q'.prs b X' C' = q.prs b X C := by
    unfold Sq.prs
    rw [← t.n, t.bks b hX h q.n (Nat.le_refl _)]
  rw [he]
  exact t.brS hp h _ (Nat.le_refl _)
theorem Twin.cls (b : Nat → Nat → Int) {X X' : Nat → Int} (hX : Rel q q' X X') (h : Rel q q' C C') : Rel q q' (q.cls b X C) (q'.cls b X' C') := by
  unfold Sq.cls
  rw [← t.n]
  exact t.neutral _ _ _ _ (t.brackets b hX (t.weak h))
theorem Twin.imp {L L' : Nat → Int} (h : Rel q q' C C') (hL : Rel q q' L L') {k : Nat} (hk : k < q.n) : Rel q q' (q.imp C k L) (q'.imp C' k L') := by
  unfold Sq.imp
  rw [t.get h, t.lv, hL k hk]
  have hs : ∀ x, Rel q q' (upd L (q.A k) x) (upd L' (q'.A k) x) := fun x => t.set hL hk x
  split
  · exact hs _
  · split
    · exact hs _
    · split
      · exact hs _
      · exact hL
theorem Twin.lev {L L' : Nat → Int} (h : Rel q q' C C') (hL : Rel q q' L L') : ∀ k, k ≤ q.n → Rel q q' (q.lev C L k) (q'.lev C' L' k)
  | 0, _ => hL
  | k + 1, hk => t.imp h (Twin.lev h hL k (by omega)) (by omega)
end
/-- what is not of the sequence stays -/
theorem lev_off (q : Sq) (C L : Nat → Int) {j : Nat} : ∀ K, (∀ k, k < K → q.A k ≠ j) → q.lev C L K j = L j
  | 0, _ => rfl
  | K + 1, h => by
    rw [lev_succ, ← lev_off q C L K fun k hk => h k (by omega)]
    have hne := h K (Nat.lt_succ_self K)
    unfold Sq.imp
    repeat' split
    all_goals first | rfl | exact upd_other _ _ (fun e => hne e.symm)
end Go.Proofs.YtdikfldogmbeaaaDoor.Bd
