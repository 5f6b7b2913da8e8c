/- (*para).explicit in plain Lean: what stays true from place to place. -/
import Derived.Test.YtdikfldogmbeaaaDoorBdPlain
namespace Go.Proofs.YtdikfldogmbeaaaDoor.Bd
open Go.RowKit Go.Frm

/-- how many of the first m are isolates -/
def cnt (si : Nat → Bool) : Nat → Nat
  | 0 => 0
  | m + 1 => cnt si m + (if si m then 1 else 0)
theorem cnt_congr {si ti : Nat → Bool} : ∀ {m : Nat}, (∀ j, j < m → si j = ti j) → cnt si m = cnt ti m
  | 0, _ => rfl
  | m + 1, h => by rw [cnt, cnt, cnt_congr (fun j hj => h j (by omega)), h m (by omega)]
theorem cnt_upd (si : Nat → Bool) (m : Nat) (b : Bool) : cnt (upd si m b) (m + 1) = cnt si m + (if b then 1 else 0) := by
  rw [cnt, cnt_congr (si := upd si m b) (ti := si) (fun j hj => upd_other _ _ (by omega)), upd_same]
theorem popI_ok (si : Nat → Bool) : ∀ m, 0 < cnt si m → popI si m < m ∧ si (popI si m) = true ∧ cnt si (popI si m) + 1 = cnt si m
  | 0, h => by simp [cnt] at h
  | m + 1, h => by
    unfold popI
    cases hs : si m with
    | true => simp [cnt, hs]
    | false =>
      simp only [cnt, hs] at h
      obtain ⟨h1, h2, h3⟩ := popI_ok si m h
      refine ⟨?_, ?_, ?_⟩
      · simp; omega
      · simpa using h2
      · simp only [cnt, hs]; simpa using h3
theorem popI_top {si : Nat → Bool} {m : Nat} (h : si m = true) : popI si (m + 1) = m := by simp [popI, h]
theorem popI_next {si : Nat → Bool} {m : Nat} (h : si m = false) : popI si (m + 1) = popI si m := by simp [popI, h]

theorem upL_bd (l odd : Int) : l + 1 ≤ upL l odd ∧ upL l odd ≤ l + 2 := by unfold upL; split <;> omega

/-- what stays true -/
structure ExOk (base : Int) (i : Nat) (e : Ex) : Prop where
  m1 : 1 ≤ e.m
  mi : e.m ≤ i + 1
  lv : ∀ j, j < e.m → base ≤ e.sl j ∧ e.sl j ≤ 125
  s0 : e.si 0 = false
  va : e.va = cnt e.si e.m
  oi : e.oi ≤ i
  oe : e.oe ≤ i
theorem ExOk.vi {base : Int} {i : Nat} {e : Ex} (h : ExOk base i e) : e.va ≤ i := by
  have hc : ∀ m, cnt e.si (m + 1) ≤ m := by
    intro m
    induction m with
    | zero => simp [cnt, h.s0]
    | succ m ih =>
      rw [cnt]
      split <;> omega
  have := hc (e.m - 1)
  have h1 := h.m1
  have h2 := h.mi
  rw [show e.m - 1 + 1 = e.m by omega] at this
  rw [h.va]
  omega
/-- something is pushed -/
theorem ExOk.push {base : Int} {i : Nat} {e e' : Ex} (h : ExOk base i e) {x y : Int} {b : Bool} (hx : base ≤ x ∧ x ≤ 125) (h1 : e'.sl = upd e.sl e.m x) (h3 : e'.si = upd e.si e.m b) (h4 : e'.m = e.m + 1)
    (h5 : e'.oi ≤ i + 1) (h6 : e'.oe ≤ i + 1) (h7 : e'.va = e.va + (if b then 1 else 0)) : ExOk base (i + 1) e' := by
  have m1 := h.m1
  refine ⟨by omega, by have := h.mi; omega, fun j hj => ?_, ?_, ?_, h5, h6⟩
  · rw [h1]
    unfold upd
    split
    · exact hx
    · exact h.lv j (by omega)
  · rw [h3, upd_other _ _ (by omega)]; exact h.s0
  · rw [h7, h3, h4, cnt_upd, h.va]
/-- the stack stays -/
theorem ExOk.same {base : Int} {i : Nat} {e e' : Ex} (h : ExOk base i e) (h1 : e'.sl = e.sl) (h3 : e'.si = e.si) (h4 : e'.m = e.m) (h5 : e'.oi ≤ i + 1) (h6 : e'.oe ≤ i + 1) (h7 : e'.va = e.va) : ExOk base (i + 1) e' :=
  ⟨by rw [h4]; exact h.m1, by rw [h4]; have := h.mi; omega, by rw [h1, h4]; exact h.lv, by rw [h3]; exact h.s0, by rw [h7, h3, h4]; exact h.va, h5, h6⟩
/-- something is taken off -/
theorem ExOk.cut {base : Int} {i : Nat} {e e' : Ex} (h : ExOk base i e) (h1 : e'.sl = e.sl) (h3 : e'.si = e.si) (h4 : e'.m ≤ e.m) (h4' : 1 ≤ e'.m) (h5 : e'.oi ≤ i + 1) (h6 : e'.oe ≤ i + 1) (h7 : e'.va = cnt e.si e'.m) : ExOk base (i + 1) e' :=
  ⟨h4', by have := h.mi; omega, fun j hj => by rw [h1]; exact h.lv j (by omega), by rw [h3]; exact h.s0, by rw [h7, h3], h5, h6⟩
theorem popI_pos {si : Nat → Bool} {m : Nat} (h0 : si 0 = false) (h : 0 < cnt si m) : 1 ≤ popI si m := by
  obtain ⟨_, h2, _⟩ := popI_ok si m h
  rcases Nat.eq_zero_or_pos (popI si m) with h1 | h1
  · rw [h1, h0] at h2; cases h2
  · exact h1
theorem ex_ok (C : Nat → Int) (n : Nat) {base : Int} (hb : 0 ≤ base ∧ base ≤ 1) : ∀ i, ExOk base i (ex C n base i)
  | 0 => ⟨Nat.le_refl _, Nat.le_refl _, fun j _ => ⟨Int.le_refl _, by show base ≤ 125; omega⟩, rfl, rfl, Nat.le_refl _, Nat.le_refl _⟩
  | i + 1 => by
    have h := ex_ok C n hb i
    show ExOk base (i + 1) (exStep n base i (ex C n base i))
    generalize ex C n base i = e at h
    have h1 := h.lv (e.m - 1) (by have := h.m1; omega)
    have hu := upL_bd (e.sl (e.m - 1)) (exOdd e.C n i)
    have o1 := h.oi
    have o2 := h.oe
    unfold exStep
    simp only
    split
    · split
      · rename_i hf
        simp only [fitsB, Bool.and_eq_true, decide_eq_true_eq] at hf
        exact h.push (y := 0) (b := false) ⟨by omega, hf.1.1⟩ rfl rfl rfl (by show e.oi ≤ i + 1; omega) (by show e.oe ≤ i + 1; omega) rfl
      · refine h.same rfl rfl rfl (by show e.oi ≤ i + 1; omega) ?_ rfl
        show (if (e.oi == 0) = true then e.oe + 1 else e.oe) ≤ i + 1
        split <;> omega
    · split
      · split
        · rename_i hf
          simp only [fitsB, Bool.and_eq_true, decide_eq_true_eq] at hf
          exact h.push (y := 0) (b := true) ⟨by omega, hf.1.1⟩ rfl rfl rfl (by show e.oi ≤ i + 1; omega) (by show e.oe ≤ i + 1; omega) rfl
        · exact h.same rfl rfl rfl (by show e.oi + 1 ≤ i + 1; omega) (by show e.oe ≤ i + 1; omega) rfl
      · split
        · split
          · exact h.same rfl rfl rfl (by show e.oi - 1 ≤ i + 1; omega) (by show e.oe ≤ i + 1; omega) rfl
          · split
            · rename_i hv
              obtain ⟨p1, p2, p3⟩ := popI_ok e.si e.m (by rw [← h.va]; exact hv)
              refine h.cut rfl rfl (by show popI e.si e.m ≤ e.m; omega) (popI_pos h.s0 (by rw [← h.va]; exact hv)) (by show e.oi ≤ i + 1; omega) (by show 0 ≤ i + 1; omega) ?_
              show e.va - 1 = cnt e.si (popI e.si e.m)
              rw [h.va]
              omega
            · exact h.same rfl rfl rfl (by show e.oi ≤ i + 1; omega) (by show e.oe ≤ i + 1; omega) rfl
        · split
          · split
            · exact h.same rfl rfl rfl (by show e.oi ≤ i + 1; omega) (by show e.oe ≤ i + 1; omega) rfl
            · split
              · exact h.same rfl rfl rfl (by show e.oi ≤ i + 1; omega) (by show e.oe - 1 ≤ i + 1; omega) rfl
              · split
                · rename_i hq
                  simp only [Bool.and_eq_true, Bool.not_eq_true', decide_eq_true_eq] at hq
                  refine h.cut rfl rfl (by show e.m - 1 ≤ e.m; omega) (by show 1 ≤ e.m - 1; omega) (by show e.oi ≤ i + 1; omega) (by show e.oe ≤ i + 1; omega) ?_
                  show e.va = cnt e.si (e.m - 1)
                  have : cnt e.si (e.m - 1 + 1) = cnt e.si (e.m - 1) := by rw [cnt, hq.1]; simp
                  rw [h.va, ← this, show e.m - 1 + 1 = e.m by omega]
                · exact h.same rfl rfl rfl (by show e.oi ≤ i + 1; omega) (by show e.oe ≤ i + 1; omega) rfl
          · split
            · exact h.same rfl rfl rfl (by show e.oi ≤ i + 1; omega) (by show e.oe ≤ i + 1; omega) rfl
            · split
              · exact h.same rfl rfl rfl (by show e.oi ≤ i + 1; omega) (by show e.oe ≤ i + 1; omega) rfl
              · exact h.same rfl rfl rfl (by show e.oi ≤ i + 1; omega) (by show e.oe ≤ i + 1; omega) rfl

section
variable {n i : Nat} {base : Int} {e : Ex}
theorem exs_push (h : embB (e.C i) = true) (hf : fitsB n i e = true) : exStep n base i e = { e with L := upd e.L i (e.sl (e.m - 1)), O := upd e.O i true, sl := upd e.sl e.m (upL (e.sl (e.m - 1)) (exOdd e.C n i)), so := upd e.so e.m (ovClass (e.C i)), si := upd e.si e.m false, m := e.m + 1 } := by
  unfold exStep
  simp only
  rw [if_pos (show _ = true from h), if_pos (show _ = true from hf)]
theorem exs_over (h : embB (e.C i) = true) (hf : fitsB n i e = false) : exStep n base i e = { e with L := upd e.L i (e.sl (e.m - 1)), O := upd e.O i true, oe := if e.oi == 0 then e.oe + 1 else e.oe } := by
  unfold exStep
  simp only
  rw [if_pos (show _ = true from h), if_neg (show ¬ fitsB n i e = true by rw [hf]; decide)]
theorem exs_iso (h : embB (e.C i) = false) (h2 : iso (e.C i) = true) (hf : fitsB n i e = true) : exStep n base i e = { e with L := upd e.L i (e.sl (e.m - 1)), C := ovr e.C i (e.so (e.m - 1)), sl := upd e.sl e.m (upL (e.sl (e.m - 1)) (exOdd e.C n i)), so := upd e.so e.m (-1), si := upd e.si e.m true, m := e.m + 1, va := e.va + 1 } := by
  unfold exStep
  simp only
  rw [if_neg (show ¬ embB (e.C i) = true by rw [h]; decide), if_pos h2, if_pos (show _ = true from hf)]
theorem exs_isoOver (h : embB (e.C i) = false) (h2 : iso (e.C i) = true) (hf : fitsB n i e = false) : exStep n base i e = { e with L := upd e.L i (e.sl (e.m - 1)), C := ovr e.C i (e.so (e.m - 1)), oi := e.oi + 1 } := by
  unfold exStep
  simp only
  rw [if_neg (show ¬ embB (e.C i) = true by rw [h]; decide), if_pos h2, if_neg (show ¬ fitsB n i e = true by rw [hf]; decide)]
theorem exs_pdi1 (h : embB (e.C i) = false) (h2 : iso (e.C i) = false) (h3 : (e.C i == 22) = true) (ho : 0 < e.oi) : exStep n base i e = { e with L := upd (upd e.L i (e.sl (e.m - 1))) i (e.sl (e.m - 1)), C := ovr e.C i (e.so (e.m - 1)), oi := e.oi - 1 } := by
  unfold exStep
  simp only
  rw [if_neg (show ¬ embB (e.C i) = true by rw [h]; decide), if_neg (show ¬ iso (e.C i) = true by rw [h2]; decide), if_pos h3, if_pos ho]
theorem exs_pdi2 (h : embB (e.C i) = false) (h2 : iso (e.C i) = false) (h3 : (e.C i == 22) = true) (ho : e.oi = 0) (hv : 0 < e.va) : exStep n base i e = { e with L := upd (upd e.L i (e.sl (e.m - 1))) i (e.sl (popI e.si e.m - 1)), C := ovr e.C i (e.so (popI e.si e.m - 1)), oe := 0, m := popI e.si e.m, va := e.va - 1 } := by
  unfold exStep
  simp only
  rw [if_neg (show ¬ embB (e.C i) = true by rw [h]; decide), if_neg (show ¬ iso (e.C i) = true by rw [h2]; decide), if_pos h3, if_neg (by omega), if_pos hv]
theorem exs_pdi3 (h : embB (e.C i) = false) (h2 : iso (e.C i) = false) (h3 : (e.C i == 22) = true) (ho : e.oi = 0) (hv : e.va = 0) : exStep n base i e = { e with L := upd (upd e.L i (e.sl (e.m - 1))) i (e.sl (e.m - 1)), C := ovr e.C i (e.so (e.m - 1)) } := by
  unfold exStep
  simp only
  rw [if_neg (show ¬ embB (e.C i) = true by rw [h]; decide), if_neg (show ¬ iso (e.C i) = true by rw [h2]; decide), if_pos h3, if_neg (by omega), if_neg (by omega)]
theorem exs_pdf (h : embB (e.C i) = false) (h2 : iso (e.C i) = false) (h3 : (e.C i == 22) = false) (h4 : (e.C i == 18) = true) : exStep n base i e =
    if 0 < e.oi then { e with L := upd e.L i (e.sl (e.m - 1)), O := upd e.O i true }
    else if 0 < e.oe then { e with L := upd e.L i (e.sl (e.m - 1)), O := upd e.O i true, oe := e.oe - 1 }
    else if (!e.si (e.m - 1) && decide (1 < e.m)) = true then { e with L := upd e.L i (e.sl (e.m - 1)), O := upd e.O i true, m := e.m - 1 }
    else { e with L := upd e.L i (e.sl (e.m - 1)), O := upd e.O i true } := by
  unfold exStep
  simp only
  rw [if_neg (show ¬ embB (e.C i) = true by rw [h]; decide), if_neg (show ¬ iso (e.C i) = true by rw [h2]; decide), if_neg (by rw [h3]; decide), if_pos h4]
theorem exs_bn (h : embB (e.C i) = false) (h2 : iso (e.C i) = false) (h3 : (e.C i == 22) = false) (h4 : (e.C i == 18) = false) (h5 : (e.C i == 9) = true) : exStep n base i e = { e with L := upd e.L i (e.sl (e.m - 1)), O := upd e.O i true } := by
  unfold exStep
  simp only
  rw [if_neg (show ¬ embB (e.C i) = true by rw [h]; decide), if_neg (show ¬ iso (e.C i) = true by rw [h2]; decide), if_neg (by rw [h3]; decide), if_neg (by rw [h4]; decide), if_pos h5]
theorem exs_b (h : embB (e.C i) = false) (h2 : iso (e.C i) = false) (h3 : (e.C i == 22) = false) (h4 : (e.C i == 18) = false) (h5 : (e.C i == 9) = false) (h6 : (e.C i == 10) = true) : exStep n base i e = { e with L := upd (upd e.L i (e.sl (e.m - 1))) i base } := by
  unfold exStep
  simp only
  rw [if_neg (show ¬ embB (e.C i) = true by rw [h]; decide), if_neg (show ¬ iso (e.C i) = true by rw [h2]; decide), if_neg (by rw [h3]; decide), if_neg (by rw [h4]; decide), if_neg (by rw [h5]; decide), if_pos h6]
theorem exs_else (h : embB (e.C i) = false) (h2 : iso (e.C i) = false) (h3 : (e.C i == 22) = false) (h4 : (e.C i == 18) = false) (h5 : (e.C i == 9) = false) (h6 : (e.C i == 10) = false) : exStep n base i e = { e with L := upd e.L i (e.sl (e.m - 1)), C := ovr e.C i (e.so (e.m - 1)) } := by
  unfold exStep
  simp only
  rw [if_neg (show ¬ embB (e.C i) = true by rw [h]; decide), if_neg (show ¬ iso (e.C i) = true by rw [h2]; decide), if_neg (by rw [h3]; decide), if_neg (by rw [h4]; decide), if_neg (by rw [h5]; decide), if_neg (by rw [h6]; decide)]
end
end Go.Proofs.YtdikfldogmbeaaaDoor.Bd
