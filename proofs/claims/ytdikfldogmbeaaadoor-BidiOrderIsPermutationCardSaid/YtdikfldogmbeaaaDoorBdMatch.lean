/- The two ends of an isolate have one level. -/
import Derived.Test.YtdikfldogmbeaaaDoorBdLevPlain
namespace Go.Proofs.YtdikfldogmbeaaaDoor.Bd
open Go.RowKit Go.Frm

theorem cnt_lt {si : Nat → Bool} {idx : Nat} (hs : si idx = true) : ∀ m, idx < m → cnt si idx < cnt si m
  | 0, h => absurd h (Nat.not_lt_zero _)
  | m + 1, h => by
    by_cases e : idx = m
    · subst e
      show cnt si idx < cnt si idx + (if si idx then 1 else 0)
      rw [hs]
      simp
    · have := cnt_lt hs m (by omega)
      show cnt si idx < cnt si m + _
      omega
structure Mt (W : Nat → Int) (i : Nat) (e : Ex) (p : Pr) : Prop where
  cons : ∀ j, i ≤ j → e.C j = W j
  num : e.va + e.oi = p.m
  slt : ∀ t, t < p.m → p.S t < i
  ovf : ∀ t, e.va ≤ t → t < p.m → e.L (p.S t) = e.sl (e.m - 1)
  val : ∀ x, x < e.m → e.si x = true → e.L (p.S (cnt e.si x)) = e.sl (x - 1)
  mat : ∀ j, j < i → 0 ≤ p.M j → p.M j < i ∧ e.L (p.M j).toNat = e.L j
  minj : ∀ j j', j < i → j' < i → 0 ≤ p.M j → p.M j = p.M j' → j = j'
section
variable {W : Nat → Int} {n i : Nat} {base : Int} {e : Ex} {p : Pr}
/-- a step that opens and closes no isolate, and leaves what lies below the stack's end -/
theorem Mt.plain (h : Mt W i e p) (ok : ExOk base i e) (hni : iso (W i) = false) (hn22 : (W i == 22) = false) {e' : Ex} {v : Int} (hL : ∀ j, e'.L j = if j = i then v else e.L j) (hC : ∀ j, j ≠ i → e'.C j = e.C j)
    (hva : e'.va = e.va) (hoi : e'.oi = e.oi) (hm : (e'.sl = e.sl ∧ e'.si = e.si ∧ (e'.m = e.m ∨ (e.oi = 0 ∧ e'.m < e.m))) ∨ (e.oi = 0 ∧ ∃ x z, e'.sl = upd e.sl e.m x ∧ e'.si = upd e.si e.m z ∧ z = false ∧ e'.m = e.m + 1)) : Mt W (i + 1) e' (prStep W i p) := by
  have hp : prStep W i p = ⟨upd p.M i (-1), p.S, p.m⟩ := by
    unfold prStep
    rw [hni, if_neg (by decide), hn22]
    rfl
  rw [hp]
  have hLo : ∀ j, j < i → e'.L j = e.L j := fun j hj => by rw [hL, if_neg (by omega)]
  have hm1 := ok.m1
  have hcv := ok.va
  refine ⟨fun j hj => by rw [hC j (by omega)]; exact h.cons j (by omega), by rw [hva, hoi]; exact h.num, fun t ht => by have := h.slt t ht; show p.S t < i + 1; omega, fun t ht1 ht2 => ?_, fun x hx hs => ?_, fun j hj hM => ?_, fun j j' hj hj' hM hMM => ?_⟩
  · rw [hva] at ht1
    have ht2' : t < p.m := ht2
    have hpos : 0 < e.oi := by have := h.num; omega
    show e'.L (p.S t) = _
    rw [hLo _ (h.slt t ht2)]
    rcases hm with ⟨h1, h2, h3 | ⟨h3, _⟩⟩ | ⟨h0, _⟩
    · rw [h1, h3]; exact h.ovf t ht1 ht2
    · omega
    · omega
  · show e'.L (p.S (cnt e'.si x)) = e'.sl (x - 1)
    rcases hm with ⟨h1, h2, h3⟩ | ⟨h0, xx, z, h1, h2, hz, h3⟩
    · have hx' : x < e.m := by rcases h3 with h3 | ⟨_, h3⟩ <;> omega
      rw [h2] at hs ⊢
      have hc := cnt_lt hs e.m hx'
      rw [h1, hLo _ (h.slt _ (by have := h.num; omega))]
      exact h.val x hx' hs
    · have hx' : x < e.m := by
        rcases Nat.lt_or_ge x e.m with h4 | h4
        · exact h4
        · have hxe : x = e.m := by omega
          rw [h2, hxe, upd_same, hz] at hs
          cases hs
      have hcc : cnt e'.si x = cnt e.si x := by
        rw [h2]
        exact cnt_congr (fun j hj => upd_other _ _ (by omega))
      have hs' : e.si x = true := by rw [h2, upd_other _ _ (by omega)] at hs; exact hs
      have hc := cnt_lt hs' e.m hx'
      rw [hcc, h1, upd_other _ _ (by omega), hLo _ (h.slt _ (by have := h.num; omega))]
      exact h.val x hx' hs'
  · have hM' : 0 ≤ upd p.M i (-1) j := hM
    by_cases e1 : j = i
    · rw [e1, upd_same] at hM'
      omega
    · rw [upd_other _ _ e1] at hM'
      obtain ⟨h1, h2⟩ := h.mat j (by omega) hM'
      show upd p.M i (-1) j < _ ∧ e'.L (upd p.M i (-1) j).toNat = _
      rw [upd_other _ _ e1, hLo j (by omega), hLo _ (by omega)]
      exact ⟨by omega, h2⟩
  · have hM' : 0 ≤ upd p.M i (-1) j := hM
    have hMM' : upd p.M i (-1) j = upd p.M i (-1) j' := hMM
    by_cases e1 : j = i
    · rw [e1, upd_same] at hM'
      omega
    · by_cases e2 : j' = i
      · rw [hMM', e2, upd_same] at hM'
        omega
      · rw [upd_other _ _ e1, upd_other _ _ e2] at hMM'
        rw [upd_other _ _ e1] at hM'
        exact h.minj j j' (by omega) (by omega) hM' hMM'
theorem mt_step (h : Mt W i e p) (ok : ExOk base i e) : Mt W (i + 1) (exStep n base i e) (prStep W i p) := by
  have hm1 := ok.m1
  have hcv := ok.va
  have hCi := h.cons i (Nat.le_refl _)
  have hov : ∀ z j, j ≠ i → ovr e.C i z j = e.C j := fun z j hj => by
    unfold ovr
    split
    · exact upd_other _ _ hj
    · rfl
  have hu2 : ∀ (x y : Int) j, upd (upd e.L i x) i y j = if j = i then y else e.L j := fun x y j => by unfold upd; split <;> rfl
  have hL1 : ∀ (x : Int) j, upd e.L i x j = if j = i then x else e.L j := fun x j => rfl
  cases hemb : embB (e.C i) with
  | true =>
    have hni : iso (W i) = false := by
      rw [← hCi]
      unfold embB at hemb
      unfold iso
      simp at hemb ⊢
      omega
    have hn22 : (W i == 22) = false := by
      rw [← hCi]
      unfold embB at hemb
      simp at hemb ⊢
      omega
    cases hf : fitsB n i e with
    | true =>
      rw [exs_push hemb hf]
      have hoi : e.oi = 0 := by
        unfold fitsB at hf
        simp at hf
        exact hf.1.2
      exact h.plain ok hni hn22 (hL1 _) (fun j hj => rfl) rfl rfl (.inr ⟨hoi, _, _, rfl, rfl, rfl, rfl⟩)
    | false =>
      rw [exs_over hemb hf]
      exact h.plain ok hni hn22 (hL1 _) (fun j hj => rfl) rfl rfl (.inl ⟨rfl, rfl, .inl rfl⟩)
  | false =>
    cases hiso : iso (e.C i) with
    | true =>
      have hp : prStep W i p = ⟨upd p.M i (-1), upd p.S p.m i, p.m + 1⟩ := by
        unfold prStep
        rw [← hCi, if_pos hiso]
      have hMat : ∀ (L' : Nat → Int), (∀ j, j < i → L' j = e.L j) → (∀ j, j < i + 1 → 0 ≤ upd p.M i (-1) j → upd p.M i (-1) j < (i + 1 : Nat) ∧ L' (upd p.M i (-1) j).toNat = L' j) := fun L' hL' j hj hM => by
        by_cases e1 : j = i
        · rw [e1, upd_same] at hM
          omega
        · rw [upd_other _ _ e1] at hM ⊢
          obtain ⟨h1, h2⟩ := h.mat j (by omega) hM
          rw [hL' j (by omega), hL' _ (by omega)]
          exact ⟨by omega, h2⟩
      have hInj : ∀ j j', j < i + 1 → j' < i + 1 → 0 ≤ upd p.M i (-1) j → upd p.M i (-1) j = upd p.M i (-1) j' → j = j' := fun j j' hj hj' hM hMM => by
        by_cases e1 : j = i
        · rw [e1, upd_same] at hM
          omega
        · by_cases e2 : j' = i
          · rw [hMM, e2, upd_same] at hM
            omega
          · rw [upd_other _ _ e1, upd_other _ _ e2] at hMM
            rw [upd_other _ _ e1] at hM
            exact h.minj j j' (by omega) (by omega) hM hMM
      have hS : ∀ t, t < p.m + 1 → upd p.S p.m i t < i + 1 := fun t ht => by
        unfold upd
        split
        · omega
        · have := h.slt t (by omega)
          omega
      cases hf : fitsB n i e with
      | true =>
        rw [exs_iso hemb hiso hf, hp]
        have hoi : e.oi = 0 := by
          unfold fitsB at hf
          simp at hf
          exact hf.1.2
        have hnum := h.num
        refine ⟨fun j hj => by show ovr e.C i _ j = _; rw [hov _ j (by omega)]; exact h.cons j (by omega), by show e.va + 1 + e.oi = p.m + 1; omega, hS, fun t ht1 ht2 => ?_, fun x hx hs => ?_, hMat _ (fun j hj => upd_other _ _ (by omega)), hInj⟩
        · exfalso
          have h1 : e.va + 1 ≤ t := ht1
          have h2 : t < p.m + 1 := ht2
          omega
        · show upd e.L i (e.sl (e.m - 1)) (upd p.S p.m i (cnt (upd e.si e.m true) x)) = upd e.sl e.m _ (x - 1)
          have hx' : x < e.m + 1 := hx
          have hcc : cnt (upd e.si e.m true) x = cnt e.si x := cnt_congr (fun j hj => upd_other _ _ (by omega))
          rw [hcc, upd_other e.sl _ (show x - 1 ≠ e.m by omega)]
          by_cases hxe : x = e.m
          · rw [hxe, ← hcv, show e.va = p.m by omega, upd_same, upd_same]
          · have hs' : e.si x = true := by
              have : upd e.si e.m true x = true := hs
              rwa [upd_other _ _ hxe] at this
            have hc := cnt_lt hs' e.m (by omega)
            rw [upd_other p.S _ (show cnt e.si x ≠ p.m by omega), upd_other _ _ (by have := h.slt (cnt e.si x) (by omega); omega)]
            exact h.val x (by omega) hs'
      | false =>
        rw [exs_isoOver hemb hiso hf, hp]
        have hnum := h.num
        refine ⟨fun j hj => by show ovr e.C i _ j = _; rw [hov _ j (by omega)]; exact h.cons j (by omega), by show e.va + (e.oi + 1) = p.m + 1; omega, hS, fun t ht1 ht2 => ?_, fun x hx hs => ?_, hMat _ (fun j hj => upd_other _ _ (by omega)), hInj⟩
        · have h1 : e.va ≤ t := ht1
          have h2 : t < p.m + 1 := ht2
          show upd e.L i (e.sl (e.m - 1)) (upd p.S p.m i t) = e.sl (e.m - 1)
          by_cases ht : t = p.m
          · rw [ht, upd_same, upd_same]
          · rw [upd_other _ _ ht, upd_other _ _ (by have := h.slt t (by omega); omega)]
            exact h.ovf t h1 (by omega)
        · have hx' : x < e.m := hx
          have hs' : e.si x = true := hs
          have hc := cnt_lt hs' e.m hx'
          show upd e.L i (e.sl (e.m - 1)) (upd p.S p.m i (cnt e.si x)) = e.sl (x - 1)
          rw [upd_other p.S _ (show cnt e.si x ≠ p.m by omega), upd_other _ _ (by have := h.slt (cnt e.si x) (by omega); omega)]
          exact h.val x hx' hs'
    | false =>
      cases h22 : (e.C i == 22) with
      | true =>
        have hniW : iso (W i) = false := by rw [← hCi]; exact hiso
        have h22W : (W i == 22) = true := by rw [← hCi]; exact h22
        have hnum := h.num
        by_cases hm0 : p.m = 0
        · -- no isolate is open
          have hp : prStep W i p = ⟨upd p.M i (-1), p.S, p.m⟩ := by
            unfold prStep
            rw [hniW, if_neg (by decide), h22W, hm0]
            rfl
          rw [hp, exs_pdi3 hemb hiso h22 (by omega) (by omega)]
          refine ⟨fun j hj => by show ovr e.C i _ j = _; rw [hov _ j (by omega)]; exact h.cons j (by omega), hnum, fun t ht => absurd ht (by show ¬ t < p.m; omega), fun t _ ht => absurd ht (by show ¬ t < p.m; omega), fun x hx hs => ?_, fun j hj hM => ?_, fun j j' hj hj' hM hMM => ?_⟩
          · have hs' : e.si x = true := hs
            have hx' : x < e.m := hx
            have hc := cnt_lt hs' e.m hx'
            omega
          · have hM' : 0 ≤ upd p.M i (-1) j := hM
            by_cases e1 : j = i
            · rw [e1, upd_same] at hM'
              omega
            · rw [upd_other _ _ e1] at hM'
              obtain ⟨h1, h2⟩ := h.mat j (by omega) hM'
              show upd p.M i (-1) j < _ ∧ upd (upd e.L i _) i _ (upd p.M i (-1) j).toNat = upd (upd e.L i _) i _ j
              rw [upd_other _ _ e1, hu2, hu2, if_neg (by omega), if_neg e1]
              exact ⟨by omega, h2⟩
          · have hM' : 0 ≤ upd p.M i (-1) j := hM
            have hMM' : upd p.M i (-1) j = upd p.M i (-1) j' := hMM
            by_cases e1 : j = i
            · rw [e1, upd_same] at hM'
              omega
            · by_cases e2 : j' = i
              · rw [hMM', e2, upd_same] at hM'
                omega
              · rw [upd_other _ _ e1, upd_other _ _ e2] at hMM'
                rw [upd_other _ _ e1] at hM'
                exact h.minj j j' (by omega) (by omega) hM' hMM'
        · -- the last one is closed
          have hp : prStep W i p = ⟨upd (upd p.M i (-1)) (p.S (p.m - 1)) i, p.S, p.m - 1⟩ := by
            unfold prStep
            rw [hniW, if_neg (by decide), h22W, show decide (0 < p.m) = true by simp; omega]
            rfl
          have hSl := h.slt (p.m - 1) (by omega)
          have hMat : ∀ (L' : Nat → Int), (∀ j, j < i → L' j = e.L j) → L' i = e.L (p.S (p.m - 1)) → (∀ j, j < i + 1 → 0 ≤ upd (upd p.M i (-1)) (p.S (p.m - 1)) (i : Int) j → upd (upd p.M i (-1)) (p.S (p.m - 1)) (i : Int) j < (i + 1 : Nat) ∧ L' (upd (upd p.M i (-1)) (p.S (p.m - 1)) (i : Int) j).toNat = L' j) := fun L' hL' hLi j hj hM => by
            by_cases e0 : j = p.S (p.m - 1)
            · rw [e0, upd_same, Int.toNat_natCast, hLi, hL' _ hSl]
              exact ⟨by omega, rfl⟩
            · rw [upd_other _ _ e0] at hM ⊢
              by_cases e1 : j = i
              · rw [e1, upd_same] at hM
                omega
              · rw [upd_other _ _ e1] at hM ⊢
                obtain ⟨h1, h2⟩ := h.mat j (by omega) hM
                rw [hL' j (by omega), hL' _ (by omega)]
                exact ⟨by omega, h2⟩
          have hInj : ∀ j j', j < i + 1 → j' < i + 1 → 0 ≤ upd (upd p.M i (-1)) (p.S (p.m - 1)) (i : Int) j → upd (upd p.M i (-1)) (p.S (p.m - 1)) (i : Int) j = upd (upd p.M i (-1)) (p.S (p.m - 1)) (i : Int) j' → j = j' := fun j j' hj hj' hM hMM => by
            have hval : ∀ j, j < i + 1 → j ≠ p.S (p.m - 1) → upd (upd p.M i (-1)) (p.S (p.m - 1)) (i : Int) j ≠ (i : Int) := fun j hj h0 => by
              rw [upd_other _ _ h0]
              by_cases e1 : j = i
              · rw [e1, upd_same]; omega
              · rw [upd_other _ _ e1]
                rcases Int.lt_or_le (p.M j) 0 with hn | hn
                · omega
                · have := (h.mat j (by omega) hn).1
                  omega
            by_cases e0 : j = p.S (p.m - 1)
            · by_cases e0' : j' = p.S (p.m - 1)
              · rw [e0, e0']
              · exfalso
                rw [e0, upd_same] at hMM
                exact hval j' hj' e0' hMM.symm
            · by_cases e0' : j' = p.S (p.m - 1)
              · exfalso
                rw [e0', upd_same] at hMM
                exact hval j hj e0 hMM
              · rw [upd_other _ _ e0] at hM hMM
                rw [upd_other _ _ e0'] at hMM
                by_cases e1 : j = i
                · rw [e1, upd_same] at hM
                  omega
                · by_cases e2 : j' = i
                  · rw [hMM, e2, upd_same] at hM
                    omega
                  · rw [upd_other _ _ e1, upd_other _ _ e2] at hMM
                    rw [upd_other _ _ e1] at hM
                    exact h.minj j j' (by omega) (by omega) hM hMM
          by_cases hoi : 0 < e.oi
          · rw [hp, exs_pdi1 hemb hiso h22 hoi]
            refine ⟨fun j hj => by show ovr e.C i _ j = _; rw [hov _ j (by omega)]; exact h.cons j (by omega), by show e.va + (e.oi - 1) = p.m - 1; omega, fun t ht => by have ht' : t < p.m - 1 := ht; have := h.slt t (by omega); show p.S t < i + 1; omega, fun t ht1 ht2 => ?_, fun x hx hs => ?_,
              hMat _ (fun j hj => (hu2 _ _ j).trans (if_neg (by omega))) ((hu2 _ _ i).trans ((if_pos rfl).trans (h.ovf (p.m - 1) (by omega) (by omega)).symm)), hInj⟩
            · have h1 : e.va ≤ t := ht1
              have h2 : t < p.m - 1 := ht2
              show upd (upd e.L i _) i _ (p.S t) = e.sl (e.m - 1)
              rw [hu2, if_neg (by have := h.slt t (by omega); omega)]
              exact h.ovf t h1 (by omega)
            · have hx' : x < e.m := hx
              have hs' : e.si x = true := hs
              have hc := cnt_lt hs' e.m hx'
              show upd (upd e.L i _) i _ (p.S (cnt e.si x)) = e.sl (x - 1)
              rw [hu2, if_neg (by have := h.slt (cnt e.si x) (by omega); omega)]
              exact h.val x hx' hs'
          · have hva : 0 < e.va := by omega
            rw [hp, exs_pdi2 hemb hiso h22 (by omega) hva]
            obtain ⟨g1, g2, g3⟩ := popI_ok e.si e.m (by omega)
            have hlv := h.val _ g1 g2
            rw [show cnt e.si (popI e.si e.m) = p.m - 1 by omega] at hlv
            refine ⟨fun j hj => by show ovr e.C i _ j = _; rw [hov _ j (by omega)]; exact h.cons j (by omega), by show e.va - 1 + e.oi = p.m - 1; omega, fun t ht => by have ht' : t < p.m - 1 := ht; have := h.slt t (by omega); show p.S t < i + 1; omega, fun t ht1 ht2 => ?_, fun x hx hs => ?_,
              hMat _ (fun j hj => (hu2 _ _ j).trans (if_neg (by omega))) ((hu2 _ _ i).trans ((if_pos rfl).trans hlv.symm)), hInj⟩
            · exfalso
              have h1 : e.va - 1 ≤ t := ht1
              have h2 : t < p.m - 1 := ht2
              omega
            · have hx' : x < popI e.si e.m := hx
              have hs' : e.si x = true := hs
              have hc := cnt_lt hs' e.m (by omega)
              show upd (upd e.L i _) i _ (p.S (cnt e.si x)) = e.sl (x - 1)
              rw [hu2, if_neg (by have := h.slt (cnt e.si x) (by omega); omega)]
              exact h.val x (by omega) hs'
      | false =>
        have hni : iso (W i) = false := by rw [← hCi]; exact hiso
        have hn22 : (W i == 22) = false := by rw [← hCi]; exact h22
        cases h18 : (e.C i == 18) with
        | true =>
          rw [exs_pdf hemb hiso h22 h18]
          split
          · exact h.plain ok hni hn22 (hL1 _) (fun j hj => rfl) rfl rfl (.inl ⟨rfl, rfl, .inl rfl⟩)
          · rename_i hoi
            split
            · exact h.plain ok hni hn22 (hL1 _) (fun j hj => rfl) rfl rfl (.inl ⟨rfl, rfl, .inl rfl⟩)
            · split
              · exact h.plain ok hni hn22 (hL1 _) (fun j hj => rfl) rfl rfl (.inl ⟨rfl, rfl, .inr ⟨by omega, by show e.m - 1 < e.m; omega⟩⟩)
              · exact h.plain ok hni hn22 (hL1 _) (fun j hj => rfl) rfl rfl (.inl ⟨rfl, rfl, .inl rfl⟩)
        | false =>
          cases h9 : (e.C i == 9) with
          | true =>
            rw [exs_bn hemb hiso h22 h18 h9]
            exact h.plain ok hni hn22 (hL1 _) (fun j hj => rfl) rfl rfl (.inl ⟨rfl, rfl, .inl rfl⟩)
          | false =>
            cases h10 : (e.C i == 10) with
            | true =>
              rw [exs_b hemb hiso h22 h18 h9 h10]
              exact h.plain ok hni hn22 (hu2 _ _) (fun j hj => rfl) rfl rfl (.inl ⟨rfl, rfl, .inl rfl⟩)
            | false =>
              rw [exs_else hemb hiso h22 h18 h9 h10]
              exact h.plain ok hni hn22 (hL1 _) (fun j hj => hov _ j hj) rfl rfl (.inl ⟨rfl, rfl, .inl rfl⟩)
end
theorem mt_ok (W : Nat → Int) (n : Nat) {base : Int} (hb : 0 ≤ base ∧ base ≤ 1) : ∀ i, Mt W i (ex W n base i) (pr W i)
  | 0 => ⟨fun _ _ => rfl, rfl, fun t ht => absurd ht (Nat.not_lt_zero t), fun t _ ht => absurd ht (Nat.not_lt_zero t), fun x _ hs => (by cases hs), fun j hj => absurd hj (Nat.not_lt_zero j), fun j _ hj => absurd hj (Nat.not_lt_zero j)⟩
  | i + 1 => mt_step (mt_ok W n hb i) (ex_ok W n hb i)
end Go.Proofs.YtdikfldogmbeaaaDoor.Bd
