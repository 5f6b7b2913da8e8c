/- Parts behind parts: what a paragraph costs behind a forced break. No program in sight but the numbers of its types. -/
import Derived.Test.YtmjhmcjlbcadaaaLnNwPlain
namespace Go.Proofs.Ytmjhmcjlbcadaaa.Ln
open Go.RowKit Go.Frm

def cat (P Q : Pts) : Pts where
  n := P.n + Q.n
  kd i := if i < P.n then P.kd i else Q.kd (i - P.n)
  wd i := if i < P.n then P.wd i else Q.wd (i - P.n)
  st i := if i < P.n then P.st i else Q.st (i - P.n)
  sh i := if i < P.n then P.sh i else Q.sh (i - P.n)
  co i := if i < P.n then P.co i else Q.co (i - P.n)
  fl i := if i < P.n then P.fl i else Q.fl (i - P.n)
def shL (d : Nat) (x : Lin) : Lin := { x with fr := d + x.fr, en := d + x.en }
section
variable {P Q : Pts}
theorem cat_n : (cat P Q).n = P.n + Q.n := rfl
theorem kd_l {i : Nat} (h : i < P.n) : (cat P Q).kd i = P.kd i := if_pos h
theorem wd_l {i : Nat} (h : i < P.n) : (cat P Q).wd i = P.wd i := if_pos h
theorem st_l {i : Nat} (h : i < P.n) : (cat P Q).st i = P.st i := if_pos h
theorem sh_l {i : Nat} (h : i < P.n) : (cat P Q).sh i = P.sh i := if_pos h
theorem co_l {i : Nat} (h : i < P.n) : (cat P Q).co i = P.co i := if_pos h
theorem fl_l {i : Nat} (h : i < P.n) : (cat P Q).fl i = P.fl i := if_pos h
theorem add_not (d j : Nat) : ¬ d + j < d := by omega
theorem kd_r (j : Nat) : (cat P Q).kd (P.n + j) = Q.kd j := by show (if _ then _ else _) = _; rw [if_neg (add_not _ _), Nat.add_sub_cancel_left]
theorem wd_r (j : Nat) : (cat P Q).wd (P.n + j) = Q.wd j := by show (if _ then _ else _) = _; rw [if_neg (add_not _ _), Nat.add_sub_cancel_left]
theorem st_r (j : Nat) : (cat P Q).st (P.n + j) = Q.st j := by show (if _ then _ else _) = _; rw [if_neg (add_not _ _), Nat.add_sub_cancel_left]
theorem sh_r (j : Nat) : (cat P Q).sh (P.n + j) = Q.sh j := by show (if _ then _ else _) = _; rw [if_neg (add_not _ _), Nat.add_sub_cancel_left]
theorem co_r (j : Nat) : (cat P Q).co (P.n + j) = Q.co j := by show (if _ then _ else _) = _; rw [if_neg (add_not _ _), Nat.add_sub_cancel_left]
theorem fl_r (j : Nat) : (cat P Q).fl (P.n + j) = Q.fl j := by show (if _ then _ else _) = _; rw [if_neg (add_not _ _), Nat.add_sub_cancel_left]
theorem cat_ok (hp : VP P) (hq : VP Q) (hn : P.n + Q.n ≤ 1000) : VP (cat P Q) := by
  have key : ∀ i, i < (cat P Q).n → i < P.n ∨ ∃ j, j < Q.n ∧ i = P.n + j := fun i hi => by
    rw [cat_n] at hi
    rcases Nat.lt_or_ge i P.n with h | h
    · exact .inl h
    · exact .inr ⟨i - P.n, by omega, by omega⟩
  refine ⟨hn, fun i hi => ?_, fun i hi => ?_, fun i hi => ?_, fun i hi => ?_, fun i hi => ?_, fun i hi h => ?_, fun i hi h => ?_⟩ <;> rcases key i hi with hl | ⟨j, hj, rfl⟩
  · rw [kd_l hl]; exact hp.kind i hl
  · rw [kd_r]; exact hq.kind j hj
  · rw [wd_l hl]; exact hp.wide i hl
  · rw [wd_r]; exact hq.wide j hj
  · rw [st_l hl]; exact hp.str i hl
  · rw [st_r]; exact hq.str j hj
  · rw [sh_l hl, wd_l hl]; exact hp.shr i hl
  · rw [sh_r, wd_r]; exact hq.shr j hj
  · rw [co_l hl]; exact hp.cost i hl
  · rw [co_r]; exact hq.cost j hj
  · rw [kd_l hl] at h; rw [st_l hl, sh_l hl]; exact hp.glue i hl h
  · rw [kd_r] at h; rw [st_r, sh_r]; exact hq.glue j hj h
  · rw [kd_l hl] at h; rw [co_l hl, fl_l hl]; exact hp.pen i hl h
  · rw [kd_r] at h; rw [co_r, fl_r]; exact hq.pen j hj h

/-! ### behind -/
theorem box_r (j : Nat) : box (cat P Q) (P.n + j) = box Q j := by unfold box; rw [kd_r, co_r]
theorem sW_l : ∀ i, i ≤ P.n → sW (cat P Q) i = sW P i
  | 0, _ => rfl
  | i + 1, h => by
    show sW (cat P Q) i + _ = sW P i + _
    rw [sW_l i (by omega), kd_l (by omega), wd_l (by omega)]
theorem sG_l : ∀ i, i ≤ P.n → sG (cat P Q) i = sG P i
  | 0, _ => rfl
  | i + 1, h => by
    show sG (cat P Q) i + _ = sG P i + _
    rw [sG_l i (by omega), st_l (by omega)]
theorem sY_l : ∀ i, i ≤ P.n → sY (cat P Q) i = sY P i
  | 0, _ => rfl
  | i + 1, h => by
    show sY (cat P Q) i + _ = sY P i + _
    rw [sY_l i (by omega), sh_l (by omega)]
theorem sW_r : ∀ j, sW (cat P Q) (P.n + j) = sW P P.n + sW Q j
  | 0 => by rw [Nat.add_zero, sW_l _ (Nat.le_refl _)]; show _ = _ + (0 : Int); omega
  | j + 1 => by
    show sW (cat P Q) (P.n + j) + (if (cat P Q).kd (P.n + j) = 2 then 0 else (cat P Q).wd (P.n + j)) = sW P P.n + (sW Q j + _)
    rw [sW_r j, kd_r, wd_r]
    omega
theorem sG_r : ∀ j, sG (cat P Q) (P.n + j) = sG P P.n + sG Q j
  | 0 => by rw [Nat.add_zero, sG_l _ (Nat.le_refl _)]; show _ = _ + (0 : Int); omega
  | j + 1 => by
    show sG (cat P Q) (P.n + j) + (cat P Q).st (P.n + j) = sG P P.n + (sG Q j + _)
    rw [sG_r j, st_r]
    omega
theorem sY_r : ∀ j, sY (cat P Q) (P.n + j) = sY P P.n + sY Q j
  | 0 => by rw [Nat.add_zero, sY_l _ (Nat.le_refl _)]; show _ = _ + (0 : Int); omega
  | j + 1 => by
    show sY (cat P Q) (P.n + j) + (cat P Q).sh (P.n + j) = sY P P.n + (sY Q j + _)
    rw [sY_r j, sh_r]
    omega
theorem bg_r {j : Nat} (hj : j ≤ Q.n) : bg (cat P Q) (P.n + j) = P.n + bg Q j := by
  obtain ⟨d, hd⟩ : ∃ d, Q.n - j = d := ⟨_, rfl⟩
  induction d generalizing j with
  | zero =>
    obtain rfl : j = Q.n := by omega
    rw [bg_end Q]
    exact bg_end (cat P Q)
  | succ d ih =>
    rw [bg_step (cat P Q) (show P.n + j < P.n + Q.n by omega), bg_step Q (show j < Q.n by omega), box_r, show P.n + j + 1 = P.n + (j + 1) by omega, ih (by omega) (by omega)]
    split <;> rfl
theorem beq_add (d a b : Nat) : (d + a == d + b) = (a == b) := by
  by_cases h : a = b
  · simp [h]
  · rw [beq_eq_false_iff_ne.2 h, beq_eq_false_iff_ne.2 (by omega)]
theorem must_r (j : Nat) : must (cat P Q) (P.n + j) = must Q j := by
  unfold must
  rw [kd_r, co_r, cat_n, beq_add]
theorem may_r (h : Closed P) (j : Nat) : may (cat P Q) (P.n + j) = may Q j := by
  unfold may
  rw [kd_r, co_r, cat_n]
  by_cases hj : j = Q.n
  · rw [if_pos (by omega), if_pos hj]
  · rw [if_neg (by omega), if_neg hj]
    have hpos := h.pos
    have : (decide (0 < P.n + j) && (cat P Q).kd (P.n + j - 1) == 0) = (decide (0 < j) && Q.kd (j - 1) == 0) := by
      rcases Nat.eq_zero_or_pos j with h0 | h0
      · subst h0
        rw [Nat.add_zero, kd_l (show P.n - 1 < P.n by omega), h.kd]
        simp
      · rw [show P.n + j - 1 = P.n + (j - 1) by omega, kd_r, decide_eq_true (show 0 < P.n + j by omega), decide_eq_true h0]
    rw [this]
theorem after_r {j : Nat} (hj : j ≤ Q.n) : after (cat P Q) (P.n + j) = P.n + after Q j := by
  unfold after
  rw [cat_n]
  by_cases h : j = Q.n
  · rw [if_pos (by omega), if_pos h]
  · rw [if_neg (by omega), if_neg h, show P.n + j + 1 = P.n + (j + 1) by omega, bg_r (by omega)]
theorem last_r {j : Nat} (hj : j ≤ Q.n) : last (cat P Q) (P.n + j) = last Q j := by
  unfold last
  rw [after_r hj, cat_n, beq_add]
theorem flag_r (j : Nat) : flag (cat P Q) (P.n + j) = flag Q j := by
  unfold flag
  rw [fl_r, cat_n]
  congr 1
  by_cases h : j < Q.n
  · rw [decide_eq_true h, decide_eq_true (show P.n + j < P.n + Q.n by omega)]
  · rw [decide_eq_false h, decide_eq_false (by omega)]
theorem added_r (j : Nat) : added (cat P Q) (P.n + j) = added Q j := by
  unfold added
  rw [kd_r, wd_r, cat_n]
  by_cases h : j < Q.n
  · simp [h]
  · simp [h]
theorem line_r (ws : List Int) (fr en k : Nat) : line (cat P Q) ws (P.n + fr) (P.n + en) k = shL P.n (line Q ws fr en k) := by
  unfold line shL
  rw [show min (P.n + fr) (P.n + en) = P.n + min fr en by omega, sW_r, sW_r, sG_r, sG_r, sY_r, sY_r, added_r]
  simp only [Lin.mk.injEq, true_and, and_true]
  refine ⟨by omega, by omega, by omega⟩
theorem bare_r (x : Lin) : bareFull (cat P Q) (shL P.n x) = bareFull Q x := by
  unfold bareFull
  show decide (x.nat - added (cat P Q) (P.n + x.en) - x.shr > x.wid) = _
  rw [added_r]
theorem push_r (d : Nat) (x : Lin) (L : List Lin) : pushL (shL d x) (L.map (shL d)) = (pushL x L).map (shL d) := by
  unfold pushL
  rw [show tooFull (shL d x) = tooFull x from rfl, List.isEmpty_map]
  split
  · rw [List.map_append]; rfl
  · rfl
theorem endsL_r (h : Closed P) (ws : List Int) (fr k : Nat) : ∀ (f q : Nat) (L : List Lin), endsL (cat P Q) ws (P.n + fr) k f (P.n + q) (L.map (shL P.n)) = (endsL Q ws fr k f q L).map (shL P.n)
  | 0, _, _ => rfl
  | f + 1, q, L => by
    have hd : decide (P.n + fr < P.n + q) = decide (fr < q) := by
      by_cases h : fr < q
      · rw [decide_eq_true h, decide_eq_true (by omega)]
      · rw [decide_eq_false h, decide_eq_false (by omega)]
    unfold endsL
    rw [may_r h, must_r, hd, line_r, bare_r, push_r, show P.n + q + 1 = P.n + (q + 1) by omega, endsL_r h ws fr k f, endsL_r h ws fr k f]
    split
    · split
      · rfl
      · split <;> rfl
    · split <;> rfl
theorem ends_r (h : Closed P) (ws : List Int) (fr k : Nat) : ends (cat P Q) ws (P.n + fr) k = (ends Q ws fr k).map (shL P.n) := by
  unfold ends
  rw [cat_n, show P.n + Q.n + 1 - (P.n + fr) = Q.n + 1 - fr by omega]
  exact endsL_r h ws fr k _ fr []
theorem cost_r {x : Lin} (hx : x.en ≤ Q.n) : cost (cat P Q) (shL P.n x) = cost Q x := by
  have h0 : cost0 (cat P Q) (shL P.n x) = cost0 Q x := by
    unfold cost0
    rw [show (shL P.n x).en = P.n + x.en from rfl, must_r, last_r hx]
    rfl
  unfold cost
  rw [h0, show (shL P.n x).en = P.n + x.en from rfl, kd_r, co_r, cat_n]
  by_cases h : x.en < Q.n
  · simp [h]
  · simp [h]

/-! ### how plans answer each other -/
structure Rel (C N : Int) (a a' : Pl) : Prop where
  en : a.en < 0 ↔ a'.en < 0
  on : 0 ≤ a.en → a'.co = a.co + C ∧ a'.li = a.li + N
theorem fold_rel {P' : Pts} {D : Int} {fl fl' : Bool} {rec rec' : Lin → Pl} {C N : Int} {g : Lin → Lin} : ∀ (E : List Lin) (a a' : Pl), (∀ x ∈ E, tot P' D fl' rec' (g x) = tot P D fl rec x + C ∧ num P' rec' (g x) = num P rec x + N) → Rel C N a a' →
    Rel C N (E.foldl (stepP P D fl rec) a) ((E.map g).foldl (stepP P' D fl' rec') a')
  | [], _, _, _, h => h
  | x :: E, a, a', hx, h => by
    rw [List.map_cons, List.foldl_cons, List.foldl_cons]
    refine fold_rel E _ _ (fun y hy => hx y (by simp [hy])) ?_
    obtain ⟨h1, h2⟩ := hx x (by simp)
    rw [stepP_eq, stepP_eq, h1, h2]
    by_cases ha : a.en < 0
    · rw [if_pos (.inl ha), if_pos (.inl (h.en.1 ha))]
      refine ⟨?_, fun _ => ⟨rfl, rfl⟩⟩
      show ((x.en : Int) < 0) ↔ (((g x).en : Int) < 0)
      omega
    · have ha' : ¬ a'.en < 0 := fun hh => ha (h.en.2 hh)
      obtain ⟨e1, e2⟩ := h.on (by omega)
      rw [e1, e2]
      by_cases hc : tot P D fl rec x < a.co ∨ (tot P D fl rec x = a.co ∧ num P rec x ≤ a.li)
      · rw [if_pos (.inr hc), if_pos (.inr (by omega))]
        refine ⟨?_, fun _ => ⟨rfl, rfl⟩⟩
        show ((x.en : Int) < 0) ↔ (((g x).en : Int) < 0)
        omega
      · rw [if_neg (fun hh => by rcases hh with hh | hh; exact ha hh; exact hc hh), if_neg (fun hh => by rcases hh with hh | hh; exact ha' hh; exact hc (by omega))]
        exact h
theorem B_fold (P : Pts) (ws : List Int) (D : Int) {fr : Nat} (k : Nat) (fl : Bool) (h : fr ≤ P.n) : B P ws D fr k fl = (ends P ws fr k).foldl (stepP P D fl (recB P ws D k)) ⟨-1, 0, 0⟩ := B_unfold P ws D k fl h
theorem rel_start (C N : Int) : Rel C N ⟨-1, 0, 0⟩ ⟨-1, 0, 0⟩ := ⟨Iff.rfl, fun h => absurd h (by decide)⟩
theorem B_pos (P : Pts) (ws : List Int) (D : Int) {fr : Nat} (k : Nat) (fl : Bool) (h : fr ≤ P.n) : 0 ≤ (B P ws D fr k fl).en := by
  obtain ⟨x, hx⟩ := (B_best P ws D k fl h).1
  rw [hx.eq]
  show (0 : Int) ≤ (x.en : Int)
  omega
theorem rel_B {P' : Pts} {ws : List Int} {D : Int} {fr fr' k k' : Nat} {fl fl' : Bool} {C N : Int} {g : Lin → Lin} (h : fr ≤ P.n) (h' : fr' ≤ P'.n) (he : ends P' ws fr' k' = (ends P ws fr k).map g)
    (hx : ∀ x ∈ ends P ws fr k, tot P' D fl' (recB P' ws D k') (g x) = tot P D fl (recB P ws D k) x + C ∧ num P' (recB P' ws D k') (g x) = num P (recB P ws D k) x + N) :
    (B P' ws D fr' k' fl').co = (B P ws D fr k fl).co + C ∧ (B P' ws D fr' k' fl').li = (B P ws D fr k fl).li + N := by
  have hr := fold_rel (ends P ws fr k) ⟨-1, 0, 0⟩ ⟨-1, 0, 0⟩ hx (rel_start C N)
  rw [← B_fold P ws D k fl h, ← he, ← B_fold P' ws D k' fl' h'] at hr
  exact hr.on (B_pos P ws D k fl h)
theorem B_r (h : Closed P) (ws : List Int) (D : Int) : ∀ (m fr k : Nat) (fl : Bool), fr ≤ Q.n → Q.n + 1 - fr = m → (B (cat P Q) ws D (P.n + fr) k fl).co = (B Q ws D fr k fl).co ∧ (B (cat P Q) ws D (P.n + fr) k fl).li = (B Q ws D fr k fl).li := by
  intro m
  induction m using Nat.strongRecOn with
  | _ m ih =>
    intro fr k fl h1 h2
    have := rel_B (P := Q) (P' := cat P Q) (ws := ws) (D := D) (fr := fr) (fr' := P.n + fr) (k := k) (k' := k) (fl := fl) (fl' := fl) (C := 0) (N := 0) (g := shL P.n) h1 (by rw [cat_n]; omega) (ends_r h ws fr k) (fun x hx => by
      have he := ends_mem h1 hx
      unfold tot num
      rw [cost_r he.le, show (shL P.n x).en = P.n + x.en from rfl, flag_r, last_r he.le]
      cases hl : last Q x.en with
      | true => simp
      | false =>
        have ha := after_lt he.le hl
        have hg := he.ge
        have hi := ih (Q.n + 1 - after Q x.en) (by omega) (after Q x.en) (min (k + 1) (ws.length - 1)) (flag Q x.en) (by omega) rfl
        have hrec : recB (cat P Q) ws D k (shL P.n x) = B (cat P Q) ws D (P.n + after Q x.en) (min (k + 1) (ws.length - 1)) (flag Q x.en) := by
          show B (cat P Q) ws D (after (cat P Q) (P.n + x.en)) _ (flag (cat P Q) (P.n + x.en)) = _
          rw [after_r he.le, flag_r]
        have hrec2 : recB Q ws D k x = B Q ws D (after Q x.en) (min (k + 1) (ws.length - 1)) (flag Q x.en) := rfl
        rw [hrec, hrec2, hi.1, hi.2]
        simp)
    omega

/-! ### ahead -/
theorem must_l {i : Nat} (h : i < P.n) : must (cat P Q) i = must P i := by
  unfold must
  rw [kd_l h, co_l h, cat_n, beq_eq_false_iff_ne.2 (show i ≠ P.n by omega), beq_eq_false_iff_ne.2 (show i ≠ P.n + Q.n by omega)]
theorem may_l {i : Nat} (h : i < P.n) : may (cat P Q) i = may P i := by
  unfold may
  rw [kd_l h, co_l h, cat_n, if_neg (show i ≠ P.n by omega), if_neg (show i ≠ P.n + Q.n by omega), kd_l (show i - 1 < P.n by omega)]
theorem bg_l (hc : Closed P) {i : Nat} (h : i < P.n) : bg (cat P Q) i = bg P i := by
  obtain ⟨d, hd⟩ : ∃ d, P.n - 1 - i = d := ⟨_, rfl⟩
  have hb : ∀ j, j < P.n → box (cat P Q) j = box P j := fun j hj => by unfold box; rw [kd_l hj, co_l hj]
  induction d generalizing i with
  | zero =>
    have e : i = P.n - 1 := by omega
    have hb1 : box P i = true := by unfold box; rw [e, hc.kd, hc.co]; decide
    rw [bg_step (cat P Q) (show i < P.n + Q.n by omega), bg_step P h, hb i h, if_pos hb1, if_pos hb1]
  | succ d ih =>
    rw [bg_step (cat P Q) (show i < P.n + Q.n by omega), bg_step P h, hb i h, ih (by omega) (by omega)]
theorem after_l (hc : Closed P) {i : Nat} (h : i + 1 < P.n) : after (cat P Q) i = after P i := by
  unfold after
  rw [cat_n, if_neg (show i ≠ P.n by omega), if_neg (show i ≠ P.n + Q.n by omega), bg_l hc h]
theorem flag_l {i : Nat} (h : i < P.n) : flag (cat P Q) i = flag P i := by
  unfold flag
  rw [fl_l h, cat_n, decide_eq_true h, decide_eq_true (show i < P.n + Q.n by omega)]
theorem added_l {i : Nat} (h : i < P.n) : added (cat P Q) i = added P i := by
  unfold added
  rw [kd_l h, wd_l h, cat_n]
  simp [h, show i < P.n + Q.n by omega]
theorem line_l (ws : List Int) {fr en : Nat} (k : Nat) (h : en < P.n) : line (cat P Q) ws fr en k = line P ws fr en k := by
  unfold line
  rw [sW_l _ (show en ≤ P.n by omega), sW_l _ (show min fr en ≤ P.n by omega), sG_l _ (show en ≤ P.n by omega), sG_l _ (show min fr en ≤ P.n by omega), sY_l _ (show en ≤ P.n by omega), sY_l _ (show min fr en ≤ P.n by omega), added_l h]
theorem endsL_l (hc : Closed P) (ws : List Int) (fr k : Nat) : ∀ (f f' q : Nat) (L : List Lin), q < P.n → P.n ≤ q + f → P.n ≤ q + f' → endsL (cat P Q) ws fr k f' q L = endsL P ws fr k f q L
  | 0, _, q, _, h1, h2, _ => by omega
  | _ + 1, 0, q, _, h1, _, h3 => by omega
  | f + 1, f' + 1, q, L, h1, h2, h3 => by
    have hb : bareFull (cat P Q) (line P ws fr q k) = bareFull P (line P ws fr q k) := by
      unfold bareFull
      rw [show (line P ws fr q k).en = q from rfl, added_l h1]
    have hm : must P q = false → q + 1 < P.n := fun hm => by
      rcases Nat.lt_or_ge (q + 1) P.n with h | h
      · exact h
      · have := hc.must
        rw [show P.n - 1 = q by omega, hm] at this
        cases this
    unfold endsL
    rw [may_l h1, must_l h1, line_l ws k h1, hb]
    cases hq : must P q with
    | true => simp
    | false =>
      rw [endsL_l hc ws fr k f f' (q + 1) _ (hm hq) (by omega) (by omega), endsL_l hc ws fr k f f' (q + 1) _ (hm hq) (by omega) (by omega)]
theorem ends_l (hc : Closed P) (ws : List Int) {fr : Nat} (k : Nat) (h : fr < P.n) : ends (cat P Q) ws fr k = ends P ws fr k := by
  unfold ends
  rw [cat_n]
  exact endsL_l hc ws fr k _ _ fr [] h (by omega) (by omega)
theorem last_at (hc : Closed P) {i : Nat} (h : i < P.n) : last P i = decide (i = P.n - 1) := by
  have hp := hc.pos
  unfold last after
  rw [if_neg (by omega)]
  by_cases e : i = P.n - 1
  · rw [show i + 1 = P.n by omega, bg_end, decide_eq_true e]
    simp
  · have := hc.bg (show i + 1 < P.n by omega)
    rw [decide_eq_false e]
    exact beq_eq_false_iff_ne.2 (by omega)
theorem cost_l (hc : Closed P) (hq : Closed Q) {x : Lin} (hx : x.en < P.n) : cost (cat P Q) x = cost P x := by
  have hl : must P x.en = false → last (cat P Q) x.en = last P x.en := fun hm => by
    have hne : x.en + 1 < P.n := by
      rcases Nat.lt_or_ge (x.en + 1) P.n with h | h
      · exact h
      · have := hc.must
        rw [show P.n - 1 = x.en by omega, hm] at this
        cases this
    rw [last_at hc hx, decide_eq_false (by omega)]
    unfold last
    rw [after_l hc hne, cat_n]
    have hb : after P x.en < P.n := by
      unfold after
      rw [if_neg (by omega)]
      exact hc.bg hne
    exact beq_eq_false_iff_ne.2 (by omega)
  have h0 : cost0 (cat P Q) x = cost0 P x := by
    unfold cost0
    rw [must_l hx]
    cases hm : must P x.en with
    | true => rfl
    | false => rw [hl hm]
  unfold cost
  rw [h0, kd_l hx, co_l hx, cat_n]
  simp [hx, show x.en < P.n + Q.n by omega]
theorem B_l (hc : Closed P) (hq : Closed Q) (hf : P.fl (P.n - 1) = false) {ws : List Int} (hw : ws.length = 1) (D : Int) : ∀ (m fr : Nat) (fl : Bool), fr < P.n → P.n - fr = m →
    (B (cat P Q) ws D fr 0 fl).co = (B P ws D fr 0 fl).co + (B Q ws D (bg Q 0) 0 false).co ∧ (B (cat P Q) ws D fr 0 fl).li = (B P ws D fr 0 fl).li + (B Q ws D (bg Q 0) 0 false).li := by
  intro m
  induction m using Nat.strongRecOn with
  | _ m ih =>
    intro fr fl h1 h2
    have hk : min (0 + 1) (ws.length - 1) = 0 := by omega
    have hp := hc.pos
    refine rel_B (P := P) (P' := cat P Q) (g := id) (Nat.le_of_lt h1) (by rw [cat_n]; omega) (by rw [List.map_id]; exact ends_l hc ws 0 h1) (fun x hx => ?_)
    obtain ⟨e1, e2, _⟩ := end_lt hc h1 hx
    unfold tot num
    rw [show (id x : Lin) = x from rfl, cost_l hc hq e2, flag_l e2, last_at hc e2]
    by_cases e : x.en = P.n - 1
    · have hb := hq.bg hq.pos
      have ha : after (cat P Q) x.en = P.n + bg Q 0 := by
        unfold after
        rw [cat_n, if_neg (by omega), show x.en + 1 = P.n + 0 by omega, bg_r (Nat.zero_le _)]
      have hl : last (cat P Q) x.en = false := by
        unfold last
        rw [ha, cat_n]
        exact beq_eq_false_iff_ne.2 (by omega)
      have hfl : flag P x.en = false := by unfold flag; rw [e, hf, Bool.and_false]
      have hr := B_r (Q := Q) hc ws D (Q.n + 1 - bg Q 0) (bg Q 0) 0 false (by omega) rfl
      have hrec : recB (cat P Q) ws D 0 x = B (cat P Q) ws D (P.n + bg Q 0) 0 false := by
        show B (cat P Q) ws D (after (cat P Q) x.en) (min (0 + 1) (ws.length - 1)) (flag (cat P Q) x.en) = _
        rw [ha, hk, flag_l e2, hfl]
      rw [hl, hrec, hr.1, hr.2, decide_eq_true e]
      simp
    · have hlt : x.en + 1 < P.n := by omega
      have ha : after P x.en < P.n ∧ x.en < after P x.en := by
        have := hc.bg hlt
        have h3 := (bg_bd P (show x.en + 1 ≤ P.n by omega)).1
        unfold after
        rw [if_neg (by omega)]
        omega
      have hl : last (cat P Q) x.en = false := by
        unfold last
        rw [after_l hc hlt, cat_n]
        exact beq_eq_false_iff_ne.2 (by omega)
      have hi := ih (P.n - after P x.en) (by omega) (after P x.en) (flag P x.en) ha.1 rfl
      have hrec : recB (cat P Q) ws D 0 x = B (cat P Q) ws D (after P x.en) 0 (flag P x.en) := by
        show B (cat P Q) ws D (after (cat P Q) x.en) (min (0 + 1) (ws.length - 1)) (flag (cat P Q) x.en) = _
        rw [after_l hc hlt, hk, flag_l e2]
      have hrec2 : recB P ws D 0 x = B P ws D (after P x.en) 0 (flag P x.en) := by
        show B P ws D (after P x.en) (min (0 + 1) (ws.length - 1)) (flag P x.en) = _
        rw [hk]
      rw [hl, hrec, hrec2, hi.1, hi.2, decide_eq_false e]
      simp only [Bool.false_eq_true, if_false]
      omega
theorem chain_len (P : Pts) {ws : List Int} (hw : 0 < ws.length) (D : Int) : ∀ (f fr k : Nat) (fl : Bool), fr ≤ P.n → P.n + 1 ≤ fr + f → ((chain P ws D f fr k fl).length : Int) = (B P ws D fr (min k (ws.length - 1)) fl).li
  | 0, fr, _, _, h1, h2 => by omega
  | f + 1, fr, k, fl, h1, h2 => by
    obtain ⟨x, hx⟩ := (B_best P ws D (min k (ws.length - 1)) fl h1).1
    have he := ends_mem h1 hx.mem
    have hen : (B P ws D fr (min k (ws.length - 1)) fl).en.toNat = x.en := by rw [hx.eq]; rfl
    have hli : (B P ws D fr (min k (ws.length - 1)) fl).li = num P (recB P ws D (min k (ws.length - 1))) x := by rw [hx.eq]
    unfold chain
    dsimp only
    rw [hen, hli]
    unfold num
    cases hl : last P x.en with
    | true => simp
    | false =>
      have ha := after_lt he.le hl
      have hg := he.ge
      have ih := chain_len P hw D f (after P x.en) (k + 1) (flag P x.en) (by omega) (by omega)
      have hrec : recB P ws D (min k (ws.length - 1)) x = B P ws D (after P x.en) (min (k + 1) (ws.length - 1)) (flag P x.en) := by
        show B P ws D (after P x.en) (min (min k (ws.length - 1) + 1) (ws.length - 1)) _ = _
        rw [min_next]
      rw [hrec, ← ih]
      simp only [Bool.false_eq_true, if_false, List.length_cons]
      omega
end
/-- lines after a forced break do not depend on what is ahead of it -/
theorem adds_up {P Q : Pts} (hc : Closed P) (hq : Closed Q) (hf : P.fl (P.n - 1) = false) {ws : List Int} (hw : ws.length = 1) (D : Int) :
    (B (cat P Q) ws D (bg (cat P Q) 0) 0 false).co = (B P ws D (bg P 0) 0 false).co + (B Q ws D (bg Q 0) 0 false).co ∧
    (chain (cat P Q) ws D ((cat P Q).n + 1) (bg (cat P Q) 0) 0 false).length = (chain P ws D (P.n + 1) (bg P 0) 0 false).length + (chain Q ws D (Q.n + 1) (bg Q 0) 0 false).length := by
  have hp := hc.bg hc.pos
  have hqq := hq.bg hq.pos
  have h0 : min 0 (ws.length - 1) = 0 := by omega
  rw [bg_l hc hc.pos]
  obtain ⟨h1, h2⟩ := B_l hc hq hf hw D (P.n - bg P 0) (bg P 0) false hp rfl
  refine ⟨h1, ?_⟩
  have c1 := chain_len (cat P Q) (ws := ws) (by omega) D ((cat P Q).n + 1) (bg P 0) 0 false (by rw [cat_n]; omega) (by omega)
  have c2 := chain_len P (ws := ws) (by omega) D (P.n + 1) (bg P 0) 0 false (by omega) (by omega)
  have c3 := chain_len Q (ws := ws) (by omega) D (Q.n + 1) (bg Q 0) 0 false (by omega) (by omega)
  rw [h0] at c1 c2 c3
  omega
end Go.Proofs.Ytmjhmcjlbcadaaa.Ln
