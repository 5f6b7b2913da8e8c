/- The drawing of the law on turned groups: all shapes but the first are in the first, which is a group. Nothing here speaks of a walk. -/
import Derived.Test.YtnmikhmbnpiadaaDoorShapeUngroup
import Derived.Test.YtnmikhmbnpiadaaDoorShapeUngroupPlain
import Derived.Test.YtnmikhmbnpiadaaDoorShapeBasics
namespace Go.Proofs.YtnmikhmbnpiadaaDoor.Shp
open Go.RowKit Go.Frm Wi

def lvG (G : Nat → Nat → Int) (i j : Nat) : Int := if j = 1 then (if i = 0 then 0 else 1) else if j = 2 then (if G i 2 = 5 then 0 else G i 2) else G i j
def mixG (G : Nat → Nat → Int) (k i j : Nat) : Int := if i < k then lvG G i j else G i j
theorem mix_next {G : Nat → Nat → Int} {T : Nat → Nat → ByteArray} {i : Nat} {f : Nat → Nat → Value} (h1 : f i 1 = .int .i64 (lvG G i 1)) (h2 : f i 2 = .int .i64 (lvG G i 2))
    (ho : ∀ a b, ¬ (a = i ∧ b = 1) → ¬ (a = i ∧ b = 2) → f a b = shV (mixG G i) T a b) (a b : Nat) : f a b = shV (mixG G (i + 1)) T a b := by
  by_cases c1 : a = i ∧ b = 1
  · obtain ⟨rfl, rfl⟩ := c1
    rw [h1]
    simp [shV, mixG]
  · by_cases c2 : a = i ∧ b = 2
    · obtain ⟨rfl, rfl⟩ := c2
      rw [h2]
      simp [shV, mixG]
    · rw [ho a b c1 c2]
      unfold shV
      split
      · unfold mixG
        by_cases ha : a = i
        · subst ha
          rw [if_neg (by omega), if_pos (by omega)]
          unfold lvG
          rw [if_neg (fun h => c1 ⟨rfl, h⟩), if_neg (fun h => c2 ⟨rfl, h⟩)]
        · by_cases hai : a < i
          · rw [if_pos hai, if_pos (by omega)]
          · rw [if_neg hai, if_neg (by omega)]
      · rfl
/-- the first one is the group -/
def hdG (G : Nat → Nat → Int) (t : Int) (i : Nat) : Nat → Int := if i = 0 then (fun
  | 0 => 1
  | 1 => 0
  | 2 => 5
  | 7 => t
  | 8 => 0
  | 9 => 0
  | j => G 0 j) else lvG G i
def hdT (T : Nat → Nat → ByteArray) (i j : Nat) : ByteArray := if i = 0 then ⟨#[]⟩ else T i j
theorem hd_pos {G : Nat → Nat → Int} {t : Int} {i : Nat} (h : 0 < i) (j : Nat) : hdG G t i j = lvG G i j := by unfold hdG; rw [if_neg (by omega)]
/-- what is asked of the numbers -/
structure Raw (G : Nat → Nat → Int) (m : Nat) : Prop where
  item : ∀ i, i < m → G i 0 = (i : Int) + 1
  kind : ∀ i, i < m → 0 ≤ G i 2 ∧ G i 2 ≤ 7
  xy : ∀ i, i < m → (-2000 ≤ G i 3 ∧ G i 3 ≤ 2000) ∧ (-2000 ≤ G i 4 ∧ G i 4 ≤ 2000)
  wh : ∀ i, i < m → (0 ≤ G i 5 ∧ G i 5 ≤ 1500) ∧ (0 ≤ G i 6 ∧ G i 6 ≤ 1500)
  turn : ∀ i, i < m → 0 ≤ G i 7 ∧ G i 7 < 3600
  ft : ∀ i, i < m → (0 ≤ G i 8 ∧ G i 8 ≤ 11) ∧ (0 ≤ G i 9 ∧ G i 9 ≤ 11)
  link : ∀ i, i < m → G i 2 ≠ 6 → G i 8 = 0 ∧ G i 9 = 0
theorem raw_made (G : Nat → Nat → Int) (t : Bool) (m : Nat) : Raw (shG G t) m where
  item i _ := rfl
  kind i _ := skind_bd G i
  xy i _ := ⟨wi_bd (G i 3) (show (-2000 : Int) ≤ 2000 by omega), wi_bd (G i 4) (show (-2000 : Int) ≤ 2000 by omega)⟩
  wh i _ := ⟨wi_bd (G i 5) (show (0 : Int) ≤ 1500 by omega), wi_bd (G i 6) (show (0 : Int) ≤ 1500 by omega)⟩
  turn i _ := by
    have h1 := sturn_bd G t i
    show 0 ≤ sturn G t i ∧ sturn G t i < 3600
    omega
  ft i _ := ⟨send_bd G i 8, send_bd G i 9⟩
  link i _ h := by
    have h6 : skind G i ≠ 6 := h
    show send G i 8 = 0 ∧ send G i 9 = 0
    simp [send, h6]

section
variable {G : Nat → Nat → Int} {m : Nat} {t : Int}
theorem hd_ok (h : Raw G m) (hm : m ≤ 10) (h0 : 0 ≤ t) (h1 : t < 3600) : ShOk (hdG G t) m where
  few := by omega
  item i hi := by
    by_cases h : i = 0
    · subst h; show 1 ≤ (1 : Int) ∧ (1 : Int) ≤ 1073741824; omega
    · rw [hd_pos (by omega)]
      have := ‹Raw G m›.item i hi
      show 1 ≤ G i 0 ∧ G i 0 ≤ 1073741824
      omega
  one j i hj hi := by
    have e1 : hdG G t i 0 = (i : Int) + 1 := by rw [hd_pos (by omega)]; exact h.item i hi
    by_cases hj0 : j = 0
    · subst hj0; rw [e1]; show (1 : Int) ≠ _; omega
    · rw [e1, hd_pos (by omega)]
      have := h.item j (by omega)
      show G j 0 ≠ _
      omega
  par i hi := by
    by_cases h : i = 0
    · subst h; show 0 ≤ (0 : Int) ∧ (0 : Int) ≤ 1073741824; omega
    · rw [hd_pos (by omega)]
      unfold lvG
      rw [if_pos rfl, if_neg h]
      omega
  kind i hi := by
    by_cases h0 : i = 0
    · subst h0; show 0 ≤ (5 : Int) ∧ (5 : Int) ≤ 7; omega
    · rw [hd_pos (by omega)]
      have := h.kind i hi
      unfold lvG
      rw [if_neg (by omega), if_pos rfl]
      split <;> omega
  xy i hi := by
    have e : ∀ j, j = 3 ∨ j = 4 → hdG G t i j = G i j := fun j hj => by
      by_cases h : i = 0
      · subst h; rcases hj with rfl | rfl <;> rfl
      · rw [hd_pos (by omega)]; rcases hj with rfl | rfl <;> rfl
    rw [e 3 (by omega), e 4 (by omega)]
    have := h.xy i hi
    omega
  wh i hi := by
    have e : ∀ j, j = 5 ∨ j = 6 → hdG G t i j = G i j := fun j hj => by
      by_cases h : i = 0
      · subst h; rcases hj with rfl | rfl <;> rfl
      · rw [hd_pos (by omega)]; rcases hj with rfl | rfl <;> rfl
    rw [e 5 (by omega), e 6 (by omega)]
    have := h.wh i hi
    omega
  turn i hi := by
    by_cases h2 : i = 0
    · subst h2; exact ⟨h0, h1⟩
    · rw [hd_pos (by omega)]
      exact h.turn i hi
  ft i hi := by
    by_cases h2 : i = 0
    · subst h2; exact ⟨⟨Int.le_refl 0, by show (0 : Int) ≤ 1073741824; omega⟩, ⟨Int.le_refl 0, by show (0 : Int) ≤ 1073741824; omega⟩⟩
    · rw [hd_pos (by omega), hd_pos (by omega)]
      have := h.ft i hi
      show (0 ≤ G i 8 ∧ G i 8 ≤ 1073741824) ∧ (0 ≤ G i 9 ∧ G i 9 ≤ 1073741824)
      omega
  link i hi hk := by
    by_cases h2 : i = 0
    · subst h2; exact ⟨rfl, rfl⟩
    · rw [hd_pos (by omega)] at hk
      rw [hd_pos (by omega), hd_pos (by omega)]
      refine h.link i hi (fun h6 => hk ?_)
      unfold lvG
      rw [if_neg (by omega), if_pos rfl, if_neg (by omega)]
      exact h6
  grp i hi := by
    by_cases h : i = 0
    · subst h; exact .inl rfl
    · refine .inr ⟨0, by omega, ?_, rfl⟩
      rw [show hdG G t i 1 = lvG G i 1 from hd_pos (by omega) 1]
      unfold lvG
      rw [if_pos rfl, if_neg h]
      rfl
theorem tu_small (x y cx cy t : Int) (x1 : x.natAbs ≤ 100000) (y1 : y.natAbs ≤ 100000) (cx1 : cx.natAbs ≤ 100000) (cy1 : cy.natAbs ≤ 100000) : (tuX x y cx cy t).natAbs ≤ 1000000 ∧ (tuY x y cx cy t).natAbs ≤ 1000000 := by
  have bs := sn_bd t
  have bc := sn_bd (t + 900)
  unfold tuX tuY rdu
  generalize sn (t + 900) = c at *
  generalize sn t = s at *
  have m1 := mul_in (a := 2 * x - cx) (b := c) (A := 300000) (B := 65537) (by omega) (by omega)
  have m2 := mul_in (a := 2 * y - cy) (b := s) (A := 300000) (B := 65537) (by omega) (by omega)
  have m3 := mul_in (a := 2 * x - cx) (b := s) (A := 300000) (B := 65537) (by omega) (by omega)
  have m4 := mul_in (a := 2 * y - cy) (b := c) (A := 300000) (B := 65537) (by omega) (by omega)
  generalize (2 * x - cx) * c = z1 at *
  generalize (2 * y - cy) * s = z2 at *
  generalize (2 * x - cx) * s = z3 at *
  generalize (2 * y - cy) * c = z4 at *
  omega
theorem rdu_small (a : Int) (h : a.natAbs ≤ 1010000) : (rdu a 2).natAbs ≤ 600000 := by unfold rdu; omega
/-- what stands at a place behind the first -/
theorem hd_at (h : Raw G m) (hm : m ≤ 10) {i : Nat} (hi : i < m) (h0 : 0 < i) : hdG G t i 0 = (i : Int) + 1 ∧ hdG G t i 1 = 1 ∧ hdG G t i 3 = G i 3 ∧ hdG G t i 4 = G i 4 ∧ hdG G t i 5 = G i 5 ∧ hdG G t i 6 = G i 6 ∧ hdG G t i 7 = G i 7 := by
  have e := fun j => hd_pos (G := G) (t := t) h0 j
  refine ⟨(e 0).trans (h.item i hi), (e 1).trans ?_, e 3, e 4, e 5, e 6, e 7⟩
  unfold lvG
  rw [if_pos rfl, if_neg (by omega)]
theorem ug_xy (h : Raw G m) (hm : m ≤ 10) {i : Nat} (hi : i < m) (h0 : 0 < i) : (ugX (hdG G t) 0 i).natAbs ≤ 600000 ∧ (ugY (hdG G t) 0 i).natAbs ≤ 600000 := by
  obtain ⟨_, _, e3, e4, e5, e6, _⟩ := hd_at (t := t) h hm hi h0
  have g3 : hdG G t 0 3 = G 0 3 := rfl
  have g4 : hdG G t 0 4 = G 0 4 := rfl
  have g5 : hdG G t 0 5 = G 0 5 := rfl
  have g6 : hdG G t 0 6 = G 0 6 := rfl
  have x1 := h.xy i hi
  have x2 := h.xy 0 (by omega)
  have w1 := h.wh i hi
  have w2 := h.wh 0 (by omega)
  have hs := tu_small (2 * (G i 3 + G 0 3) + G i 5) (2 * (G i 4 + G 0 4) + G i 6) (2 * (2 * G 0 3 + G 0 5)) (2 * (2 * G 0 4 + G 0 6)) (hdG G t 0 7) (by omega) (by omega) (by omega) (by omega)
  unfold ugX ugY
  rw [e3, e4, e5, e6, g3, g4, g5, g6]
  constructor
  · split
    · omega
    · exact rdu_small _ (by omega)
  · split
    · omega
    · exact rdu_small _ (by omega)
/-- the numbers behind the taking away -/
theorem ug_at (h : Raw G m) (hm : m ≤ 10) {i : Nat} (hi : i + 1 < m) : ugG (hdG G t) 0 i 0 = (i : Int) + 2 ∧ ugG (hdG G t) 0 i 1 = 0 ∧ ugG (hdG G t) 0 i 3 = ugX (hdG G t) 0 (i + 1) ∧ ugG (hdG G t) 0 i 4 = ugY (hdG G t) 0 (i + 1) ∧
    ugG (hdG G t) 0 i 5 = G (i + 1) 5 ∧ ugG (hdG G t) 0 i 6 = G (i + 1) 6 ∧ ugG (hdG G t) 0 i 7 = ugW (hdG G t) 0 (i + 1) := by
  obtain ⟨e0, e1, e3, e4, e5, e6, e7⟩ := hd_at (t := t) h hm hi (by omega)
  have hp : hdG G t (i + 1) 1 = hdG G t 0 0 := e1
  have hs : src 0 i = i + 1 := rfl
  unfold ugG
  rw [hs]
  refine ⟨?_, ?_, ?_, ?_, e5, e6, ?_⟩
  · show hdG G t (i + 1) 0 = _
    rw [e0]; omega
  · show (if hdG G t (i + 1) 1 = hdG G t 0 0 then hdG G t 0 1 else hdG G t (i + 1) 1) = 0
    rw [if_pos hp]; rfl
  · show (if hdG G t (i + 1) 1 = hdG G t 0 0 then ugX (hdG G t) 0 (i + 1) else hdG G t (i + 1) 3) = _
    rw [if_pos hp]
  · show (if hdG G t (i + 1) 1 = hdG G t 0 0 then ugY (hdG G t) 0 (i + 1) else hdG G t (i + 1) 4) = _
    rw [if_pos hp]
  · show (if hdG G t (i + 1) 1 = hdG G t 0 0 then ugW (hdG G t) 0 (i + 1) else hdG G t (i + 1) 7) = _
    rw [if_pos hp]
theorem ug_ok (h : Raw G m) (hm : m ≤ 10) (h0 : 0 ≤ t) (h1 : t < 3600) : ShOk (ugG (hdG G t) 0) (m - 1) where
  few := by omega
  item i hi := by rw [(ug_at h hm (by omega)).1]; omega
  one j i hj hi := by rw [(ug_at h hm (by omega)).1, (ug_at h hm (by omega)).1]; omega
  par i hi := by rw [(ug_at h hm (by omega)).2.1]; omega
  kind i hi := (hd_ok h hm h0 h1).kind (i + 1) (by omega)
  xy i hi := by
    rw [(ug_at h hm (by omega)).2.2.1, (ug_at h hm (by omega)).2.2.2.1]
    have := ug_xy (t := t) h hm (i := i + 1) (by omega) (by omega)
    omega
  wh i hi := by
    rw [(ug_at h hm (by omega)).2.2.2.2.1, (ug_at h hm (by omega)).2.2.2.2.2.1]
    have := h.wh (i + 1) (by omega)
    omega
  turn i hi := by
    rw [(ug_at h hm (by omega)).2.2.2.2.2.2]
    have := (hd_ok h hm h0 h1).turn (i + 1) (by omega)
    unfold ugW
    split
    · exact this
    · omega
  ft i hi := by
    have := (hd_ok h hm h0 h1).ft (i + 1) (by omega)
    show (0 ≤ ugE (hdG G t) 0 (i + 1) 8 ∧ ugE (hdG G t) 0 (i + 1) 8 ≤ 1073741824) ∧ (0 ≤ ugE (hdG G t) 0 (i + 1) 9 ∧ ugE (hdG G t) 0 (i + 1) 9 ≤ 1073741824)
    unfold ugE
    (repeat' split) <;> omega
  link i hi hk := by
    have h2 := (hd_ok h hm h0 h1).link (i + 1) (by omega) hk
    show ugE (hdG G t) 0 (i + 1) 8 = 0 ∧ ugE (hdG G t) 0 (i + 1) 9 = 0
    unfold ugE
    rw [h2.1, h2.2]
    simp
  grp i hi := .inl (ug_at h hm (by omega)).2.1

/-- the corners ahead of it, in the drawing -/
def lPX (G : Nat → Nat → Int) (k i : Nat) : Int := tuX (ctX G k i + G 0 3) (ctY G k i + G 0 4) (2 * G 0 3 + G 0 5) (2 * G 0 4 + G 0 6) (G 0 7)
def lPY (G : Nat → Nat → Int) (k i : Nat) : Int := tuY (ctX G k i + G 0 3) (ctY G k i + G 0 4) (2 * G 0 3 + G 0 5) (2 * G 0 4 + G 0 6) (G 0 7)
theorem ct_small {F : Nat → Nat → Int} {k : Nat} (hx : (F k 3).natAbs ≤ 10000) (hy : (F k 4).natAbs ≤ 10000) (hw : (F k 5).natAbs ≤ 1500) (hh : (F k 6).natAbs ≤ 1500) (i : Nat) : (ctX F k i).natAbs ≤ 1000000 ∧ (ctY F k i).natAbs ≤ 1000000 := by
  have b1 : (crX F k i).natAbs ≤ 100000 := by unfold crX; split <;> omega
  have b2 : (crY F k i).natAbs ≤ 100000 := by unfold crY; split <;> omega
  exact tu_small _ _ _ _ _ b1 b2 (by omega) (by omega)
theorem corners_l (h : Raw G m) (hm : m ≤ 10) {k : Nat} (hk : k < m) (h0 : 0 < k) : CornersAt (hdG G t) m k (lPX (hdG G t) k) (lPY (hdG G t) k) := fun i hi => ⟨m, by
  obtain ⟨_, e1, e3, e4, e5, e6, _⟩ := hd_at (t := t) h hm hk h0
  have x1 := h.xy k hk
  have w1 := h.wh k hk
  have x2 := h.xy 0 (by omega)
  have b := ct_small (F := hdG G t) (k := k) (by rw [e3]; omega) (by rw [e4]; omega) (by rw [e5]; omega) (by rw [e6]; omega) i
  rw [show hdG G t k 1 = hdG G t 0 0 from e1]
  have g3 : hdG G t 0 3 = G 0 3 := rfl
  have g4 : hdG G t 0 4 = G 0 4 := rfl
  refine OutTo.step m 0 _ _ _ _ (by omega) (Nat.le_refl _) (by show (1 : Int) ≠ 0; omega) (by rw [g3]; omega) (by rw [g4]; omega) ?_
  exact OutTo.done 0 _ _⟩
theorem corners_u (h : Raw G m) (hm : m ≤ 10) {k : Nat} (hk : k + 1 < m) : CornersAt (ugG (hdG G t) 0) (m - 1) k (ctX (ugG (hdG G t) 0) k) (ctY (ugG (hdG G t) 0) k) := fun i hi => ⟨0, by
  rw [(ug_at h hm hk).2.1]
  exact OutTo.done 0 _ _⟩
theorem cr_dx {F : Nat → Nat → Int} {k : Nat} (hw : 0 ≤ F k 5 ∧ F k 5 ≤ 1500) (hh : 0 ≤ F k 6 ∧ F k 6 ≤ 1500) (i : Nat) : (2 * crX F k i - (2 * F k 3 + F k 5)).natAbs ≤ 1500 ∧ (2 * crY F k i - (2 * F k 4 + F k 6)).natAbs ≤ 1500 := by
  unfold crX crY
  constructor <;> split <;> omega
/-- the corners stay where they are, up to rounding -/
theorem stays (h : Raw G m) (hm : m ≤ 10) {k : Nat} (hk : k + 1 < m) (i : Nat) :
    (-6 ≤ lPX (hdG G t) (k + 1) i - ctX (ugG (hdG G t) 0) k i ∧ lPX (hdG G t) (k + 1) i - ctX (ugG (hdG G t) 0) k i ≤ 6) ∧ (-6 ≤ lPY (hdG G t) (k + 1) i - ctY (ugG (hdG G t) 0) k i ∧ lPY (hdG G t) (k + 1) i - ctY (ugG (hdG G t) 0) k i ≤ 6) := by
  obtain ⟨_, _, u3, u4, u5, u6, u7⟩ := ug_at (t := t) h hm hk
  obtain ⟨_, _, e3, e4, e5, e6, e7⟩ := hd_at (t := t) h hm hk (by omega)
  have w1 := h.wh (k + 1) hk
  have hd := cr_dx (F := hdG G t) (k := k + 1) (by rw [e5]; exact w1.1) (by rw [e6]; exact w1.2) i
  have cx : crX (ugG (hdG G t) 0) k i = crX (hdG G t) (k + 1) i - hdG G t (k + 1) 3 + ugX (hdG G t) 0 (k + 1) := by
    unfold crX
    rw [u3, u5, e5]
    split <;> omega
  have cy : crY (ugG (hdG G t) 0) k i = crY (hdG G t) (k + 1) i - hdG G t (k + 1) 4 + ugY (hdG G t) 0 (k + 1) := by
    unfold crY
    rw [u4, u6, e6]
    split <;> omega
  unfold lPX lPY ctX ctY
  rw [u3, u4, u5, u6, u7, e5, e6]
  by_cases ht : t = 0
  · have h7 : hdG G t 0 7 = 0 := ht
    have eX : ugX (hdG G t) 0 (k + 1) = hdG G t (k + 1) 3 + hdG G t 0 3 := by unfold ugX; rw [if_pos h7]
    have eY : ugY (hdG G t) 0 (k + 1) = hdG G t (k + 1) 4 + hdG G t 0 4 := by unfold ugY; rw [if_pos h7]
    have eW : ugW (hdG G t) 0 (k + 1) = hdG G t (k + 1) 7 := by unfold ugW; rw [if_pos h7]
    have hs := stay0 (crX (hdG G t) (k + 1) i) (crY (hdG G t) (k + 1) i) (hdG G t (k + 1) 3) (hdG G t (k + 1) 4) (G (k + 1) 5) (G (k + 1) 6) (hdG G t 0 3) (hdG G t 0 4) (hdG G t 0 5) (hdG G t 0 6) (hdG G t (k + 1) 7)
      (crX (ugG (hdG G t) 0) k i) (crY (ugG (hdG G t) 0) k i) (by rw [cx, eX]; omega) (by rw [cy, eY]; omega)
    rw [eX, eY, eW, h7, hs.1, hs.2]
    omega
  · have h7 : hdG G t 0 7 ≠ 0 := ht
    have g7 : hdG G t 0 7 = t := rfl
    have hs := stay (crX (hdG G t) (k + 1) i) (crY (hdG G t) (k + 1) i) (hdG G t (k + 1) 3) (hdG G t (k + 1) 4) (G (k + 1) 5) (G (k + 1) 6) (hdG G t 0 3) (hdG G t 0 4) (hdG G t 0 5) (hdG G t 0 6) (hdG G t (k + 1) 7) (hdG G t 0 7)
      (ugX (hdG G t) 0 (k + 1)) (ugY (hdG G t) 0 (k + 1)) (ugW (hdG G t) 0 (k + 1)) (crX (ugG (hdG G t) 0) k i) (crY (ugG (hdG G t) 0) k i) (by rw [← e5]; exact hd.1) (by rw [← e6]; exact hd.2)
      (by unfold ugX; rw [if_neg h7, e5, e6]) (by unfold ugY; rw [if_neg h7, e5, e6]) (by unfold ugW; rw [if_neg h7]; omega) cx cy
    exact hs
theorem lp_small (h : Raw G m) (hm : m ≤ 10) {k : Nat} (hk : k + 1 < m) (i : Nat) : (lPX (hdG G t) (k + 1) i).natAbs ≤ 10000000000 ∧ (lPY (hdG G t) (k + 1) i).natAbs ≤ 10000000000 := by
  obtain ⟨_, _, e3, e4, e5, e6, _⟩ := hd_at (t := t) h hm hk (by omega)
  have x1 := h.xy (k + 1) hk
  have w1 := h.wh (k + 1) hk
  have x2 := h.xy 0 (by omega)
  have w2 := h.wh 0 (by omega)
  have b := ct_small (F := hdG G t) (k := k + 1) (by rw [e3]; omega) (by rw [e4]; omega) (by rw [e5]; omega) (by rw [e6]; omega) i
  have g3 : hdG G t 0 3 = G 0 3 := rfl
  have g4 : hdG G t 0 4 = G 0 4 := rfl
  have g5 : hdG G t 0 5 = G 0 5 := rfl
  have g6 : hdG G t 0 6 = G 0 6 := rfl
  unfold lPX lPY
  rw [g3, g4, g5, g6]
  exact tu_bd _ _ _ _ _ (by omega) (by omega) (by omega) (by omega)
end
end Go.Proofs.YtnmikhmbnpiadaaDoor.Shp
