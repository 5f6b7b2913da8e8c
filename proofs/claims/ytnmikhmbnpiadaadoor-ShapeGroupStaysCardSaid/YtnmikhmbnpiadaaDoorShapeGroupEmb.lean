/- Drawings whose shapes stand at the same places: corners of the same shapes are the same. No program in sight but the numbers of its types. -/
import Derived.Test.YtnmikhmbnpiadaaDoorShapeCornersAll
import Derived.Test.YtnmikhmbnpiadaaDoorShapeQuarterPlain
namespace Go.Proofs.YtnmikhmbnpiadaaDoor.Shp
open Go.RowKit Go.Frm

/-- small drawings whose shapes are numbered in their order -/
structure Sml (G : Nat → Nat → Int) (n : Nat) : Prop where
  ok : ShOk G n
  few : n ≤ 10
  item : ∀ k, k < n → G k 0 = (k : Int) + 1
  xy : ∀ k, k < n → (-2000 ≤ G k 3 ∧ G k 3 ≤ 2000) ∧ (-2000 ≤ G k 4 ∧ G k 4 ≤ 2000)
  wh : ∀ k, k < n → (0 ≤ G k 5 ∧ G k 5 ≤ 1500) ∧ (0 ≤ G k 6 ∧ G k 6 ≤ 1500)
/-- the place of the group that holds a shape -/
def pr (G : Nat → Nat → Int) (k : Nat) : Nat := (G k 1 - 1).toNat
section
variable {G : Nat → Nat → Int} {n : Nat}
theorem Sml.par (h : Sml G n) {k : Nat} (hk : k < n) (h1 : G k 1 ≠ 0) : pr G k < k ∧ G k 1 = (pr G k : Int) + 1 ∧ G (pr G k) 2 = 5 := by
  rcases h.ok.grp k hk with h0 | ⟨p, hp, hp0, hp2⟩
  · exact absurd h0 h1
  · have := h.item p (by omega)
    have e : pr G k = p := by unfold pr; omega
    rw [e]
    exact ⟨hp, by omega, hp2⟩
theorem rdu_near2 (z : Int) (B : Int) (h1 : -(B * 131072) ≤ z) (h2 : z ≤ B * 131072) : -B - 1 ≤ rdu z 131072 ∧ rdu z 131072 ≤ B + 1 := by
  unfold rdu
  omega
theorem tu_small {x y cx cy t : Int} {B : Int} (hB : 20000 ≤ B) (hB2 : B ≤ 150000000) (hx : -B - 2000 ≤ x ∧ x ≤ B + 2000) (hy : -B - 2000 ≤ y ∧ y ≤ B + 2000) (hcx : -5500 ≤ cx ∧ cx ≤ 5500) (hcy : -5500 ≤ cy ∧ cy ≤ 5500) :
    (-(3 * B) ≤ tuX x y cx cy t ∧ tuX x y cx cy t ≤ 3 * B) ∧ (-(3 * B) ≤ tuY x y cx cy t ∧ tuY x y cx cy t ≤ 3 * B) := by
  have bs := sn_bd t
  have bc := sn_bd (t + 900)
  unfold tuX tuY
  generalize sn (t + 900) = c at *
  generalize sn t = s at *
  have key : ∀ u v : Int, (-(2 * B + 9500) ≤ u ∧ u ≤ 2 * B + 9500) → v.natAbs ≤ 65537 → -(65537 * (2 * B + 9500)) ≤ u * v ∧ u * v ≤ 65537 * (2 * B + 9500) := by
    intro u v hu hv
    have h1 : (u * v).natAbs ≤ (2 * B + 9500).toNat * 65537 := by rw [Int.natAbs_mul]; exact Nat.mul_le_mul (by omega) hv
    have h2 : (((2 * B + 9500).toNat * 65537 : Nat) : Int) = (2 * B + 9500) * 65537 := by rw [Int.natCast_mul]; congr 1; omega
    omega
  have m1 := key (2 * x - cx) c (by omega) (by omega)
  have m2 := key (2 * y - cy) s (by omega) (by omega)
  have m3 := key (2 * x - cx) s (by omega) (by omega)
  have m4 := key (2 * y - cy) c (by omega) (by omega)
  generalize (2 * x - cx) * c = z1 at *
  generalize (2 * y - cy) * s = z2 at *
  generalize (2 * x - cx) * s = z3 at *
  generalize (2 * y - cy) * c = z4 at *
  unfold rdu
  omega
theorem tu_shift (x y cx cy t X Y : Int) : tuX (x - X) (y - Y) (cx - 2 * X) (cy - 2 * Y) t = tuX x y cx cy t - X ∧ tuY (x - X) (y - Y) (cx - 2 * X) (cy - 2 * Y) t = tuY x y cx cy t - Y := by
  unfold tuX tuY
  rw [show 2 * (x - X) - (cx - 2 * X) = 2 * x - cx by omega, show 2 * (y - Y) - (cy - 2 * Y) = 2 * y - cy by omega]
  unfold rdu
  omega

/-- where a point goes, up through the groups -/
def up (G : Nat → Nat → Int) : Nat → Int → Int → Int → Int × Int
  | 0, _, x, y => (x, y)
  | f + 1, pa, x, y => if pa = 0 then (x, y) else
    up G f (G (pa - 1).toNat 1) (tuX (x + G (pa - 1).toNat 3) (y + G (pa - 1).toNat 4) (2 * G (pa - 1).toNat 3 + G (pa - 1).toNat 5) (2 * G (pa - 1).toNat 4 + G (pa - 1).toNat 6) (G (pa - 1).toNat 7))
      (tuY (x + G (pa - 1).toNat 3) (y + G (pa - 1).toNat 4) (2 * G (pa - 1).toNat 3 + G (pa - 1).toNat 5) (2 * G (pa - 1).toNat 4 + G (pa - 1).toNat 6) (G (pa - 1).toNat 7))
def Bd (q : Nat) : Int := 20000 * 3 ^ (9 - q)
theorem Bd_step {p q : Nat} (h : p < q) (hq : q ≤ 9) : 3 * Bd q ≤ Bd p := by
  unfold Bd
  have h1 : (3 : Int) ^ (9 - p) = 3 ^ (9 - p - (9 - q) - 1) * 3 ^ (9 - q) * 3 := by
    rw [← Int.pow_add, ← Int.pow_succ]
    congr 1
    omega
  have h2 : (1 : Int) ≤ 3 ^ (9 - p - (9 - q) - 1) := by
    have : (0 : Int) < 3 ^ (9 - p - (9 - q) - 1) := Int.pow_pos (by decide)
    omega
  have h3 : (0 : Int) < 3 ^ (9 - q) := Int.pow_pos (by decide)
  have h4 := Int.mul_le_mul_of_nonneg_right h2 (Int.le_of_lt h3)
  rw [h1]
  omega
theorem Bd_low (q : Nat) : 20000 ≤ Bd q := by
  unfold Bd
  have : (0 : Int) < 3 ^ (9 - q) := Int.pow_pos (by decide)
  omega
theorem Bd_high {q : Nat} (h : 0 < q) : Bd q ≤ 132000000 := by
  have key : ∀ m : Nat, m ≤ 8 → (3 : Int) ^ m ≤ 6561 := by
    intro m hm
    have : m = 0 ∨ m = 1 ∨ m = 2 ∨ m = 3 ∨ m = 4 ∨ m = 5 ∨ m = 6 ∨ m = 7 ∨ m = 8 := by omega
    rcases this with h | h | h | h | h | h | h | h | h <;> subst h <;> decide
  have := key (9 - q) (by omega)
  unfold Bd
  omega

/-- shape k of G is at place i of H, moved into a new group where 'sel' says so -/
structure Row (G H : Nat → Nat → Int) (sel : Nat → Bool) (X Y : Int) (k i : Nat) : Prop where
  item : H i 0 = (k : Int) + 1
  size : H i 5 = G k 5 ∧ H i 6 = G k 6 ∧ H i 7 = G k 7
  off : sel k = false → H i 1 = G k 1 ∧ H i 3 = G k 3 ∧ H i 4 = G k 4 ∧ (G k 1 ≠ 0 → ∃ a, a < i ∧ H a 0 = G k 1)
  on : sel k = true → H i 3 = G k 3 - X ∧ H i 4 = G k 4 - Y ∧ ∃ g, g < i ∧ H g 0 ≠ 0 ∧ H i 1 = H g 0 ∧ H g 1 = G k 1 ∧ H g 3 = X ∧ H g 4 = Y ∧ H g 7 = 0 ∧ (G k 1 ≠ 0 → ∃ a, a < g ∧ H a 0 = G k 1)
structure Emb (G : Nat → Nat → Int) (n : Nat) (H : Nat → Nat → Int) (m : Nat) (sel : Nat → Bool) (X Y : Int) : Prop where
  ok : ShOk H m
  row : ∀ k, k < n → ∃ i, i < m ∧ Row G H sel X Y k i
  x : -100000 ≤ X ∧ X ≤ 100000
  y : -100000 ≤ Y ∧ Y ≤ 100000
theorem one_at {H : Nat → Nat → Int} {m : Nat} (h : ShOk H m) {i j : Nat} (hi : i < m) (hj : j < m) (e : H i 0 = H j 0) : i = j := by
  rcases Nat.lt_trichotomy i j with h1 | h1 | h1
  · exact absurd e (h.one i j h1 hj)
  · exact h1
  · exact absurd e.symm (h.one j i h1 hi)
variable {H : Nat → Nat → Int} {m : Nat} {sel : Nat → Bool} {X Y : Int}
theorem out_emb (hs : Sml G n) (he : Emb G n H m sel X Y) : ∀ (q : Nat) (f q' : Nat) (pa x y : Int), q ≤ 9 → q ≤ n → q ≤ f → q' ≤ m → (pa = 0 ∨ (∃ p, p < q ∧ pa = (p : Int) + 1 ∧ ∃ a, a < q' ∧ H a 0 = pa)) → (-(Bd q) ≤ x ∧ x ≤ Bd q) → (-(Bd q) ≤ y ∧ y ≤ Bd q) →
    OutTo H m q' pa x y (up G f pa x y).1 (up G f pa x y).2 := by
  intro q
  induction q using Nat.strongRecOn with
  | _ q ih =>
    intro f q' pa x y h9 hn hf hq' hpa hx hy
    rcases hpa with rfl | ⟨p, hp, hpe, a, ha, hae⟩
    · have : up G f 0 x y = (x, y) := by cases f <;> simp [up]
      rw [this]
      exact OutTo.done _ _ _
    · obtain ⟨f, rfl⟩ : ∃ g, f = g + 1 := ⟨f - 1, by omega⟩
      have hpn : p < n := by omega
      have hpt : (pa - 1).toNat = p := by omega
      have hup : up G (f + 1) pa x y = up G f (G p 1) (tuX (x + G p 3) (y + G p 4) (2 * G p 3 + G p 5) (2 * G p 4 + G p 6) (G p 7)) (tuY (x + G p 3) (y + G p 4) (2 * G p 3 + G p 5) (2 * G p 4 + G p 6) (G p 7)) := by
        show (if pa = 0 then (x, y) else _) = _
        rw [if_neg (by omega), hpt]
      rw [hup]
      obtain ⟨i, him, hrow⟩ := he.row p hpn
      obtain rfl : a = i := one_at he.ok (by omega) him (by rw [hae, hrow.item, hpe])
      obtain ⟨s5, s6, s7⟩ := hrow.size
      have bl := Bd_low q
      have bh := Bd_high (show 0 < q by omega)
      have bs := Bd_step hp h9
      have gx := hs.xy p hpn
      have gw := hs.wh p hpn
      obtain ⟨X1, X2⟩ := he.x
      obtain ⟨Y1, Y2⟩ := he.y
      have ht := tu_small (t := G p 7) bl (by omega) (x := x + G p 3) (y := y + G p 4) (cx := 2 * G p 3 + G p 5) (cy := 2 * G p 4 + G p 6) (by omega) (by omega) (by omega) (by omega)
      have hpar : ∀ q2, q2 ≤ m → (G p 1 ≠ 0 → ∃ a, a < q2 ∧ H a 0 = G p 1) → G p 1 = 0 ∨ ∃ p2, p2 < p ∧ G p 1 = (p2 : Int) + 1 ∧ ∃ a, a < q2 ∧ H a 0 = G p 1 := by
        intro q2 _ h2
        by_cases h0 : G p 1 = 0
        · exact .inl h0
        · obtain ⟨c1, c2, _⟩ := hs.par hpn h0
          exact .inr ⟨_, c1, c2, h2 h0⟩
      rw [← hae]
      cases hsel : sel p with
      | false =>
        obtain ⟨r1, r3, r4, ra⟩ := hrow.off hsel
        refine OutTo.step q' a x y _ _ ha hq' (by rw [hae]; omega) (by rw [r3]; omega) (by rw [r4]; omega) ?_
        rw [r1, r3, r4, s5, s6, s7]
        exact ih p hp f a _ _ _ (by omega) (by omega) (by omega) (by omega) (hpar a (by omega) ra) (by omega) (by omega)
      | true =>
        obtain ⟨r3, r4, g, hg, g0, r1, g1, g3, g4, g7, ra⟩ := hrow.on hsel
        refine OutTo.step q' a x y _ _ ha hq' (by rw [hae]; omega) (by rw [r3]; omega) (by rw [r4]; omega) ?_
        rw [r3, r4, s5, s6, s7, r1, show x + (G p 3 - X) = x + G p 3 - X by omega, show y + (G p 4 - Y) = y + G p 4 - Y by omega, show 2 * (G p 3 - X) + G p 5 = 2 * G p 3 + G p 5 - 2 * X by omega, show 2 * (G p 4 - Y) + G p 6 = 2 * G p 4 + G p 6 - 2 * Y by omega,
          (tu_shift _ _ _ _ _ _ _).1, (tu_shift _ _ _ _ _ _ _).2]
        generalize tuX (x + G p 3) (y + G p 4) (2 * G p 3 + G p 5) (2 * G p 4 + G p 6) (G p 7) = u at *
        generalize tuY (x + G p 3) (y + G p 4) (2 * G p 3 + G p 5) (2 * G p 4 + G p 6) (G p 7) = v at *
        have hB0 : 3 * Bd q ≤ 400000000 := by omega
        refine OutTo.step a g (u - X) (v - Y) _ _ hg (by omega) g0 (by rw [g3]; omega) (by rw [g4]; omega) ?_
        rw [g1, g3, g4, g7, (tu_zero _ _ _ _).1, (tu_zero _ _ _ _).2, show u - X + X = u by omega, show v - Y + Y = v by omega]
        exact ih p hp f g _ _ _ (by omega) (by omega) (by omega) (by omega) (hpar g (by omega) ra) (by omega) (by omega)
/-- the corners of a shape in the drawing -/
def cnX (G : Nat → Nat → Int) (k c : Nat) : Int := (up G k (G k 1) (ctX G k c) (ctY G k c)).1
def cnY (G : Nat → Nat → Int) (k c : Nat) : Int := (up G k (G k 1) (ctX G k c) (ctY G k c)).2
theorem ct_small (hs : Sml G n) {k : Nat} (hk : k < n) (c : Nat) : (-20000 ≤ ctX G k c ∧ ctX G k c ≤ 20000) ∧ (-20000 ≤ ctY G k c ∧ ctY G k c ≤ 20000) := by
  have gx := hs.xy k hk
  have gw := hs.wh k hk
  have hX : -3500 ≤ crX G k c ∧ crX G k c ≤ 3500 := by unfold crX; split <;> omega
  have hY : -3500 ≤ crY G k c ∧ crY G k c ≤ 3500 := by unfold crY; split <;> omega
  have bs := sn_bd (G k 7)
  have bc := sn_bd (G k 7 + 900)
  unfold ctX ctY tuX tuY
  generalize sn (G k 7 + 900) = cc at *
  generalize sn (G k 7) = s at *
  have m1 := mul_in (a := 2 * crX G k c - (2 * G k 3 + G k 5)) (b := cc) (A := 12500) (B := 65537) (by omega) (by omega)
  have m2 := mul_in (a := 2 * crY G k c - (2 * G k 4 + G k 6)) (b := s) (A := 12500) (B := 65537) (by omega) (by omega)
  have m3 := mul_in (a := 2 * crX G k c - (2 * G k 3 + G k 5)) (b := s) (A := 12500) (B := 65537) (by omega) (by omega)
  have m4 := mul_in (a := 2 * crY G k c - (2 * G k 4 + G k 6)) (b := cc) (A := 12500) (B := 65537) (by omega) (by omega)
  generalize (2 * crX G k c - (2 * G k 3 + G k 5)) * cc = z1 at *
  generalize (2 * crY G k c - (2 * G k 4 + G k 6)) * s = z2 at *
  generalize (2 * crX G k c - (2 * G k 3 + G k 5)) * s = z3 at *
  generalize (2 * crY G k c - (2 * G k 4 + G k 6)) * cc = z4 at *
  unfold rdu
  omega
/-- THE PLAIN LAW: a shape has the same corners in both drawings -/
theorem corners_emb (hs : Sml G n) (he : Emb G n H m sel X Y) {k : Nat} (hk : k < n) : ∃ i, i < m ∧ H i 0 = (k : Int) + 1 ∧ CornersAt H m i (cnX G k) (cnY G k) := by
  obtain ⟨i, him, hrow⟩ := he.row k hk
  refine ⟨i, him, hrow.item, fun c _ => ?_⟩
  obtain ⟨s5, s6, s7⟩ := hrow.size
  have few := hs.few
  have hct := ct_small hs hk c
  have bl := Bd_low k
  have hpar : ∀ q2, q2 ≤ m → (G k 1 ≠ 0 → ∃ a, a < q2 ∧ H a 0 = G k 1) → G k 1 = 0 ∨ ∃ p2, p2 < k ∧ G k 1 = (p2 : Int) + 1 ∧ ∃ a, a < q2 ∧ H a 0 = G k 1 := by
    intro q2 _ h2
    by_cases h0 : G k 1 = 0
    · exact .inl h0
    · obtain ⟨c1, c2, _⟩ := hs.par hk h0
      exact .inr ⟨_, c1, c2, h2 h0⟩
  refine ⟨i, ?_⟩
  unfold Out
  obtain ⟨X1, X2⟩ := he.x
  obtain ⟨Y1, Y2⟩ := he.y
  cases hsel : sel k with
  | false =>
    obtain ⟨r1, r3, r4, ra⟩ := hrow.off hsel
    have eX : ctX H i c = ctX G k c := by unfold ctX crX crY; rw [r3, r4, s5, s6, s7]
    have eY : ctY H i c = ctY G k c := by unfold ctY crX crY; rw [r3, r4, s5, s6, s7]
    rw [eX, eY, r1]
    exact out_emb hs he k k i (G k 1) _ _ (by omega) (by omega) (Nat.le_refl _) (by omega) (hpar i (by omega) ra) (by omega) (by omega)
  | true =>
    obtain ⟨r3, r4, g, hg, g0, r1, g1, g3, g4, g7, ra⟩ := hrow.on hsel
    have cX : crX H i c = crX G k c - X := by unfold crX; rw [r3, s5]; split <;> omega
    have cY : crY H i c = crY G k c - Y := by unfold crY; rw [r4, s6]; split <;> omega
    have eX : ctX H i c = ctX G k c - X := by
      unfold ctX
      rw [cX, cY, r3, r4, s5, s6, s7, show 2 * (G k 3 - X) + G k 5 = 2 * G k 3 + G k 5 - 2 * X by omega, show 2 * (G k 4 - Y) + G k 6 = 2 * G k 4 + G k 6 - 2 * Y by omega, (tu_shift _ _ _ _ _ _ _).1]
    have eY : ctY H i c = ctY G k c - Y := by
      unfold ctY
      rw [cX, cY, r3, r4, s5, s6, s7, show 2 * (G k 3 - X) + G k 5 = 2 * G k 3 + G k 5 - 2 * X by omega, show 2 * (G k 4 - Y) + G k 6 = 2 * G k 4 + G k 6 - 2 * Y by omega, (tu_shift _ _ _ _ _ _ _).2]
    rw [eX, eY, r1]
    refine OutTo.step i g _ _ _ _ hg (by omega) g0 (by rw [g3]; omega) (by rw [g4]; omega) ?_
    rw [g1, g3, g4, g7, (tu_zero _ _ _ _).1, (tu_zero _ _ _ _).2, show ctX G k c - X + X = ctX G k c by omega, show ctY G k c - Y + Y = ctY G k c by omega]
    exact out_emb hs he k k g (G k 1) _ _ (by omega) (by omega) (Nat.le_refl _) (by omega) (hpar g (by omega) ra) (by omega) (by omega)
theorem emb_self (hs : Sml G n) : Emb G n G n (fun _ => false) 0 0 where
  ok := hs.ok
  row k hk := ⟨k, hk, hs.item k hk, ⟨rfl, rfl, rfl⟩, fun _ => ⟨rfl, rfl, rfl, fun h1 => by
    obtain ⟨a, b, _⟩ := hs.par hk h1
    exact ⟨pr G k, a, by rw [hs.item _ (by omega), b]⟩⟩, fun h => by cases h⟩
  x := by decide
  y := by decide
end
end Go.Proofs.YtnmikhmbnpiadaaDoor.Shp
