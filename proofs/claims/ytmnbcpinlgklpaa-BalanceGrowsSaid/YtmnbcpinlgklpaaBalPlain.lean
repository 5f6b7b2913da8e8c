/- What the balance of columns is, in plain Lean. -/
import Derived.Test.YtmnbcpinlgklpaaSlices
namespace Go.Proofs.Ytmnbcpinlgklpaa.Bal
open Go.RowKit Go.Frm

/-- what column i gets where x is dealt out to len columns -/
def dealt (x : Int) (len : Nat) (i : Nat) : Int := x / len + if (i : Int) < x % len then 1 else 0
theorem dealt_sum {x : Int} {len : Nat} (hl : 0 < len) : fsum (dealt x len) len = x := by
  have h1 := Int.emod_nonneg x (show (len : Int) ≠ 0 by omega)
  have h2 := Int.emod_lt_of_pos x (show (0 : Int) < len by omega)
  have h3 := Int.mul_ediv_add_emod x len
  have h : ∀ k : Nat, k ≤ len → fsum (dealt x len) k = k * (x / len) + min (k : Int) (x % len) := by
    intro k
    induction k with
    | zero => intro _; simp [fsum]; omega
    | succ k ih =>
      intro hk
      rw [fsum_succ, ih (by omega)]
      unfold dealt
      rw [show ((k + 1 : Nat) : Int) = (k : Int) + 1 by omega, Int.add_mul]
      split <;> omega
  rw [h len (Nat.le_refl _)]
  omega
theorem dealt_nonneg {x : Int} (hx : 0 ≤ x) (len i : Nat) : 0 ≤ dealt x len i := by
  have := Int.ediv_nonneg hx (show (0 : Int) ≤ len by omega)
  unfold dealt
  split <;> omega
theorem dealt_le {x : Int} (hx : 0 ≤ x) (len i : Nat) : dealt x len i ≤ x + 1 := by
  have := Int.ediv_le_self len hx
  unfold dealt
  split <;> omega
theorem dealt_zero (len i : Nat) : dealt 0 len i = 0 := by
  unfold dealt
  rw [Int.zero_emod, if_neg (by omega)]
  simp

/-- the sum of len columns from column a -/
def wsum (F : Nat → Int) (a len : Nat) : Int := fsum (fun i => F (a + i)) len
theorem wsum_all (F : Nat → Int) (n : Nat) : wsum F 0 n = fsum F n := fsum_congr fun i _ => by rw [Nat.zero_add]
theorem wsum_le {F G : Nat → Int} {a len : Nat} (h : ∀ i, i < a + len → F i ≤ G i) : wsum F a len ≤ wsum G a len := fsum_le fun i hi => h (a + i) (by omega)
theorem wsum_bd {F : Nat → Int} {M : Int} {a len : Nat} (h : ∀ i, 0 ≤ F i ∧ F i ≤ M) : 0 ≤ wsum F a len ∧ wsum F a len ≤ len * M := by
  refine ⟨fsum_nonneg fun i _ => (h _).1, ?_⟩
  rw [← fsum_const M len]
  exact fsum_le fun i _ => (h _).2

/-- k of len columns from column a have their part of x -/
def spr (F : Nat → Int) (a len : Nat) (x : Int) (k : Nat) : Nat → Int := fun i => if a ≤ i ∧ i < a + k then F i + dealt x len (i - a) else F i
theorem spr_zero (F : Nat → Int) (a len : Nat) (x : Int) : spr F a len x 0 = F := by funext i; unfold spr; rw [if_neg (by omega)]
theorem spr_succ (F : Nat → Int) (a len : Nat) (x : Int) (k : Nat) : upd (spr F a len x k) (a + k) (F (a + k) + dealt x len k) = spr F a len x (k + 1) := by
  funext i
  unfold upd spr
  by_cases h : i = a + k
  · subst h
    rw [if_pos rfl, if_pos (by omega), show a + k - a = k by omega]
  · rw [if_neg h]
    by_cases h2 : a ≤ i ∧ i < a + k
    · rw [if_pos h2, if_pos (by omega)]
    · rw [if_neg h2, if_neg (by omega)]
theorem spr_at (F : Nat → Int) (a len : Nat) (x : Int) (k : Nat) : spr F a len x k (a + k) = F (a + k) := by unfold spr; rw [if_neg (by omega)]
theorem spr_bd (F : Nat → Int) (a len : Nat) {x : Int} (hx : 0 ≤ x) (k i : Nat) : F i ≤ spr F a len x k i ∧ spr F a len x k i ≤ F i + (x + 1) := by
  have h1 := dealt_nonneg hx len (i - a)
  have h2 := dealt_le hx len (i - a)
  unfold spr
  split <;> omega
theorem spr_sum (F : Nat → Int) (a : Nat) {len : Nat} (x : Int) (hl : 0 < len) : wsum (spr F a len x len) a len = wsum F a len + x := by
  unfold wsum
  rw [fsum_congr (G := fun i => F (a + i) + dealt x len i) (fun i hi => by
    unfold spr
    rw [if_pos (by omega), show a + i - a = i by omega]), fsum_add, dealt_sum hl]

/-- cells: the first column, how many, the least and the most width -/
structure Cls where
  N : Nat
  at_ : Nat → Nat
  sp : Nat → Nat
  lo : Nat → Int
  hi : Nat → Int
structure VC (C : Cls) (n : Nat) : Prop where
  few : C.N ≤ 20
  n1 : 1 ≤ n
  n8 : n ≤ 8
  cols : ∀ i, i < C.N → 1 ≤ C.sp i ∧ C.at_ i + C.sp i ≤ n
  lo : ∀ i, i < C.N → 0 ≤ C.lo i ∧ C.lo i ≤ 2000
  hi : ∀ i, i < C.N → 0 ≤ C.hi i ∧ C.hi i ≤ 3000

def cellS (C : Cls) (of : Nat → Int) (s : Nat) (F : Nat → Int) (j : Nat) : Nat → Int :=
  if C.sp j = s ∧ wsum F (C.at_ j) (C.sp j) < of j then spr F (C.at_ j) (C.sp j) (of j - wsum F (C.at_ j) (C.sp j)) (C.sp j) else F
def rowS (C : Cls) (of : Nat → Int) (s : Nat) (F : Nat → Int) : Nat → Nat → Int
  | 0 => F
  | k + 1 => cellS C of s (rowS C of s F k) k
def allS (C : Cls) (of : Nat → Int) : Nat → Nat → Int
  | 0 => fun _ => 0
  | s + 1 => rowS C of (s + 1) (allS C of s) C.N

theorem cellS_mono (C : Cls) (of : Nat → Int) (s : Nat) (F : Nat → Int) (j i : Nat) : F i ≤ cellS C of s F j i := by
  unfold cellS
  split
  · exact (spr_bd F _ _ (by omega) _ i).1
  · exact Int.le_refl _
theorem cellS_bd {C : Cls} {of : Nat → Int} {F : Nat → Int} {M : Int} (s : Nat) {j : Nat} (hF : ∀ i, 0 ≤ F i ∧ F i ≤ M) (ho : of j ≤ 3000) (i : Nat) : 0 ≤ cellS C of s F j i ∧ cellS C of s F j i ≤ M + 3001 := by
  have h1 := hF i
  refine ⟨Int.le_trans h1.1 (cellS_mono C of s F j i), ?_⟩
  unfold cellS
  split
  · rename_i h
    have h2 := (spr_bd F (C.at_ j) (C.sp j) (x := of j - wsum F (C.at_ j) (C.sp j)) (by omega) (C.sp j) i).2
    have h3 := (wsum_bd (a := C.at_ j) (len := C.sp j) hF).1
    omega
  · omega
theorem cellS_sat {C : Cls} (of : Nat → Int) (F : Nat → Int) {j : Nat} (h : 1 ≤ C.sp j) : of j ≤ wsum (cellS C of (C.sp j) F j) (C.at_ j) (C.sp j) := by
  unfold cellS
  split
  · rw [spr_sum _ _ _ (by omega)]; omega
  · rename_i hh; simp at hh; omega
theorem rowS_mono (C : Cls) (of : Nat → Int) (s : Nat) (F : Nat → Int) (i : Nat) : ∀ k d, rowS C of s F k i ≤ rowS C of s F (k + d) i
  | _, 0 => Int.le_refl _
  | k, d + 1 => Int.le_trans (rowS_mono C of s F i k d) (cellS_mono C of s _ _ i)
theorem rowS_bd {C : Cls} {of : Nat → Int} {F : Nat → Int} {M : Int} (s : Nat) (hF : ∀ i, 0 ≤ F i ∧ F i ≤ M) (ho : ∀ j, j < C.N → of j ≤ 3000) : ∀ k, k ≤ C.N → ∀ i, 0 ≤ rowS C of s F k i ∧ rowS C of s F k i ≤ M + 3001 * k
  | 0, _, i => by have := hF i; show 0 ≤ F i ∧ F i ≤ _; omega
  | k + 1, hk, i => by
    have h := cellS_bd (C := C) s (rowS_bd s hF ho k (by omega)) (ho k (by omega)) i
    show 0 ≤ cellS C of s (rowS C of s F k) k i ∧ cellS C of s (rowS C of s F k) k i ≤ _
    omega
theorem allS_bd {C : Cls} {of : Nat → Int} (hN : C.N ≤ 20) (ho : ∀ j, j < C.N → of j ≤ 3000) : ∀ s i, 0 ≤ allS C of s i ∧ allS C of s i ≤ 60020 * s
  | 0, i => by show (0 : Int) ≤ 0 ∧ (0 : Int) ≤ _; omega
  | s + 1, i => by
    have h := rowS_bd (C := C) (s + 1) (allS_bd hN ho s) ho C.N (Nat.le_refl _) i
    show 0 ≤ rowS C of (s + 1) (allS C of s) C.N i ∧ rowS C of (s + 1) (allS C of s) C.N i ≤ _
    omega
theorem rowS_all_bd {C : Cls} {of : Nat → Int} (hN : C.N ≤ 20) (ho : ∀ j, j < C.N → of j ≤ 3000) {s k : Nat} (hs : s < 8) (hk : k ≤ C.N) (i : Nat) : 0 ≤ rowS C of (s + 1) (allS C of s) k i ∧ rowS C of (s + 1) (allS C of s) k i ≤ 480160 := by
  have h := rowS_bd (C := C) (s + 1) (allS_bd hN ho s) ho k hk i
  omega
theorem allS_mono (C : Cls) (of : Nat → Int) (i : Nat) : ∀ s d, allS C of s i ≤ allS C of (s + d) i
  | _, 0 => Int.le_refl _
  | s, d + 1 => by
    refine Int.le_trans (allS_mono C of i s d) ?_
    have := rowS_mono C of (s + d + 1) (allS C of (s + d)) i 0 C.N
    rw [Nat.zero_add] at this
    exact this
theorem allS_sat {C : Cls} {of : Nat → Int} {n j : Nat} (hj : j < C.N) (h1 : 1 ≤ C.sp j) (h2 : C.sp j ≤ n) : of j ≤ wsum (allS C of n) (C.at_ j) (C.sp j) := by
  obtain ⟨s, hs⟩ : ∃ s, C.sp j = s + 1 := ⟨C.sp j - 1, by omega⟩
  have a1 := cellS_sat of (rowS C of (s + 1) (allS C of s) j) h1
  rw [hs] at a1
  have a2 : wsum (cellS C of (s + 1) (rowS C of (s + 1) (allS C of s) j) j) (C.at_ j) (s + 1) ≤ wsum (allS C of (s + 1)) (C.at_ j) (s + 1) := wsum_le fun i _ => by
    have := rowS_mono C of (s + 1) (allS C of s) i (j + 1) (C.N - (j + 1))
    rw [show j + 1 + (C.N - (j + 1)) = C.N by omega] at this
    exact this
  have a3 : wsum (allS C of (s + 1)) (C.at_ j) (s + 1) ≤ wsum (allS C of n) (C.at_ j) (s + 1) := wsum_le fun i _ => by
    have := allS_mono C of i (s + 1) (n - (s + 1))
    rw [show s + 1 + (n - (s + 1)) = n by omega] at this
    exact this
  rw [hs]
  omega

/-- the least widths, the most, and the widths for x -/
def lowF (C : Cls) (n : Nat) : Nat → Int := allS C C.lo n
def wantF (C : Cls) (j : Nat) : Int := max (C.lo j) (C.hi j)
def highF (C : Cls) (n : Nat) : Nat → Int := fun i => max (allS C (wantF C) n i) (lowF C n i)
theorem low_bd {C : Cls} {n : Nat} (h : VC C n) (i : Nat) : 0 ≤ lowF C n i ∧ lowF C n i ≤ 480160 := by
  have := allS_bd h.few (of := C.lo) (fun j hj => by have := h.lo j hj; omega) n i
  have := h.n8
  unfold lowF
  omega
theorem want_bd {C : Cls} {n : Nat} (h : VC C n) (i : Nat) : 0 ≤ allS C (wantF C) n i ∧ allS C (wantF C) n i ≤ 480160 := by
  have := allS_bd h.few (of := wantF C) (fun j hj => by have := h.lo j hj; have := h.hi j hj; unfold wantF; omega) n i
  have := h.n8
  omega
theorem high_bd {C : Cls} {n : Nat} (h : VC C n) (i : Nat) : lowF C n i ≤ highF C n i ∧ highF C n i ≤ 480160 := by
  have h1 := low_bd h i
  have h2 := want_bd h i
  unfold highF
  omega
theorem low_sat {C : Cls} {n : Nat} (h : VC C n) {j : Nat} (hj : j < C.N) : C.lo j ≤ wsum (lowF C n) (C.at_ j) (C.sp j) := by
  have := h.cols j hj
  exact allS_sat hj this.1 (by omega)

/-- x dealt out by weights -/
def shareF (x : Int) (P : Nat → Int) (n : Nat) : Nat → Int := fun i => if fsum P n = 0 then dealt x n i else x * fsum P (i + 1) / fsum P n - x * fsum P i / fsum P n
theorem share_part {x : Int} {P : Nat → Int} {n : Nat} (h : fsum P n ≠ 0) : ∀ k : Nat, fsum (shareF x P n) k = x * fsum P k / fsum P n
  | 0 => by simp [fsum]
  | k + 1 => by
    rw [fsum_succ, share_part h k]
    unfold shareF
    rw [if_neg h]
    omega
theorem share_sum {x : Int} {P : Nat → Int} {n : Nat} (hn : 1 ≤ n) : fsum (shareF x P n) n = x := by
  by_cases h : fsum P n = 0
  · rw [fsum_congr (G := dealt x n) (fun i _ => by unfold shareF; rw [if_pos h]), dealt_sum (by omega)]
  · rw [share_part h, Int.mul_ediv_cancel _ h]
theorem share_nonneg {x : Int} {P : Nat → Int} {n : Nat} (hx : 0 ≤ x) (hP : ∀ i, i < n → 0 ≤ P i) {i : Nat} (hi : i < n) : 0 ≤ shareF x P n i := by
  unfold shareF
  split
  · exact dealt_nonneg hx _ _
  · have h1 : fsum P i ≤ fsum P (i + 1) := by rw [fsum_succ]; have := hP i hi; omega
    have h2 := Int.mul_le_mul_of_nonneg_left h1 hx
    have h3 := Int.ediv_le_ediv (c := fsum P n) (by have := fsum_nonneg hP; omega) h2
    omega
theorem div_bounds (a b : Int) {T : Int} (hT : 0 < T) : a / T + b / T ≤ (a + b) / T ∧ (a + b) / T ≤ a / T + b / T + 1 := by
  have e1 := Int.mul_ediv_add_emod a T
  have e2 := Int.mul_ediv_add_emod b T
  have l1 := Int.emod_nonneg a (show T ≠ 0 by omega)
  have l2 := Int.emod_lt_of_pos a hT
  have m1 := Int.emod_nonneg b (show T ≠ 0 by omega)
  have m2 := Int.emod_lt_of_pos b hT
  constructor
  · refine Int.le_ediv_of_mul_le hT ?_
    rw [Int.add_mul, Int.mul_comm (a / T), Int.mul_comm (b / T)]
    omega
  · refine Int.le_of_lt_add_one (Int.ediv_lt_of_lt_mul hT ?_)
    rw [show a / T + b / T + 1 + 1 = a / T + b / T + 2 by omega, Int.add_mul, Int.add_mul, Int.mul_comm (a / T), Int.mul_comm (b / T)]
    omega
theorem share_real {x : Int} {P : Nat → Int} {n : Nat} (h : fsum P n ≠ 0) (hP : ∀ i, i < n → 0 ≤ P i) (i : Nat) : x * P i / fsum P n ≤ shareF x P n i ∧ shareF x P n i ≤ x * P i / fsum P n + 1 := by
  have hT := fsum_nonneg hP
  unfold shareF
  rw [if_neg h, fsum_succ, Int.mul_add]
  have := div_bounds (x * fsum P i) (x * P i) (show 0 < fsum P n by omega)
  omega
theorem share_le {x : Int} {P : Nat → Int} {n : Nat} (hx : 0 ≤ x) (hxT : x ≤ fsum P n) (hP : ∀ i, i < n → 0 ≤ P i) {i : Nat} (hi : i < n) : shareF x P n i ≤ P i := by
  by_cases h : fsum P n = 0
  · obtain rfl : x = 0 := by omega
    unfold shareF
    rw [if_pos h, dealt_zero]
    exact hP i hi
  · have hT := fsum_nonneg hP
    have hT' : 0 < fsum P n := by omega
    unfold shareF
    rw [if_neg h, fsum_succ, Int.mul_add]
    have h1 : x * P i ≤ P i * fsum P n := by rw [Int.mul_comm]; exact Int.mul_le_mul_of_nonneg_left hxT (hP i hi)
    have h2 : (x * fsum P i + x * P i) / fsum P n ≤ (x * fsum P i + P i * fsum P n) / fsum P n := Int.ediv_le_ediv hT' (by omega)
    rw [Int.add_mul_ediv_right _ _ h] at h2
    omega
theorem share_grow {x y : Int} {P : Nat → Int} {n : Nat} (hxy : x ≤ y) (h : fsum P n ≠ 0) (hP : ∀ i, i < n → 0 ≤ P i) {i : Nat} (hi : i < n) : shareF x P n i - 1 ≤ shareF y P n i := by
  have h1 := (share_real (x := x) h hP i).2
  have h2 := (share_real (x := y) h hP i).1
  have hT := fsum_nonneg hP
  have h3 : x * P i / fsum P n ≤ y * P i / fsum P n := Int.ediv_le_ediv (by omega) (Int.mul_le_mul_of_nonneg_right hxy (hP i hi))
  omega

/-- the widths -/
def widF (L H : Nat → Int) (n : Nat) (x : Int) : Nat → Int :=
  if x = 0 ∨ x = fsum H n then H else if x ≤ fsum L n then L else if fsum H n < x then fun i => H i + shareF (x - fsum H n) H n i else fun i => L i + shareF (x - fsum L n) (fun i => H i - L i) n i
section
variable {L H : Nat → Int} {n : Nat} {x y : Int}
theorem gap_sum : fsum (fun i => H i - L i) n = fsum H n - fsum L n := by
  have : fsum (fun i => H i - L i) n = fsum (fun i => H i + (-1) * L i) n := fsum_congr fun i _ => by omega
  rw [this, fsum_add, fsum_mul]
  omega
theorem wid_sum (hn : 1 ≤ n) (hle : ∀ i, L i ≤ H i) (h0 : 0 ≤ fsum L n) (_hx : 0 ≤ x) : fsum (widF L H n x) n = if x = 0 then fsum H n else max x (fsum L n) := by
  have hs : fsum L n ≤ fsum H n := fsum_le fun i _ => hle i
  by_cases h1 : x = 0
  · rw [if_pos h1]; unfold widF; rw [if_pos (.inl h1)]
  · rw [if_neg h1]
    by_cases h2 : x = fsum H n
    · unfold widF; rw [if_pos (.inr h2)]; omega
    · by_cases h3 : x ≤ fsum L n
      · unfold widF; rw [if_neg (by omega), if_pos h3]; omega
      · have hm : max x (fsum L n) = x := by omega
        rw [hm]
        unfold widF
        rw [if_neg (by omega), if_neg h3]
        by_cases h4 : fsum H n < x
        · rw [if_pos h4, fsum_add, share_sum hn]; omega
        · rw [if_neg h4, fsum_add, share_sum hn]; omega
theorem wid_low (hle : ∀ i, L i ≤ H i) (h0 : ∀ i, 0 ≤ L i) {i : Nat} (hi : i < n) : L i ≤ widF L H n x i := by
  have := hle i
  unfold widF
  split
  · exact hle i
  · split
    · exact Int.le_refl _
    · split
      · have := share_nonneg (x := x - fsum H n) (P := H) (by omega) (fun i _ => Int.le_trans (h0 i) (hle i)) hi
        show L i ≤ H i + _
        omega
      · have := share_nonneg (x := x - fsum L n) (P := fun i => H i - L i) (by omega) (fun i _ => by have := hle i; omega) hi
        show L i ≤ L i + _
        omega
theorem wid_high (hle : ∀ i, L i ≤ H i) (hx : x ≤ fsum H n) {i : Nat} (hi : i < n) : widF L H n x i ≤ H i := by
  have := hle i
  unfold widF
  split
  · exact Int.le_refl _
  · split
    · exact hle i
    · rw [if_neg (by omega)]
      have := share_le (x := x - fsum L n) (P := fun i => H i - L i) (by omega) (by rw [gap_sum]; omega) (fun i _ => by have := hle i; omega) hi
      show L i + _ ≤ H i
      omega
theorem wid_grow (hle : ∀ i, L i ≤ H i) (h0 : ∀ i, 0 ≤ L i) (h1 : 1 ≤ fsum L n) (hx : fsum L n ≤ x) (hxy : x ≤ y) (hy : y ≤ fsum H n) {i : Nat} (hi : i < n) : widF L H n x i - 1 ≤ widF L H n y i := by
  by_cases hyb : y = fsum H n
  · have := wid_high (x := x) hle (by omega) hi
    have hW : widF L H n y = H := by unfold widF; rw [if_pos (.inr hyb)]
    rw [hW]
    omega
  · by_cases hxa : x = fsum L n
    · have hW : widF L H n x = L := by unfold widF; rw [if_neg (by omega), if_pos (by omega)]
      have := wid_low (x := y) hle h0 hi
      rw [hW]
      omega
    · have h2 := share_grow (x := x - fsum L n) (y := y - fsum L n) (P := fun i => H i - L i) (n := n) (by omega) (by rw [gap_sum]; omega) (fun i _ => by have := hle i; omega) hi
      unfold widF
      rw [if_neg (by omega), if_neg (by omega), if_neg (by omega), if_neg (by omega), if_neg (by omega), if_neg (by omega)]
      show L i + _ - 1 ≤ L i + _
      omega
end
end Go.Proofs.Ytmnbcpinlgklpaa.Bal
