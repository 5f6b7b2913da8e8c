/- The contract of shape.Align. -/
import Derived.Test.YtnmikhmbnpiadaaDoorShapeAlike
import Derived.Test.YtnmikhmbnpiadaaDoorShapeFrame
import Derived.Deep.CutBlock
import Derived.Test.YtnmikhmbnpiadaaDoorShapeQuarterPlain
namespace Go.Proofs.YtnmikhmbnpiadaaDoor.Shp
open Go.RowKit Go.Frm

/-- the least and the greatest extent over places -/
def loA (G : Nat → Nat → Int) (ax : Int) (K : Nat → Nat) : Nat → Int
  | 0 => exLo G (K 0) ax
  | m + 1 => min (loA G ax K m) (exLo G (K m) ax)
def hiA (G : Nat → Nat → Int) (ax : Int) (K : Nat → Nat) : Nat → Int
  | 0 => exHi G (K 0) ax
  | m + 1 => max (hiA G ax K m) (exHi G (K m) ax)
theorem sorted_places (m : Nat) (K : Nat → Nat) : ∃ P : Nat → Nat, ((tab m (fun i => (K i : Int))).mergeSort fun x y => decide (x ≤ y)) = tab m (fun i => (P i : Int)) ∧ (∀ i, i < m → ∃ j, j < m ∧ P i = K j) ∧ (∀ j, j < m → ∃ i, i < m ∧ P i = K j) ∧ ((∀ i j, i < j → j < m → K i ≠ K j) → ∀ i j, i < j → j < m → P i ≠ P j) := by
  obtain ⟨L, hL⟩ : ∃ L, L = (tab m (fun i => (K i : Int))).mergeSort fun x y => decide (x ≤ y) := ⟨_, rfl⟩
  have hlen : L.length = m := by rw [hL, List.length_mergeSort, tab_length]
  have hmem : ∀ z, z ∈ L ↔ ∃ j, j < m ∧ (K j : Int) = z := fun z => by
    rw [hL, (List.mergeSort_perm _ _).mem_iff]
    simp [tab]
  have hat : ∀ i (h : i < L.length), ∃ j, j < m ∧ (K j : Int) = L[i] := fun i h => (hmem _).1 (List.getElem_mem h)
  have hnodup : (∀ i j, i < j → j < m → K i ≠ K j) → L.Nodup := fun h => by
    rw [hL, (List.mergeSort_perm _ _).nodup_iff]
    refine List.pairwise_iff_getElem.2 (fun i j h1 h2 h3 => ?_)
    rw [tab_length] at h1 h2
    have := h i j h3 h2
    simp [tab]
    omega
  rw [← hL]
  refine ⟨fun i => (L.getD i 0).toNat, ?_, fun i hi => ?_, fun j hj => ?_, fun hK i j hij hj => ?_⟩
  · apply List.ext_getElem
    · rw [hlen, tab_length]
    · intro i h1 h2
      obtain ⟨j, _, hj⟩ := hat i h1
      simp [tab, h1]
      omega
  · obtain ⟨j, hj1, hj2⟩ := hat i (by omega)
    refine ⟨j, hj1, ?_⟩
    have e : L.getD i 0 = L[i] := by simp [hlen, hi]
    show (L.getD i 0).toNat = K j
    rw [e, ← hj2]
    rfl
  · obtain ⟨i, h1, h2⟩ := List.mem_iff_getElem.1 ((hmem _).2 ⟨j, hj, rfl⟩)
    refine ⟨i, by omega, ?_⟩
    have e : L.getD i 0 = L[i] := by simp [h1]
    show (L.getD i 0).toNat = K j
    rw [e, h2]
    rfl
  · have h1 : i < L.length := by omega
    have h2 : j < L.length := by omega
    have hne : L[i] ≠ L[j] := List.pairwise_iff_getElem.1 (hnodup hK) i j h1 h2 hij
    obtain ⟨a, _, ha⟩ := hat i h1
    obtain ⟨b, _, hb⟩ := hat j h2
    have e1 : L.getD i 0 = L[i] := by simp [h1]
    have e2 : L.getD j 0 = L[j] := by simp [h2]
    show (L.getD i 0).toNat ≠ (L.getD j 0).toNat
    rw [e1, e2]
    omega
theorem loA_spec (G : Nat → Nat → Int) (ax : Int) (P : Nat → Nat) : ∀ m : Nat, 0 < m → (∀ i, i < m → loA G ax P m ≤ exLo G (P i) ax) ∧ ∃ i, i < m ∧ loA G ax P m = exLo G (P i) ax
  | 0, h => by omega
  | 1, _ => by
    refine ⟨fun i hi => ?_, 0, by omega, ?_⟩
    · obtain rfl : i = 0 := by omega
      simp [loA]
    · simp [loA]
  | m + 2, _ => by
    obtain ⟨h1, i, hi, h2⟩ := loA_spec G ax P (m + 1) (by omega)
    have e : loA G ax P (m + 2) = min (loA G ax P (m + 1)) (exLo G (P (m + 1)) ax) := rfl
    refine ⟨fun a ha => ?_, ?_⟩
    · rw [e]
      by_cases h : a < m + 1
      · have := h1 a h; omega
      · obtain rfl : a = m + 1 := by omega
        omega
    · rw [e]
      by_cases h : loA G ax P (m + 1) ≤ exLo G (P (m + 1)) ax
      · exact ⟨i, by omega, by omega⟩
      · exact ⟨m + 1, by omega, by omega⟩
theorem hiA_spec (G : Nat → Nat → Int) (ax : Int) (P : Nat → Nat) : ∀ m : Nat, 0 < m → (∀ i, i < m → exHi G (P i) ax ≤ hiA G ax P m) ∧ ∃ i, i < m ∧ hiA G ax P m = exHi G (P i) ax
  | 0, h => by omega
  | 1, _ => by
    refine ⟨fun i hi => ?_, 0, by omega, ?_⟩
    · obtain rfl : i = 0 := by omega
      simp [hiA]
    · simp [hiA]
  | m + 2, _ => by
    obtain ⟨h1, i, hi, h2⟩ := hiA_spec G ax P (m + 1) (by omega)
    have e : hiA G ax P (m + 2) = max (hiA G ax P (m + 1)) (exHi G (P (m + 1)) ax) := rfl
    refine ⟨fun a ha => ?_, ?_⟩
    · rw [e]
      by_cases h : a < m + 1
      · have := h1 a h; omega
      · obtain rfl : a = m + 1 := by omega
        omega
    · rw [e]
      by_cases h : exHi G (P (m + 1)) ax ≤ hiA G ax P (m + 1)
      · exact ⟨i, by omega, by omega⟩
      · exact ⟨m + 1, by omega, by omega⟩
/-- the extent of a shape that is not turned -/
theorem ex_zero {G : Nat → Nat → Int} {k : Nat} (hz : G k 7 = 0) (hw : 0 ≤ G k 5) (hh : 0 ≤ G k 6) :
    exLo G k 0 = G k 3 ∧ exHi G k 0 = G k 3 + G k 5 ∧ exLo G k 1 = G k 4 ∧ exHi G k 1 = G k 4 + G k 6 := by
  have cx : ∀ i, ctX G k i = crX G k i := fun i => by unfold ctX; rw [hz]; exact (tu_zero _ _ _ _).1
  have cy : ∀ i, ctY G k i = crY G k i := fun i => by unfold ctY; rw [hz]; exact (tu_zero _ _ _ _).2
  unfold exLo exHi
  simp only [mnU, mxU, cx, cy]
  simp [crX, crY]
  refine ⟨?_, ?_, ?_, ?_⟩
  all_goals (repeat' split)
  all_goals omega
/-- how far a shape is moved -/
def byA (G : Nat → Nat → Int) (side lo hi : Int) (k : Nat) : Int :=
  if side % 3 = 0 then lo - exLo G k (side / 3) else if side % 3 = 1 then rdu (lo + hi - exLo G k (side / 3) - exHi G k (side / 3)) 2 else hi - exHi G k (side / 3)
/-- the numbers behind the first i places -/
def alF (G : Nat → Nat → Int) (side lo hi : Int) (P : Nat → Nat) (i : Nat) (k j : Nat) : Int :=
  if (j : Int) = 3 + side / 3 ∧ ((List.range i).any fun t => P t == k) = true then G k j + byA G side lo hi k else G k j
theorem any_succ (P : Nat → Nat) (i k : Nat) : (List.range (i + 1)).any (fun t => P t == k) = ((List.range i).any (fun t => P t == k) || P i == k) := by
  simp [List.range_succ]
theorem any_new {P : Nat → Nat} {m i : Nat} (h : ∀ a b, a < b → b < m → P a ≠ P b) (hi : i < m) : (List.range i).any (fun t => P t == P i) = false := by
  rw [List.any_eq_false]
  intro t ht
  have := h t i (List.mem_range.1 ht) hi
  simpa using this
theorem alF_old {G : Nat → Nat → Int} {side lo hi : Int} {P : Nat → Nat} {m i : Nat} (h : ∀ a b, a < b → b < m → P a ≠ P b) (hi' : i < m) (j : Nat) : alF G side lo hi P i (P i) j = G (P i) j := by
  unfold alF
  rw [any_new h hi', if_neg (by simp)]
theorem alF_step (G : Nat → Nat → Int) (side lo hi : Int) (P : Nat → Nat) (T : Nat → Nat → ByteArray) (i c : Nat) (hc : (c : Int) = 3 + side / 3) (hc9 : c < 10) :
    upd2 (shV (alF G side lo hi P i) T) (P i) c (.int .i64 (G (P i) c + byA G side lo hi (P i))) = shV (alF G side lo hi P (i + 1)) T := by
  funext a b
  unfold upd2 shV
  by_cases hab : a = P i ∧ b = c
  · obtain ⟨rfl, rfl⟩ := hab
    rw [if_pos ⟨rfl, rfl⟩, if_pos hc9]
    unfold alF
    rw [if_pos ⟨hc, by rw [any_succ]; simp⟩]
  · rw [if_neg hab]
    by_cases hb : b < 10
    · rw [if_pos hb, if_pos hb]
      unfold alF
      rw [any_succ]
      by_cases hbc : (b : Int) = 3 + side / 3
      · have hne : ¬ P i = a := fun e => hab ⟨e.symm, by omega⟩
        have e1 : (P i == a) = false := by simpa using hne
        rw [e1, Bool.or_false]
      · rw [if_neg (fun h => hbc h.1), if_neg (fun h => hbc h.1)]
    · rw [if_neg hb, if_neg hb]
/-- the numbers behind the alignment -/
def alS (G : Nat → Nat → Int) (side lo hi : Int) (sel : Nat → Bool) (k j : Nat) : Int := if (j : Int) = 3 + side / 3 ∧ sel k = true then G k j + byA G side lo hi k else G k j
theorem alS_of {G : Nat → Nat → Int} {side lo hi : Int} {sel : Nat → Bool} {k j : Nat} (h : (j : Int) ≠ 3 + side / 3) : alS G side lo hi sel k j = G k j := if_neg (fun hh => h hh.1)
theorem byA_bd {G : Nat → Nat → Int} {side lo hi : Int} {k : Nat} (h1 : lo.natAbs ≤ 20000) (h2 : hi.natAbs ≤ 20000) (h3 : (exLo G k (side / 3)).natAbs ≤ 20000) (h4 : (exHi G k (side / 3)).natAbs ≤ 20000) : (byA G side lo hi k).natAbs ≤ 100000 := by
  unfold byA rdu
  generalize exLo G k (side / 3) = a at *
  generalize exHi G k (side / 3) = b at *
  repeat' split
  all_goals omega
/-- the drawing is not turned and of no great size -/
def Plain (G : Nat → Nat → Int) (n : Nat) (B : Int) : Prop := ∀ k, k < n → G k 7 = 0 ∧ (-B ≤ G k 3 ∧ G k 3 ≤ B) ∧ (-B ≤ G k 4 ∧ G k 4 ≤ B) ∧ (0 ≤ G k 5 ∧ G k 5 ≤ 1500) ∧ 0 ≤ G k 6 ∧ G k 6 ≤ 1500
theorem ex_bd {G : Nat → Nat → Int} {k : Nat} {ax : Int} (h7 : G k 7 = 0) (h3 : -10000 ≤ G k 3 ∧ G k 3 ≤ 10000) (h4 : -10000 ≤ G k 4 ∧ G k 4 ≤ 10000) (h5 : 0 ≤ G k 5 ∧ G k 5 ≤ 1500) (h6 : 0 ≤ G k 6 ∧ G k 6 ≤ 1500) (ha : ax = 0 ∨ ax = 1) : (exLo G k ax).natAbs ≤ 20000 ∧ (exHi G k ax).natAbs ≤ 20000 := by
  obtain ⟨e1, e2, e3, e4⟩ := ex_zero h7 h5.1 h6.1
  rcases ha with rfl | rfl
  · rw [e1, e2]; omega
  · rw [e3, e4]; omega
theorem alS_ok {G : Nat → Nat → Int} {n : Nat} {side lo hi : Int} {sel : Nat → Bool} (ho : ShOk G n) (h0 : 0 ≤ side) (h5 : side ≤ 5) (hp : Plain G n 10000) (h1 : lo.natAbs ≤ 20000) (h2 : hi.natAbs ≤ 20000) : ShOk (alS G side lo hi sel) n := by
  have hne : ∀ k j, j ≠ 3 → j ≠ 4 → alS G side lo hi sel k j = G k j := fun k j h3 h4 => alS_of (by omega)
  have hxy : ∀ k, k < n → (-1048576 ≤ alS G side lo hi sel k 3 ∧ alS G side lo hi sel k 3 ≤ 1048576) ∧ (-1048576 ≤ alS G side lo hi sel k 4 ∧ alS G side lo hi sel k 4 ≤ 1048576) := fun k hk => by
    obtain ⟨p7, p3, p4, p5, p6⟩ := hp k hk
    obtain ⟨b1, b2⟩ := ex_bd (ax := side / 3) p7 p3 p4 p5 p6 (by omega)
    have hb := byA_bd (G := G) (side := side) (lo := lo) (hi := hi) (k := k) h1 h2 b1 b2
    unfold alS
    refine ⟨?_, ?_⟩
    · split <;> omega
    · split <;> omega
  exact {
    few := ho.few
    item := fun i hi => by rw [hne i 0 (by decide) (by decide)]; exact ho.item i hi
    one := fun j i hj hi => by rw [hne j 0 (by decide) (by decide), hne i 0 (by decide) (by decide)]; exact ho.one j i hj hi
    par := fun i hi => by rw [hne i 1 (by decide) (by decide)]; exact ho.par i hi
    kind := fun i hi => by rw [hne i 2 (by decide) (by decide)]; exact ho.kind i hi
    xy := hxy
    wh := fun i hi => by rw [hne i 5 (by decide) (by decide), hne i 6 (by decide) (by decide)]; exact ho.wh i hi
    turn := fun i hi => by rw [hne i 7 (by decide) (by decide)]; exact ho.turn i hi
    ft := fun i hi => by rw [hne i 8 (by decide) (by decide), hne i 9 (by decide) (by decide)]; exact ho.ft i hi
    link := fun i hi h => by rw [hne i 2 (by decide) (by decide)] at h; rw [hne i 8 (by decide) (by decide), hne i 9 (by decide) (by decide)]; exact ho.link i hi h
    grp := fun i hi => by
      rcases ho.grp i hi with h | ⟨p, h1, h2, h3⟩
      · left; rw [hne i 1 (by decide) (by decide)]; exact h
      · right; exact ⟨p, h1, by rw [hne p 0 (by decide) (by decide), hne i 1 (by decide) (by decide)]; exact h2, by rw [hne p 2 (by decide) (by decide)]; exact h3⟩ }
def AlPost (n : Nat) (G : Nat → Nat → Int) (T : Nat → Nat → ByteArray) (zs : List Int) (side : Int) (w : World) (e : Ending) (w' : World) : Prop :=
  ∃ (A' : Option Addr) (c' : Nat) (sel : Nat → Bool) (lo hi : Int), e = .returned (.tuple #[.slice A' n c', .int .i64 0]) ∧
    w'.ownsRow w.heap.size 23 12 (.slice A' n c') n (rowF n 12 (shV (alS G side lo hi sel) T)) ∧ Below w.heap.size w w' ∧ ShOk (alS G side lo hi sel) n ∧
    (∀ k, k < n → (sel k = true ↔ G k 0 ∈ zs)) ∧ (∀ k, k < n → sel k = true → lo ≤ exLo G k (side / 3) ∧ exHi G k (side / 3) ≤ hi) ∧ (∃ k, k < n ∧ sel k = true ∧ lo = exLo G k (side / 3)) ∧ (∃ k, k < n ∧ sel k = true ∧ hi = exHi G k (side / 3))
theorem alF_zero (G : Nat → Nat → Int) (side lo hi : Int) (P : Nat → Nat) : alF G side lo hi P 0 = G := by
  funext k j
  simp [alF]
set_option maxRecDepth 100000 in
set_option maxHeartbeats 4000000 in
theorem align_ok (A Ai : Option Addr) (n c ci base : Nat) (G : Nat → Nat → Int) (T : Nat → Nat → ByteArray) (zs : List Int) (side : Int) (hs0 : 0 ≤ side) (hs5 : side ≤ 5) (w : World) (hq : TabQ w) (ho : ShOk G n) (hrow : w.ownsRow base 23 12 (.slice A n c) n (rowF n 12 (shV G T))) (hnc : n ≤ c) (hz : RdI w Ai zs) (hzc : zs.length ≤ ci) (hl : zs.length ≤ 100) (hnd : zs.Nodup) (h0 : zs ≠ []) (hall : ∀ z ∈ zs, ∃ k, k < n ∧ G k 0 = z) (hp0 : ∀ k, k < n → G k 1 = 0) (hpl : Plain G n 10000) :
    Calls Tryd.prog 18 #[.slice A n c, .slice Ai zs.length ci, .int .i64 side] w (AlPost n G T zs side w) := by
  have Hpl := hide hpl
  have hz7 : ∀ k, k < n → G k 7 = 0 := fun k hk => (hpl k hk).1
  have hbig : ∀ k, k < n → (-10000 ≤ G k 3 ∧ G k 3 ≤ 10000) ∧ (-10000 ≤ G k 4 ∧ G k 4 ≤ 10000) ∧ (0 ≤ G k 5 ∧ G k 5 ≤ 1500) ∧ 0 ≤ G k 6 ∧ G k 6 ≤ 1500 := fun k hk => (hpl k hk).2
  clear hpl
  have hn := ho.few
  have Hal := hide (alike_ok A Ai n c ci G T zs w ho (RdF.of_own hrow) hnc hz hzc hl hnd)
  have Ho := hide ho
  have Hall := hide hall
  have Hp0 := hide hp0
  have Hh0 := hide h0
  have Hz7 := hide hz7
  have Hbig := hide hbig
  clear ho hall hp0 h0 hz7 hbig
  go_enter Tryd.func18, Tryd.ntmps18
  go_wp2_with fail
  refine Hal.out.mono ?_
  rintro e w1 ⟨hb1, ⟨rfl, hbad⟩ | ⟨rfl, i, j, hi, hj, hij⟩ | ⟨K, A8, c8, rfl, hz0, hK, hown8⟩⟩
  · exfalso
    rcases hbad with h | ⟨z, hz1, hz2⟩
    · exact Hh0.out h
    · obtain ⟨k, hk, hk2⟩ := Hall.out z hz1
      exact hz2 k hk hk2
  · exfalso
    exact hij (by rw [Hp0.out i hi, Hp0.out j hj])
  have d1 : decide (side < 0) = false := by simp; omega
  have d2 : decide (side ≥ 6) = false := by simp; omega
  go_upto_region 6 with fail
  obtain ⟨P, hP, hP1, hP2, hP3⟩ := sorted_places zs.length K
  have hinj := hP3 (fun i j hij hj hh => by
    have h1 := (hK i (by omega)).2.1
    have h2 := (hK j hj).2.1
    rw [hh, h2] at h1
    have e1 : ix zs i = zs[i]'(by omega) := by simp [ix, show i < zs.length by omega]
    have e2 : ix zs j = zs[j] := by simp [ix, hj]
    rw [e1, e2] at h1
    exact (List.pairwise_iff_getElem.1 hnd i j (by omega) hj hij) h1.symm)
  have Hinj := hide hinj
  clear hP3 hinj
  rw [hP] at hown8
  have hPn : ∀ i, i < zs.length → P i < n := fun i hi => by
    obtain ⟨j, hj1, hj2⟩ := hP1 i hi
    rw [hj2]
    exact (hK j hj1).1
  have hsel : ∀ k, k < n → ((List.range zs.length).any (fun t => P t == k) = true ↔ G k 0 ∈ zs) := fun k hk => by
    rw [List.any_eq_true]
    constructor
    · rintro ⟨t, ht, he⟩
      have he : P t = k := by simpa using he
      obtain ⟨j, hj1, hj2⟩ := hP1 t (List.mem_range.1 ht)
      have h1 := (hK j hj1).2.1
      rw [← hj2, he] at h1
      rw [h1]
      exact ix_mem hj1
    · intro hm
      obtain ⟨j, hj, he⟩ := List.mem_iff_getElem.1 hm
      have h1 := hK j hj
      have h2 : G (K j) 0 = G k 0 := by rw [h1.2.1, ← he, ix_eq hj]
      have h3 : K j = k := by
        rcases Nat.lt_trichotomy (K j) k with h | h | h
        · exact absurd h2 (Ho.out.one _ _ h hk)
        · exact h
        · exact absurd h2.symm (Ho.out.one _ _ h h1.1)
      obtain ⟨i, hi1, hi2⟩ := hP2 j hj
      exact ⟨i, List.mem_range.2 hi1, by simpa using hi2.trans h3⟩
  have Hsel := hide hsel
  clear hsel
  have HPn := hide hPn
  have HP1 := hide hP1
  have HP2 := hide hP2
  have HK := hide hK
  clear hPn hP1 hP2 hK hP
  have hlz : 0 < zs.length := by
    rcases Nat.eq_zero_or_pos zs.length with h | h
    · exact absurd (List.eq_nil_of_length_eq_zero h) hz0
    · exact h
  have hr8 := RdI.of_own hown8
  obtain ⟨b8, o8, rfl, k8⟩ := hr8.at_ (k := 0) (by rw [tab_length]; exact hlz)
  rw [tab_ix _ hlz, Nat.add_zero] at k8
  have hrA := (RdF.of_own hrow).below hb1
  obtain ⟨b, off, rfl, k0, k1, k2, k3, k4, k5, k6, k7, k8', k9, k10, k11⟩ := cells12 hrA (HPn.out 0 hlz)
  have s1 : (0 : Int) < (zs.length : Int) := by omega
  have s2 : (P 0 : Int) < (n : Int) := by have := HPn.out 0 hlz; omega
  have s3 : (0 : Int) ≤ (P 0 : Int) := by omega
  have s7 : zs.length ≠ 0 := by omega
  have Hhz := hide hz0
  clear hz0
  clear s7 Hhz Hal hz hnd
  generalize zs.length = m at *
  have s7 : m ≠ 0 := by omega
  have Hex := hide (fun wx k (hk : k < n) (hqx : TabQ wx) => extent_ok n k G T (side / 3) wx hqx Ho.out hk)
  go_wp2_with fail
  refine (Hex.out w1 (P 0) (HPn.out 0 hlz) (hq.below hb1)).mono ?_
  rintro e w2 ⟨rfl, hb2⟩
  have hbl2 := hb1.trans (hb2.mono hb1.size)
  have hown2 := own_below hown8 hb2
  clear k0 k1 k2 k3 k4 k5 k6 k7 k8' k9 k10 k11 k8 hrA hr8 hown8 hb1 hb2
  go_wp2_with fail
  go_loopw [10, 11, 52] (fun a b' c' wr => ∃ i : Nat, i ≤ m ∧ a = .int .i64 (loA G (side / 3) P i) ∧ b' = .int .i64 (hiA G (side / 3) P i) ∧ c' = .int .i64 i ∧ wr.ownsRow w.heap.size 3 1 (.slice (some ⟨b8, o8, none⟩) m c8) m ((tab m (fun i => (P i : Int))).map (Value.int .i64)) ∧ Below w.heap.size w wr) (fun _ _ c' _ => m - (intOf c').toNat)
  case atStart => exact ⟨0, by omega, rfl, rfl, rfl, hown2, hbl2⟩
  case round =>
    clear hown2 hbl2
    obtain ⟨i, hi, rfl, rfl, rfl, hown, hbl⟩ := hrel
    by_cases hlt : i < m
    · obtain ⟨bz, oz, hz8, q8⟩ := (RdI.of_own hown).at_ (k := i) (by rw [tab_length]; exact hlt)
      injection hz8 with hz8
      injection hz8 with hz1 hz2
      subst hz1 hz2
      rw [tab_ix _ hlt] at q8
      obtain ⟨bz, oz, hzA, k0, k1, k2, k3, k4, k5, k6, k7, k8', k9, k10, k11⟩ := cells12 ((RdF.of_own hrow).below hbl) (HPn.out i hlt)
      injection hzA with hzA
      injection hzA with hz1 hz2
      subst hz1 hz2
      have t1 : (0 : Int) ≤ (i : Int) := by omega
      have t2 : (i : Int) < (m : Int) := by omega
      have t3 : (P i : Int) < (n : Int) := by have := HPn.out i hlt; omega
      have t4 : (0 : Int) ≤ (P i : Int) := by omega
      go_wp2_with fail
      refine (Hex.out wr (P i) (HPn.out i hlt) (hq.below hbl)).mono ?_
      rintro e w3 ⟨rfl, hb3⟩
      have hbl3 := hbl.trans (hb3.mono hbl.size)
      have hown3 := own_below hown hb3
      clear k0 k1 k2 k3 k4 k5 k6 k7 k8' k9 k10 k11 q8 hown hbl hb3
      go_wp2_with fail
      go_roundw
      case rel => exact ⟨i + 1, by omega, rfl, rfl, by go_num, hown3, hbl3⟩
      case measure => simp [intOf]; omega
    · have him : m = i := by omega
      subst him
      go_wp2_with fail
      have hrw := own_below hrow hbl
      refine (clone_ok n G T _ c base wr (by omega) hrw).mono ?_
      rintro e w5 ⟨A6, c6, rfl, hown6, hb6⟩
      have hbl6 := hbl.trans (hb6.mono hbl.size)
      have hown7 := own_below hown hb6
      have hrw6 := own_below hrw hb6
      have Hown := hide hown
      have Hbl0 := hide hbl
      have Hrow := hide hrow
      clear hown hbl hb6 hrow hrw
      go_wp2_with fail
      obtain ⟨lo, hlo⟩ : ∃ lo, lo = loA G (side / 3) P m := ⟨_, rfl⟩
      obtain ⟨hh, hhi⟩ : ∃ hh, hh = hiA G (side / 3) P m := ⟨_, rfl⟩
      rw [← hlo, ← hhi]
      have hlh : lo.natAbs ≤ 20000 ∧ hh.natAbs ≤ 20000 := by
        obtain ⟨_, a, ha, ea⟩ := loA_spec G (side / 3) P m (by omega)
        obtain ⟨_, b', hb', eb⟩ := hiA_spec G (side / 3) P m (by omega)
        obtain ⟨⟨v0, v1⟩, ⟨v2, v3⟩, ⟨v4, v5⟩, v6, v7⟩ := Hbig.out (P a) (HPn.out a ha)
        obtain ⟨e1, _, e3, _⟩ := ex_zero (Hz7.out (P a) (HPn.out a ha)) v4 v6
        obtain ⟨⟨u0, u1⟩, ⟨u2, u3⟩, ⟨u4, u5⟩, u6, u7⟩ := Hbig.out (P b') (HPn.out b' hb')
        obtain ⟨_, e2, _, e4⟩ := ex_zero (Hz7.out (P b') (HPn.out b' hb')) u4 u6
        rw [hlo, hhi, ea, eb]
        by_cases h : side / 3 = 0
        · rw [h, e1, e2]; omega
        · have h1 : side / 3 = 1 := by omega
          rw [h1, e3, e4]; omega
      have Hlh := hide hlh
      have Hlo := hide hlo
      have Hhi := hide hhi
      clear hlh hlo hhi
      have hbl := Hbl0.out
      have hown := Hown.out
      have hrow := Hrow.out
      have Hwr := hide hbl.size
      have hbg : ∀ g, wr.heap.size ≤ g → b ≠ g := fun g hg => by
        obtain ⟨bz, oz, hzA, k0, _⟩ := cells12 ((RdF.of_own hrow).below hbl) (HPn.out 0 (by omega))
        injection hzA with hzA
        injection hzA with hz1 hz2
        subst hz1 hz2
        have := World.block_lt_of_cell? _ _ k0
        intro e
        subst e
        exact absurd this (Nat.not_lt.2 hg)
      have hkeep8 : ∀ (g : Nat) (wx : World) (j : Nat) (u : Value), wr.heap.size ≤ g → wx.ownsRow w.heap.size 3 1 (.slice (some ⟨b8, o8, none⟩) m c8) m ((tab m (fun i => (P i : Int))).map (Value.int .i64)) → (wx.setCell ⟨g, j, none⟩ u).ownsRow w.heap.size 3 1 (.slice (some ⟨b8, o8, none⟩) m c8) m ((tab m (fun i => (P i : Int))).map (Value.int .i64)) := fun g wx j u hg hwx => by
        have hlt := (hown.lt b8 rfl).2
        exact ownsRow_setCell_other hwx (a := ⟨g, j, none⟩) (fun hh => by
          have e : b8 = g := by simpa [Value.ownBlock] using hh
          omega) u
      have Hkeep8 := hide hkeep8
      clear hkeep8 hbl hown hrow
      go_loopw [77] (fun a wr2 => ∃ i : Nat, i ≤ m ∧ a = .int .i64 i ∧ wr2.ownsRow wr.heap.size 23 12 (.slice A6 n c6) n (rowF n 12 (shV (alF G side lo hh P i) T)) ∧ wr2.ownsRow w.heap.size 3 1 (.slice (some ⟨b8, o8, none⟩) m c8) m ((tab m (fun i => (P i : Int))).map (Value.int .i64)) ∧ RdF wr2 (some ⟨b, off, none⟩) n 12 (shV G T) ∧ Below w.heap.size w wr2) (fun a _ => m - (intOf a).toNat)
      case atStart => exact ⟨0, by omega, rfl, by rw [alF_zero]; exact hown6, hown7, RdF.of_own hrw6, hbl6⟩
      case round =>
        clear hown6 hown7 hbl6 hrw6
        obtain ⟨i, hi, rfl, ho6, ho8, hrA, hbl⟩ := hrel
        by_cases hlt2 : i < m
        · have hPi := HPn.out i hlt2
          obtain ⟨bz, oz, hz8, q8⟩ := (RdI.of_own ho8).at_ (k := i) (by rw [tab_length]; exact hlt2)
          injection hz8 with hz8
          injection hz8 with hz1 hz2
          subst hz1 hz2
          rw [tab_ix _ hlt2] at q8
          obtain ⟨bz, oz, hzA, k0, k1, k2, k3, k4, k5, k6, k7, k8', k9, k10, k11⟩ := cells12 hrA hPi
          injection hzA with hzA
          injection hzA with hz1 hz2
          subst hz1 hz2
          have t1 : (0 : Int) ≤ (i : Int) := by omega
          have t2 : (i : Int) < (m : Int) := by omega
          have t3 : (P i : Int) < (n : Int) := by omega
          have t4 : (0 : Int) ≤ (P i : Int) := by omega
          go_wp2_with fail
          refine (Hex.out wr (P i) hPi (hq.below hbl)).mono ?_
          rintro e w3 ⟨rfl, hb3⟩
          have hb3' := hbl.trans (hb3.mono hbl.size)
          have ho6' := own_below ho6 hb3
          have ho8' := own_below ho8 hb3
          have hrA' := hrA.below hb3
          clear k0 k1 k2 k3 k4 k5 k6 k7 k8' k9 k10 k11 q8 ho6 ho8 hrA hbl hb3
          obtain ⟨⟨v0, v1⟩, ⟨v2, v3⟩, ⟨v4, v5⟩, v6, v7⟩ := Hbig.out (P i) hPi
          obtain ⟨e1, e2, e3, e4⟩ := ex_zero (Hz7.out (P i) hPi) v4 v6
          obtain ⟨g6, rfl, hg6⟩ := own_at ho6' (by omega)
          have hcapb : lo.natAbs ≤ 20000 ∧ hh.natAbs ≤ 20000 := Hlh.out
          obtain ⟨u0, u1⟩ := hcapb
          have hA : (side / 3 = 0 ∧ exLo G (P i) (side / 3) = G (P i) 3 ∧ exHi G (P i) (side / 3) = G (P i) 3 + G (P i) 5) ∨ (side / 3 = 1 ∧ exLo G (P i) (side / 3) = G (P i) 4 ∧ exHi G (P i) (side / 3) = G (P i) 4 + G (P i) 6) := by
            by_cases h : side / 3 = 0
            · rw [h]; exact .inl ⟨rfl, e1, e2⟩
            · have h1 : side / 3 = 1 := by omega
              rw [h1]; exact .inr ⟨rfl, e3, e4⟩
          have hlo : (exLo G (P i) (side / 3)).natAbs ≤ 20000 := by rcases hA with ⟨_, h, _⟩ | ⟨_, h, _⟩ <;> omega
          have hhi : (exHi G (P i) (side / 3)).natAbs ≤ 20000 := by rcases hA with ⟨_, _, h⟩ | ⟨_, _, h⟩ <;> omega
          have hby := hide (show byA G side lo hh (P i) = if side % 3 = 0 then lo - exLo G (P i) (side / 3) else if side % 3 = 1 then rdu (lo + hh - exLo G (P i) (side / 3) - exHi G (P i) (side / 3)) 2 else hh - exHi G (P i) (side / 3) from rfl)
          have HA := hide hA
          clear hA e1 e2 e3 e4
          generalize exLo G (P i) (side / 3) = a at *
          generalize exHi G (P i) (side / 3) = bb at *
          go_upto_block 4 with fail
          go_cut [21] (fun v wc => v = .int .i64 (byA G side lo hh (P i)) ∧ w3 = wc)
          case first =>
            have hsd : side % 3 = 0 ∨ side % 3 = 1 ∨ side % 3 = 2 := by omega
            have hrd := hide (fun wx => round_ok (lo + hh - a - bb) 2 wx (by omega) (by omega) (by omega) (by omega))
            rcases hsd with hsd | hsd | hsd
            · have hb := hide (hby.out.trans (if_pos hsd))
              have c0 : (side % 3 == 0) = true := by simpa using hsd
              clear hby hrd hsd
              go_wp2_with fail
              go_meet
              exact ⟨by rw [hb.out], rfl⟩
            · have hb := hide (hby.out.trans ((if_neg (by omega)).trans (if_pos hsd)))
              have c0 : (side % 3 == 0) = false := by rw [beq_eq_false_iff_ne]; omega
              have c1 : (side % 3 == 1) = true := by simpa using hsd
              clear hby hsd
              go_wp2_with fail
              refine (hrd.out _).mono ?_
              rintro e w4 ⟨rfl, rfl⟩
              rw [← hb.out]
              go_wp2_with fail
              go_meet
              exact ⟨rfl, rfl⟩
            · have hb := hide (hby.out.trans ((if_neg (by omega)).trans (if_neg (by omega))))
              have c0 : (side % 3 == 0) = false := by rw [beq_eq_false_iff_ne]; omega
              have c1 : (side % 3 == 1) = false := by rw [beq_eq_false_iff_ne]; omega
              clear hby hrd hsd
              go_wp2_with fail
              go_meet
              exact ⟨by rw [hb.out], rfl⟩
          case rest =>
            obtain ⟨rfl, rfl⟩ := hcut
            have hbb : (byA G side lo hh (P i)).natAbs ≤ 100000 := by
              have hsd : side % 3 = 0 ∨ side % 3 = 1 ∨ side % 3 = 2 := by omega
              rcases hsd with hsd | hsd | hsd
              · rw [hby.out.trans (if_pos hsd)]; omega
              · rw [hby.out.trans ((if_neg (by omega)).trans (if_pos hsd))]; unfold rdu; omega
              · rw [hby.out.trans ((if_neg (by omega)).trans (if_neg (by omega)))]; omega
            have x3 := own_cellF ho6' hPi (show 3 < 12 by omega)
            have x4 := own_cellF ho6' hPi (show 4 < 12 by omega)
            have f3 : w3.cell? ⟨g6, P i * 12 + 3, none⟩ = some (.int .i64 (G (P i) 3)) := by rw [x3]; unfold shV; rw [if_pos (by omega), alF_old Hinj.out hlt2]
            have f4 : w3.cell? ⟨g6, P i * 12 + 4, none⟩ = some (.int .i64 (G (P i) 4)) := by rw [x4]; unfold shV; rw [if_pos (by omega), alF_old Hinj.out hlt2]
            have z3 := ho6'.frozenAt (P i * 12 + 3)
            have z4 := ho6'.frozenAt (P i * 12 + 4)
            have hmv := hide (move_ok g6 (P i * 12) (side / 3) (byA G side lo hh (P i)) (G (P i) 3) (G (P i) 4) w3 f3 f4 z3 z4 (by omega) (by omega) (by omega))
            clear x3 x4 f3 f4 z3 z4 hby
            go_wp2_with fail
            refine hmv.out.mono ?_
            rintro e w4 ⟨rfl, rfl⟩
            have hfin : ∃ c : Nat, (c : Int) = 3 + side / 3 ∧ c < 10 ∧ w3.setCell (if side / 3 = 0 then ⟨g6, P i * 12 + 3, none⟩ else ⟨g6, P i * 12 + 4, none⟩) (.int .i64 (if side / 3 = 0 then G (P i) 3 + byA G side lo hh (P i) else G (P i) 4 + byA G side lo hh (P i))) =
                w3.setCell ⟨g6, P i * 12 + c, none⟩ (.int .i64 (G (P i) c + byA G side lo hh (P i))) := by
              rcases HA.out with ⟨h, _⟩ | ⟨h, _⟩
              · exact ⟨3, by omega, by omega, by rw [if_pos h, if_pos h]⟩
              · exact ⟨4, by omega, by omega, by rw [if_neg (by omega), if_neg (by omega)]⟩
            obtain ⟨cc, hcc, hcc9, hw4⟩ := hfin
            rw [hw4]
            have hst := own_storeF ho6' (P i) (show cc < 12 by omega) (.int .i64 (G (P i) cc + byA G side lo hh (P i)))
            rw [alF_step G side lo hh P T i cc hcc hcc9] at hst
            have hrk : RdF (w3.setCell ⟨g6, P i * 12 + cc, none⟩ (.int .i64 (G (P i) cc + byA G side lo hh (P i)))) (some ⟨b, off, none⟩) n 12 (shV G T) := rdF_far hrA' (by simpa using hbg g6 hg6) _
            have h8k := Hkeep8.out g6 w3 (P i * 12 + cc) (.int .i64 (G (P i) cc + byA G side lo hh (P i))) hg6 ho8'
            have hbk := hb3'.setCell (p := ⟨g6, P i * 12 + cc, none⟩) (Nat.le_trans Hwr.out hg6) (.int .i64 (G (P i) cc + byA G side lo hh (P i)))
            have Hst := hide (And.intro hst (And.intro h8k (And.intro hrk hbk)))
            clear hst h8k hrk hbk ho6' ho8' hrA' hb3' hmv hw4
            generalize w3.setCell ⟨g6, P i * 12 + cc, none⟩ (.int .i64 (G (P i) cc + byA G side lo hh (P i))) = w5 at *
            go_wp2_with fail
            go_roundw
            case rel => exact ⟨i + 1, by omega, by go_num, Hst.out.1, Hst.out.2.1, Hst.out.2.2.1, Hst.out.2.2.2⟩
            case measure => simp [intOf]; omega
        · have him2 : m = i := by omega
          subst him2
          have hal : alF G side lo hh P m = alS G side lo hh (fun k => (List.range m).any fun t => P t == k) := rfl
          rw [hal] at ho6
          obtain ⟨u0, u1⟩ := Hlh.out
          have hok := alS_ok (G := G) (n := n) (side := side) (lo := lo) (hi := hh) (sel := fun k => (List.range m).any fun t => P t == k) Ho.out hs0 hs5 Hpl.out u0 u1
          have hc6 := (own_cap ho6).1
          have hck := hide (check_ok A6 n c6 _ T wr hok (RdF.of_own ho6) hc6)
          have Hok := hide hok
          have Hown6 := hide ho6
          have hls := loA_spec G (side / 3) P m (by omega)
          have hhs := hiA_spec G (side / 3) P m (by omega)
          rw [← Hlo.out] at hls
          rw [← Hhi.out] at hhs
          have Hls := hide hls
          have Hhs := hide hhs
          have Hbb := hide hbl
          clear hal hok hls hhs ho6 ho8 hrA
          go_wp2_with fail
          refine hck.out.mono ?_
          rintro e w6 ⟨rfl, hb6⟩
          go_wp2_with fail
          go_ret2
          refine ⟨A6, c6, _, lo, hh, rfl, ownsRow_less (own_below Hown6.out hb6) Hwr.out, Hbb.out.trans (hb6.mono Hbb.out.size), Hok.out, Hsel.out, fun k hk hse => ?_, ?_, ?_⟩
          · rw [List.any_eq_true] at hse
            obtain ⟨t, ht, he⟩ := hse
            have he : P t = k := by simpa using he
            subst he
            exact ⟨Hls.out.1 t (List.mem_range.1 ht), Hhs.out.1 t (List.mem_range.1 ht)⟩
          · obtain ⟨t, ht, he⟩ := Hls.out.2
            exact ⟨P t, HPn.out t ht, List.any_eq_true.2 ⟨t, List.mem_range.2 ht, by simp⟩, he⟩
          · obtain ⟨t, ht, he⟩ := Hhs.out.2
            exact ⟨P t, HPn.out t ht, List.any_eq_true.2 ⟨t, List.mem_range.2 ht, by simp⟩, he⟩
end Go.Proofs.YtnmikhmbnpiadaaDoor.Shp
