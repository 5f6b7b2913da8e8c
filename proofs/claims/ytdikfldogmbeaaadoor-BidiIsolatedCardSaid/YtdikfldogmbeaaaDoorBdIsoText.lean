/- The texts of the law BidiIsolated: their classes. -/
import Derived.Test.YtdikfldogmbeaaaDoorBdIsoBase
import Derived.Test.YtdikfldogmbeaaaDoorBdLevels
import Derived.Test.YtdikfldogmbeaaaDoorConcat
namespace Go.Proofs.YtdikfldogmbeaaaDoor.Bd
open Go.RowKit Go.Frm Cha Cat

/-- characters without controls -/
def pcB (c : Int) : Bool := decide (clsOf c < 14) && (clsOf c != 10) && (clsOf c != 9)
def plainL (zs : List Int) : List Int := (tab (min zs.length 20) (chv zs)).filter pcB
theorem pcB_pc {c : Int} (h : pcB c = true) : Pc (clsOf c) := by
  have hb := clsOf_bd c
  unfold pcB at h
  simp at h
  exact ⟨hb.1, by omega, h.2, h.1.2⟩
theorem plainL_mem {zs : List Int} {c : Int} (h : c ∈ plainL zs) : Pc (clsOf c) ∧ 0 ≤ c ∧ c ≤ 1114111 := by
  unfold plainL at h
  rw [List.mem_filter] at h
  obtain ⟨h1, h2⟩ := h
  unfold tab at h1
  rw [List.mem_map] at h1
  obtain ⟨i, _, rfl⟩ := h1
  exact ⟨pcB_pc h2, chv_bd zs i⟩
theorem plainL_len (zs : List Int) : (plainL zs).length ≤ 20 := by
  unfold plainL
  refine Nat.le_trans (List.length_filter_le _ _) ?_
  rw [tab_length]
  omega
/-- a text of plain characters -/
def PcL (l : List Int) : Prop := ∀ c, c ∈ l → Pc (clsOf c) ∧ 0 ≤ c ∧ c ≤ 1114111
theorem cls_97 : clsOf 97 = 0 := by decide
theorem pcL_97 : PcL [97] := fun c hc => by
  obtain rfl : c = 97 := by simpa using hc
  exact ⟨by rw [cls_97]; unfold Pc; decide, by decide, by decide⟩
theorem PcL.append {a b : List Int} (ha : PcL a) (hb : PcL b) : PcL (a ++ b) := fun c hc => by
  rcases List.mem_append.1 hc with h | h
  · exact ha c h
  · exact hb c h
theorem pc_ne10 {c : Int} (h : Pc (clsOf c)) : c ≠ 10 := fun e => by
  subst e
  have e1 : clsOf 10 = 10 := by decide
  rw [e1] at h
  exact h.2.2.2 rfl
/-- what is in the isolate -/
def inL (zs : List Int) : List Int := [97] ++ (plainL zs ++ [97])
theorem inL_pc (zs : List Int) : PcL (inL zs) := pcL_97.append (PcL.append (fun c hc => plainL_mem hc) pcL_97)
theorem inL_len (zs : List Int) : 2 ≤ (inL zs).length ∧ (inL zs).length ≤ 22 := by
  have := plainL_len zs
  unfold inL
  simp
  omega
def isoTx (A : List Int) (o : Int) (I B : List Int) : List Int := A ++ ([o] ++ (I ++ ([8297] ++ B)))
section
variable {A I B : List Int} {o : Int}
theorem isoTx_len : (isoTx A o I B).length = A.length + 1 + I.length + 1 + B.length := by unfold isoTx; simp; omega
theorem tx_a {j : Nat} (hj : j < A.length) : ix (isoTx A o I B) j = ix A j := ix_append_left hj
theorem tx_o : ix (isoTx A o I B) A.length = o := by
  unfold isoTx
  rw [ix_append_right (Nat.le_refl _), Nat.sub_self]
  rfl
theorem tx_i {j : Nat} (hj : j < I.length) : ix (isoTx A o I B) (A.length + 1 + j) = ix I j := by
  unfold isoTx
  rw [ix_append_right (by omega), ix_append_right (by simp; omega), ix_append_left (by simp; omega)]
  congr 1
  simp
  omega
theorem tx_c : ix (isoTx A o I B) (A.length + 1 + I.length) = 8297 := by
  unfold isoTx
  rw [ix_append_right (by omega), ix_append_right (by simp; omega), ix_append_right (by simp; omega)]
  rw [show A.length + 1 + I.length - A.length - [o].length - I.length = 0 by simp; omega]
  rfl
theorem tx_b {j : Nat} (hj : j < B.length) : ix (isoTx A o I B) (A.length + 1 + I.length + 1 + j) = ix B j := by
  unfold isoTx
  rw [ix_append_right (by omega), ix_append_right (by simp; omega), ix_append_right (by simp; omega), ix_append_right (by simp; omega)]
  congr 1
  simp
  omega
theorem ix_mem {l : List Int} {j : Nat} (hj : j < l.length) : ix l j ∈ l := by rw [ix_eq hj]; exact List.getElem_mem hj
theorem tx_rest (j : Nat) (h : j < A.length + 1 + I.length + 1 + B.length) : j < A.length ∨ j = A.length ∨ (∃ u, u < I.length ∧ j = A.length + 1 + u) ∨ j = A.length + 1 + I.length ∨ ∃ u, u < B.length ∧ j = A.length + 1 + I.length + 1 + u := by
  by_cases h1 : j < A.length
  · exact .inl h1
  · by_cases h2 : j = A.length
    · exact .inr (.inl h2)
    · by_cases h3 : j < A.length + 1 + I.length
      · exact .inr (.inr (.inl ⟨j - (A.length + 1), by omega, by omega⟩))
      · by_cases h4 : j = A.length + 1 + I.length
        · exact .inr (.inr (.inr (.inl h4)))
        · exact .inr (.inr (.inr (.inr ⟨j - (A.length + 1 + I.length + 1), by omega, by omega⟩)))
variable (hA : PcL A) (hI : PcL I) (hB : PcL B) (ho : o = 8294 ∨ o = 8295)
include hA hI hB ho
theorem isoTx_iso (hm : 1 ≤ I.length) : IsoT (clsX (isoTx A o I B)) A.length I.length B.length := by
  refine ⟨?_, ?_, fun j hj h1 h2 => ?_, hm⟩
  · unfold clsX
    rw [tx_o]
    rcases ho with rfl | rfl
    · left; decide
    · right; decide
  · unfold clsX
    rw [tx_c]
    decide
  · unfold clsX
    rcases tx_rest (A := A) (I := I) (B := B) j hj with h | h | ⟨u, hu, rfl⟩ | h | ⟨u, hu, rfl⟩
    · rw [tx_a h]; exact (hA _ (ix_mem h)).1
    · exact absurd h h1
    · rw [tx_i hu]; exact (hI _ (ix_mem hu)).1
    · exact absurd h h2
    · rw [tx_b hu]; exact (hB _ (ix_mem hu)).1
theorem isoTx_chk (hn : (isoTx A o I B).length ≤ 100000) : chk (isoTx A o I B) = 0 := by
  have hall : ∀ j, j < (isoTx A o I B).length → 0 ≤ ix (isoTx A o I B) j ∧ ix (isoTx A o I B) j ≤ 1114111 ∧ ix (isoTx A o I B) j ≠ 10 := fun j hj => by
    rw [isoTx_len] at hj
    rcases tx_rest (A := A) (I := I) (B := B) j hj with h | rfl | ⟨u, hu, rfl⟩ | rfl | ⟨u, hu, rfl⟩
    · rw [tx_a h]; have := hA _ (ix_mem h); exact ⟨this.2.1, this.2.2, pc_ne10 this.1⟩
    · rw [tx_o]; rcases ho with rfl | rfl <;> decide
    · rw [tx_i hu]; have := hI _ (ix_mem hu); exact ⟨this.2.1, this.2.2, pc_ne10 this.1⟩
    · rw [tx_c]; decide
    · rw [tx_b hu]; have := hB _ (ix_mem hu); exact ⟨this.2.1, this.2.2, pc_ne10 this.1⟩
  unfold chk
  rw [if_neg (by omega)]
  have hr : ∀ r i, i + r = (isoTx A o I B).length → chkR (isoTx A o I B) r i = 0 := by
    intro r
    induction r with
    | zero => intro i _; rfl
    | succ r ih =>
      intro i e
      unfold chkR
      have h1 := hall i (by omega)
      rw [if_neg (by omega), if_neg (fun hh => (hall (i - 1) (by omega)).2.2 hh.2)]
      exact ih (i + 1) (by omega)
  exact hr _ _ (by omega)
/-- the levels around the isolate do not depend on what is in it -/
theorem tx_same {I' : List Int} (hI' : PcL I') (hm : 1 ≤ I.length) (hm' : 1 ≤ I'.length) (h0 : ix I 0 = 97) (h0' : ix I' 0 = 97) :
    baseOf (isoTx A o I B) (-1) = baseOf (isoTx A o I' B) (-1) ∧
    (∀ j, j < A.length + 1 → (lvP (isoTx A o I B) (baseOf (isoTx A o I B) (-1))).lev j = (lvP (isoTx A o I' B) (baseOf (isoTx A o I' B) (-1))).lev j) ∧
    ∀ t, t < B.length + 1 → (lvP (isoTx A o I B) (baseOf (isoTx A o I B) (-1))).lev (A.length + 1 + I.length + t) = (lvP (isoTx A o I' B) (baseOf (isoTx A o I' B) (-1))).lev (A.length + 1 + I'.length + t) := by
  have t1 := isoTx_iso hA hI hB ho hm
  have t2 := isoTx_iso hA hI' hB ho hm'
  have xA : ∀ j, j < A.length + 1 → ix (isoTx A o I B) j = ix (isoTx A o I' B) j := fun j hj => by
    by_cases h : j < A.length
    · rw [tx_a h, tx_a h]
    · obtain rfl : j = A.length := by omega
      rw [tx_o, tx_o]
  have xB : ∀ t, t < B.length + 1 → ix (isoTx A o I B) (A.length + 1 + I.length + t) = ix (isoTx A o I' B) (A.length + 1 + I'.length + t) := fun t ht => by
    cases t with
    | zero =>
      show ix (isoTx A o I B) (A.length + 1 + I.length) = ix (isoTx A o I' B) (A.length + 1 + I'.length)
      rw [tx_c, tx_c]
    | succ t => rw [show A.length + 1 + I.length + (t + 1) = A.length + 1 + I.length + 1 + t by omega, show A.length + 1 + I'.length + (t + 1) = A.length + 1 + I'.length + 1 + t by omega, tx_b (by omega), tx_b (by omega)]
  have cA : ∀ j, j < A.length + 1 → clsX (isoTx A o I B) j = clsX (isoTx A o I' B) j := fun j hj => by unfold clsX; rw [xA j hj]
  have cB : ∀ t, t < B.length + 1 → clsX (isoTx A o I B) (A.length + 1 + I.length + t) = clsX (isoTx A o I' B) (A.length + 1 + I'.length + t) := fun t ht => by unfold clsX; rw [xB t ht]
  have hb := iso_base t1 isoTx_len t2 isoTx_len cA cB
  have z1 : clsX (isoTx A o I B) (A.length + 1) = 0 := by
    unfold clsX
    rw [show A.length + 1 = A.length + 1 + 0 from rfl, tx_i (by omega), h0]
    decide
  have z2 : clsX (isoTx A o I' B) (A.length + 1) = 0 := by
    unfold clsX
    rw [show A.length + 1 = A.length + 1 + 0 from rfl, tx_i (by omega), h0']
    decide
  have e1 : ∀ zs : List Int, (lvP zs (baseOf zs (-1))).base = baseOf zs (-1) := fun zs => rfl
  have hs := iso_same (l := lvP (isoTx A o I B) (baseOf (isoTx A o I B) (-1))) (l' := lvP (isoTx A o I' B) (baseOf (isoTx A o I' B) (-1))) (p := A.length) (m := I.length) (m' := I'.length) (b := B.length) t1 isoTx_len (by rw [e1]; exact baseOf_01 (by decide)) t2 isoTx_len (by rw [e1, e1]; exact hb) cA cB xA xB z1 z2
  exact ⟨hb, hs⟩
end
theorem first_text : tab 5 (lvP [97, 8295, 1488, 8297, 98] (baseOf [97, 8295, 1488, 8297, 98] 0)).lev = [0, 0, 1, 0, 0] := by decide +kernel
theorem first_chk : chk [97, 8295, 1488, 8297, 98] = 0 := by decide +kernel
end Go.Proofs.YtdikfldogmbeaaaDoor.Bd
